/- Plain laws of the names of segments: their order, their numbers. -/
import Derived.Test.YthbfkjmpaifblaaWp1
namespace Go.Proofs.Ythbfkjmpaifblaa
open Go.RowKit

theorem bless_app (p a b : List UInt8) : Op.bytesLess (p ++ a) (p ++ b) = Op.bytesLess a b := by
  induction p with
  | nil => rfl
  | cons x p ih => simp [Op.bytesLess, ih]
theorem bless_snoc (x y : UInt8) : ∀ a b : List UInt8, a.length = b.length → Op.bytesLess (a ++ [x]) (b ++ [y]) = (Op.bytesLess a b || (decide (a = b) && decide (x < y)))
  | [], [], _ => by simp [Op.bytesLess]
  | [], _ :: _, h => by simp at h
  | _ :: _, [], h => by simp at h
  | c :: a, d :: b, h => by
    have ih := bless_snoc x y a b (by simpa using h)
    simp only [List.cons_append, Op.bytesLess, ih]
    by_cases hcd : c = d
    · subst hcd; simp
    · have : (c == d) = false := by simpa using hcd
      simp [this, hcd]
theorem bless_digs : ∀ k n m, n < 10 ^ k → m < 10 ^ k → Op.bytesLess (digs k n) (digs k m) = decide (n < m)
  | 0, n, m, hn, hm => by
    have h1 : n = 0 := by simpa using hn
    have h2 : m = 0 := by simpa using hm
    subst h1 h2; rfl
  | k + 1, n, m, hn, hm => by
    rw [Nat.pow_succ] at hn hm
    have ih := bless_digs k (n / 10) (m / 10) (by omega) (by omega)
    simp only [digs]
    rw [bless_snoc _ _ _ _ (by rw [digs_len, digs_len]), ih]
    have e1 : decide (digs k (n / 10) = digs k (m / 10)) = decide (n / 10 = m / 10) := by
      rw [decide_eq_decide]
      exact ⟨digs_inj k (by omega) (by omega), fun e => by rw [e]⟩
    have e2 : decide (UInt8.ofNat (48 + n % 10) < UInt8.ofNat (48 + m % 10)) = decide (n % 10 < m % 10) := by
      rw [decide_eq_decide, UInt8.lt_iff_toNat_lt, UInt8.toNat_ofNat', UInt8.toNat_ofNat']
      omega
    rw [e1, e2, Bool.eq_iff_iff]
    simp only [Bool.or_eq_true, Bool.and_eq_true, decide_eq_true_eq]
    omega
theorem segName_split (dir : ByteArray) (n : Nat) : (segName dir n).data.toList = (dir.data.toList ++ [47]) ++ digs 8 n := by rw [segName_list]; simp
theorem slt_seg (dir : ByteArray) {n m : Nat} (hn : n < 100000000) (hm : m < 100000000) : slt (segName dir n) (segName dir m) = decide (n < m) := by
  unfold slt
  rw [Lib.toList_data, Lib.toList_data, segName_split, segName_split, bless_app]
  exact bless_digs 8 n m (by omega) (by omega)
theorem dir_front (dir : ByteArray) (n : Nat) : Lib.hasPrefix (segName dir n).data.toList (dirOf dir).data.toList = true := by
  unfold Lib.hasPrefix
  rw [List.isPrefixOf_iff_prefix, segName_split, dirOf_list]
  exact List.prefix_append _ _
theorem segNum_name (dir : ByteArray) {n : Nat} (hn : n < 100000000) : segNum dir (segName dir n) = n := by
  unfold segNum
  rw [if_pos (dir_front dir n), segName_split, List.drop_append_of_le_length (by simp), List.drop_of_length_le (by simp), List.nil_append]
  unfold numTail
  rw [if_pos ⟨digs_len 8 n, digs_all 8 n⟩]
  exact numDigs_digs 8 n (by omega)
theorem segName_inj (dir : ByteArray) {n m : Nat} (hn : n < 100000000) (hm : m < 100000000) (h : segName dir n = segName dir m) : n = m := by
  rw [← segNum_name dir hn, ← segNum_name dir hm, h]
theorem name_of_num (dir name : ByteArray) (h : segNum dir name ≠ 0) : name = segName dir (segNum dir name) := by
  unfold segNum at h
  by_cases hp : Lib.hasPrefix name.data.toList (dirOf dir).data.toList = true
  · rw [if_pos hp] at h
    unfold numTail at h
    by_cases hd : (name.data.toList.drop (dir.data.toList.length + 1)).length = 8 ∧ (name.data.toList.drop (dir.data.toList.length + 1)).all isDig = true
    · rw [if_pos hd] at h
      have e : segNum dir name = numDigs (name.data.toList.drop (dir.data.toList.length + 1)) := by
        unfold segNum numTail
        rw [if_pos hp, if_pos hd]
      rw [e]
      unfold Lib.hasPrefix at hp
      rw [List.isPrefixOf_iff_prefix, dirOf_list] at hp
      obtain ⟨t, ht⟩ := hp
      have et : name.data.toList.drop (dir.data.toList.length + 1) = t := by
        rw [← ht, List.drop_append_of_le_length (by simp), List.drop_of_length_le (by simp), List.nil_append]
      rw [et] at hd ⊢
      have : name.data.toList = (segName dir (numDigs t)).data.toList := by
        rw [segName_split, ← ht]
        have := digs_numDigs t hd.2
        rw [hd.1] at this
        rw [this]
      obtain ⟨⟨l⟩⟩ := name
      unfold segName at this ⊢
      simp only at this
      rw [this, ← segName_list]
    · rw [if_neg hd] at h; exact absurd rfl h
  · rw [if_neg hp] at h; exact absurd rfl h
/-- A rising list of just the numbers from f on. -/
theorem sorted_range : ∀ (c f : Nat) (ns : List Nat), ns.Pairwise (· < ·) → (∀ n, n ∈ ns ↔ f ≤ n ∧ n < f + c) → ns = List.range' f c
  | 0, f, ns, _, h => by
    cases ns with
    | nil => rfl
    | cons a r => have := (h a).1 (by simp); omega
  | c + 1, f, ns, hp, h => by
    cases ns with
    | nil => have := (h f).2 ⟨Nat.le_refl _, by omega⟩; simp at this
    | cons a r =>
      rw [List.pairwise_cons] at hp
      have ha := (h a).1 (by simp)
      have hf := (h f).2 ⟨Nat.le_refl _, by omega⟩
      have ea : a = f := by
        rcases List.mem_cons.1 hf with e | e
        · exact e.symm
        · have := hp.1 f e; omega
      subst ea
      rw [List.range'_succ, sorted_range c (a + 1) r hp.2 fun n => ?_]
      constructor
      · intro hn
        have h1 := (h n).1 (by simp [hn])
        have h2 := hp.1 n hn
        omega
      · intro hn
        have h1 := (h n).2 (by omega)
        rcases List.mem_cons.1 h1 with e | e
        · omega
        · exact e
end Go.Proofs.Ythbfkjmpaifblaa
