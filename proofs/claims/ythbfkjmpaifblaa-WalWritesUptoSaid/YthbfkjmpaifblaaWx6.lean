/- Plain laws of a log: the names of its segments are names; records in frames; a crash. -/
import Derived.Test.YthbfkjmpaifblaaWx5
namespace Go.Proofs.Ythbfkjmpaifblaa
open Go.RowKit

theorem dec_ascii (s : ByteArray) (i : Nat) (h : (s.get! i).toNat < 128) : Utf8.decode s i = ((s.get! i).toNat, 1) := by
  unfold Utf8.decode
  simp only [Nat.add_zero]
  rw [if_pos h]
theorem odd_high {r : Nat} (h : 128 ≤ r) : oddR r = true := by
  unfold oddR
  have a1 : decide (r < 97) = false := decide_eq_false (by omega)
  have a2 : decide (122 < r) = true := decide_eq_true (by omega)
  have a3 : decide (57 < r) = true := decide_eq_true (by omega)
  have a4 : (r != 45) = true := bne_iff_ne.2 (by omega)
  have a5 : (r != 46) = true := bne_iff_ne.2 (by omega)
  have a6 : (r != 47) = true := bne_iff_ne.2 (by omega)
  rw [a1, a2, a3, a4, a5, a6]
  simp
theorem idx_none (s : ByteArray) : ∀ f pos, (∀ i, pos ≤ i → i < s.size → oddR (s.get! i).toNat = false) → Lib.idxFuncFrom oddR true s f pos = -1
  | 0, _, _ => rfl
  | f + 1, pos, h => by
    unfold Lib.idxFuncFrom
    by_cases hp : pos < s.size
    · rw [if_pos hp]
      have h1 := h pos (Nat.le_refl _) hp
      have h2 : (s.get! pos).toNat < 128 := by
        rcases Nat.lt_or_ge (s.get! pos).toNat 128 with h2 | h2
        · exact h2
        · rw [odd_high h2] at h1; cases h1
      rw [dec_ascii s pos h2, h1, if_neg (by simp)]
      exact idx_none s f (pos + 1) fun i hi hl => h i (by omega) hl
    · rw [if_neg hp]
theorem okName_all (n : ByteArray) (h0 : n.size ≠ 0) (h1 : n.size ≤ 100) (h2 : n.get! 0 ≠ 47) (h3 : n.get! (n.size - 1) ≠ 47) (h : ∀ i, i < n.size → oddR (n.get! i).toNat = false) : okName n = true := by
  unfold okName Lib.idxFunc
  rw [idx_none n n.size 0 (fun i _ hi => h i hi)]
  simp [h0, h1, h2, h3]
theorem get_list (n : ByteArray) {i : Nat} (hi : i < n.size) : n.data.toList[i]? = some (n.get! i) := by
  have hi : i < n.data.size := hi
  have h1 : n.get! i = n.data[i] := getElem!_pos n.data i hi
  rw [h1]
  simp
/-- May a directory's segments have names? -/
structure DirOk (dir : ByteArray) : Prop where
  small : dir.size ≤ 90
  some_ : 0 < dir.size
  front : dir.get! 0 ≠ 47
  all : ∀ x ∈ dir.data.toList, oddR x.toNat = false
theorem okName_seg {dir : ByteArray} (h : DirOk dir) (n : Nat) : okName (segName dir n) = true := by
  have hsz : (segName dir n).size = dir.size + 9 := by
    show (segName dir n).data.toList.length = dir.data.toList.length + 9
    rw [segName_list]
    simp [digs_len]
  have hdig : ∀ x ∈ digs 8 n, 48 ≤ x.toNat ∧ x.toNat ≤ 57 := fun x hx => by
    have := List.all_eq_true.1 (digs_all 8 n) x hx
    unfold isDig at this
    simpa using this
  have hall : ∀ x ∈ (segName dir n).data.toList, oddR x.toNat = false := fun x hx => by
    rw [segName_list] at hx
    rcases List.mem_append.1 hx with e | e
    · exact h.all x e
    · rcases List.mem_cons.1 e with e | e
      · subst e; decide
      · have := hdig x e
        unfold oddR
        have a3 : decide (x.toNat < 48) = false := decide_eq_false (by omega)
        have a4 : decide (57 < x.toNat) = false := decide_eq_false (by omega)
        rw [a3, a4]; simp
  have hd8 : (digs 8 n).length = 8 := digs_len 8 n
  refine okName_all _ (by omega) (by have := h.small; omega) ?_ ?_ (fun i hi => hall _ (List.mem_of_getElem? (get_list _ hi)))
  · have h1 := get_list (segName dir n) (i := 0) (by omega)
    have h2 := get_list dir h.some_
    rw [segName_list, List.getElem?_append_left (by have := h.some_; exact this), h2] at h1
    rw [← Option.some.inj h1]
    exact h.front
  · have h1 := get_list (segName dir n) (i := (segName dir n).size - 1) (by omega)
    intro e
    rw [e, segName_list, hsz] at h1
    have e9 : dir.size + 9 - 1 = dir.data.toList.length + (7 + 1) := by show dir.size + 9 - 1 = dir.size + 8; omega
    rw [e9, List.getElem?_append_right (by omega), show dir.data.toList.length + (7 + 1) - dir.data.toList.length = 7 + 1 by omega, List.getElem?_cons_succ] at h1
    have := hdig _ (List.mem_of_getElem? h1)
    have e47 : (47 : UInt8).toNat = 47 := rfl
    omega
/-- The segments hold just these records, in frames. -/
def Holds (segs : List (List UInt8)) (want : List (List UInt8)) : Prop :=
  ∃ rss : List (List (List UInt8)), segs = rss.map (fun rs => rs.flatMap frameOf) ∧ rss.flatten = want ∧ ∀ p ∈ want, p.length ≤ 1048576
section
variable {F G : FsS} {L L' : LogS} {segs pre want : List (List UInt8)} {b p : List UInt8}
theorem scan_of_frames {rs : List (List UInt8)} (h : ∀ p ∈ rs, p.length ≤ 1048576) : scanOf (rs.flatMap frameOf) = rs := by
  have := scan_frames rs [] h
  rw [List.append_nil] at this
  rw [this, scanOf_none (by unfold headOf; simp)]
  simp
theorem Holds.empty : Holds [[]] [] := ⟨[[]], rfl, rfl, fun p hp => by simp at hp⟩
theorem Holds.new (h : Holds segs want) : Holds (segs ++ [[]]) want := by
  obtain ⟨rss, h1, h2, h3⟩ := h
  exact ⟨rss ++ [[]], by simp [h1], by simp [h2], h3⟩
theorem Holds.fresh (h : Holds segs want) (hp : p.length ≤ 1048576) : Holds (segs ++ [frameOf p]) (want ++ [p]) := by
  obtain ⟨rss, h1, h2, h3⟩ := h
  refine ⟨rss ++ [[p]], by simp [h1], by simp [h2], fun q hq => ?_⟩
  rcases List.mem_append.1 hq with e | e
  · exact h3 q e
  · rw [List.mem_singleton.1 e]; exact hp
theorem Holds.split (h : Holds (pre ++ [b]) want) : ∃ (rss : List (List (List UInt8))) (rs : List (List UInt8)), pre = rss.map (fun rs => rs.flatMap frameOf) ∧ b = rs.flatMap frameOf ∧ rss.flatten ++ rs = want ∧ ∀ p ∈ want, p.length ≤ 1048576 := by
  obtain ⟨rss, h1, h2, h3⟩ := h
  have hne : rss ≠ [] := by rintro rfl; simp at h1
  have e := List.dropLast_concat_getLast hne
  rw [← e, List.map_append] at h1
  have h4 := List.append_inj' h1 (by simp)
  refine ⟨rss.dropLast, rss.getLast hne, h4.1, by simpa using h4.2, ?_, h3⟩
  conv at h2 => lhs; rw [← e]
  simpa using h2
theorem Holds.next (h : Holds (pre ++ [b]) want) (hp : p.length ≤ 1048576) : Holds (pre ++ [b ++ frameOf p]) (want ++ [p]) := by
  obtain ⟨rss, rs, h1, h2, h3, h4⟩ := h.split
  refine ⟨rss ++ [rs ++ [p]], by simp [h1, h2], by simp [← h3], fun q hq => ?_⟩
  rcases List.mem_append.1 hq with e | e
  · exact h4 q e
  · rw [List.mem_singleton.1 e]; exact hp
theorem Holds.whole (h : Holds segs want) : (∀ d ∈ segs.map fl, Whole_ d) ∧ recsOf (segs.map fl) = want := by
  obtain ⟨rss, rfl, h2, h3⟩ := h
  have hs : ∀ rs ∈ rss, ∀ p ∈ rs, p.length ≤ 1048576 := fun rs hr p hp => h3 p (by rw [← h2]; exact List.mem_flatten.2 ⟨rs, hr, hp⟩)
  constructor
  · intro d hd
    rw [List.map_map] at hd
    obtain ⟨rs, hr, rfl⟩ := List.mem_map.1 hd
    show endOf (scanOf (rs.flatMap frameOf)) = (rs.flatMap frameOf).length
    rw [scan_of_frames (hs rs hr), endOf_frames]
  · rw [← h2]
    clear h2 h3
    induction rss with
    | nil => rfl
    | cons rs r ih =>
      simp only [recsOf, List.map_cons, List.flatMap_cons, List.flatten_cons] at ih ⊢
      rw [scan_of_frames (hs rs (by simp)), ih fun q hq => hs q (by simp [hq])]
/-- A front of a record's frame has no record, but the whole has. -/
theorem scan_front (hp : p.length ≤ 1048576) (k : Nat) : scanOf ((frameOf p).take k) = if k < 8 + p.length then [] else [p] := by
  split
  · rename_i hk
    exact scanOf_none (headOf_torn hp hk)
  · rename_i hk
    rw [List.take_of_length_le (by rw [frameOf_len]; omega)]
    have := scan_of_frames (rs := [p]) (fun q hq => by rw [List.mem_singleton.1 hq]; exact hp)
    simpa using this
end
end Go.Proofs.Ythbfkjmpaifblaa
