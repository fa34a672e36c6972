/- All accounts' totals, plain. No program. -/
import Derived.Test.YtkbdofbjfcajbaaGreatE18
namespace Go.Proofs.YtkbdofbjfcajbaaGreat
open Go.RowKit

/-- The accounts. -/
abbrev accts (s : MSt) : List ByteArray := (cntL s.t.ino).map (·.1)
abbrev allE (a : ByteArray) (s : MSt) : List Ev := selE a 0 1099511627777 s.t.ino
section
variable {s : MSt} {k : Nat}
theorem all_eq (h : MOk s k) (a : ByteArray) : allE a s = s.vals.filter fun e => decide (e.acct = a) := by
  unfold allE selE
  refine List.filter_congr fun e he => ?_
  obtain ⟨x, hx, rfl⟩ := List.mem_map.1 he
  have hg := good_of (h.ok x hx).2
  unfold inE
  have h0 : decide (0 ≤ x.2.at_) = true := decide_eq_true hg.a0
  have h1 : decide (x.2.at_ < 1099511627777) = true := decide_eq_true (by have := hg.a1; omega)
  rw [h0, h1]
  simp only [Bool.and_self, Bool.and_true]
  by_cases e : x.2.acct = a
  · subst e; simp
  · rw [decide_eq_false e]
    exact beq_eq_false_iff_ne.2 (fun e2 => e (str_inj e2))
theorem acct_of (h : MOk s k) {a : ByteArray} (ha : a ∈ accts s) : validName a = true ∧ allE a s ≠ [] := by
  obtain ⟨x, hx, hk⟩ := tally_from (fun x : ByteArray × Ev => x.2.acct) upC ha
  replace hk : x.2.acct = a := hk
  refine ⟨by rw [← hk]; exact (good_of (h.ok x hx).2).acct, fun e => ?_⟩
  have : x.2 ∈ allE a s := by
    rw [all_eq h]
    exact List.mem_filter.2 ⟨List.mem_map.2 ⟨x, hx, rfl⟩, by simpa using hk⟩
  rw [e] at this
  cases this
theorem acct_within (h : MOk s k) {a : ByteArray} (ha : a ∈ accts s) : withinE a 0 1099511627777 = 0 := by
  unfold withinE
  rw [if_neg (by rw [(acct_of h ha).1]; simp), if_neg (by omega)]
theorem accts_nodup (s : MSt) : (accts s).Nodup := rise_nodup (Kv.tally_rise _ _ _)
theorem accts_mem {e : Ev} (he : e ∈ s.vals) : e.acct ∈ accts s := by
  obtain ⟨x, hx, rfl⟩ := List.mem_map.1 he
  exact tally_has (fun x : ByteArray × Ev => x.2.acct) upC hx
theorem accts_len (s : MSt) : (accts s).length ≤ s.t.size := by
  have h1 : (cntL s.t.ino).length ≤ s.t.ino.length := Kv.tally_len (fun x : ByteArray × Ev => x.2.acct) upC s.t.ino
  rw [Tr.ino_length] at h1
  show ((cntL s.t.ino).map (·.1)).length ≤ _
  rw [List.length_map]; exact h1
theorem all_len (h : MOk s k) : zs (fun a => ((allE a s).length : Int)) (accts s) = s.t.size := by
  have h1 := zs_parts (fun e : Ev => e.acct) (fun _ => (1 : Int)) (accts_nodup s) s.vals (fun e he => accts_mem he)
  rw [zs_one] at h1
  have h2 : (s.vals.length : Int) = s.t.size := by show ((s.t.ino.map (·.2)).length : Int) = _; rw [List.length_map, Tr.ino_length]
  rw [← h2, ← h1]
  exact zs_congr fun a _ => by rw [all_eq h, zs_one]
theorem all_qty (h : MOk s k) : zs (fun a => qsum (allE a s)) (accts s) = qsum s.vals := by
  have h1 := zs_parts (fun e : Ev => e.acct) (fun e => e.qty) (accts_nodup s) s.vals (fun e he => accts_mem he)
  rw [qsum_zs s.vals, ← h1]
  exact zs_congr fun a _ => by rw [all_eq h, qsum_zs]
theorem tot_some {L : List Ev} (h : L ≠ []) : totM L ≠ [] := by
  intro e
  cases L with
  | nil => exact h rfl
  | cons x l =>
    have := tally_has (fun e : Ev => e.mtr) upT (l := x :: l) (e := x) (by simp)
    rw [show Kv.tally (fun e : Ev => e.mtr) upT (x :: l) = [] from e] at this
    cases this
/-- As the law goes over the accounts: what the first i of them give. -/
def cntTo (s : MSt) (i : Nat) : Int := zs (fun a => ((allE a s).length : Int)) ((accts s).take i)
def qtyTo (s : MSt) (i : Nat) : Int := zs (fun a => qsum (allE a s)) ((accts s).take i)
theorem to_succ {i : Nat} {a : ByteArray} (ha : (accts s)[i]? = some a) : cntTo s (i + 1) = cntTo s i + (allE a s).length ∧ qtyTo s (i + 1) = qtyTo s i + qsum (allE a s) := by
  obtain ⟨hj, he⟩ := List.getElem?_eq_some_iff.1 ha
  unfold cntTo qtyTo
  rw [List.take_succ_eq_append_getElem hj, he, zs_append, zs_append]
  simp only [zs]
  omega
theorem to_end (h : MOk s k) : cntTo s (accts s).length = s.t.size ∧ qtyTo s (accts s).length = qsum s.vals := by
  unfold cntTo qtyTo
  rw [List.take_length]
  exact ⟨all_len h, all_qty h⟩
theorem zs_le {α : Type} {f : α → Int} (l : List α) (h : ∀ x ∈ l, 0 ≤ f x) (i : Nat) : 0 ≤ zs f (l.take i) ∧ zs f (l.take i) ≤ zs f l := by
  induction l generalizing i with
  | nil => simp [zs]
  | cons x l ih =>
    have h1 := h x (by simp)
    have h2 := ih (fun y hy => h y (by simp [hy]))
    cases i with
    | zero => have := (h2 l.length).1; rw [List.take_length] at this; simp only [List.take_zero, zs]; omega
    | succ i => have := h2 i; simp only [List.take_succ_cons, zs]; omega
theorem qsum_nonneg (h : MOk s k) (a : ByteArray) : 0 ≤ qsum (allE a s) ∧ ∀ e ∈ allE a s, 0 ≤ e.qty ∧ e.qty ≤ 1099511627776 := by
  have hb : ∀ e ∈ allE a s, 0 ≤ e.qty ∧ e.qty ≤ 1099511627776 := fun e he => by
    unfold allE selE at he
    obtain ⟨x, hx, rfl⟩ := List.mem_map.1 (List.mem_filter.1 he).1
    have := good_of (h.ok x hx).2
    exact ⟨this.q0, this.q1⟩
  exact ⟨(qsum_bound (Q := 1099511627776) _ hb).1, hb⟩
theorem vals_bound (h : MOk s k) : 0 ≤ qsum s.vals ∧ qsum s.vals ≤ s.t.size * 1099511627776 := by
  have := qsum_bound (Q := 1099511627776) s.vals (fun e he => by
    obtain ⟨x, hx, rfl⟩ := List.mem_map.1 he
    have := good_of (h.ok x hx).2
    exact ⟨this.q0, this.q1⟩)
  have h2 : (s.vals.length : Int) = s.t.size := by show ((s.t.ino.map (·.2)).length : Int) = _; rw [List.length_map, Tr.ino_length]
  rw [h2] at this
  exact this
theorem to_bound (h : MOk s k) (i : Nat) : 0 ≤ cntTo s i ∧ cntTo s i ≤ s.t.size ∧ 0 ≤ qtyTo s i ∧ qtyTo s i ≤ qsum s.vals := by
  have h1 := zs_le (f := fun a => ((allE a s).length : Int)) (accts s) (fun a _ => by omega) i
  have h2 := zs_le (f := fun a => qsum (allE a s)) (accts s) (fun a _ => (qsum_nonneg h a).1) i
  rw [all_len h] at h1
  rw [all_qty h] at h2
  exact ⟨h1.1, h1.2, h2.1, h2.2⟩
end
end Go.Proofs.YtkbdofbjfcajbaaGreat
