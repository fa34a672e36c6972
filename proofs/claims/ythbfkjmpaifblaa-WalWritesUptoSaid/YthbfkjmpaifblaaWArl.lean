/- What the arguments of the log's statements give: lists of records, and their bulk. -/
import Derived.Test.YthbfkjmpaifblaaWArg
namespace Go.Proofs.Ythbfkjmpaifblaa
open Go.ChangeShapes Go.WideShapes Go.ChangeAt Go.RowKit

/-- A list of records, as an argument. -/
structure ListsAt (W : World) (v : Value) (l : List (List UInt8)) (N : Nat) : Prop where
  ex : ∃ ss, RdAt slKind W v ss ∧ Reads W ss l ∧ ∀ s ∈ ss, s.len ≤ s.cap ∧ s.cap ≤ 9223372036854775807
  bulk : (l.map List.length).sum ≤ N
  few : l.length ≤ 9223372036854775807
theorem ListsAt.rd {W : World} {v : Value} {l : List (List UInt8)} {N : Nat} (h : ListsAt W v l N) : LrAt W v l := by
  obtain ⟨ss, h1, h2, _⟩ := h.ex
  exact ⟨ss, h1, h2⟩
theorem ListsAt.mono {W : World} {v : Value} {l : List (List UInt8)} {N M : Nat} (h : ListsAt W v l N) (hm : N ≤ M) : ListsAt W v l M := ⟨h.ex, Nat.le_trans h.bulk hm, h.few⟩
theorem ListsAt.below {W W' : World} {v : Value} {l : List (List UInt8)} {N : Nat} (h : ListsAt W v l N) (hb : Below W.heap.size W W') : ListsAt W' v l N := by
  obtain ⟨ss, h1, h2, h3⟩ := h.ex
  exact ⟨⟨ss, h1.below hb, h2.below hb, h3⟩, h.bulk, h.few⟩
theorem sum_mem : ∀ {l : List (List UInt8)} {r : List UInt8}, r ∈ l → r.length ≤ (l.map List.length).sum
  | x :: l, r, h => by
    simp only [List.map_cons, List.sum_cons]
    rcases List.mem_cons.1 h with e | e
    · subst e; omega
    · have := sum_mem e; omega
/-- A record at a place. -/
theorem ListsAt.at_ {W : World} {v : Value} {l : List (List UInt8)} {N : Nat} (h : ListsAt W v l N) {j : Nat} {r : List UInt8} (hj : l[j]? = some r) :
    ∃ g off cap a c, v = .slice (some ⟨g, off, none⟩) l.length cap ∧ W.cell? ⟨g, off + j, none⟩ = some (.slice a r.length c) ∧ RdAt byteKind W (.slice a r.length c) r ∧ r.length ≤ c ∧ c ≤ 9223372036854775807 ∧ r.length ≤ N := by
  obtain ⟨ss, ⟨a0, cap, rfl, hr⟩, h2, h3⟩ := h.ex
  obtain ⟨s, hs⟩ : ∃ s, ss[j]? = some s := ⟨_, List.getElem?_eq_getElem (by rw [h2.1]; exact (List.getElem?_eq_some_iff.1 hj).1)⟩
  obtain ⟨g, off, rfl, hc⟩ := hr j s hs
  have hrd := h2.2 j s r hs hj
  obtain ⟨a, c, e, _⟩ := id hrd
  have h4 := h3 s (List.mem_of_getElem? hs)
  have := hc 0 (by decide)
  have e1 : off + j * slKind.size + 0 = off + j := by show off + j * 1 + 0 = _; omega
  rw [e1] at this
  injection e with e2 e3 e4
  refine ⟨g, off, cap, a, c, by rw [h2.1], ?_, ?_, by omega, by omega, Nat.le_trans (sum_mem (List.mem_of_getElem? hj)) h.bulk⟩
  · rw [← e3, ← e4, ← e2]; simpa [slKind] using this
  · rw [← e3, ← e4, ← e2]; exact hrd
instance : Inhabited SlV := ⟨⟨none, 0, 0⟩⟩
section
variable {H : Type} {enc : TypeId × Value → H} {W : World} {base : Nat} {spare : Nat → Bool} {held : Bool}
theorem bulk_pos (d : DataW H) : 1 ≤ Rows.uptoBulk d := by
  cases d with
  | lit l => cases l <;> simp [Rows.uptoBulk]
  | nil => simp [Rows.uptoBulk]
  | ptr d => simp [Rows.uptoBulk]
  | slice a b => simp [Rows.uptoBulk]
  | agg a => simp [Rows.uptoBulk]
  | iface a b => simp [Rows.uptoBulk]
  | map a => simp [Rows.uptoBulk]
  | held a => simp [Rows.uptoBulk]
theorem bulk_len : ∀ l : List (DataW H), l.length ≤ Rows.uptoBulkAll l
  | [] => by simp [Rows.uptoBulkAll]
  | d :: l => by
    have := bulk_pos d
    have := bulk_len l
    simp only [Rows.uptoBulkAll, List.length_cons]
    omega
theorem bulk_mem {d : DataW H} : ∀ {l : List (DataW H)}, d ∈ l → Rows.uptoBulk d ≤ Rows.uptoBulkAll l
  | x :: l, h => by
    simp only [Rows.uptoBulkAll]
    rcases List.mem_cons.1 h with e | e
    · subst e; omega
    · have := bulk_mem e; omega
/-- A slice of bytes is no longer than its bulk. -/
theorem bytes_bulk {n : Nat} {a : Option Addr} {len cap : Nat} {x : DataW H × List MemPlace} (h : DataW.trod enc Try.prog W base spare held n 22 [.slice a len cap] = some x) : len ≤ Rows.uptoBulk x.1 := by
  rcases open_ints Try.underlying22 Try.underlying5 cellsU8 h with ⟨hcs, _⟩ | ⟨a', len', cap', zs, hcs, _, hlc, hcm, hzl, hx, hc, hw⟩
  · injection hcs with e _
    injection e with _ e2 _
    omega
  · injection hcs with e _
    injection e with _ e2 _
    subst e2
    rw [hx]
    have := bulk_len (H := H) (lits .u8 (zs.take len))
    have hl : (lits (H := H) .u8 (zs.take len)).length = (zs.take len).length := by simp [lits]
    rw [hl, List.length_take] at this
    have hle : len ≤ zs.length := by rw [hzl]; split <;> omega
    show len ≤ Rows.uptoBulk (.slice (lits .u8 (zs.take len)) (lits .u8 (zs.drop len)))
    simp only [Rows.uptoBulk]
    omega
theorem sum_bulk (g : Nat → List UInt8) (D : Nat → DataW H) : ∀ is : List Nat, (∀ i ∈ is, (g i).length ≤ Rows.uptoBulk (D i)) → ((is.map g).map List.length).sum ≤ Rows.uptoBulkAll (is.map D)
  | [], _ => by simp
  | i :: r, h => by
    have h1 := h i (by simp)
    have h2 := sum_bulk g D r fun j hj => h j (by simp [hj])
    simp only [List.map_cons, List.sum_cons, Rows.uptoBulkAll]
    omega
set_option maxRecDepth 100000 in
theorem lists_open {r : Reach} {b0 : Nat} {v : Value} {d : DataW H} {p : List MemPlace} (hv : Value.okWide Try.prog W r b0 25 v) (h : DataW.Trod enc Try.prog W base spare held 25 v d p) :
    ∃ l : List (List UInt8), ListsAt W v l (Rows.uptoBulk d) := by
  obtain ⟨a0, l0, c0, rfl⟩ := okWide_slice Try.underlying25 hv
  obtain ⟨fuel, hf⟩ := h
  rcases Go.Deep.open_slice1 Try.underlying25 cellsBytes hf with ⟨hcs, _⟩ | ⟨a, len, cap, m, n, V, D, Pl, hcs, _, hl, hm, hmm, hx, hi⟩
  · have hcs : [Value.slice a0 l0 c0] = [Value.slice none 0 0] := hcs
    injection hcs with e _
    injection e with e1 e2 e3
    subst e1 e2 e3
    exact ⟨[], ⟨[], ⟨none, 0, rfl, fun j x hx => by simp at hx⟩, ⟨rfl, fun j s r hs => by simp at hs⟩, fun s hs => by simp at hs⟩, by simp, by simp⟩
  · have hcs : [Value.slice a0 l0 c0] = [Value.slice (some a) len cap] := hcs
    injection hcs with e _
    injection e with e1 e2 e3
    subst e1 e2 e3
    have hlm : l0 ≤ m := by rw [hmm]; split <;> omega
    have cell : ∀ i, i < l0 → ∃ x : SlV × List UInt8, W.cell? (a.add i) = some x.1.val ∧ x.1.len = x.2.length ∧ RdAt byteKind W x.1.val x.2 ∧ (x.1.len ≤ x.1.cap ∧ x.1.cap ≤ 9223372036854775807) ∧ x.2.length ≤ Rows.uptoBulk (D i) := by
      intro i hil
      obtain ⟨hc, ht⟩ := hi i (by omega)
      obtain ⟨ba, bc, ys, e, hr, h1, h2⟩ := bytes_openc ht
      injection e with e _
      rw [e] at ht hc
      exact ⟨(⟨ba, ys.length, bc⟩, ys), hc, rfl, hr, ⟨h1, h2⟩, bytes_bulk ht⟩
    obtain ⟨f, hf'⟩ := Go.Deep.choose_lt cell
    have hlen : ((List.range l0).map fun i => (f i).1).length = l0 := by rw [List.length_map, List.length_range]
    have at1 : ∀ {α : Type} (g : Nat → α) (j : Nat) (x : α), ((List.range l0).map g)[j]? = some x → j < l0 ∧ x = g j := by
      intro α g j x hx
      have hj : j < l0 := by
        have := (List.getElem?_eq_some_iff.1 hx).1
        rwa [List.length_map, List.length_range] at this
      rw [List.getElem?_map, List.getElem?_range hj] at hx
      exact ⟨hj, (Option.some.inj hx).symm⟩
    refine ⟨(List.range l0).map fun i => (f i).2, ⟨(List.range l0).map fun i => (f i).1, ⟨some a, c0, by rw [hlen], fun j x hx => ?_⟩, ⟨by simp, fun j s r hs hr => ?_⟩, fun s hs => ?_⟩, ?_, ?_⟩
    · obtain ⟨hj, rfl⟩ := at1 _ _ _ hx
      have sp : a.spot = none := spot_of_cell (hf' 0 (by omega)).1
      have z := (hf' j hj).1
      rw [add_plain sp] at z
      refine ⟨a.block, a.off, by have := add_plain sp 0; rw [show a.add 0 = a from rfl] at this; rw [this], fun i hi => ?_⟩
      have hi0 : i = 0 := by have : i < 1 := hi; omega
      subst hi0
      show W.cell? ⟨a.block, a.off + j * 1 + 0, none⟩ = some _
      rw [Nat.mul_one, Nat.add_zero]
      exact z
    · obtain ⟨hj, rfl⟩ := at1 _ _ _ hs
      obtain ⟨_, rfl⟩ := at1 _ _ _ hr
      exact (hf' j hj).2.2.1
    · obtain ⟨j, hjs⟩ := List.getElem?_of_mem hs
      obtain ⟨hj2, e⟩ := at1 _ _ _ hjs
      rw [e]
      exact (hf' j hj2).2.2.2.1
    · have hd : d = .slice ((List.range l0).map D) ((List.range (m - l0)).map fun i => D (l0 + i)) := congrArg (·.1) hx
      have := sum_bulk (fun i => (f i).2) D (List.range l0) fun i hi => (hf' i (List.mem_range.1 hi)).2.2.2.2
      rw [hd]
      simp only [Rows.uptoBulk]
      omega
    · rw [List.length_map, List.length_range]
      unfold maxLen at hm
      omega
end
end Go.Proofs.Ythbfkjmpaifblaa
