/- What the argument of the crashes gives. -/
import Derived.Test.YthbfkjmpaifblaaWz
namespace Go.Proofs.Ythbfkjmpaifblaa
open Go.ChangeShapes Go.WideShapes Go.ChangeAt Go.RowKit

theorem cellsCrash : Try.prog.cellsOf 60 = 2 := by kernel_rfl
section
variable {H : Type} {enc : TypeId × Value → H} {W : World} {base : Nat} {spare : Nat → Bool} {held : Bool}
set_option maxRecDepth 100000 in
theorem crash_open {n : Nat} {cs : List Value} {x : DataW H × List MemPlace} (h : DataW.trod enc Try.prog W base spare held n 60 cs = some x) :
    ∃ o : Int × Int, cs = [.int .i64 o.1, .int .i64 o.2] ∧ -9223372036854775808 ≤ o.1 ∧ o.1 ≤ 9223372036854775807 := by
  obtain ⟨xs, m, _, _, hl, hx, hf⟩ := DataW.trod_struct Try.underlying60 h
  have hl : cs.length = 2 := hl.trans cellsCrash
  have hx : xs.length = 2 := hx
  obtain ⟨c0, c1, rfl⟩ : ∃ c0 c1, cs = [c0, c1] := by
    match cs, hl with
    | [c0, c1], _ => exact ⟨_, _, rfl⟩
  obtain ⟨y0, y1, rfl⟩ : ∃ y0 y1, xs = [y0, y1] := by
    match xs, hx with
    | [c0, c1], _ => exact ⟨_, _, rfl⟩
  have g0 : DataW.trod enc Try.prog W base spare held m 3 (([c0, c1].drop 0).take (Try.prog.cellsOf 3)) = some y0 := hf 0 _ rfl
  rw [cellsInt] at g0
  have g1 : DataW.trod enc Try.prog W base spare held m 3 (([c0, c1].drop 1).take (Try.prog.cellsOf 3)) = some y1 := hf 1 _ rfl
  rw [cellsInt] at g1
  obtain ⟨k, e0, _, hw⟩ := DataW.trod_int Try.underlying3 (x := y0) g0
  obtain ⟨v, e1, _⟩ := DataW.trod_int Try.underlying3 (x := y1) g1
  injection e0 with e0 _
  injection e1 with e1 _
  subst e0 e1
  have hb := bounds_i64 hw
  exact ⟨(k, v), rfl, hb.1, hb.2⟩
set_option maxRecDepth 100000 in
theorem crashes_open {r : Reach} {b0 : Nat} {v : Value} {d : DataW H} {p : List MemPlace} (hv : Value.okWide Try.prog W r b0 58 v) (h : DataW.Trod enc Try.prog W base spare held 58 v d p) :
    ∃ cs : List (Int × Int), CrAt W v cs ∧ cs.length ≤ 9223372036854775807 := by
  obtain ⟨a0, l0, c0, rfl⟩ := okWide_slice Try.underlying58 hv
  obtain ⟨fuel, hf⟩ := h
  rcases Go.Deep.open_slice Try.underlying58 hf with ⟨hcs, _⟩ | ⟨a, len, cap, m, n, D, Pl, hcs, _, hl, hm, hmm, _, hi⟩
  · have hcs : [Value.slice a0 l0 c0] = [Value.slice none 0 0] := hcs
    injection hcs with e _
    injection e with e1 e2 e3
    subst e1 e2 e3
    exact ⟨[], ⟨none, 0, rfl, fun j x hx => by simp at hx⟩, Nat.zero_le _⟩
  · have hcs : [Value.slice a0 l0 c0] = [Value.slice (some a) len cap] := hcs
    injection hcs with e _
    injection e with e1 e2 e3
    subst e1 e2 e3
    have hlm : l0 ≤ m := by rw [hmm]; split <;> omega
    have cell : ∀ i, i < l0 → ∃ o : Int × Int, (-9223372036854775808 ≤ o.1 ∧ o.1 ≤ 9223372036854775807) ∧ W.cell? ((a.add (i * 2)).add 0) = some (.int .i64 o.1) ∧ W.cell? ((a.add (i * 2)).add 1) = some (.int .i64 o.2) := by
      intro i hil
      obtain ⟨cs', hc, ht⟩ := hi i (by omega)
      rw [cellsCrash] at hc
      obtain ⟨o, rfl, z1, z2⟩ := crash_open ht
      obtain ⟨_, _, hat⟩ := World.cells?_some hc
      exact ⟨o, ⟨z1, z2⟩, hat 0 (by omega), hat 1 (by omega)⟩
    obtain ⟨f, hf'⟩ := Go.Deep.choose_lt cell
    refine ⟨(List.range l0).map f, ⟨some a, c0, by rw [List.length_map, List.length_range], fun j x hx => ?_⟩, by rw [List.length_map, List.length_range]; unfold maxLen at hm; omega⟩
    have hj : j < l0 := by
      have := (List.getElem?_eq_some_iff.1 hx).1
      rwa [List.length_map, List.length_range] at this
    have ex : x = f j := by
      rw [List.getElem?_map, List.getElem?_range hj] at hx
      exact (Option.some.inj hx).symm
    subst ex
    obtain ⟨_, z0, _⟩ := hf' 0 (by omega)
    have sp : a.spot = none := spot_of_cell z0
    obtain ⟨z, k0, k1⟩ := hf' j hj
    have e : ∀ u, (a.add (j * 2)).add u = ⟨a.block, a.off + j * 2 + u, none⟩ := fun u => by
      rw [add_plain sp (j * 2)]
      exact add_plain rfl u
    rw [e] at k0 k1
    refine ⟨a.block, a.off, ?_, k0, k1, z⟩
    have := add_plain sp 0
    rw [show a.add 0 = a from rfl] at this
    rw [this]
end
end Go.Proofs.Ythbfkjmpaifblaa
