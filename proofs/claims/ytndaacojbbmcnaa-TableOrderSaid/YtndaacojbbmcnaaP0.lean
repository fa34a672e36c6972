/- What an argument that is a slice of operations gives: the list of its operations. -/
import Derived.Test.YtndaacojbbmcnaaL1
import Derived.Test.YtndaacojbbmcnaaRows
import Derived.ProofKit
import Derived.OpenShut
import Derived.JoinedCond
import Derived.Deep.Slices
import Derived.Deep.Fields
import Derived.ChangeSame
namespace Go.Proofs.Ytndaacojbbmcnaa
open Go.ChangeShapes Go.WideShapes Go.ChangeAt Go.RowKit

theorem Try.own : ownKnob Try.prog.godebug = none := by kernel_rfl
theorem Try.laidOut : laidOutB Try.prog = true := by kernel_rfl
theorem cells30 : Try.prog.cellsOf 30 = 4 := by kernel_rfl
theorem cells3 : Try.prog.cellsOf 3 = 1 := by kernel_rfl
theorem cells9 : Try.prog.cellsOf 9 = 1 := by kernel_rfl

instance : Inhabited TOp := ⟨⟨0, 0, .empty, .empty⟩⟩
section
variable {H : Type} {enc : TypeId × Value → H} {W : World} {base : Nat} {spare : Nat → Bool} {held : Bool}
set_option maxRecDepth 100000 in
/-- One operation's four cells. -/
theorem op_open {n : Nat} {cs : List Value} {x : DataW H × List MemPlace} (h : DataW.trod enc Try.prog W base spare held n 30 cs = some x) :
    ∃ o : TOp, cs = [.int .i64 o.kind, .int .i64 o.v, .string o.key, .string o.top] ∧ o.key.size ≤ maxLen ∧ o.top.size ≤ maxLen := by
  obtain ⟨xs, m, _, _, hl, hx, hf⟩ := DataW.trod_struct Try.underlying30 h
  have hl : cs.length = 4 := hl.trans cells30
  have hx : xs.length = 4 := hx
  obtain ⟨c0, c1, c2, c3, rfl⟩ : ∃ c0 c1 c2 c3, cs = [c0, c1, c2, c3] := by
    match cs, hl with
    | [c0, c1, c2, c3], _ => exact ⟨_, _, _, _, rfl⟩
  obtain ⟨y0, y1, y2, y3, rfl⟩ : ∃ y0 y1 y2 y3, xs = [y0, y1, y2, y3] := by
    match xs, hx with
    | [c0, c1, c2, c3], _ => exact ⟨_, _, _, _, rfl⟩
  have g0 : DataW.trod enc Try.prog W base spare held m 3 (([c0, c1, c2, c3].drop 0).take (Try.prog.cellsOf 3)) = some y0 := hf 0 _ rfl
  rw [cells3] at g0
  have g1 : DataW.trod enc Try.prog W base spare held m 3 (([c0, c1, c2, c3].drop 1).take (Try.prog.cellsOf 3)) = some y1 := hf 1 _ rfl
  rw [cells3] at g1
  have g2 : DataW.trod enc Try.prog W base spare held m 9 (([c0, c1, c2, c3].drop 2).take (Try.prog.cellsOf 9)) = some y2 := hf 2 _ rfl
  rw [cells9] at g2
  have g3 : DataW.trod enc Try.prog W base spare held m 9 (([c0, c1, c2, c3].drop 3).take (Try.prog.cellsOf 9)) = some y3 := hf 3 _ rfl
  rw [cells9] at g3
  obtain ⟨k, e0, _⟩ := DataW.trod_int Try.underlying3 (x := y0) g0
  obtain ⟨v, e1, _⟩ := DataW.trod_int Try.underlying3 (x := y1) g1
  obtain ⟨s, e2, _, z2⟩ := DataW.trod_string Try.underlying9 (x := y2) g2
  obtain ⟨t, e3, _, z3⟩ := DataW.trod_string Try.underlying9 (x := y3) g3
  injection e0 with e0 _
  injection e1 with e1 _
  injection e2 with e2 _
  injection e3 with e3 _
  subst e0 e1 e2 e3
  exact ⟨⟨k, v, s, t⟩, rfl, z2, z3⟩
theorem spot_of_cell {a : Addr} {v : Value} (h : W.cell? a = some v) : a.spot = none := by
  unfold World.cell? at h
  split at h
  · split at h
    · simp at h
    · rename_i hn; cases hs : a.spot with
      | none => rfl
      | some k => rw [hs] at hn; simp at hn
  · simp at h
theorem add_plain {a : Addr} (h : a.spot = none) (n : Nat) : a.add n = ⟨a.block, a.off + n, none⟩ := by
  obtain ⟨b, o, sp⟩ := a
  have : sp = none := h
  subst this
  unfold Addr.add
  split
  · rename_i h0; subst h0; rfl
  · rfl
set_option maxRecDepth 100000 in
theorem ops_open {r : Reach} {b0 : Nat} {v : Value} {d : DataW H} {p : List MemPlace} (hv : Value.okWide Try.prog W r b0 22 v) (h : DataW.Trod enc Try.prog W base spare held 22 v d p) :
    ∃ xs : List TOp, OpsAt W v xs ∧ xs.length ≤ maxLen ∧ ∀ x ∈ xs, x.key.size ≤ maxLen ∧ x.top.size ≤ maxLen := by
  obtain ⟨a0, l0, c0, rfl⟩ := okWide_slice Try.underlying22 hv
  obtain ⟨fuel, hf⟩ := h
  rcases Go.Deep.open_slice Try.underlying22 hf with ⟨hcs, _⟩ | ⟨a, len, cap, m, n, D, Pl, hcs, _, hl, hm, hmm, _, hi⟩
  · have hcs : [Value.slice a0 l0 c0] = [Value.slice none 0 0] := hcs
    injection hcs with e _
    injection e with e1 e2 e3
    subst e1 e2 e3
    exact ⟨[], ⟨none, 0, rfl, fun j x hx => by simp at hx⟩, Nat.zero_le _, fun x hx => by simp at hx⟩
  · have hcs : [Value.slice a0 l0 c0] = [Value.slice (some a) len cap] := hcs
    injection hcs with e _
    injection e with e1 e2 e3
    subst e1 e2 e3
    have hlm : l0 ≤ m := by rw [hmm]; split <;> omega
    have cell : ∀ i, i < l0 → ∃ o : TOp, (o.key.size ≤ maxLen ∧ o.top.size ≤ maxLen) ∧
        W.cell? ((a.add (i * 4)).add 0) = some (.int .i64 o.kind) ∧ W.cell? ((a.add (i * 4)).add 1) = some (.int .i64 o.v) ∧ W.cell? ((a.add (i * 4)).add 2) = some (.string o.key) ∧ W.cell? ((a.add (i * 4)).add 3) = some (.string o.top) := by
      intro i hil
      obtain ⟨cs', hc, ht⟩ := hi i (by omega)
      rw [cells30] at hc
      obtain ⟨o, rfl, z⟩ := op_open ht
      obtain ⟨_, _, hat⟩ := World.cells?_some hc
      exact ⟨o, z, hat 0 (by omega), hat 1 (by omega), hat 2 (by omega), hat 3 (by omega)⟩
    obtain ⟨f, hf'⟩ := Go.Deep.choose_lt cell
    refine ⟨(List.range l0).map f, ⟨some a, c0, by rw [List.length_map, List.length_range], fun j x hx => ?_⟩, by rw [List.length_map, List.length_range]; exact Nat.le_trans hl hm, fun x hx => ?_⟩
    · have hj : j < l0 := by
        have := (List.getElem?_eq_some_iff.1 hx).1
        rwa [List.length_map, List.length_range] at this
      have ex : x = f j := by
        rw [List.getElem?_map, List.getElem?_range hj] at hx
        exact (Option.some.inj hx).symm
      subst ex
      obtain ⟨_, z0, _⟩ := hf' 0 (by omega)
      have sp : a.spot = none := spot_of_cell z0
      obtain ⟨_, k0, k1, k2, k3⟩ := hf' j hj
      have e : ∀ u, (a.add (j * 4)).add u = ⟨a.block, a.off + j * 4 + u, none⟩ := fun u => by
        rw [add_plain sp (j * 4)]
        exact add_plain rfl u
      rw [e] at k0 k1 k2 k3
      refine ⟨a.block, a.off, ?_, k0, k1, k2, k3⟩
      have := add_plain sp 0
      rw [show a.add 0 = a from rfl] at this
      rw [this]
    · obtain ⟨j, hj, rfl⟩ := List.mem_map.1 hx
      exact (hf' j (List.mem_range.1 hj)).1
end
end Go.Proofs.Ytndaacojbbmcnaa
