/- What an argument of events, of ints gives. -/
import Derived.Test.YtkbdofbjfcajbaaGreatE20
import Derived.Test.YtkbdofbjfcajbaaGreatRows
import Derived.ProofKit
import Derived.OpenShut
import Derived.JoinedCond
import Derived.Deep.Slices
import Derived.Deep.Fields
import Derived.ChangeSame
import Derived.ChangeMaps5
namespace Go.Proofs.YtkbdofbjfcajbaaGreat
open Go.ChangeShapes Go.WideShapes Go.ChangeAt Go.RowKit

theorem Tryz.own : ownKnob Tryz.prog.godebug = none := by kernel_rfl
theorem Tryz.laidOut : laidOutB Tryz.prog = true := by kernel_rfl
theorem cellsEv : Tryz.prog.cellsOf 32 = 5 := by kernel_rfl
theorem cellsInt : Tryz.prog.cellsOf 3 = 1 := by kernel_rfl
theorem cellsStr : Tryz.prog.cellsOf 9 = 1 := by kernel_rfl
instance : Inhabited Ev := ⟨Ev.zero⟩
section
variable {H : Type} {enc : TypeId × Value → H} {W : World} {base : Nat} {spare : Nat → Bool} {held : Bool}
theorem spot_of_cell {a : Addr} {v : Value} (h : W.cell? a = some v) : a.spot = none := by
  unfold World.cell? at h
  split at h
  · split at h
    · simp at h
    · rename_i hn; cases hs : a.spot with
      | none => rfl
      | some k => rw [hs] at hn; simp at hn
  · simp at h
theorem add_plain {a : Addr} (h : a.spot = none) (n : Nat) : a.add n = ⟨a.block, a.off + n, none⟩ := by
  obtain ⟨b, o, sp⟩ := a
  have : sp = none := h
  subst this
  unfold Addr.add
  split
  · rename_i h0; subst h0; rfl
  · rfl
set_option maxRecDepth 100000 in
/-- One event's cells. -/
theorem ev_open {n : Nat} {cs : List Value} {x : DataW H × List MemPlace} (h : DataW.trod enc Tryz.prog W base spare held n 32 cs = some x) :
    ∃ v : Ev, cs = evCells v ∧ IntsOk v := by
  obtain ⟨xs, m, _, _, hl, hx, hf⟩ := DataW.trod_struct Tryz.underlying32 h
  have hl : cs.length = 5 := hl.trans cellsEv
  have hx : xs.length = 5 := hx
  obtain ⟨c0, c1, c2, c3, c4, rfl⟩ : ∃ c0 c1 c2 c3 c4, cs = [c0, c1, c2, c3, c4] := by
    match cs, hl with
    | [c0, c1, c2, c3, c4], _ => exact ⟨_, _, _, _, _, rfl⟩
  obtain ⟨y0, y1, y2, y3, y4, rfl⟩ : ∃ y0 y1 y2 y3 y4, xs = [y0, y1, y2, y3, y4] := by
    match xs, hx with
    | [c0, c1, c2, c3, c4], _ => exact ⟨_, _, _, _, _, rfl⟩
  have g0 : DataW.trod enc Tryz.prog W base spare held m 9 (([c0, c1, c2, c3, c4].drop 0).take (Tryz.prog.cellsOf 9)) = some y0 := hf 0 _ rfl
  rw [cellsStr] at g0
  have g1 : DataW.trod enc Tryz.prog W base spare held m 9 (([c0, c1, c2, c3, c4].drop 1).take (Tryz.prog.cellsOf 9)) = some y1 := hf 1 _ rfl
  rw [cellsStr] at g1
  have g2 : DataW.trod enc Tryz.prog W base spare held m 9 (([c0, c1, c2, c3, c4].drop 2).take (Tryz.prog.cellsOf 9)) = some y2 := hf 2 _ rfl
  rw [cellsStr] at g2
  have g3 : DataW.trod enc Tryz.prog W base spare held m 3 (([c0, c1, c2, c3, c4].drop 3).take (Tryz.prog.cellsOf 3)) = some y3 := hf 3 _ rfl
  rw [cellsInt] at g3
  have g4 : DataW.trod enc Tryz.prog W base spare held m 3 (([c0, c1, c2, c3, c4].drop 4).take (Tryz.prog.cellsOf 3)) = some y4 := hf 4 _ rfl
  rw [cellsInt] at g4
  obtain ⟨k, e0, _⟩ := DataW.trod_string Tryz.underlying9 (x := y0) g0
  obtain ⟨s, e1, _⟩ := DataW.trod_string Tryz.underlying9 (x := y1) g1
  obtain ⟨t, e2, _⟩ := DataW.trod_string Tryz.underlying9 (x := y2) g2
  obtain ⟨q, e3, _, w3⟩ := DataW.trod_int Tryz.underlying3 (x := y3) g3
  obtain ⟨z, e4, _, w4⟩ := DataW.trod_int Tryz.underlying3 (x := y4) g4
  injection e0 with e0 _
  injection e1 with e1 _
  injection e2 with e2 _
  injection e3 with e3 _
  injection e4 with e4 _
  subst e0 e1 e2 e3 e4
  have b3 := bounds_i64 w3
  have b4 := bounds_i64 w4
  exact ⟨⟨k, s, t, q, z⟩, rfl, b3.1, b3.2, b4.1, b4.2⟩
/-- A slice of events. -/
def EvsAt (w : World) (v : Value) (L : List Ev) : Prop := ∃ (a : Option Addr) (cap : Nat), v = .slice a L.length cap ∧ RdAt evKind w v L ∧ ∀ x ∈ L, IntsOk x
set_option maxRecDepth 100000 in
theorem evs_open {r : Reach} {b0 : Nat} {v : Value} {d : DataW H} {p : List MemPlace} (hv : Value.okWide Tryz.prog W r b0 22 v) (h : DataW.Trod enc Tryz.prog W base spare held 22 v d p) :
    ∃ L : List Ev, EvsAt W v L := by
  obtain ⟨a0, l0, c0, rfl⟩ := okWide_slice Tryz.underlying22 hv
  obtain ⟨fuel, hf⟩ := h
  rcases Go.Deep.open_slice Tryz.underlying22 hf with ⟨hcs, _⟩ | ⟨a, len, cap, m, n, D, Pl, hcs, _, hl, hm, hmm, _, hi⟩
  · have hcs : [Value.slice a0 l0 c0] = [Value.slice none 0 0] := hcs
    injection hcs with e _
    injection e with e1 e2 e3
    subst e1 e2 e3
    exact ⟨[], none, 0, rfl, ⟨none, 0, rfl, fun j x hx => by simp at hx⟩, fun x hx => by simp at hx⟩
  · have hcs : [Value.slice a0 l0 c0] = [Value.slice (some a) len cap] := hcs
    injection hcs with e _
    injection e with e1 e2 e3
    subst e1 e2 e3
    have hlm : l0 ≤ m := by rw [hmm]; split <;> omega
    have cell : ∀ i, i < l0 → ∃ o : Ev, IntsOk o ∧ ∀ u, u < 5 → W.cell? ((a.add (i * 5)).add u) = (evCells o)[u]? := by
      intro i hil
      obtain ⟨cs', hc, ht⟩ := hi i (by omega)
      rw [cellsEv] at hc
      obtain ⟨o, rfl, z⟩ := ev_open ht
      obtain ⟨_, hlen, hat⟩ := World.cells?_some hc
      exact ⟨o, z, fun u hu => hat u hu⟩
    obtain ⟨f, hf'⟩ := Go.Deep.choose_lt cell
    have hlen : ((List.range l0).map f).length = l0 := by rw [List.length_map, List.length_range]
    refine ⟨(List.range l0).map f, some a, c0, by rw [hlen], ⟨some a, c0, by rw [hlen], fun j x hx => ?_⟩, fun x hx => ?_⟩
    · have hj : j < l0 := by
        have := (List.getElem?_eq_some_iff.1 hx).1
        omega
      have ex : x = f j := by
        rw [List.getElem?_map, List.getElem?_range hj] at hx
        exact (Option.some.inj hx).symm
      subst ex
      obtain ⟨_, z0⟩ := hf' 0 (by omega)
      have sp : a.spot = none := spot_of_cell (z0 0 (by omega))
      obtain ⟨_, z⟩ := hf' j hj
      refine ⟨a.block, a.off, ?_, fun u hu => ?_⟩
      · have := add_plain sp 0
        rw [show a.add 0 = a from rfl] at this
        rw [this]
      · have hu5 : u < 5 := hu
        have := z u hu5
        rw [add_plain sp (j * 5), add_plain rfl u] at this
        exact this
    · obtain ⟨j, hj, rfl⟩ := List.mem_map.1 hx
      exact (hf' j (List.mem_range.1 hj)).1
set_option maxRecDepth 100000 in
theorem ints_open {r : Reach} {b0 : Nat} {v : Value} {d : DataW H} {p : List MemPlace} (hv : Value.okWide Tryz.prog W r b0 23 v) (h : DataW.Trod enc Tryz.prog W base spare held 23 v d p) :
    ∃ (a : Option Addr) (cap : Nat) (xs : List Int), v = .slice a xs.length cap ∧ xs.length ≤ maxLen ∧ ∀ (j : Nat) (x : Int), xs[j]? = some x → ∃ g off, a = some ⟨g, off, none⟩ ∧ W.cell? ⟨g, off + j, none⟩ = some (.int .i64 x) ∧ (Lit.int .i64 x).wf = true := by
  obtain ⟨a0, l0, c0, rfl⟩ := okWide_slice Tryz.underlying23 hv
  obtain ⟨fuel, hf⟩ := h
  rcases open_ints Tryz.underlying23 Tryz.underlying3 cellsInt hf with ⟨hcs, _⟩ | ⟨a, len, cap, zs, hcs, _, hl, hm, hz, _, hc, hw⟩
  · have hcs : [Value.slice a0 l0 c0] = [Value.slice none 0 0] := hcs
    injection hcs with e _
    injection e with e1 e2 e3
    subst e1 e2 e3
    exact ⟨none, 0, [], rfl, Nat.zero_le _, fun j x hx => by simp at hx⟩
  · have hcs : [Value.slice a0 l0 c0] = [Value.slice (some a) len cap] := hcs
    injection hcs with e _
    injection e with e1 e2 e3
    subst e1 e2 e3
    have hlz : l0 ≤ zs.length := by rw [hz]; split <;> omega
    have hlen : (zs.take l0).length = l0 := by rw [List.length_take]; omega
    refine ⟨some a, c0, zs.take l0, by rw [hlen], by rw [hlen]; omega, fun j x hx => ?_⟩
    have hj : j < l0 := by have := (List.getElem?_eq_some_iff.1 hx).1; omega
    rw [List.getElem?_take_of_lt hj] at hx
    have h1 := hc j (by omega)
    have e : zs.getD j 0 = x := by rw [List.getD_eq_getElem?_getD, hx]; rfl
    rw [e] at h1
    have sp2 : a.spot = none := spot_of_cell (hc 0 (by omega) |> fun h => by rw [show a.add 0 = a from rfl] at h; exact h)
    rw [add_plain sp2] at h1
    refine ⟨a.block, a.off, ?_, h1, hw x (List.mem_of_getElem? hx)⟩
    have := add_plain sp2 0
    rw [show a.add 0 = a from rfl] at this
    rw [this]
end
end Go.Proofs.YtkbdofbjfcajbaaGreat
