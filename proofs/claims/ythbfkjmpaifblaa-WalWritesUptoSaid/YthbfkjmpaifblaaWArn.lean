/- Ints as an argument. -/
import Derived.Test.YthbfkjmpaifblaaWArg
namespace Go.Proofs.Ythbfkjmpaifblaa
open Go.ChangeShapes Go.WideShapes Go.ChangeAt Go.RowKit

def IntsAt (w : World) (v : Value) (xs : List Int) : Prop :=
  ∃ (a : Option Addr) (cap : Nat), v = .slice a xs.length cap ∧ ∀ (j : Nat) (x : Int), xs[j]? = some x → ∃ g off, a = some ⟨g, off, none⟩ ∧ w.cell? ⟨g, off + j, none⟩ = some (.int .i64 x)
set_option maxRecDepth 100000 in
theorem ints_open {H : Type} {enc : TypeId × Value → H} {W : World} {base : Nat} {sp : Nat → Bool} {held : Bool} {r : Reach} {b0 : Nat} {v : Value} {d : DataW H} {p : List MemPlace} (hv : Value.okWide Try.prog W r b0 34 v) (h : DataW.Trod enc Try.prog W base sp held 34 v d p) :
    ∃ xs : List Int, IntsAt W v xs ∧ xs.length ≤ maxLen := by
  obtain ⟨a0, l0, c0, rfl⟩ := okWide_slice Try.underlying34 hv
  obtain ⟨fuel, hf⟩ := h
  rcases open_ints Try.underlying34 Try.underlying3 cellsInt hf with ⟨hcs, _⟩ | ⟨a, len, cap, zs, hcs, _, hl, hm, hz, _, hc, _⟩
  · have hcs : [Value.slice a0 l0 c0] = [Value.slice none 0 0] := hcs
    injection hcs with e _
    injection e with e1 e2 e3
    subst e1 e2 e3
    exact ⟨[], ⟨none, 0, rfl, fun j x hx => by simp at hx⟩, Nat.zero_le _⟩
  · have hcs : [Value.slice a0 l0 c0] = [Value.slice (some a) len cap] := hcs
    injection hcs with e _
    injection e with e1 e2 e3
    subst e1 e2 e3
    have hlz : l0 ≤ zs.length := by rw [hz]; split <;> omega
    have hlen : (zs.take l0).length = l0 := by rw [List.length_take]; omega
    refine ⟨zs.take l0, ⟨some a, c0, by rw [hlen], fun j x hx => ?_⟩, by rw [hlen]; omega⟩
    have hj : j < l0 := by have := (List.getElem?_eq_some_iff.1 hx).1; omega
    rw [List.getElem?_take_of_lt hj] at hx
    have h1 := hc j (by omega)
    have e : zs.getD j 0 = x := by rw [List.getD_eq_getElem?_getD, hx]; rfl
    rw [e] at h1
    have sp2 : a.spot = none := spot_of_cell (hc 0 (by omega) |> fun h => by rw [show a.add 0 = a from rfl] at h; exact h)
    rw [add_plain sp2] at h1
    refine ⟨a.block, a.off, ?_, h1⟩
    have := add_plain sp2 0
    rw [show a.add 0 = a from rfl] at this
    rw [this]
end Go.Proofs.Ythbfkjmpaifblaa
