/- What the arguments of the log's statements give: bytes with their room, lists of records. -/
import Derived.Test.YthbfkjmpaifblaaFsArg
import Derived.Test.YthbfkjmpaifblaaWa
namespace Go.Proofs.Ythbfkjmpaifblaa
open Go.ChangeShapes Go.WideShapes Go.ChangeAt Go.RowKit

section
variable {H : Type} {enc : TypeId × Value → H} {W : World} {base : Nat} {spare : Nat → Bool} {held : Bool}
/-- A slice of bytes, and its room. -/
theorem bytes_openc {n : Nat} {cs : List Value} {x : DataW H × List MemPlace} (h : DataW.trod enc Try.prog W base spare held n 22 cs = some x) :
    ∃ (a : Option Addr) (cap : Nat) (ys : List UInt8), cs = [.slice a ys.length cap] ∧ RdAt byteKind W (.slice a ys.length cap) ys ∧ ys.length ≤ cap ∧ cap ≤ 9223372036854775807 := by
  obtain ⟨a, cap, ys, hcs, hr, _⟩ := bytes_open h
  rcases open_ints Try.underlying22 Try.underlying5 cellsU8 h with ⟨hc2, _⟩ | ⟨a2, len, cap2, zs, hc2, _, hlc, hcm, _⟩
  · rw [hcs] at hc2
    injection hc2 with e _
    injection e with _ e2 e3
    exact ⟨a, cap, ys, hcs, hr, by omega, by omega⟩
  · rw [hcs] at hc2
    injection hc2 with e _
    injection e with _ e2 e3
    unfold maxLen at hcm
    exact ⟨a, cap, ys, hcs, hr, by omega, by omega⟩
set_option maxRecDepth 100000 in
theorem bytes_openc_top {r : Reach} {b0 : Nat} {v : Value} {d : DataW H} {p : List MemPlace} (hv : Value.okWide Try.prog W r b0 22 v) (h : DataW.Trod enc Try.prog W base spare held 22 v d p) :
    ∃ (a : Option Addr) (cap : Nat) (ys : List UInt8), v = .slice a ys.length cap ∧ RdAt byteKind W (.slice a ys.length cap) ys ∧ ys.length ≤ cap ∧ cap ≤ 9223372036854775807 := by
  obtain ⟨a0, l0, c0, rfl⟩ := okWide_slice Try.underlying22 hv
  obtain ⟨fuel, hf⟩ := h
  obtain ⟨a, cap, ys, e, hr, hy⟩ := bytes_openc hf
  have e : [Value.slice a0 l0 c0] = [Value.slice a ys.length cap] := e
  injection e with e _
  exact ⟨a, cap, ys, e, hr, hy⟩
end
end Go.Proofs.Ythbfkjmpaifblaa
