/- What the arguments and the listed tables of a JSON statement give. -/
import Derived.Test.YthjcolehccbihaaGreatDoorLc
import Derived.Test.YthjcolehccbihaaGreatDoorTie
import Derived.Test.YthjcolehccbihaaGreatDoorCards
import Derived.Lib.LaidU8T
import Derived.ProofKit
import Derived.OpenShut
import Derived.JoinedCond
import Derived.Deep.Slices
import Derived.Deep.Fields
import Derived.ChangeSame
import Derived.LaidMore
import Derived.Lay
import Derived.SevenTiedAt
import Derived.Stop.Joined
namespace Go.Proofs.YthjcolehccbihaaGreatDoor
open Go.ChangeShapes Go.WideShapes Go.ChangeAt Go.RowKit Go.Shelf

theorem own_knob : ownKnob Tryz.prog.godebug = none := by kernel_rfl
theorem first_data : Rows.laid_unicode_utf8_first = Lib.firstData := by kernel_rfl
theorem accept_data : (Rows.laid_unicode_utf8_acceptRanges : DataW Unit) = Lib.acceptData := by kernel_rfl
/-- The two tables, out of the row's condition. -/
theorem tabs_of_laid {W : World} (h : laidMetH Tryz.prog [("unicode/utf8.acceptRanges", Rows.laid_unicode_utf8_acceptRanges), ("unicode/utf8.first", Rows.laid_unicode_utf8_first)] W) : Tabs W := by
  rw [MakeChecks.laidMetH_plain _ _ _ (by kernel_rfl), first_data, accept_data] at h
  exact utf8Tabs_of_readsT (U8Types.of196 Tryz.laysValid) ⟨by kernel_rfl, by kernel_rfl, by kernel_rfl, by kernel_rfl, by kernel_rfl, by kernel_rfl, by kernel_rfl⟩ (Lib.laidMet.reads h (.tail _ (.head _))) (Lib.laidMet.reads h (.head _))

theorem Tryz.laidOut : laidOutB Tryz.prog = true := by kernel_rfl
theorem cellsU8 : Tryz.prog.cellsOf 5 = 1 := by kernel_rfl
section
variable {H : Type} {enc : TypeId × Value → H} {W : World} {base : Nat} {spare : Nat → Bool} {held : Bool}
theorem spot_of_cell {a : Addr} {v : Value} (h : W.cell? a = some v) : a.spot = none := by
  unfold World.cell? at h
  split at h
  · split at h
    · simp at h
    · rename_i hn; cases hs : a.spot with
      | none => rfl
      | some k => rw [hs] at hn; simp at hn
  · simp at h
theorem add_plain {a : Addr} (h : a.spot = none) (n : Nat) : a.add n = ⟨a.block, a.off + n, none⟩ := by
  obtain ⟨b, o, sp⟩ := a
  have : sp = none := h
  subst this
  unfold Addr.add
  split
  · rename_i h0; subst h0; rfl
  · rfl
/-- A slice of bytes. -/
theorem bytes_open {n : Nat} {cs : List Value} {x : DataW H × List MemPlace} (h : DataW.trod enc Tryz.prog W base spare held n 26 cs = some x) :
    ∃ (a : Option Addr) (cap : Nat) (ys : List UInt8), cs = [.slice a ys.length cap] ∧ RdAt byteKind W (.slice a ys.length cap) ys ∧ ys.length ≤ 9223372036854775807 := by
  rcases open_ints Tryz.underlying26 Tryz.underlying5 cellsU8 h with ⟨hcs, _⟩ | ⟨a, len, cap, zs, hcs, _, hlc, hcm, hzl, _, hc, hw⟩
  · exact ⟨none, 0, [], hcs, ⟨none, 0, rfl, fun j x hx => by simp at hx⟩, Nat.zero_le _⟩
  · have hle : len ≤ zs.length := by rw [hzl]; split <;> omega
    have hl : ((zs.take len).map fun z => UInt8.ofNat z.toNat).length = len := by rw [List.length_map, List.length_take]; omega
    unfold maxLen at hcm
    refine ⟨some a, cap, (zs.take len).map fun z => UInt8.ofNat z.toNat, by rw [hl]; exact hcs, ⟨some a, cap, rfl, fun j x hx => ?_⟩, by omega⟩
    have hj : j < len := by
      have := (List.getElem?_eq_some_iff.1 hx).1
      omega
    have hcj := hc j (by omega)
    have hzj : zs[j]? = some (zs.getD j 0) := by
      have hjz : j < zs.length := by omega
      rw [List.getElem?_eq_getElem hjz, List.getD_eq_getElem?_getD, List.getElem?_eq_getElem hjz]; rfl
    have hwf := hw (zs.getD j 0) (List.mem_of_getElem? hzj)
    have hbd := bounds_u8 hwf
    have ex : x = UInt8.ofNat (zs.getD j 0).toNat := by
      rw [List.getElem?_map, List.getElem?_take_of_lt hj, hzj] at hx
      exact (Option.some.inj hx).symm
    have h0 : a.spot = none := by
      have := hc 0 (by omega)
      exact spot_of_cell (a := a) (by simpa [Addr.add] using this)
    rw [add_plain h0] at hcj
    have ea : a = ⟨a.block, a.off, none⟩ := by rw [← h0]
    refine ⟨a.block, a.off, by rw [← ea], fun i hi => ?_⟩
    have hi0 : i = 0 := by have : i < 1 := hi; omega
    subst hi0
    show W.cell? ⟨a.block, a.off + j * 1 + 0, none⟩ = some (.int .u8 (x.toNat : Int))
    rw [Nat.mul_one, Nat.add_zero, hcj, ex]
    congr 2
    have : (UInt8.ofNat (zs.getD j 0).toNat).toNat = (zs.getD j 0).toNat := by
      rw [UInt8.toNat_ofNat']; omega
    omega
/-- A slice of bytes, and its room. -/
theorem bytes_openc {n : Nat} {cs : List Value} {x : DataW H × List MemPlace} (h : DataW.trod enc Tryz.prog W base spare held n 26 cs = some x) :
    ∃ (a : Option Addr) (cap : Nat) (ys : List UInt8), cs = [.slice a ys.length cap] ∧ RdAt byteKind W (.slice a ys.length cap) ys ∧ ys.length ≤ cap ∧ cap ≤ 9223372036854775807 := by
  obtain ⟨a, cap, ys, hcs, hr, _⟩ := bytes_open h
  rcases open_ints Tryz.underlying26 Tryz.underlying5 cellsU8 h with ⟨hc2, _⟩ | ⟨a2, len, cap2, zs, hc2, _, hlc, hcm, _⟩
  · rw [hcs] at hc2
    injection hc2 with e _
    injection e with _ e2 e3
    exact ⟨a, cap, ys, hcs, hr, by omega, by omega⟩
  · rw [hcs] at hc2
    injection hc2 with e _
    injection e with _ e2 e3
    unfold maxLen at hcm
    exact ⟨a, cap, ys, hcs, hr, by omega, by omega⟩
set_option maxRecDepth 100000 in
theorem bytes_openc_top {r : Reach} {b0 : Nat} {v : Value} {d : DataW H} {p : List MemPlace} (hv : Value.okWide Tryz.prog W r b0 26 v) (h : DataW.Trod enc Tryz.prog W base spare held 26 v d p) :
    ∃ (a : Option Addr) (cap : Nat) (ys : List UInt8), v = .slice a ys.length cap ∧ RdAt byteKind W (.slice a ys.length cap) ys ∧ ys.length ≤ cap ∧ cap ≤ 9223372036854775807 := by
  obtain ⟨a0, l0, c0, rfl⟩ := okWide_slice Tryz.underlying26 hv
  obtain ⟨fuel, hf⟩ := h
  obtain ⟨a, cap, ys, e, hr, hy⟩ := bytes_openc hf
  have e : [Value.slice a0 l0 c0] = [Value.slice a ys.length cap] := e
  injection e with e _
  exact ⟨a, cap, ys, e, hr, hy⟩
end
end Go.Proofs.YthjcolehccbihaaGreatDoor
