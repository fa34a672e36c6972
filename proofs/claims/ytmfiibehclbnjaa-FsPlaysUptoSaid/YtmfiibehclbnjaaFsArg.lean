/- What the arguments of the file system's statements give: operations, bytes. -/
import Derived.Test.YtmfiibehclbnjaaFsY
import Derived.Test.YtmfiibehclbnjaaRows
import Derived.ProofKit
import Derived.OpenShut
import Derived.JoinedCond
import Derived.Deep.Slices
import Derived.Deep.Fields
import Derived.ChangeSame
namespace Go.Proofs.Ytmfiibehclbnjaa
open Go.ChangeShapes Go.WideShapes Go.ChangeAt Go.RowKit

theorem Try.own : ownKnob Try.prog.godebug = none := by kernel_rfl
theorem Try.laidOut : laidOutB Try.prog = true := by kernel_rfl
theorem cellsOp : Try.prog.cellsOf 55 = 5 := by kernel_rfl
theorem cellsInt : Try.prog.cellsOf 3 = 1 := by kernel_rfl
theorem cellsStr : Try.prog.cellsOf 9 = 1 := by kernel_rfl
theorem cellsBytes : Try.prog.cellsOf 28 = 1 := by kernel_rfl
theorem cellsU8 : Try.prog.cellsOf 5 = 1 := by kernel_rfl

instance : Inhabited FOp := ⟨⟨0, 0, .empty, .empty, []⟩⟩
section
variable {H : Type} {enc : TypeId × Value → H} {W : World} {base : Nat} {spare : Nat → Bool} {held : Bool}
theorem spot_of_cell {a : Addr} {v : Value} (h : W.cell? a = some v) : a.spot = none := by
  unfold World.cell? at h
  split at h
  · split at h
    · simp at h
    · rename_i hn; cases hs : a.spot with
      | none => rfl
      | some k => rw [hs] at hn; simp at hn
  · simp at h
theorem add_plain {a : Addr} (h : a.spot = none) (n : Nat) : a.add n = ⟨a.block, a.off + n, none⟩ := by
  obtain ⟨b, o, sp⟩ := a
  have : sp = none := h
  subst this
  unfold Addr.add
  split
  · rename_i h0; subst h0; rfl
  · rfl
/-- A slice of bytes. -/
theorem bytes_open {n : Nat} {cs : List Value} {x : DataW H × List MemPlace} (h : DataW.trod enc Try.prog W base spare held n 28 cs = some x) :
    ∃ (a : Option Addr) (cap : Nat) (ys : List UInt8), cs = [.slice a ys.length cap] ∧ RdAt byteKind W (.slice a ys.length cap) ys ∧ ys.length ≤ 9223372036854775807 := by
  rcases open_ints Try.underlying28 Try.underlying5 cellsU8 h with ⟨hcs, _⟩ | ⟨a, len, cap, zs, hcs, _, hlc, hcm, hzl, _, hc, hw⟩
  · exact ⟨none, 0, [], hcs, ⟨none, 0, rfl, fun j x hx => by simp at hx⟩, Nat.zero_le _⟩
  · have hle : len ≤ zs.length := by rw [hzl]; split <;> omega
    have hl : ((zs.take len).map fun z => UInt8.ofNat z.toNat).length = len := by rw [List.length_map, List.length_take]; omega
    unfold maxLen at hcm
    refine ⟨some a, cap, (zs.take len).map fun z => UInt8.ofNat z.toNat, by rw [hl]; exact hcs, ⟨some a, cap, rfl, fun j x hx => ?_⟩, by omega⟩
    have hj : j < len := by
      have := (List.getElem?_eq_some_iff.1 hx).1
      omega
    have hcj := hc j (by omega)
    have hzj : zs[j]? = some (zs.getD j 0) := by
      have hjz : j < zs.length := by omega
      rw [List.getElem?_eq_getElem hjz, List.getD_eq_getElem?_getD, List.getElem?_eq_getElem hjz]; rfl
    have hwf := hw (zs.getD j 0) (List.mem_of_getElem? hzj)
    have hbd := bounds_u8 hwf
    have ex : x = UInt8.ofNat (zs.getD j 0).toNat := by
      rw [List.getElem?_map, List.getElem?_take_of_lt hj, hzj] at hx
      exact (Option.some.inj hx).symm
    have h0 : a.spot = none := by
      have := hc 0 (by omega)
      exact spot_of_cell (a := a) (by simpa [Addr.add] using this)
    rw [add_plain h0] at hcj
    have ea : a = ⟨a.block, a.off, none⟩ := by rw [← h0]
    refine ⟨a.block, a.off, by rw [← ea], fun i hi => ?_⟩
    have hi0 : i = 0 := by have : i < 1 := hi; omega
    subst hi0
    show W.cell? ⟨a.block, a.off + j * 1 + 0, none⟩ = some (.int .u8 (x.toNat : Int))
    rw [Nat.mul_one, Nat.add_zero, hcj, ex]
    congr 2
    have : (UInt8.ofNat (zs.getD j 0).toNat).toNat = (zs.getD j 0).toNat := by
      rw [UInt8.toNat_ofNat']; omega
    omega
set_option maxRecDepth 100000 in
/-- One operation's cells. -/
theorem fop_open {n : Nat} {cs : List Value} {x : DataW H × List MemPlace} (h : DataW.trod enc Try.prog W base spare held n 55 cs = some x) :
    ∃ (o : FOp) (ba : Option Addr) (bcap : Nat), cs = [.int .i64 o.kind, .int .i64 o.n, .string o.name, .string o.to, .slice ba o.b.length bcap] ∧ OpVal W o (.slice ba o.b.length bcap) ∧ o.name.size ≤ 9223372036854775807 ∧ o.to.size ≤ 9223372036854775807 := by
  obtain ⟨xs, m, _, _, hl, hx, hf⟩ := DataW.trod_struct Try.underlying55 h
  have hl : cs.length = 5 := hl.trans cellsOp
  have hx : xs.length = 5 := hx
  obtain ⟨c0, c1, c2, c3, c4, rfl⟩ : ∃ c0 c1 c2 c3 c4, cs = [c0, c1, c2, c3, c4] := by
    match cs, hl with
    | [c0, c1, c2, c3, c4], _ => exact ⟨_, _, _, _, _, rfl⟩
  obtain ⟨y0, y1, y2, y3, y4, rfl⟩ : ∃ y0 y1 y2 y3 y4, xs = [y0, y1, y2, y3, y4] := by
    match xs, hx with
    | [c0, c1, c2, c3, c4], _ => exact ⟨_, _, _, _, _, rfl⟩
  have g0 : DataW.trod enc Try.prog W base spare held m 3 (([c0, c1, c2, c3, c4].drop 0).take (Try.prog.cellsOf 3)) = some y0 := hf 0 _ rfl
  rw [cellsInt] at g0
  have g1 : DataW.trod enc Try.prog W base spare held m 3 (([c0, c1, c2, c3, c4].drop 1).take (Try.prog.cellsOf 3)) = some y1 := hf 1 _ rfl
  rw [cellsInt] at g1
  have g2 : DataW.trod enc Try.prog W base spare held m 9 (([c0, c1, c2, c3, c4].drop 2).take (Try.prog.cellsOf 9)) = some y2 := hf 2 _ rfl
  rw [cellsStr] at g2
  have g3 : DataW.trod enc Try.prog W base spare held m 9 (([c0, c1, c2, c3, c4].drop 3).take (Try.prog.cellsOf 9)) = some y3 := hf 3 _ rfl
  rw [cellsStr] at g3
  have g4 : DataW.trod enc Try.prog W base spare held m 28 (([c0, c1, c2, c3, c4].drop 4).take (Try.prog.cellsOf 28)) = some y4 := hf 4 _ rfl
  rw [cellsBytes] at g4
  obtain ⟨k, e0, _⟩ := DataW.trod_int Try.underlying3 (x := y0) g0
  obtain ⟨v, e1, _, hw⟩ := DataW.trod_int Try.underlying3 (x := y1) g1
  obtain ⟨s, e2, _, z2⟩ := DataW.trod_string Try.underlying9 (x := y2) g2
  obtain ⟨t, e3, _, z3⟩ := DataW.trod_string Try.underlying9 (x := y3) g3
  obtain ⟨ba, bcap, ys, e4, hr, hy⟩ := bytes_open (x := y4) g4
  injection e0 with e0 _
  injection e1 with e1 _
  injection e2 with e2 _
  injection e3 with e3 _
  injection e4 with e4 _
  subst e0 e1 e2 e3 e4
  have hb := bounds_i64 hw
  unfold maxLen at z2 z3
  exact ⟨⟨k, v, s, t, ys⟩, ba, bcap, rfl, ⟨hr, hy, hb.1, hb.2⟩, z2, z3⟩
set_option maxRecDepth 100000 in
theorem fops_open {r : Reach} {b0 : Nat} {v : Value} {d : DataW H} {p : List MemPlace} (hv : Value.okWide Try.prog W r b0 22 v) (h : DataW.Trod enc Try.prog W base spare held 22 v d p) :
    ∃ os : List FOp, FOpsAt W v os ∧ os.length ≤ maxLen := by
  obtain ⟨a0, l0, c0, rfl⟩ := okWide_slice Try.underlying22 hv
  obtain ⟨fuel, hf⟩ := h
  rcases Go.Deep.open_slice Try.underlying22 hf with ⟨hcs, _⟩ | ⟨a, len, cap, m, n, D, Pl, hcs, _, hl, hm, hmm, _, hi⟩
  · have hcs : [Value.slice a0 l0 c0] = [Value.slice none 0 0] := hcs
    injection hcs with e _
    injection e with e1 e2 e3
    subst e1 e2 e3
    exact ⟨[], ⟨none, 0, rfl, fun j x hx => by simp at hx⟩, Nat.zero_le _⟩
  · have hcs : [Value.slice a0 l0 c0] = [Value.slice (some a) len cap] := hcs
    injection hcs with e _
    injection e with e1 e2 e3
    subst e1 e2 e3
    have hlm : l0 ≤ m := by rw [hmm]; split <;> omega
    have cell : ∀ i, i < l0 → ∃ o : FOp, ∃ (ba : Option Addr) (bcap : Nat), (OpVal W o (.slice ba o.b.length bcap) ∧ o.name.size ≤ 9223372036854775807 ∧ o.to.size ≤ 9223372036854775807) ∧
        W.cell? ((a.add (i * 5)).add 0) = some (.int .i64 o.kind) ∧ W.cell? ((a.add (i * 5)).add 1) = some (.int .i64 o.n) ∧ W.cell? ((a.add (i * 5)).add 2) = some (.string o.name) ∧ W.cell? ((a.add (i * 5)).add 3) = some (.string o.to) ∧ W.cell? ((a.add (i * 5)).add 4) = some (.slice ba o.b.length bcap) := by
      intro i hil
      obtain ⟨cs', hc, ht⟩ := hi i (by omega)
      rw [cellsOp] at hc
      obtain ⟨o, ba, bcap, rfl, z⟩ := fop_open ht
      obtain ⟨_, _, hat⟩ := World.cells?_some hc
      exact ⟨o, ba, bcap, z, hat 0 (by omega), hat 1 (by omega), hat 2 (by omega), hat 3 (by omega), hat 4 (by omega)⟩
    obtain ⟨f, hf'⟩ := Go.Deep.choose_lt cell
    refine ⟨(List.range l0).map f, ⟨some a, c0, by rw [List.length_map, List.length_range], fun j x hx => ?_⟩, by rw [List.length_map, List.length_range]; exact Nat.le_trans hl hm⟩
    have hj : j < l0 := by
      have := (List.getElem?_eq_some_iff.1 hx).1
      rwa [List.length_map, List.length_range] at this
    have ex : x = f j := by
      rw [List.getElem?_map, List.getElem?_range hj] at hx
      exact (Option.some.inj hx).symm
    subst ex
    obtain ⟨_, _, _, z0, _⟩ := hf' 0 (by omega)
    have sp : a.spot = none := spot_of_cell z0
    obtain ⟨ba, bcap, z, k0, k1, k2, k3, k4⟩ := hf' j hj
    have e : ∀ u, (a.add (j * 5)).add u = ⟨a.block, a.off + j * 5 + u, none⟩ := fun u => by
      rw [add_plain sp (j * 5)]
      exact add_plain rfl u
    rw [e] at k0 k1 k2 k3 k4
    refine ⟨a.block, a.off, ba, bcap, ?_, ⟨k0, k1, k2, k3, k4⟩, z⟩
    have := add_plain sp 0
    rw [show a.add 0 = a from rfl] at this
    rw [this]
set_option maxRecDepth 100000 in
theorem bytes_open_top {r : Reach} {b0 : Nat} {v : Value} {d : DataW H} {p : List MemPlace} (hv : Value.okWide Try.prog W r b0 28 v) (h : DataW.Trod enc Try.prog W base spare held 28 v d p) :
    ∃ (a : Option Addr) (cap : Nat) (ys : List UInt8), v = .slice a ys.length cap ∧ RdAt byteKind W (.slice a ys.length cap) ys ∧ ys.length ≤ 9223372036854775807 := by
  obtain ⟨a0, l0, c0, rfl⟩ := okWide_slice Try.underlying28 hv
  obtain ⟨fuel, hf⟩ := h
  obtain ⟨a, cap, ys, e, hr, hy⟩ := bytes_open hf
  have e : [Value.slice a0 l0 c0] = [Value.slice a ys.length cap] := e
  injection e with e _
  exact ⟨a, cap, ys, e, hr, hy⟩
end
end Go.Proofs.Ytmfiibehclbnjaa
