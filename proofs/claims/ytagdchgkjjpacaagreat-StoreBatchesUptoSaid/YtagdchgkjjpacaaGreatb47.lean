/- The walk of the statement StoreBatches. -/
import Derived.Test.YtagdchgkjjpacaaGreatb22
import Derived.Test.YtagdchgkjjpacaaGreatb46
import Derived.Test.YtagdchgkjjpacaaGreatb34
import Derived.Deep.CutBlock
import Derived.Deep.DeepCutAuto
import Derived.Test.YtagdchgkjjpacaaGreatb14
import Derived.Test.YtagdchgkjjpacaaGreatRows
import Derived.ProofKit
import Derived.OpenShut
import Derived.JoinedCond
import Derived.Deep.Slices
import Derived.Deep.Fields
import Derived.ChangeSame
import Derived.Test.YtagdchgkjjpacaaGreatb08
import Derived.Test.YtagdchgkjjpacaaGreatb12
set_option maxRecDepth 100000
open Go.Lib (hid)
set_option linter.unusedSimpArgs false
set_option linter.unusedVariables false
set_option linter.unusedSectionVars false
namespace Go.Proofs.YtagdchgkjjpacaaGreat
open Go.RowKit Go.Shelf
theorem docR_decR (ys : List UInt8) : docR ys = decR ys := rfl
theorem SlAt.front1 {w : World} {g off cap : Nat} {ys : List UInt8} {z : UInt8} (h : SlAt byteKind 5 w (.slice (some ⟨g, off, none⟩) (ys.length + 1) cap) (ys ++ [z])) : SlAt byteKind 5 w (.slice (some ⟨g, off, none⟩) ys.length cap) ys := by
 rcases h with ⟨e1, _⟩ | ⟨g', off', cap', cur, e1, hb, hc, hm, hs, hr⟩
 ·simp at e1
 ·injection e1 with e2 _ e3
  injection e2 with e2
  injection e2 with e4 e5 _
  subst e3 e4 e5
  rw [List.length_append] at hc hr
  refine .inr ⟨g, off, cap, cur, rfl, hb, by have : [z].length = 1 := rfl; omega, hm, hs, fun i hi => ?_⟩
  have hz : ys.length * byteKind.size = ys.length := by show ys.length * 1 = _; omega
  rw [hz] at hi
  rw [hr i (by show i < (ys.length + 1) * 1; omega), List.flatMap_append, List.getElem?_append_left (by rw [flat_len byteKind.len, hz]; exact hi)]
theorem SlAt.dec {w : World} {a : Option Addr} {cap : Nat} {ys : List UInt8} (h : SlAt byteKind 5 w (.slice a ys.length cap) ys) : (ys.length ≤ cap ∧ cap ≤ 9223372036854775807) ∧ ∀ b, a = some b → b.spot = none ∧ b.block < w.heap.size := by
 rcases h with ⟨e, rfl⟩ | ⟨g, off, cap', cur, e, hb, h1, h2, _⟩
 ·injection e with e1 e2 e3
  subst e1 e3
  exact ⟨⟨Nat.le_refl _, by omega⟩, fun b hb => by cases hb⟩
 ·injection e with e1 e2 e3
  subst e1 e3
  exact ⟨⟨h1, by unfold maxLen at h2; omega⟩, fun b hb => by
   injection hb with hb
   subst hb
   exact ⟨rfl, lt_of_block hb⟩⟩
theorem encB_ok {q : Int} {l : List Chg} (h : (encB q l).2 = 0) (hq : q < 9223372036854775808) : decR (encB q l).1 = (q, l.map Chg.norm, 0) := by
 unfold encB at h ⊢
 by_cases h1 : q < 1
 ·rw [if_pos h1] at h; cases h
 rw [if_neg h1] at h ⊢
 by_cases h2 : chkB l ≠ 0
 ·rw [if_pos h2] at h; exact absurd h h2
 rw [if_neg h2] at h ⊢
 by_cases h3 : 1048576 < (batB q.toNat l).length
 ·rw [if_pos h3] at h; cases h
 rw [if_neg h3] at h ⊢
 unfold decR
 rw [decB_batB (by omega) (by omega) (by omega) (by omega)]
 simp only
 rw [show ((q.toNat : Nat) : Int) = q by omega]
theorem decR_len (ys : List UInt8) : (decR ys).2.1.length ≤ 500 := by
 unfold decR
 cases h : decB ys with
 | none => exact Nat.zero_le _
 | some x =>
   obtain ⟨s, l⟩ := x
   exact (chkB_ok (decB_some h).2.2.2.1).1
theorem bats_one {w : World} {a : Option Addr} {cap : Nat} {l : List Chg} (h : RdAt chgKind w (.slice a l.length cap) l) (h1 : l.length ≤ 1048576) (h2 : ∀ c ∈ l, c.key.size ≤ 1048576 ∧ c.val.size ≤ 1048576) (T : TypeId) :
 BatsAt (w.alloc (.cells #[.slice a l.length cap] T)) (.slice (some ⟨w.heap.size, 0, none⟩) 1 1) [l] := by
 have hb : Below w.heap.size w (w.alloc (.cells #[.slice a l.length cap] T)) := (Below.refl _ _).alloc (Nat.le_refl _) _
 refine ⟨⟨[⟨a, l.length, cap⟩], rd_one (ek := slKind) w ⟨a, l.length, cap⟩ _ rfl T, rfl, fun j s m hs hm => ?_⟩, by simp, fun m hm => ?_⟩
 ·cases j with
  | zero =>
    simp at hs hm
    subst hs hm
    exact ⟨rfl, h.below hb⟩
  | succ j => simp at hs
 ·rw [List.mem_singleton] at hm
  subst hm
  exact ⟨h1, h2⟩
section
variable {w : World}
set_option maxHeartbeats 16000000 in
theorem l_storeBatches {v : Value} {l : List Chg} (hl : RdAt chgKind w v l ∧ l.length ≤ 1048576 ∧ ∀ c ∈ l, c.key.size ≤ 1048576 ∧ c.val.size ≤ 1048576) (seq : Int) (hs : seq ≤ 9223372036854775807) {a3 : Option Addr} {c3 : Nat} {b : List UInt8} (hb3 : RdAt byteKind w (.slice a3 b.length c3) b) (hc3 : b.length ≤ c3 ∧ c3 ≤ 9223372036854775807) :
 Calls Tryz.prog 3 #[.int .i64 seq, v, .slice a3 b.length c3] w fun e w' => e = .returned (.bool true) ∧ Below w.heap.size w w' := by
 obtain ⟨hl, hll, hlz⟩ := hl
 have HL := hid hl
 obtain ⟨a0, c0, rfl, -⟩ := hl
 have HLL := hid hll
 have HLZ := hid hlz
 have HB := hid hb3
 have HC := hid hc3
 have HSQ := hid hs
 have hllI : (l.length : Int) ≤ 1048576 := by omega
 clear hll hlz hb3 hc3 hs
 go_enter Tryz.func3, Tryz.ntmps3
 go_wp2_with (fail)
 refine (x_sfirst w).mono ?_
 rintro e w1 ⟨rfl, hb1⟩
 have HB1 := hid hb1
 clear hb1
 go_wp2_with (fail)
 have hba : Below w.heap.size w (w1.alloc (.cells #[.slice a0 l.length c0] 22)) := HB1.out.alloc HB1.out.size _
 refine (x_fewB (bats_one (HL.out.below HB1.out) HLL.out HLZ.out _)).mono ?_
 rintro e w2 ⟨bb, rfl, hbf, hb2⟩
 have HB2 : Hid (Below w.heap.size w w2) := hid (hba.trans (hb2.mono hba.size))
 clear hb2 hba
 cases bb with
 | false =>
   clear hbf
   go_wp2_with (fail)
   go_ret
   exact ⟨rfl, HB2.out⟩
 | true =>
   clear hbf
   by_cases h20 : (20000 : Int) < (b.length : Int)
   ·go_wp2_with (fail)
    go_ret
    exact ⟨rfl, HB2.out⟩
   have HBL : Hid (b.length ≤ 20000) := hid (by omega)
   go_wp2_with (fail)
   have hbl : (b.length : Int) ≤ 20000 := by omega
   clear h20
   refine (st_encode (HL.out.below HB2.out) (by have := HLL.out; omega) seq HSQ.out).mono ?_
   rintro e w3 ⟨xv, rfl, hf3⟩
   have HF3 := hid hf3.out
   obtain ⟨xa, xc, hxv⟩ := hf3.out.sl.shape
   subst hxv
   have HB3 : Hid (Below w.heap.size w w3) := hid (HB2.out.trans (hf3.out.below.mono HB2.out.size))
   clear hf3
   go_wp2_with (fail)
   refine (x_changes (HL.out.below HB3.out) HLL.out).mono ?_
   rintro e w4 ⟨va, vc, rfl, hn4⟩
   have HN4 := hid hn4
   clear hn4
   go_wp2_with (fail)
   refine (d_encode HN4.out.sl.rd HLL.out HLZ.out seq HSQ.out).mono ?_
   rintro e w5 ⟨wv, rfl, hf5⟩
   obtain ⟨wa, wc, hwv⟩ := hf5.out.sl.shape
   subst hwv
   have HF5 := hid hf5.out
   have HB35 : Hid (Below w3.heap.size w3 w5) := hid (HN4.out.below.trans (hf5.out.below.mono HN4.out.below.size))
   have HB5 : Hid (Below w.heap.size w w5) := hid (HB3.out.trans (HB35.out.mono HB3.out.size))
   clear hf5
   obtain ⟨E, hE⟩ : ∃ E, E = encB seq l := ⟨_, rfl⟩
   have HOK := hid (encB_ok (q := seq) (l := l) · (by have := HSQ.out; omega))
   have HEL := hid (encB_len seq l)
   rw [← hE] at HF3 HF5 HOK HEL ⊢
   obtain ⟨X, er⟩ := E
   clear hE
   have hxl : (X.length : Int) ≤ 1048576 := by have := HEL.out; simp only at this; omega
   go_wp2_with (fail)
   refine (r_lent (HB.out.below HB5.out) (by have := HBL.out; omega)).mono ?_
   rintro e w6 ⟨g, off, cap, rfl, hle⟩
   have HLE := hid hle
   have HRM := hid (LentAt.room hle.sl)
   have HRD : Hid (RdAt byteKind w6 (.slice (some ⟨g, off, none⟩) b.length cap) b) := hid (SlAt.rd (e := 5) hle.sl.front1)
   have HB56 : Hid (Below w5.heap.size w5 w6) := hid hle.below
   have HB6 : Hid (Below w.heap.size w w6) := hid (HB5.out.trans (HB56.out.mono HB5.out.size))
   clear hle
   go_wp2_with (fail)
   refine (st_decode HRD.out (by have := HBL.out; omega) ⟨by have := HRM.out.1; omega, HRM.out.2.1⟩ (fun b hb => by
    injection hb with hb
    subst hb
    obtain ⟨cur, hcur, _⟩ := HRM.out.2.2
    exact ⟨rfl, lt_of_block hcur⟩)).mono ?_
   rintro e w7 ⟨cv, rfl, hd7⟩
   obtain ⟨ca, cc, hcv⟩ := hd7.out.1.shape
   subst hcv
   have HC7 := hid hd7.out.1
   have HB67 : Hid (Below w6.heap.size w6 w7) := hid hd7.out.2.2
   have HB7 : Hid (Below w.heap.size w w7) := hid (HB6.out.trans (HB67.out.mono HB6.out.size))
   clear hd7
   go_wp2_with (fail)
   refine (d_decode (HB.out.below HB7.out) HBL.out HC.out).mono ?_
   rintro e w8 ⟨dv, rfl, hd8⟩
   rw [docR_decR] at hd8 ⊢
   obtain ⟨da, dc, hdv⟩ := hd8.out.sl.shape
   subst hdv
   have HB78 : Hid (Below w7.heap.size w7 w8) := hid hd8.out.below
   have HD8 := hid hd8.out.sl.rd
   have HC8 := hid (HC7.out.rd.below HB78.out)
   have HB8 : Hid (Below w.heap.size w w8) := hid (HB7.out.trans (HB78.out.mono HB7.out.size))
   have HB68 : Hid (Below w6.heap.size w6 w8) := hid (HB67.out.trans (HB78.out.mono HB67.out.size))
   have HB58 : Hid (Below w5.heap.size w5 w8) := hid (HB56.out.trans (HB68.out.mono HB56.out.size))
   have HX8 := hid ((HF3.out.sl.below HB35.out).below HB58.out)
   have HW8 := hid (HF5.out.sl.below HB58.out)
   have HLN : Hid (SlAt byteKind 5 w8 (.slice (some ⟨g, off, none⟩) (b.length + 1) cap) (b ++ [201])) := hid (HLE.out.sl.below HB68.out)
   have hlb := decR_len b
   obtain ⟨D, hD⟩ : ∃ D, D = decR b := ⟨_, rfl⟩
   rw [← hD] at HC8 HD8 hlb ⊢
   obtain ⟨n, L, r⟩ := D
   have hLl : (L.length : Int) ≤ 500 := by simp only at hlb; omega
   clear hd8 hD hlb
   go_wp2_with (fail)
   refine (r_sameB HX8.out.rd HW8.out.rd (by have := HEL.out; omega) (by have := HEL.out; omega)).mono ?_
   rintro e w9 ⟨rfl, hb9⟩
   simp only [decide_true]
   have HB89 : Hid (Below w8.heap.size w8 w9) := hid hb9
   clear hb9
   go_wp2_with (first | (go_at_call 19; refine (r_num _ _).mono ?_; rintro e w' ⟨rfl, rfl⟩))
   refine (r_kept (HLN.out.below HB89.out) ((HB.out.below HB8.out).below HB89.out) (by have := HBL.out; omega)).mono ?_
   rintro e w10 ⟨rfl, hb10⟩
   have HBT : Hid (Below w8.heap.size w8 w10) := hid (HB89.out.trans (hb10.mono HB89.out.size))
   clear hb10
   go_wp2_with (fail)
   go_loopw [20] (fun iv wr => ∃ i : Nat, i ≤ L.length ∧ iv = .int .i64 (i : Int) ∧ Hid (Below w8.heap.size w8 wr)) (fun iv _ => L.length - (intOf iv).toNat)
   case atStart => exact ⟨0, Nat.zero_le _, rfl, HBT⟩
   case round =>
    obtain ⟨i, hi, rfl, HI⟩ := hrel
    have q0 : (0 : Int) ≤ (i : Int) := by omega
    by_cases hlt : i < L.length
    ·have q1 : (i : Int) < (L.length : Int) := by omega
     obtain ⟨c, hc⟩ : ∃ c, L[i]? = some c := ⟨_, List.getElem?_eq_getElem hlt⟩
     obtain ⟨g1, o1, e1, d0, d1, d2⟩ := chg_cells (HC8.out.below HI.out) hc
     obtain ⟨g2, o2, e2, f0, f1, f2⟩ := chg_cells (HD8.out.below HI.out) hc
     subst e1 e2
     obtain ⟨k, u, dr⟩ := c
     simp only at d0 d1 d2 f0 f1 f2
     have HLT := hid hlt
     clear hc hlt hi
     go_wp2_with (fail)
     go_quiet (fail)
     go_wp2_with (fail)
     go_roundw
     case rel => exact ⟨i + 1, HLT.out, by go_num, hid (HI.out.trans (below_drewN _ _ _))⟩
     case measure => simp [intOf]; have := HLT.out; omega
    ·have q1 : ¬ (i : Int) < (L.length : Int) := by omega
     clear hlt hi
     by_cases he : er = 0
     ·subst he
      have HOK2 := hid (HOK.out rfl)
      have HXR := hid ((HX8.out.below HI.out).dec)
      have HXS := hid (HX8.out.below HI.out)
      clear HOK HX8
      go_wp2_with (fail)
      refine (st_decode HXS.out.rd (by omega) HXR.out.1 HXR.out.2).mono ?_
      rw [HOK2.out]
      rintro e w11 ⟨yv, rfl, hd11⟩
      obtain ⟨ya, yc, hyv⟩ := hd11.out.1.shape
      subst hyv
      have HY := hid hd11.out.1.rd
      have HB11 : Hid (Below w.heap.size w w11) := hid (HB8.out.trans ((HI.out.trans (hd11.out.2.2.mono HI.out.size)).mono HB8.out.size))
      simp only [List.length_map] at HY ⊢
      clear hd11
      go_wp2_with (first | (go_at_call 19; refine (r_num _ _).mono ?_; rintro e w' ⟨rfl, rfl⟩))
      rename World => w11
      go_loopw [24] (fun iv wr => ∃ i : Nat, i ≤ l.length ∧ iv = .int .i64 (i : Int) ∧ Hid (Below w11.heap.size w11 wr)) (fun iv _ => l.length - (intOf iv).toNat)
      case atStart => exact ⟨0, Nat.zero_le _, rfl, hid (Below.refl _ _)⟩
      case round =>
       obtain ⟨j, hj, rfl, HJ⟩ := hrel
       have p0 : (0 : Int) ≤ (j : Int) := by omega
       by_cases hlt : j < l.length
       ·have p1 : (j : Int) < (l.length : Int) := by omega
        obtain ⟨c, hc⟩ : ∃ c, l[j]? = some c := ⟨_, List.getElem?_eq_getElem hlt⟩
        obtain ⟨g1, o1, e1, d0, d1, d2⟩ := chg_cells ((HL.out.below HB11.out).below HJ.out) hc
        obtain ⟨g2, o2, e2, f0, f1, f2⟩ := chg_cells (HY.out.below HJ.out) (show (l.map Chg.norm)[j]? = some c.norm by rw [List.getElem?_map, hc]; rfl)
        subst e1 e2
        have HLT := hid hlt
        clear hc hlt hj
        obtain ⟨k, u, dr⟩ := c
        cases dr with
        | true =>
          rw [show (Chg.norm ⟨k, u, true⟩) = ⟨k, ByteArray.empty, true⟩ from rfl] at f0 f1 f2
          simp only at d0 d1 d2 f0 f1 f2
          go_wp2_with (fail)
          go_quiet (fail)
          go_wp2_with (fail)
          go_roundw
          case rel => exact ⟨j + 1, HLT.out, by go_num, hid (HJ.out.trans (below_drewN _ _ _))⟩
          case measure => simp [intOf]; have := HLT.out; omega
        | false =>
          rw [show (Chg.norm ⟨k, u, false⟩) = ⟨k, u, false⟩ from rfl] at f0 f1 f2
          simp only at d0 d1 d2 f0 f1 f2
          go_wp2_with (fail)
          go_quiet (fail)
          go_wp2_with (fail)
          go_roundw
          case rel => exact ⟨j + 1, HLT.out, by go_num, hid (HJ.out.trans (below_drewN _ _ _))⟩
          case measure => simp [intOf]; have := HLT.out; omega
       ·have p1 : ¬ (j : Int) < (l.length : Int) := by omega
        clear hlt hj
        go_wp2_with (fail)
        go_ret
        exact ⟨rfl, HB11.out.trans (HJ.out.mono HB11.out.size)⟩
     ·have e9 : ((er : Int) != 0) = true := by simp; omega
      clear he
      go_wp2_with (fail)
      go_ret
      exact ⟨rfl, HB8.out.trans (HI.out.mono HB8.out.size)⟩
end
open Go.ChangeShapes Go.WideShapes Go.ChangeAt Go.RowKit
theorem Tryz.own : ownKnob Tryz.prog.godebug = none := by kernel_rfl
theorem Tryz.laidOut : laidOutB Tryz.prog = true := by kernel_rfl
theorem cellsStr : Tryz.prog.cellsOf 9 = 1 := by kernel_rfl
theorem cellsU8 : Tryz.prog.cellsOf 5 = 1 := by kernel_rfl
instance : Inhabited FOp := ⟨⟨0, 0, .empty, .empty, []⟩⟩
section
variable {H : Type} {enc : TypeId × Value → H} {W : World} {base : Nat} {spare : Nat → Bool} {held : Bool}
theorem spot_of_cell {a : Addr} {v : Value} (h : W.cell? a = some v) : a.spot = none := by
 unfold World.cell? at h
 split at h
 ·split at h
  ·simp at h
  ·rename_i hn; cases hs : a.spot with
   | none => rfl
   | some k => rw [hs] at hn; simp at hn
 ·simp at h
theorem add_plain {a : Addr} (h : a.spot = none) (n : Nat) : a.add n = ⟨a.block, a.off + n, none⟩ := by
 obtain ⟨b, o, sp⟩ := a
 have : sp = none := h
 subst this
 unfold Addr.add
 split
 ·rename_i h0; subst h0; rfl
 ·rfl
theorem bytes_open {n : Nat} {cs : List Value} {x : DataW H × List MemPlace} (h : DataW.trod enc Tryz.prog W base spare held n 23 cs = some x) :
 ∃ (a : Option Addr) (cap : Nat) (ys : List UInt8), cs = [.slice a ys.length cap] ∧ RdAt byteKind W (.slice a ys.length cap) ys ∧ ys.length ≤ 9223372036854775807 := by
 rcases open_ints Tryz.underlying23 Tryz.underlying5 cellsU8 h with ⟨hcs, _⟩ | ⟨a, len, cap, zs, hcs, _, hlc, hcm, hzl, _, hc, hw⟩
 ·exact ⟨none, 0, [], hcs, ⟨none, 0, rfl, fun j x hx => by simp at hx⟩, Nat.zero_le _⟩
 ·have hle : len ≤ zs.length := by rw [hzl]; split <;> omega
  have hl : ((zs.take len).map fun z => UInt8.ofNat z.toNat).length = len := by rw [List.length_map, List.length_take]; omega
  unfold maxLen at hcm
  refine ⟨some a, cap, (zs.take len).map fun z => UInt8.ofNat z.toNat, by rw [hl]; exact hcs, ⟨some a, cap, rfl, fun j x hx => ?_⟩, by omega⟩
  have hj : j < len := by
   have := (List.getElem?_eq_some_iff.1 hx).1
   omega
  have hcj := hc j (by omega)
  have hzj : zs[j]? = some (zs.getD j 0) := by
   have hjz : j < zs.length := by omega
   rw [List.getElem?_eq_getElem hjz, List.getD_eq_getElem?_getD, List.getElem?_eq_getElem hjz]; rfl
  have hwf := hw (zs.getD j 0) (List.mem_of_getElem? hzj)
  have hbd := bounds_u8 hwf
  have ex : x = UInt8.ofNat (zs.getD j 0).toNat := by
   rw [List.getElem?_map, List.getElem?_take_of_lt hj, hzj] at hx
   exact (Option.some.inj hx).symm
  have h0 : a.spot = none := by
   have := hc 0 (by omega)
   exact spot_of_cell (a := a) (by simpa [Addr.add] using this)
  rw [add_plain h0] at hcj
  have ea : a = ⟨a.block, a.off, none⟩ := by rw [← h0]
  refine ⟨a.block, a.off, by rw [← ea], fun i hi => ?_⟩
  have hi0 : i = 0 := by have : i < 1 := hi; omega
  subst hi0
  show W.cell? ⟨a.block, a.off + j * 1 + 0, none⟩ = some (.int .u8 (x.toNat : Int))
  rw [Nat.mul_one, Nat.add_zero, hcj, ex]
  congr 2
  have : (UInt8.ofNat (zs.getD j 0).toNat).toNat = (zs.getD j 0).toNat := by
   rw [UInt8.toNat_ofNat']; omega
  omega
end
section
variable {H : Type} {enc : TypeId × Value → H} {W : World} {base : Nat} {spare : Nat → Bool} {held : Bool}
theorem bytes_openc {n : Nat} {cs : List Value} {x : DataW H × List MemPlace} (h : DataW.trod enc Tryz.prog W base spare held n 23 cs = some x) :
 ∃ (a : Option Addr) (cap : Nat) (ys : List UInt8), cs = [.slice a ys.length cap] ∧ RdAt byteKind W (.slice a ys.length cap) ys ∧ ys.length ≤ cap ∧ cap ≤ 9223372036854775807 := by
 obtain ⟨a, cap, ys, hcs, hr, _⟩ := bytes_open h
 rcases open_ints Tryz.underlying23 Tryz.underlying5 cellsU8 h with ⟨hc2, _⟩ | ⟨a2, len, cap2, zs, hc2, _, hlc, hcm, _⟩
 ·rw [hcs] at hc2
  injection hc2 with e _
  injection e with _ e2 e3
  exact ⟨a, cap, ys, hcs, hr, by omega, by omega⟩
 ·rw [hcs] at hc2
  injection hc2 with e _
  injection e with _ e2 e3
  unfold maxLen at hcm
  exact ⟨a, cap, ys, hcs, hr, by omega, by omega⟩
theorem bytes_openc_top {r : Reach} {b0 : Nat} {v : Value} {d : DataW H} {p : List MemPlace} (hv : Value.okWide Tryz.prog W r b0 23 v) (h : DataW.Trod enc Tryz.prog W base spare held 23 v d p) :
 ∃ (a : Option Addr) (cap : Nat) (ys : List UInt8), v = .slice a ys.length cap ∧ RdAt byteKind W (.slice a ys.length cap) ys ∧ ys.length ≤ cap ∧ cap ≤ 9223372036854775807 := by
 obtain ⟨a0, l0, c0, rfl⟩ := okWide_slice Tryz.underlying23 hv
 obtain ⟨fuel, hf⟩ := h
 obtain ⟨a, cap, ys, e, hr, hy⟩ := bytes_openc hf
 have e : [Value.slice a0 l0 c0] = [Value.slice a ys.length cap] := e
 injection e with e _
 exact ⟨a, cap, ys, e, hr, hy⟩
end
theorem cellsChg : Tryz.prog.cellsOf 42 = 3 := by kernel_rfl
theorem cellsBool : Tryz.prog.cellsOf 4 = 1 := by kernel_rfl
instance instSlV2 : Inhabited SlV := ⟨⟨none, 0, 0⟩⟩
instance : Inhabited Chg := ⟨⟨.empty, .empty, false⟩⟩
theorem bulkPos {H : Type} (d : DataW H) : 1 ≤ Rows.uptoBulk d := by
 cases d with
 | lit l => cases l <;> simp [Rows.uptoBulk]
 | nil => simp [Rows.uptoBulk]
 | ptr d => simp [Rows.uptoBulk]
 | slice a b => simp [Rows.uptoBulk]
 | agg a => simp [Rows.uptoBulk]
 | iface a b => simp [Rows.uptoBulk]
 | map a => simp [Rows.uptoBulk]
 | held a => simp [Rows.uptoBulk]
theorem bulkLen {H : Type} : ∀ l : List (DataW H), l.length ≤ Rows.uptoBulkAll l
 | [] => by simp [Rows.uptoBulkAll]
 | d :: l => by
   have := bulkPos d
   have := bulkLen l
   simp only [Rows.uptoBulkAll, List.length_cons]
   omega
theorem bulkMem {H : Type} {d : DataW H} : ∀ {l : List (DataW H)}, d ∈ l → Rows.uptoBulk d ≤ Rows.uptoBulkAll l
 | x :: l, h => by
   simp only [Rows.uptoBulkAll]
   rcases List.mem_cons.1 h with e | e
   ·subst e; omega
   ·have := bulkMem e; omega
section
variable {H : Type} {enc : TypeId × Value → H} {W : World} {base : Nat} {spare : Nat → Bool} {held : Bool}
theorem chg_open {n : Nat} {cs : List Value} {x : DataW H × List MemPlace} (h : DataW.trod enc Tryz.prog W base spare held n 42 cs = some x) :
 ∃ c : Chg, cs = [.string c.key, .string c.val, .bool c.drop] ∧ c.key.size ≤ Rows.uptoBulk x.1 ∧ c.val.size ≤ Rows.uptoBulk x.1 := by
 obtain ⟨xs, m, _, ex, hl, hx, hf⟩ := DataW.trod_struct Tryz.underlying42 h
 have hl : cs.length = 3 := hl.trans cellsChg
 have hx : xs.length = 3 := hx
 obtain ⟨c0, c1, c2, rfl⟩ : ∃ c0 c1 c2, cs = [c0, c1, c2] := by
  match cs, hl with
  | [c0, c1, c2], _ => exact ⟨_, _, _, rfl⟩
 obtain ⟨y0, y1, y2, rfl⟩ : ∃ y0 y1 y2, xs = [y0, y1, y2] := by
  match xs, hx with
  | [c0, c1, c2], _ => exact ⟨_, _, _, rfl⟩
 have g0 : DataW.trod enc Tryz.prog W base spare held m 9 (([c0, c1, c2].drop 0).take (Tryz.prog.cellsOf 9)) = some y0 := hf 0 _ rfl
 rw [cellsStr] at g0
 have g1 : DataW.trod enc Tryz.prog W base spare held m 9 (([c0, c1, c2].drop 1).take (Tryz.prog.cellsOf 9)) = some y1 := hf 1 _ rfl
 rw [cellsStr] at g1
 have g2 : DataW.trod enc Tryz.prog W base spare held m 4 (([c0, c1, c2].drop 2).take (Tryz.prog.cellsOf 4)) = some y2 := hf 2 _ rfl
 rw [cellsBool] at g2
 obtain ⟨k, e0, z0, _⟩ := DataW.trod_string Tryz.underlying9 (x := y0) g0
 obtain ⟨v, e1, z1, _⟩ := DataW.trod_string Tryz.underlying9 (x := y1) g1
 obtain ⟨d, e2, z2⟩ := DataW.trod_bool Tryz.underlying4 (x := y2) g2
 injection e0 with e0 _
 injection e1 with e1 _
 injection e2 with e2 _
 subst e0 e1 e2
 refine ⟨⟨k, v, d⟩, rfl, ?_, ?_⟩
 ·rw [ex]
  have h1 := bulkMem (d := y0.1) (l := ([y0, y1, y2].map (·.1))) (by simp)
  rw [z0] at h1
  have e : (Rows.uptoBulk (.lit (.string k.data.toList) : DataW H)) = k.data.toList.length + 1 := by simp [Rows.uptoBulk]
  rw [e] at h1
  have e2 : k.data.toList.length = k.size := rfl
  show k.size ≤ Rows.uptoBulk (.agg _)
  simp only [Rows.uptoBulk]
  rw [z0]
  omega
 ·rw [ex]
  have h1 := bulkMem (d := y1.1) (l := ([y0, y1, y2].map (·.1))) (by simp)
  rw [z1] at h1
  have e : (Rows.uptoBulk (.lit (.string v.data.toList) : DataW H)) = v.data.toList.length + 1 := by simp [Rows.uptoBulk]
  rw [e] at h1
  have e2 : v.data.toList.length = v.size := rfl
  show v.size ≤ Rows.uptoBulk (.agg _)
  simp only [Rows.uptoBulk]
  rw [z1]
  omega
theorem chgs_open {n : Nat} {cs : List Value} {x : DataW H × List MemPlace} (h : DataW.trod enc Tryz.prog W base spare held n 22 cs = some x) :
 ∃ (a : Option Addr) (cap : Nat) (l : List Chg), cs = [.slice a l.length cap] ∧ RdAt chgKind W (.slice a l.length cap) l ∧ l.length ≤ Rows.uptoBulk x.1 ∧ ∀ c ∈ l, c.key.size ≤ Rows.uptoBulk x.1 ∧ c.val.size ≤ Rows.uptoBulk x.1 := by
 rcases Go.Deep.open_slice Tryz.underlying22 h with ⟨hcs, _⟩ | ⟨a, len, cap, m, nn, D, Pl, hcs, _, hl, hm, hmm, hx, hi⟩
 ·exact ⟨none, 0, [], hcs, ⟨none, 0, rfl, fun j x hx => by simp at hx⟩, Nat.zero_le _, fun c hc => by simp at hc⟩
 ·have hlm : len ≤ m := by rw [hmm]; split <;> omega
  have cell : ∀ i, i < len → ∃ c : Chg, W.cell? ((a.add (i * 3)).add 0) = some (.string c.key) ∧ W.cell? ((a.add (i * 3)).add 1) = some (.string c.val) ∧ W.cell? ((a.add (i * 3)).add 2) = some (.bool c.drop) ∧ c.key.size ≤ Rows.uptoBulk (D i) ∧ c.val.size ≤ Rows.uptoBulk (D i) := by
   intro i hil
   obtain ⟨cs', hc, ht⟩ := hi i (by omega)
   rw [cellsChg] at hc
   obtain ⟨c, rfl, b1, b2⟩ := chg_open ht
   obtain ⟨_, _, hat⟩ := World.cells?_some hc
   exact ⟨c, hat 0 (by omega), hat 1 (by omega), hat 2 (by omega), b1, b2⟩
  obtain ⟨f, hf⟩ := Go.Deep.choose_lt cell
  have hlen : ((List.range len).map f).length = len := by rw [List.length_map, List.length_range]
  have hbulk : Rows.uptoBulkAll ((List.range len).map D) ≤ Rows.uptoBulk x.1 := by
   rw [hx]
   simp only [Rows.uptoBulk]
   omega
  refine ⟨some a, cap, (List.range len).map f, by rw [hlen]; exact hcs, ⟨some a, cap, by rw [hlen], fun j x hxj => ?_⟩, ?_, fun c hc => ?_⟩
  ·have hj : j < len := by
    have := (List.getElem?_eq_some_iff.1 hxj).1
    omega
   have ex : x = f j := by
    rw [List.getElem?_map, List.getElem?_range hj] at hxj
    exact (Option.some.inj hxj).symm
   subst ex
   obtain ⟨z0, _⟩ := hf 0 (by omega)
   have sp : a.spot = none := spot_of_cell z0
   obtain ⟨k0, k1, k2, _⟩ := hf j hj
   have e : ∀ u, (a.add (j * 3)).add u = ⟨a.block, a.off + j * 3 + u, none⟩ := fun u => by
    rw [add_plain sp (j * 3)]
    exact add_plain rfl u
   rw [e] at k0 k1 k2
   refine ⟨a.block, a.off, ?_, fun i hi3 => ?_⟩
   ·have := add_plain sp 0
    rw [show a.add 0 = a from rfl] at this
    rw [this]
   ·have hi3 : i < 3 := hi3
    match i, hi3 with
    | 0, _ => exact k0
    | 1, _ => exact k1
    | 2, _ => exact k2
  ·have h1 := bulkLen ((List.range len).map D)
   rw [List.length_map, List.length_range] at h1
   rw [hlen]
   omega
  ·obtain ⟨j, hj⟩ := List.getElem?_of_mem hc
   have hj2 : j < len := by
    have := (List.getElem?_eq_some_iff.1 hj).1
    omega
   have ex : c = f j := by
    rw [List.getElem?_map, List.getElem?_range hj2] at hj
    exact (Option.some.inj hj).symm
   obtain ⟨_, _, _, b1, b2⟩ := hf j hj2
   have h2 := bulkMem (d := D j) (l := (List.range len).map D) (List.mem_map.2 ⟨j, List.mem_range.2 hj2, rfl⟩)
   rw [ex]
   omega
theorem chgs_top {r : Reach} {b0 : Nat} {v : Value} {d : DataW H} {p : List MemPlace} (hv : Value.okWide Tryz.prog W r b0 22 v) (h : DataW.Trod enc Tryz.prog W base spare held 22 v d p) (hb : Rows.uptoBulk d ≤ 1048576) :
 ∃ l : List Chg, RdAt chgKind W v l ∧ l.length ≤ 1048576 ∧ ∀ c ∈ l, c.key.size ≤ 1048576 ∧ c.val.size ≤ 1048576 := by
 obtain ⟨a0, l0, c0, rfl⟩ := okWide_slice Tryz.underlying22 hv
 obtain ⟨fuel, hf⟩ := h
 obtain ⟨a, cap, l, e, hr, h1, h2⟩ := chgs_open hf
 have e : [Value.slice a0 l0 c0] = [Value.slice a l.length cap] := e
 injection e with e _
 rw [e]
 have h1 : l.length ≤ Rows.uptoBulk d := h1
 have h2 : ∀ c ∈ l, c.key.size ≤ Rows.uptoBulk d ∧ c.val.size ≤ Rows.uptoBulk d := h2
 exact ⟨l, hr, by omega, fun c hc => by have := h2 c hc; omega⟩
end
end Go.Proofs.YtagdchgkjjpacaaGreat
