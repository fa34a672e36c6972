/- The walk of the statement StoreFull. -/
import Derived.Test.YtagdchgkjjpacaaGreatZjw
import Derived.Deep.DeepCutAuto
set_option maxRecDepth 100000
open Go.Lib (hid)
set_option linter.unusedSimpArgs false
set_option linter.unusedVariables false
set_option linter.unusedSectionVars false
namespace Go.Proofs.YtagdchgkjjpacaaGreat
open Go.RowKit Go.Shelf
def FuP (w : World) (fb : Nat) (dir : ByteArray) (size : Int) (lb sb tb n V : Nat) (M : Prs) (pv : Value) (wr : World) : Prop :=
 ∃ F S s, Sto w wr fb dir size n n V F S lb sb tb s ∧ F.armed = 0 ∧ s.all = M ∧ SlAt prKind 85 wr pv M ∧ ∀ g, pv.ownBlock = some g → w.heap.size ≤ g
section
variable {w : World}
set_option maxHeartbeats 16000000 in
theorem l_storeFull {u : Value} {ls : List (List Chg)} (hl : BatsAt w u ls) (size cap0 : Int) (hc1 : -9223372036854775808 ≤ cap0) (hc2 : cap0 ≤ 9223372036854775807) :
 Calls Tryz.prog 5 #[.int .i64 size, .int .i64 cap0, u] w fun e w' => e = .returned (.bool true) ∧ Below w.heap.size w w' := by
 obtain ⟨a0, c0, rfl⟩ := hl.shape
 have HL := hid hl
 have HC := hid (And.intro hc1 hc2)
 clear hl hc1 hc2
 go_enter Tryz.func5, Tryz.ntmps5
 go_wp2_with (fail)
 refine (x_sfirst w).mono ?_
 rintro e w1 ⟨rfl, hb1⟩
 have HB1 := hid hb1
 clear hb1
 go_wp2_with (fail)
 refine (x_fewB (HL.out.below HB1.out)).mono ?_
 rintro e w2 ⟨bb, rfl, hbf, hb2⟩
 have HB2 : Hid (Below w.heap.size w w2) := hid (HB1.out.trans (hb2.mono HB1.out.size))
 clear hb2
 cases bb with
 | false =>
   clear hbf
   go_wp2_with (fail)
   go_ret
   exact ⟨rfl, HB2.out⟩
 | true =>
   have HFEW : Hid (FewB ls) := hid (hbf rfl)
   have hm : (ls.length : Int) ≤ 40 := by have := HFEW.out.len; omega
   clear hbf
   by_cases h16 : size < 16
   ·go_wp2_with (fail)
    go_ret
    exact ⟨rfl, HB2.out⟩
   by_cases h20 : (1048576 : Int) < size
   ·go_wp2_with (fail)
    go_ret
    exact ⟨rfl, HB2.out⟩
   by_cases hc0 : cap0 < 0
   ·go_wp2_with (fail)
    go_ret
    exact ⟨rfl, HB2.out⟩
   have HSZ : Hid (16 ≤ size ∧ size ≤ 1048576) := hid (by omega)
   go_wp2_with (fail)
   clear h16 h20 hc0
   refine (f_new cap0 HC.out.1 HC.out.2).mono ?_
   rintro e w3 ⟨fb, rfl, hf, hb⟩
   have HF : Hid (Hd w w3 fb (FsS.new cap0) 0 (New w2 w3 fun _ => False)) := hid ⟨hf, fun i e => by rcases e with e | e; exact e.elim; have := HB2.out.size; omega, HB2.out.trans (hb.mono HB2.out.size), FsOk.new0 cap0⟩
   clear hf hb
   go_wp2_with (fail)
   refine (open_fresh (c := 0) HF.out (by omega) (fun k x hx => by cases hx) dirS_db HSZ.out.1 HSZ.out.2 rfl rfl (by show (0 : Nat) ≤ 5; decide) (by show (0 : Int) ≤ 810000; decide)).mono ?_
   rintro e w4 ⟨G, T, lb, sb, tb, s, rfl, hsto, hall, hseq, hcalm, hroom, hkp, hlow, -, -⟩
   have HI : Hid (FuP w fb nmDb size lb sb tb 1 0 [] (.slice none 0 0) w4) := hid ⟨G, T, s, hsto, hcalm, hall, SlAt.nil, fun g hg => by simp [Value.ownBlock] at hg⟩
   clear hsto hall hseq hcalm hroom hkp hlow HF
   go_wp2_with (first | (go_at_call 19; refine (r_num _ _).mono ?_; rintro e w' ⟨rfl, rfl⟩))
   go_loopw [12, 13] (fun pv iv wr => ∃ (i : Nat) (pa : Option Addr) (pc : Nat) (M : Prs), i ≤ ls.length ∧ iv = .int .i64 (i : Int) ∧ pv = .slice pa M.length pc ∧ Hid (FuP w fb nmDb size lb sb tb (1 + 2 * i) (batsV ls i) M (.slice pa M.length pc) wr)) (fun _ iv _ => ls.length - (intOf iv).toNat)
   case atStart => exact ⟨0, none, 0, [], Nat.zero_le _, rfl, rfl, by rw [batsV_zero]; exact HI⟩
   case round =>
    clear HI
    obtain ⟨i, pa, pc, M, hi, rfl, rfl, HX⟩ := hrel
    obtain ⟨F, S, s, hst, hcalm, hall, hwant, hown⟩ := HX.out
    have HST := hid hst
    have HCALM := hid hcalm
    have HALL := hid hall
    have HWANT := hid hwant
    have HOWN := hid hown
    have q0 : (0 : Int) ≤ (i : Int) := by omega
    clear hst hcalm hall hwant hown
    by_cases hlt : i < ls.length
    ·have q1 : (i : Int) < (ls.length : Int) := by omega
     obtain ⟨l, hli⟩ : ∃ l, ls[i]? = some l := ⟨_, List.getElem?_eq_getElem hlt⟩
     obtain ⟨g, off, cap, la, lc, hv, hc, hrd⟩ := HL.out.at_ hli
     injection hv with hv _ hv3
     subst hv hv3
     have HLT := hid hlt
     have HLI := hid hli
     have HRD := hid hrd
     have HEA := hid (HL.out.each l (List.mem_of_getElem? hli))
     have HCELL : Hid (∀ W, Below w.heap.size w W → W.cell? ⟨g, off + i, none⟩ = some (.slice la l.length lc)) := hid fun W hW => (hW.cell (p := ⟨g, off + i, none⟩) (World.block_lt_of_cell? w _ hc)).trans hc
     have hc1 := HCELL.out _ HST.out.db.lg.hd.below
     have hi40 : i < 40 := by have := HFEW.out.len; omega
     have HI40 := hid hi40
     clear hli hc hrd hlt hi hi40
     go_wp2_with (fail)
     refine (HST.out.write dirS_db (by have := HI40.out; omega) (by have := HI40.out; omega) HRD.out HEA.out.1).mono ?_
     rintro e w5 ⟨rfl, ho, hp⟩
     obtain ⟨R, hR⟩ : ∃ R, R = writeS s F l := ⟨_, rfl⟩
     rw [← hR] at ho hp ⊢
     have h5 := ho.calm HCALM.out
     obtain ⟨⟨S5, hst5, hS5⟩, hca5, hro5, hcs⟩ := HST.out.wrote (by have := HI40.out; omega) (HFEW.out.bat HLI.out) ho hp h5
     have HW5 := hid (want_keeps HST.out.db HWANT.out hp.keeps)
     rw [← batsV_next HLI.out] at hst5
     have HST5 := hid hst5
     have HCA5 := hid (hca5 HCALM.out)
     obtain ⟨r, hr⟩ : ∃ r, r = R.2.2 := ⟨_, rfl⟩
     rw [← hr] at hcs ⊢
     have HCS := hid hcs
     clear hR ho hp h5 hst5 hS5 hca5 hro5 hcs hr hc1
     go_wp2_with (first | (go_at_call 19; refine (r_num _ _).mono ?_; rintro e w' ⟨rfl, rfl⟩))
     rename World => w5
     have HSQ : Hid (∀ X, Below w5.heap.size w5 X → Calls Tryz.prog 32 #[.pointer (some ⟨sb, 0, none⟩)] X fun e w' => e = .returned (.int .i64 (R.1.seq : Int)) ∧ Below X.heap.size X w') := hid fun X hX => so_seq (HST5.out.below hX).db.st.blk
     have HCH : Hid (∀ X, Below w.heap.size w X → Calls Tryz.prog 14 #[.slice la l.length lc] X fun e w' => ∃ va vc, e = .returned (.slice va l.length vc) ∧ NewSl chgKind 43 X w' (.slice va l.length vc) l) := hid fun X hX => x_changes (HRD.out.below hX) (by have := HEA.out.1; omega)
     have HEN : Hid (∀ X va vc, RdAt chgKind X (.slice va l.length vc) l → Calls Tryz.prog 13 #[.int .i64 ((R.1.seq : Int) + 1), .slice va l.length vc] X fun e w' => ∃ ba bl bc, e = .returned (.tuple #[.slice ba bl bc, .int .i64 ((encB ((R.1.seq : Int) + 1) l).2 : Int)]) ∧ Below X.heap.size X w') := hid fun X va vc hX => by
      refine (d_encode hX HEA.out.1 HEA.out.2 ((R.1.seq : Int) + 1) (by have := HST5.out.on.nq; have := HST5.out.on.n1; omega)).mono ?_
      rintro e w' ⟨bv, rfl, hf⟩
      obtain ⟨ba, bc, e2⟩ := hf.out.sl.shape
      subst e2
      exact ⟨ba, _, bc, rfl, hf.out.below⟩
     have HSM : Hid (IntKind.i64.wrap ((R.1.seq : Int) + 1) = (R.1.seq : Int) + 1 ∧ wrap64 ((R.1.seq : Int) + 1) = (R.1.seq : Int) + 1) := hid ⟨IntWalk.i64_in _ (by have := HST5.out.on.nq; have := HST5.out.on.n1; omega), IntWalk.wrap64_in _ (by have := HST5.out.on.nq; have := HST5.out.on.n1; omega)⟩
     obtain ⟨sq, hsq⟩ : ∃ z : Int, z = (R.1.seq : Int) := ⟨_, rfl⟩
     rw [← hsq] at HSQ HEN HSM
     have hs1 := HSM.out.1
     have hs2 := HSM.out.2
     have HY : Hid ((encB (sq + 1) l).2 = (encB ((s.seq : Int) + 1) l).2) := hid (by rw [hsq]; exact encB_code _ _ _)
     obtain ⟨y, hy⟩ : ∃ y, y = (encB (sq + 1) l).2 := ⟨_, rfl⟩
     rw [← hy] at HEN HY
     have HB5 := hid HST5.out.db.lg.hd.below
     have hc5 := HCELL.out _ HB5.out
     clear hsq hy
     go_cut [15, 16] (fun _ yv wd => yv = .int .i64 (y : Int) ∧ Hid (Below w5.heap.size w5 wd))
     case first =>
      go_region_law (first
       | (go_simp; go_at_call 32; refine (HSQ.out _ (Below.refl _ _).drew).mono ?_; rintro e w6 ⟨rfl, g1⟩
          have HG1 : Hid (Below w5.heap.size w5 w6) := hid ((Below.refl _ _).drew.trans (g1.mono (by simp)))
          have hc6 := HCELL.out w6 (HB5.out.trans (HG1.out.mono HB5.out.size))
          clear g1)
       | (go_simp; go_at_call 14; refine (HCH.out _ (HB5.out.trans (HG1.out.mono HB5.out.size))).mono ?_; rintro e w7 ⟨va, vc, rfl, g2⟩
          have HG2 : Hid (Below w5.heap.size w5 w7) := hid (HG1.out.trans (g2.below.mono HG1.out.size))
          have HR2 := hid g2.sl.rd
          clear g2)
       | (go_simp; go_at_call 13; refine (HEN.out _ _ _ HR2.out).mono ?_; rintro e w8 ⟨ba, bl, bc, rfl, g3⟩
          have HG3 : Hid (Below w5.heap.size w5 w8) := hid (HG2.out.trans (g3.mono HG2.out.size))
          clear g3))
      all_goals
       go_wp2_with (fail)
       go_meet
       exact ⟨rfl, HG3⟩
     case rest =>
      obtain ⟨rfl, HBC⟩ := hcut
      obtain ⟨M2, hM2⟩ : ∃ M2, M2 = R.1.all := ⟨_, rfl⟩
      have HCS2 : Hid ((r = (y : Int) ∧ y ≠ 0 ∧ M2 = M) ∨ (r = 0 ∧ M2 = applyB M l) ∨ (r = 4 ∧ y = 0 ∧ M2 = M)) := hid (by
       rcases HCS.out with ⟨h1, h2, h3, _⟩ | ⟨h1, h2, h3, _⟩ | ⟨h1, h2, h3, _⟩
       ·rw [← HY.out] at h1
        exact .inl ⟨h1, by omega, by rw [hM2, h3, HALL.out]⟩
       ·exact .inr (.inl ⟨h1, by rw [hM2, h3, HALL.out]⟩)
       ·exact .inr (.inr ⟨h1, by rw [HY.out]; exact h2, by rw [hM2, h3, HALL.out]⟩))
      have HM2 := hid hM2
      have HSTC := hid (HST5.out.below HBC.out)
      have HWC := hid (HW5.out.below HBC.out)
      have HBW := hid HSTC.out.db.lg.hd.below
      have HMR : Hid (Rise slt M ∧ M.length ≤ 450000) := hid (by
       have h1 := HST.out.on.fit
       rw [HALL.out] at h1
       have := HST.out.on.nq
       have := HST.out.on.n1
       exact ⟨h1.ok.1, by have := h1.len; omega⟩)
      have hcc := HCELL.out _ HBW.out
      clear hM2 HCS HSQ HEN HSM hs1 hs2 hc5 HY HX HST HALL HWANT HCALM
      go_upto_if 84 with (fail)
      go_cut [12] (fun pv wd => ∃ (pa2 : Option Addr) (pc2 : Nat), pv = .slice pa2 M2.length pc2 ∧ Hid (Below wc.heap.size wc wd) ∧ Hid (SlAt prKind 85 wd (.slice pa2 M2.length pc2) M2 ∧ ∀ g, (Value.slice pa2 M2.length pc2).ownBlock = some g → w.heap.size ≤ g))
      case first =>
       rcases HCS2.out with ⟨h1, h2, h3⟩ | ⟨h1, h3⟩ | ⟨h1, h2, h3⟩
       ·subst h1 h3
        have z0 : ((y : Int) == 0) = false := by simp; omega
        clear h2
        go_wp2_with (fail)
        go_meet
        exact ⟨_, _, rfl, hid (Below.refl _ _), hid ⟨HWC.out, HOWN.out⟩⟩
       ·subst h1
        have HAP := hid h3
        clear h3
        go_wp2_with (fail)
        refine (HCH.out _ HBW.out).mono ?_
        rintro e w7 ⟨va, vc, rfl, hn7⟩
        have HN7 := hid hn7
        clear hn7
        go_wp2_with (fail)
        refine (d_apply (HWC.out.below HN7.out.below) HN7.out.sl.rd HMR.out.1 (by have := HMR.out.2; have := HEA.out.1; omega)).mono ?_
        rintro e w8 ⟨vb, vd, rfl, h8, h9, h10⟩
        rw [← HAP.out] at h8 h9 ⊢
        have HFIN : Hid (Below wc.heap.size wc w8) := hid (HN7.out.below.trans (h10.mono HN7.out.below.size))
        have HOW : Hid (SlAt prKind 85 w8 (.slice vb M2.length vd) M2 ∧ ∀ g, (Value.slice vb M2.length vd).ownBlock = some g → w.heap.size ≤ g) := hid ⟨h8, fun g hg => by
         rcases h9 g hg with e | e
         ·exact HOWN.out g e
         ·have := HN7.out.below.size; have := HBW.out.size; omega⟩
        clear h8 h9 h10
        go_wp2_with (fail)
        go_meet
        exact ⟨_, _, rfl, HFIN, HOW⟩
       ·subst h1 h2 h3
        go_wp2_with (fail)
        go_meet
        exact ⟨_, _, rfl, hid (Below.refl _ _), hid ⟨HWC.out, HOWN.out⟩⟩
      case rest =>
       obtain ⟨pa2, pc2, rfl, HBD, HWD⟩ := hcut
       have HST6 := hid (HSTC.out.below HBD.out)
       clear HSTC HBD HWC HW5 HST5 hcc
       go_wp2_with (fail)
       refine (HST6.out.chk dirS_db (by have := HI40.out; omega) (by have := HI40.out; omega) (HFEW.out.small _)).mono ?_
       rintro e w9 ⟨rfl, ho, hp⟩
       obtain ⟨R2, hR2⟩ : ∃ R2, R2 = chkS R.1 R.2.1 := ⟨_, rfl⟩
       rw [← hR2] at ho hp ⊢
       have h5 := ho.calm HCA5.out
       obtain ⟨⟨S9, hst9, -⟩, hca9, hro9, hall9, hseq9, hcs9⟩ := HST6.out.ckpt (by have := HI40.out; omega) (HFEW.out.small _) ho hp h5
       have HW9 := hid (want_keeps HST6.out.db HWD.out.1 hp.keeps)
       have HST9 := hid hst9
       have HCA9 := hid (hca9 HCA5.out)
       have HALL9 : Hid (R2.1.all = M2) := hid (by rw [hall9, HM2.out])
       obtain ⟨z, hz⟩ : ∃ z, z = R2.2.2 := ⟨_, rfl⟩
       have HZ : Hid (z = 0 ∨ z = 4) := hid (by
        rcases hcs9 with ⟨h, _⟩ | ⟨h, _⟩
        ·exact .inl (hz.trans h)
        ·exact .inr (hz.trans h))
       rw [← hz]
       have HMB : Hid (R2.1.all.length ≤ 1000000000 ∧ M2.length ≤ 1000000000) := hid (by
        have h1 := HST9.out.on.fit.len
        have h2 := HST9.out.on.nq
        have h3 := HST9.out.on.n1
        have h4 : M2.length = R2.1.all.length := by rw [HALL9.out]
        omega)
       clear hR2 ho hp h5 hst9 hca9 hro9 hall9 hseq9 hcs9 hz
       rename World => w9
       have HSAME : Hid (Calls Tryz.prog 34 #[.pointer (some ⟨sb, 0, none⟩), .slice pa2 M2.length pc2] w9 fun e w' => e = .returned (.bool true) ∧ Below w9.heap.size w9 w') := hid (by
        have h := x_same HST9.out.db.st HW9.out.rd HMB.out.1 HMB.out.2
        rw [decide_eq_true HALL9.out] at h
        exact h)
       rcases HZ.out with hz | hz
       ·subst hz
        go_wp2_with (first | (go_at_call 19; refine (r_num _ _).mono ?_; rintro e w' ⟨rfl, rfl⟩))
        refine HSAME.out.mono ?_
        rintro e w10 ⟨rfl, hb10⟩
        have HFIN : Hid (FuP w fb nmDb size lb sb tb (1 + 2 * (i + 1)) (batsV ls (i + 1)) M2 (.slice pa2 M2.length pc2) w10) := hid (by
         rw [show 1 + 2 * (i + 1) = 1 + 2 * i + 1 + 1 from by omega]
         exact ⟨_, _, _, HST9.out.below hb10, HCA9.out, HALL9.out, HW9.out.below hb10, HWD.out.2⟩)
        clear hb10
        go_wp2_with (fail)
        go_roundw
        case rel => exact ⟨i + 1, pa2, pc2, M2, by have := HLT.out; omega, by go_num, rfl, HFIN⟩
        case measure => simp [intOf]; have := HLT.out; omega
       ·subst hz
        go_wp2_with (first | (go_at_call 19; refine (r_num _ _).mono ?_; rintro e w' ⟨rfl, rfl⟩))
        refine HSAME.out.mono ?_
        rintro e w10 ⟨rfl, hb10⟩
        have HFIN : Hid (FuP w fb nmDb size lb sb tb (1 + 2 * (i + 1)) (batsV ls (i + 1)) M2 (.slice pa2 M2.length pc2) w10) := hid (by
         rw [show 1 + 2 * (i + 1) = 1 + 2 * i + 1 + 1 from by omega]
         exact ⟨_, _, _, HST9.out.below hb10, HCA9.out, HALL9.out, HW9.out.below hb10, HWD.out.2⟩)
        clear hb10
        go_wp2_with (fail)
        go_roundw
        case rel => exact ⟨i + 1, pa2, pc2, M2, by have := HLT.out; omega, by go_num, rfl, HFIN⟩
        case measure => simp [intOf]; have := HLT.out; omega
    ·have q1 : ¬ (i : Int) < (ls.length : Int) := by omega
     have HI40 : Hid (i ≤ 40) := hid (by have := HFEW.out.len; omega)
     go_wp2_with (fail)
     refine (open_calm HST.out.db.lg.hd (HST.out.dir ▸ HST.out.on.disk) dirS_db HSZ.out.1 HSZ.out.2 HST.out.on.up (by have := HI40.out; omega) HCALM.out HST.out.few HST.out.used HST.out.wt).mono ?_
     rintro e w5 ⟨G5, T5, lb5, sb5, tb5, s5, rfl, hst5, hall5, hseq5, hca5, hro5, hkp5, hlow5, hstp5⟩
     have HST5 := hid hst5
     have HALL5 : Hid (s5.all = M) := hid (by rw [hall5, HALL.out])
     have HW5 := hid (want_keeps HST.out.db HWANT.out (hkp5.mono fun i _ e => .inl e.1))
     have HSAME : Hid (Calls Tryz.prog 34 #[.pointer (some ⟨sb5, 0, none⟩), .slice pa M.length pc] w5 fun e w' => e = .returned (.bool true) ∧ Below w5.heap.size w5 w') := hid (by
      have h1 := hst5.on.fit.len
      have h2 := hst5.on.nq
      have h3 := hst5.on.n1
      have h4 : M.length = s5.all.length := by rw [HALL5.out]
      have h := x_same hst5.db.st HW5.out.rd (by omega) (by omega)
      rw [decide_eq_true HALL5.out] at h
      exact h)
     have HB5 := hid hst5.db.lg.hd.below
     clear hst5 hall5 hseq5 hca5 hro5 hkp5 hlow5 hstp5
     go_wp2_with (first | (go_at_call 19; refine (r_num _ _).mono ?_; rintro e w' ⟨rfl, rfl⟩))
     refine HSAME.out.mono ?_
     rintro e w6 ⟨rfl, hb6⟩
     have HE := hid (HB5.out.trans (hb6.mono HB5.out.size))
     clear hb6
     go_wp2_with (fail)
     go_ret
     exact ⟨rfl, HE.out⟩
end
end Go.Proofs.YtagdchgkjjpacaaGreat
