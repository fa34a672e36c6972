/- The walk of the statement StoreWhole. -/
import Derived.Test.YtagdchgkjjpacaaGreatw47
set_option maxRecDepth 100000
open Go.Lib (hid)
set_option linter.unusedSimpArgs false
set_option linter.unusedVariables false
set_option linter.unusedSectionVars false
namespace Go.Proofs.YtagdchgkjjpacaaGreat
open Go.RowKit Go.Shelf
structure WhO (w : World) (fb : Nat) (size : Int) (n c V sb : Nat) (M : Prs) (pv : Value) (wr : World) : Prop where
 up : ∃ F S s lb tb, StV w wr fb nmDb size n c V F S lb sb tb s ∧ s.all = M ∧ F.armed = 0
 sl : SlAt prKind 85 wr pv M
 own : ∀ g, pv.ownBlock = some g → w.heap.size ≤ g
theorem WhO.wh {w : World} {fb n c V sb : Nat} {size : Int} {M : Prs} {pv : Value} {wr : World} (h : WhO w fb size n c V sb M pv wr) : WhUp w fb size n c V sb M wr := by
 obtain ⟨F, S, s, lb, tb, h1, h2, h3⟩ := h.up
 exact ⟨F, S, s, lb, tb, h1, h2⟩
def WhS (w : World) (fb : Nat) (size : Int) (n c V sb : Nat) (M M' : Prs) (wr : World) : Prop := WhUp w fb size n c V sb M wr ∧ M' = M ∨ WhDn w fb n c V M M' wr
theorem WhUp.rise {w : World} {fb n c V sb : Nat} {size : Int} {M : Prs} {wr : World} (h : WhUp w fb size n c V sb M wr) : Rise slt M ∧ M.length ≤ 450000 := by
 obtain ⟨F, S, s, lb, tb, h1, h2⟩ := h
 have h3 := h1.on.fit.ok.1
 have h4 := h1.on.small
 rw [h2] at h3 h4
 exact ⟨h3, h4⟩
theorem WhUp.same {w : World} {fb n c V sb : Nat} {size : Int} {M want : Prs} {wr : World} {v : Value} (h : WhUp w fb size n c V sb M wr) (hv : RdAt prKind wr v want) (hw : want.length ≤ 1000000000) :
 Calls Tryz.prog 34 #[.pointer (some ⟨sb, 0, none⟩), v] wr fun e w' => e = .returned (.bool (decide (M = want))) ∧ Below wr.heap.size wr w' := by
 have hr := h.rise.2
 obtain ⟨F, S, s, lb, tb, h1, h2⟩ := h
 have := x_same h1.db.st hv (by rw [h2]; omega) hw
 rwa [h2] at this
structure WhB (w : World) (cb : Nat) (x : SCr) (M M' : Prs) (pv mv : Value) (wr : World) : Prop where
 sl : SlAt prKind 85 wr pv M
 own : ∀ g, pv.ownBlock = some g → w.heap.size ≤ g
 sm : SlAt prKind 85 wr mv M'
 ownm : ∀ g, mv.ownBlock = some g → w.heap.size ≤ g
 box : IsBlk wr cb #[.int .i64 x.arm, .int .i64 x.keep, .bool x.chk] 73
theorem WhB.keep {w : World} {cb : Nat} {x : SCr} {M M' : Prs} {pv mv : Value} {wr w' : World} (h : WhB w cb x M M' pv mv wr) (k : KeepO wr w') : WhB w cb x M M' pv mv w' :=
 ⟨k.sl h.sl, h.own, k.sl h.sm, h.ownm, k _ _ _ h.box (by decide)⟩
theorem eg_who1 : ∀ args w, (callFunc 38 args).run Tryz.prog w = .ok (.enter 38 args) w := enters_of Tryz.func38 (P := Tryz.prog) (by kernel_rfl) rfl
section
variable {w : World}
set_option maxHeartbeats 16000000 in
theorem l_storeWhole {u : Value} {ls : List (List Chg)} (hl : BatsAt w u ls) (size cap0 : Int) (hc1 : -9223372036854775808 ≤ cap0) (hc2 : cap0 ≤ 9223372036854775807) {v3 v4 : Value} {cs ms : List SCr} (h3 : CrsAt w v3 cs) (h4 : CrsAt w v4 ms) (hcl : cs.length ≤ 1048576) (hml : ms.length ≤ 1048576) :
 Calls Tryz.prog 8 #[.int .i64 size, .int .i64 cap0, u, v3, v4] w fun e w' => e = .returned (.bool true) ∧ Below w.heap.size w w' := by
 obtain ⟨a0, c0, rfl⟩ := hl.shape
 have HL := hid hl
 have HC := hid (And.intro hc1 hc2)
 have H3 := hid h3
 have H4 := hid h4
 obtain ⟨a3, c3, rfl, -⟩ := h3.rd
 obtain ⟨a4, c4, rfl, -⟩ := h4.rd
 have hclI : (cs.length : Int) ≤ 1048576 := by omega
 have hmlI : (ms.length : Int) ≤ 1048576 := by omega
 clear hl hc1 hc2 h3 h4 hcl hml
 go_enter Tryz.func8, Tryz.ntmps8
 go_wp2_with (fail)
 refine (x_sfirst w).mono ?_
 rintro e w1 ⟨rfl, hb1⟩
 have HB1 := hid hb1
 clear hb1
 go_wp2_with (fail)
 refine (x_fewB (HL.out.below HB1.out)).mono ?_
 rintro e w2 ⟨bb, rfl, hbf, hb2⟩
 have HB2 : Hid (Below w.heap.size w w2) := hid (HB1.out.trans (hb2.mono HB1.out.size))
 clear hb2
 cases bb with
 | false =>
   clear hbf
   go_wp2_with (fail)
   go_ret
   exact ⟨rfl, HB2.out⟩
 | true =>
   have HFEW : Hid (FewB ls) := hid (hbf rfl)
   have hm : (ls.length : Int) ≤ 40 := by have := HFEW.out.len; omega
   clear hbf
   by_cases g3 : (10 : Int) < (cs.length : Int)
   ·go_wp2_with (fail)
    go_ret
    exact ⟨rfl, HB2.out⟩
   by_cases g4 : (10 : Int) < (ms.length : Int)
   ·go_wp2_with (fail)
    go_ret
    exact ⟨rfl, HB2.out⟩
   by_cases h16 : size < 16
   ·go_wp2_with (fail)
    go_ret
    exact ⟨rfl, HB2.out⟩
   by_cases h20 : (1048576 : Int) < size
   ·go_wp2_with (fail)
    go_ret
    exact ⟨rfl, HB2.out⟩
   by_cases hc0 : cap0 < 0
   ·go_wp2_with (fail)
    go_ret
    exact ⟨rfl, HB2.out⟩
   have HSZ : Hid (16 ≤ size ∧ size ≤ 1048576) := hid (by omega)
   have HCL : Hid (cs.length ≤ 10 ∧ ms.length ≤ 10) := hid (by omega)
   go_wp2_with (fail)
   have hcl10 : (cs.length : Int) ≤ 10 := by omega
   have hcl0 : (0 : Int) ≤ (cs.length : Int) := by omega
   clear h16 h20 hc0 g3 g4 hclI hmlI
   refine (f_new cap0 HC.out.1 HC.out.2).mono ?_
   rintro e w3 ⟨fb, rfl, hf, hb⟩
   have HF : Hid (Hd w w3 fb (FsS.new cap0) 0 (New w2 w3 fun _ => False)) := hid ⟨hf, fun i e => by rcases e with e | e; exact e.elim; have := HB2.out.size; omega, HB2.out.trans (hb.mono HB2.out.size), FsOk.new0 cap0⟩
   clear hf hb
   go_wp2_with (fail)
   refine (open_fresh (c := 0) HF.out (by omega) (fun k x hx => by cases hx) dirS_db HSZ.out.1 HSZ.out.2 rfl rfl (by show (0 : Nat) ≤ 5; decide) (by show (0 : Int) ≤ 810000; decide)).mono ?_
   rintro e w4 ⟨G, T, lb, sb, tb, s, rfl, hsto, hall, hseq, hcalm, hroom, hkp, hlow, -, -⟩
   have HI : Hid (WhO w fb size 1 1 0 sb [] (.slice none 0 0) w4) := hid ⟨⟨G, T, s, lb, tb, hsto.stv, hall, hcalm⟩, SlAt.nil, fun g hg => by simp [Value.ownBlock] at hg⟩
   clear hsto hall hseq hcalm hroom hkp hlow HF
   go_wp2_with (first | (go_at_call 19; refine (r_num _ _).mono ?_; rintro e w' ⟨rfl, rfl⟩))
   go_loopw [14, 16, 17, 18] (fun sv pv nv iv wr => ∃ (i nx sb : Nat) (pa : Option Addr) (pc : Nat) (M : Prs), i ≤ cs.length + 1 ∧ nx ≤ ls.length ∧ iv = .int .i64 (i : Int) ∧ nv = .int .i64 (nx : Int) ∧ sv = .pointer (some ⟨sb, 0, none⟩) ∧ pv = .slice pa M.length pc ∧ Hid (WhO w fb size (1 + i + nx) (1 + 13 * i + nx) (batsV ls nx) sb M (.slice pa M.length pc) wr)) (fun _ _ _ iv _ => cs.length + 1 - (intOf iv).toNat)
   case atStart => exact ⟨0, 0, sb, none, 0, [], Nat.zero_le _, Nat.zero_le _, rfl, rfl, rfl, rfl, by rw [batsV_zero]; exact HI⟩
   case round =>
    clear HI
    obtain ⟨i, nx, sb, pa, pc, M, hi, hnx, rfl, rfl, rfl, rfl, HO⟩ := hrel
    have q0 : (0 : Int) ≤ (i : Int) := by omega
    have q1 : (0 : Int) ≤ (nx : Int) := by omega
    by_cases hlt : i ≤ cs.length
    ·have q2 : (i : Int) ≤ (cs.length : Int) := by omega
     have HLT := hid (And.intro hlt hnx)
     clear hlt hi hnx
     go_upto_if 86 with (fail)
     obtain ⟨W1, hW1⟩ : ∃ W, W = wr.alloc (.cells #[.int .i64 0, .int .i64 0, .bool false] 73) := ⟨_, rfl⟩
     have hB1 : Below wr.heap.size wr W1 := by rw [hW1]; exact (Below.refl _ _).alloc (Nat.le_refl _) _
     have hblk : IsBlk W1 wr.heap.size #[.int .i64 0, .int .i64 0, .bool false] 73 := by rw [hW1]; exact blk_new _ _
     rw [← hW1]
     obtain ⟨cb, hcb⟩ : ∃ b, b = wr.heap.size := ⟨_, rfl⟩
     rw [← hcb] at hblk ⊢
     have HB1 := hid hB1
     have HBLK := hid hblk
     have HCB := hid hcb
     clear hW1 hB1 hblk hcb
     go_cut [] from 76 to 164 (fun wd => ∃ x : SCr, Hid ((-9223372036854775808 ≤ x.arm ∧ x.arm ≤ 9223372036854775807) ∧ Below wr.heap.size wr wd ∧ IsBlk wd cb #[.int .i64 x.arm, .int .i64 x.keep, .bool x.chk] 73))
     case first =>
      by_cases hlt : i < cs.length
      ·have q3 : (i : Int) < (cs.length : Int) := by omega
       obtain ⟨x, hx⟩ : ∃ x, cs[i]? = some x := ⟨_, List.getElem?_eq_getElem hlt⟩
       obtain ⟨g, off, rfl, d0, d1, d2⟩ := scr_cells ((H3.out.rd.below HO.out.wh.low).below HB1.out) hx
       have b0 : W1.cell? ⟨cb, 0, none⟩ = some (.int .i64 0) := blk_cell HBLK.out 0
       have b1 : W1.cell? ⟨cb, 1, none⟩ = some (.int .i64 0) := blk_cell HBLK.out 1
       have b2 : W1.cell? ⟨cb, 2, none⟩ = some (.bool false) := blk_cell HBLK.out 2
       have z0 : W1.frozen? ⟨cb, 0, none⟩ = false := blk_free HBLK.out 0
       have HBD := hid (H3.out.bd x (List.mem_of_getElem? hx))
       have z1 : W1.frozen? ⟨cb, 1, none⟩ = false := blk_free HBLK.out 1
       have z2 : W1.frozen? ⟨cb, 2, none⟩ = false := blk_free HBLK.out 2
       clear hx hlt
       go_wp2_with (fail)
       go_meet
       refine ⟨x, hid ⟨HBD.out, ?_, ?_⟩⟩
       ·exact ((HB1.out.setCell (p := ⟨cb, 0, none⟩) (by rw [HCB.out]; exact Nat.le_refl _) _).setCell (p := ⟨cb, 1, none⟩) (by rw [HCB.out]; exact Nat.le_refl _) _).setCell (p := ⟨cb, 2, none⟩) (by rw [HCB.out]; exact Nat.le_refl _) _
       ·exact blk_set (blk_set (blk_set HBLK.out 0 (.int .i64 x.arm)) 1 (.int .i64 x.keep)) 2 (.bool x.chk)
      ·have q3 : ¬ (i : Int) < (cs.length : Int) := by omega
       clear hlt
       go_wp2_with (fail)
       go_meet
       exact ⟨⟨0, 0, false⟩, hid ⟨by decide, HB1.out, HBLK.out⟩⟩
     case rest =>
      obtain ⟨x, HX⟩ := hcut
      rename World => W2
      have HUP : Hid (WhUp w fb size (1 + i + nx) (1 + 13 * i + nx) (batsV ls nx) sb M W2) := hid (HO.out.wh.below HX.out.2.1)
      have HSL : Hid (SlAt prKind 85 W2 (.slice pa M.length pc) M) := hid (HO.out.sl.below HX.out.2.1)
      have HOWN := hid HO.out.own
      have x0 : W2.cell? ⟨cb, 0, none⟩ = some (.int .i64 x.arm) := blk_cell HX.out.2.2 0
      have x2 : W2.cell? ⟨cb, 2, none⟩ = some (.bool x.chk) := blk_cell HX.out.2.2 2
      clear HB1 HBLK
      go_wp2_with (fail)
      refine (HUP.out.arm x.arm HX.out.1.1 HX.out.1.2).mono ?_
      rintro e w3 ⟨rfl, hu3, k3⟩
      have HU3 := hid hu3
      have HK3 := hid k3
      have hb3 := k3 _ _ _ HX.out.2.2 (by decide)
      have x2 : w3.cell? ⟨cb, 2, none⟩ = some (.bool x.chk) := blk_cell hb3 2
      clear hu3 k3 x0 hb3
      go_upto_if 97 with (fail)
      go_cut [] from 76 to 164 (fun wd => Hid (KeepO W2 wd ∧ WhS w fb size (2 + i + nx) (2 + 13 * i + nx) (batsV ls nx) sb M M wd))
      case first =>
       have HN : Hid (1 + i + nx ≤ 90 ∧ 1 + 13 * i + nx ≤ 400) := hid (by have := HLT.out; have := HCL.out; have := HFEW.out.len; omega)
       obtain ⟨xa, xk, xc⟩ := x
       simp only at x2
       cases xc with
       | true =>
         go_wp2_with (fail)
         refine (HU3.out.chk HN.out.1 HN.out.2 (HFEW.out.small _)).mono ?_
         rintro e w4 ⟨r, rfl, h4, k4⟩
         have HF : Hid (KeepO W2 w4 ∧ WhS w fb size (2 + i + nx) (2 + 13 * i + nx) (batsV ls nx) sb M M w4) := hid ⟨HK3.out.trans k4, by
          rw [show 2 + i + nx = 1 + i + nx + 1 by omega, show 2 + 13 * i + nx = 1 + 13 * i + nx + 1 by omega]
          rcases h4 with h4 | h4
          ·exact .inl ⟨h4, rfl⟩
          ·exact .inr h4⟩
         clear h4 k4
         go_wp2_with (fail)
         go_meet
         exact HF
       | false =>
         go_wp2_with (fail)
         go_meet
         exact hid ⟨HK3.out, .inl ⟨HU3.out.more (by omega) (by omega) (Nat.le_refl _) (by have := HN.out; omega), rfl⟩⟩
      case rest =>
       rename World => W4
       have HST := hid hcut.out.2
       have HBX : Hid (WhB w cb x M M (.slice pa M.length pc) (.slice pa M.length pc) W4) := hid ⟨hcut.out.1.sl HSL.out, HOWN.out, hcut.out.1.sl HSL.out, HOWN.out, hcut.out.1 _ _ _ HX.out.2.2 (by decide)⟩
       clear HU3 HK3 x2 hcut HUP HSL HOWN HO
       go_upto_block 2 with (fail)
       go_cut [16, 17, 20, 21, 22, 23] from 76 to 164 (fun pv nv mv _ _ _ wx => ∃ (j : Nat) (pa qa : Option Addr) (pc qc : Nat) (M1 M' : Prs), pv = .slice pa M1.length pc ∧ nv = .int .i64 (j : Int) ∧ mv = .slice qa M'.length qc ∧ Hid (j ≤ ls.length ∧ WhS w fb size (2 + i + j) (2 + 13 * i + j) (batsV ls j) sb M1 M' wx ∧ WhB w cb x M1 M' (.slice pa M1.length pc) (.slice qa M'.length qc) wx))
       case first =>
        clear x2
        go_wp2_with (fail)
        go_loopw [16, 17, 20, 21] (fun pv nv mv kv wx => ∃ (k j : Nat) (pa qa : Option Addr) (pc qc : Nat) (M1 M' : Prs), k ≤ 8 ∧ kv = .int .i64 (k : Int) ∧ pv = .slice pa M1.length pc ∧ nv = .int .i64 (j : Int) ∧ mv = .slice qa M'.length qc ∧ Hid (j ≤ ls.length ∧ WhS w fb size (2 + i + j) (2 + 13 * i + j) (batsV ls j) sb M1 M' wx ∧ WhB w cb x M1 M' (.slice pa M1.length pc) (.slice qa M'.length qc) wx)) (fun _ _ _ kv _ => 8 - (intOf kv).toNat)
        case atStart => exact ⟨0, nx, pa, pa, pc, pc, M, M, by omega, rfl, rfl, rfl, rfl, hid ⟨HLT.out.2, HST.out, HBX.out⟩⟩
        case round =>
         clear HST HBX
         obtain ⟨k, j, pa1, qa1, pc1, qc1, M1, M', hk, rfl, rfl, rfl, rfl, HJ⟩ := hrel
         have k0 : (0 : Int) ≤ (k : Int) := by omega
         have j0 : (0 : Int) ≤ (j : Int) := by omega
         by_cases hk8 : k < 8
         ·have k1 : (k : Int) < 8 := by omega
          by_cases hj : j < ls.length
          ·have j1 : (j : Int) < (ls.length : Int) := by omega
           rcases HJ.out.2.1 with ⟨hu, he⟩ | hd
           ·subst he
            have HU := hid hu
            have HB := hid HJ.out.2.2
            obtain ⟨l, hlj⟩ : ∃ l, ls[j]? = some l := ⟨_, List.getElem?_eq_getElem hj⟩
            obtain ⟨g, off, cap, la, lc, hv, hc, hrd⟩ := HL.out.at_ hlj
            injection hv with hv _ hv3
            subst hv hv3
            have HLJ := hid hlj
            have HRD := hid hrd
            have HEA := hid (HL.out.each l (List.mem_of_getElem? hlj))
            have HCELL : Hid (∀ W, Below w.heap.size w W → W.cell? ⟨g, off + j, none⟩ = some (.slice la l.length lc)) := hid fun W hW => (hW.cell (p := ⟨g, off + j, none⟩) (World.block_lt_of_cell? w _ hc)).trans hc
            have hc1 := HCELL.out _ HU.out.low
            have HKJ := hid (And.intro hk8 hj)
            have HN : Hid (2 + i + j ≤ 90 ∧ 2 + 13 * i + j ≤ 400) := hid (by have := HLT.out; have := HCL.out; have := HFEW.out.len; omega)
            have HVN := hid (batsV_next hlj)
            clear hu hlj hc hrd hj hk8 hk HJ
            go_wp2_with (fail)
            refine HU.out.down_.mono ?_
            rintro e w5 ⟨rfl, rfl⟩
            go_wp2_with (fail)
            refine (HU.out.write HN.out.1 HN.out.2 HRD.out HEA.out.1).mono ?_
            rintro e w6 ⟨r, rfl, h6, k6⟩
            rw [← HVN.out] at h6
            have HMR := hid HU.out.rise
            have HB6 := hid (HB.out.keep k6)
            clear k6 hc1 HU
            have HLOW : Hid (Below w.heap.size w w6) := hid (by
             rcases h6 with ⟨_, e⟩ | ⟨_, _, e⟩ | ⟨_, e⟩
             ·exact e.low
             ·exact e.low
             ·exact e.low)
            have hc1 := HCELL.out _ HLOW.out
            have HEX := hid fun W (hW : Below w.heap.size w W) => x_changes (HRD.out.below hW) (by have := HEA.out.1; omega)
            rcases h6 with ⟨rfl, h6⟩ | ⟨r0, r5, h6⟩ | ⟨rfl, h6⟩
            ·have HU6 := hid h6
             clear h6
             go_wp2_with (first | (go_at_call 19; refine (r_num _ _).mono ?_; rintro e w' ⟨rfl, rfl⟩))
             refine (HEX.out _ HU6.out.low).mono ?_
             rintro e w7 ⟨va, vc, rfl, hn7⟩
             have HN7 := hid hn7
             clear hn7 hc1
             go_wp2_with (fail)
             refine (d_apply (HB6.out.sl.below HN7.out.below) HN7.out.sl.rd HMR.out.1 (by have := HMR.out.2; have := HEA.out.1; omega)).mono ?_
             rintro e w8 ⟨vb, vd, rfl, h8, h9, h10⟩
             have HB8 : Hid (Below _ _ w8) := hid (HN7.out.below.trans (h10.mono HN7.out.below.size))
             obtain ⟨M2, hM2⟩ : ∃ M2, M2 = applyB M' l := ⟨_, rfl⟩
             rw [← hM2] at h8 h9 HU6 ⊢
             have HS8 : Hid (SlAt prKind 85 w8 (.slice vb M2.length vd) M2 ∧ ∀ g, (Value.slice vb M2.length vd).ownBlock = some g → w.heap.size ≤ g) := hid ⟨h8, fun g hg => by
              rcases h9 g hg with e | e
              ·exact HB6.out.own g e
              ·have := HN7.out.below.size; have := HLOW.out.size; omega⟩
             have HM2L : Hid (M2.length ≤ 1000000000) := hid (by have := HU6.out.rise.2; omega)
             clear h8 h9 h10 hM2
             go_wp2_with (fail)
             refine ((HU6.out.below HB8.out).same HS8.out.1.rd HM2L.out).mono ?_
             rw [decide_eq_true rfl]
             rintro e w9 ⟨rfl, hb9⟩
             have HB9 : Hid (Below _ _ w9) := hid (HB8.out.trans (hb9.mono HB8.out.size))
             have HS9 : Hid (SlAt prKind 85 w9 (.slice vb M2.length vd) M2) := hid (HS8.out.1.below hb9)
             clear hb9
             go_wp2_with (fail)
             go_roundw
             case rel => exact ⟨k + 1, j + 1, vb, vb, vd, vd, M2, M2, HKJ.out.1, by go_num, rfl, by go_num, rfl, hid ⟨HKJ.out.2, .inl ⟨HU6.out.below HB9.out, rfl⟩, HS9.out, HS8.out.2, HS9.out, HS8.out.2, (KeepO.below HB9.out) _ _ _ HB6.out.box (by decide)⟩⟩
             case measure => simp [intOf]; have := HKJ.out.1; omega
            ·have HU6 := hid h6
             have z0 : (r == 0) = false := by simp; exact r0
             have z5 : (r == 5) = false := by simp; exact r5
             have z6 : (r != 5) = true := by simp; exact r5
             clear h6 r0 r5
             go_wp2_with (first | (go_at_call 19; refine (r_num _ _).mono ?_; rintro e w' ⟨rfl, rfl⟩))
             refine (HEX.out _ HU6.out.low).mono ?_
             rintro e w7 ⟨va, vc, rfl, hn7⟩
             have HB7 := hid hn7.below
             clear hn7 hc1
             go_wp2_with (fail)
             refine ((HU6.out.below HB7.out).same (HB6.out.sl.below HB7.out).rd (by have := HMR.out.2; omega)).mono ?_
             rw [decide_eq_true rfl]
             rintro e w9 ⟨rfl, hb9⟩
             have HB9 : Hid (Below _ _ w9) := hid (HB7.out.trans (hb9.mono HB7.out.size))
             clear hb9
             go_wp2_with (fail)
             go_roundw
             case rel => exact ⟨k + 1, j + 1, pa1, qa1, pc1, qc1, M', M', HKJ.out.1, by go_num, rfl, by go_num, rfl, hid ⟨HKJ.out.2, .inl ⟨HU6.out.below HB9.out, rfl⟩, HB6.out.keep (KeepO.below HB9.out)⟩⟩
             case measure => simp [intOf]; have := HKJ.out.1; omega
            ·have HD6 := hid h6
             clear h6
             go_wp2_with (first | (go_at_call 19; refine (r_num _ _).mono ?_; rintro e w' ⟨rfl, rfl⟩))
             refine (HEX.out _ HD6.out.low).mono ?_
             rintro e w7 ⟨va, vc, rfl, hn7⟩
             have HN7 := hid hn7
             clear hn7 hc1
             go_wp2_with (fail)
             refine (d_apply (HB6.out.sl.below HN7.out.below) HN7.out.sl.rd HMR.out.1 (by have := HMR.out.2; have := HEA.out.1; omega)).mono ?_
             rintro e w8 ⟨vb, vd, rfl, h8, h9, h10⟩
             have HB8 : Hid (Below _ _ w8) := hid (HN7.out.below.trans (h10.mono HN7.out.below.size))
             obtain ⟨M2, hM2⟩ : ∃ M2, M2 = applyB M' l := ⟨_, rfl⟩
             rw [← hM2] at h8 h9 HD6 ⊢
             have HS8 : Hid (SlAt prKind 85 w8 (.slice vb M2.length vd) M2 ∧ ∀ g, (Value.slice vb M2.length vd).ownBlock = some g → w.heap.size ≤ g) := hid ⟨h8, fun g hg => by
              rcases h9 g hg with e | e
              ·exact HB6.out.own g e
              ·have := HN7.out.below.size; have := HLOW.out.size; omega⟩
             have HW8 := hid (HB6.out.keep (KeepO.below HB8.out))
             clear h8 h9 h10 hM2
             go_wp2_with (fail)
             go_roundw
             case rel => exact ⟨k + 1, j + 1, pa1, vb, pc1, vd, M', M2, HKJ.out.1, by go_num, rfl, by go_num, rfl, hid ⟨HKJ.out.2, .inr (HD6.out.below HB8.out), HW8.out.sl, HW8.out.own, HS8.out.1, HS8.out.2, HW8.out.box⟩⟩
             case measure => simp [intOf]; have := HKJ.out.1; omega
           ·have HD := hid hd
            have HJ2 := hid (And.intro HJ.out.1 HJ.out.2.2)
            clear hd HJ hj hk8 hk
            go_wp2_with (fail)
            refine HD.out.down_.mono ?_
            rintro e w5 ⟨rfl, rfl⟩
            go_wp2_with (fail)
            go_meet
            exact ⟨j, pa1, qa1, pc1, qc1, M1, M', rfl, rfl, rfl, hid ⟨HJ2.out.1, .inr HD.out, HJ2.out.2⟩⟩
          ·have j1 : ¬ (j : Int) < (ls.length : Int) := by omega
           clear hj hk8 hk
           go_wp2_with (fail)
           go_meet
           exact ⟨j, pa1, qa1, pc1, qc1, M1, M', rfl, rfl, rfl, HJ⟩
         ·have k1 : ¬ (k : Int) < 8 := by omega
          clear hk8 hk
          go_wp2_with (fail)
          go_meet
          exact ⟨j, pa1, qa1, pc1, qc1, M1, M', rfl, rfl, rfl, HJ⟩
       case rest =>
        obtain ⟨j, pa1, qa1, pc1, qc1, M1, M', rfl, rfl, rfl, HJ⟩ := hcut
        rename World => W5
        have j0 : (0 : Int) ≤ (j : Int) := by omega
        clear HST HBX
        have HB := hid HJ.out.2.2
        have HST := hid HJ.out.2.1
        have HJL := hid HJ.out.1
        have e1 := eg_who1
        clear HJ
        go_wp2_with (fail)
        refine (wh_crash HST.out 38 _ e1 x.keep fun nm z W hnm hkW => x_who1 (hkW _ _ _ HB.out.box (by decide)) nm (by omega) z).mono ?_
        rintro e w6 ⟨rfl, ⟨M2, hM2, h6⟩, k6⟩
        have HM2 := hid hM2
        have H6 := hid h6
        have HB6 := hid (HB.out.keep k6)
        clear hM2 h6 k6 e1
        go_wp2_with (fail)
        have HNC : Hid (2 + i + j ≤ 900 ∧ 2 + 13 * i + j ≤ 300) := hid (by have := HLT.out; have := HCL.out; have := HFEW.out.len; have := HJL.out; omega)
        refine (wh_recovers H6.out H4.out HCL.out.2 HSZ.out.1 HSZ.out.2 HNC.out.2 HNC.out.1).mono ?_
        rintro e w7 ⟨sb7, rfl, h7⟩
        obtain ⟨k7, G, T, lb7, tb7, s7, h8, h9, h10⟩ := h7.out
        have HB7 := hid (HB6.out.keep k7)
        have HS7 : Hid (StV w w7 fb nmDb size (1 + (i + 1) + j) (1 + 13 * (i + 1) + j) (batsV ls j) G T lb7 sb7 tb7 s7 ∧ s7.all = M2 ∧ G.armed = 0) := hid ⟨h8.more (by omega) (by have := HCL.out; omega) (Nat.le_refl _) (by have := HNC.out; have := HCL.out; have := HLT.out; have := HFEW.out.len; have := HJL.out; omega), h9, h10⟩
        have HU7 : Hid (WhUp w fb size (1 + (i + 1) + j) (1 + 13 * (i + 1) + j) (batsV ls j) sb7 M2 w7) := hid ⟨G, T, s7, lb7, tb7, HS7.out.1, HS7.out.2.1⟩
        have HLN : Hid (M1.length ≤ 100000000 ∧ M'.length ≤ 100000000) := hid (by
         rcases HST.out with ⟨h, e⟩ | ⟨F, S, _, _, _, _, _, _, _, h1, h2⟩
         ·have := h.rise.2
          rw [e]
          omega
         ·exact ⟨h1, h2⟩)
        clear h7 k7 h8 h9 h10
        go_wp2_with (fail)
        refine (HU7.out.same HB7.out.sl.rd (by have := HLN.out.1; omega)).mono ?_
        rintro e w8 ⟨rfl, hb8⟩
        have HB8 := hid hb8
        clear hb8
        obtain ⟨bq, hbq⟩ : ∃ b : Bool, decide (M2 = M1) = b := ⟨_, rfl⟩
        rw [hbq]
        have HBQ := hid hbq
        clear hbq
        cases bq with
        | true =>
          have HE : Hid (M2 = M1) := hid (of_decide_eq_true HBQ.out)
          have HFIN : Hid (WhO w fb size (1 + (i + 1) + j) (1 + 13 * (i + 1) + j) (batsV ls j) sb7 M1 (.slice pa1 M1.length pc1) w8) := hid ⟨⟨G, T, s7, lb7, tb7, HS7.out.1.below HB8.out, HS7.out.2.1.trans HE.out, HS7.out.2.2⟩, HB7.out.sl.below HB8.out, HB7.out.own⟩
          go_wp2_with (fail)
          go_roundw
          case rel => exact ⟨i + 1, j, sb7, pa1, pc1, M1, by have := HLT.out.1; omega, HJL.out, by go_num, rfl, rfl, rfl, HFIN⟩
          case measure => simp [intOf]; have := HLT.out.1; omega
        | false =>
          have HE : Hid (M2 = M') := hid (by
           rcases HM2.out with e | e
           ·exact absurd e (of_decide_eq_false HBQ.out)
           ·exact e)
          go_wp2_with (fail)
          refine ((HU7.out.below HB8.out).same (HB7.out.sm.below HB8.out).rd (by have := HLN.out.2; omega)).mono ?_
          rw [decide_eq_true HE.out]
          rintro e w9 ⟨rfl, hb9⟩
          have HB9 : Hid (Below w7.heap.size w7 w9) := hid (HB8.out.trans (hb9.mono HB8.out.size))
          clear hb9
          have HFIN : Hid (WhO w fb size (1 + (i + 1) + j) (1 + 13 * (i + 1) + j) (batsV ls j) sb7 M' (.slice qa1 M'.length qc1) w9) := hid ⟨⟨G, T, s7, lb7, tb7, HS7.out.1.below HB9.out, HS7.out.2.1.trans HE.out, HS7.out.2.2⟩, HB7.out.sm.below HB9.out, HB7.out.ownm⟩
          go_wp2_with (fail)
          go_roundw
          case rel => exact ⟨i + 1, j, sb7, qa1, qc1, M', by have := HLT.out.1; omega, HJL.out, by go_num, rfl, rfl, rfl, HFIN⟩
          case measure => simp [intOf]; have := HLT.out.1; omega
    ·have q2 : ¬ (i : Int) ≤ (cs.length : Int) := by omega
     have hie : i = cs.length + 1 := by omega
     have HN : Hid (1 + i + nx ≤ 900 ∧ 1 + 13 * i + nx ≤ 400) := hid (by have := HCL.out; have := HFEW.out.len; omega)
     obtain ⟨F, S, s, lb, tb, h1, h2, h3⟩ := HO.out.up
     have HS := hid (And.intro h1 (And.intro h2 h3))
     clear h1 h2 h3 hlt hi hnx hie
     go_wp2_with (fail)
     refine (so_seq HS.out.1.db.st.blk).mono ?_
     rintro e w5 ⟨rfl, hb5⟩
     have HS5 := hid (HS.out.1.below hb5)
     have HSL5 := hid (HO.out.sl.below hb5)
     clear hb5
     go_wp2_with (fail)
     refine (d_steps HS5.out.db.lg.hd).mono ?_
     rintro e w6 ⟨rfl, rfl⟩
     go_wp2_with (fail)
     have hdk := HS5.out.on.disk
     rw [HS5.out.dir] at hdk
     have hos := open_same HS5.out.on (by rw [HS5.out.dir]; exact dirS_db) HSZ.out.1 HSZ.out.2 HS.out.2.2
     rw [HS5.out.dir] at hos
     refine ((FwP.refl HS5.out.db.lg.hd HS5.out.db.pure).open_ (V := batsV ls nx) hdk dirS_db HSZ.out.1 HSZ.out.2 HS5.out.on.up HN.out.2 HS5.out.few HS5.out.wt).mono ?_
     rw [hos]
     rintro e w7 ⟨k7, st7, h7⟩
     rcases h7 with ⟨T, lb7, sb7, tb7, s7, rfl, h8, h9, h10, -⟩ | ⟨-, -, h8, -⟩
     rotate_left
     ·exact absurd HS.out.2.2 h8
     have HS7 := hid h8
     have HA7 : Hid (s7.all = M ∧ s7.seq = s.seq) := hid ⟨h9.trans HS.out.2.1, h10⟩
     have HSL7 := hid (k7.keepO.sl HSL5.out)
     clear k7 st7 h8 h9 h10 hdk hos
     go_wp2_with (first | (go_at_call 19; refine (r_num _ _).mono ?_; rintro e w' ⟨rfl, rfl⟩))
     refine (so_seq HS7.out.db.st.blk).mono ?_
     rintro e w8 ⟨rfl, hb8⟩
     have HS8 := hid (HS7.out.below hb8)
     have HSL8 := hid (HSL7.out.below hb8)
     clear hb8
     simp only [HA7.out.2]
     go_wp2_with (fail)
     refine ((WhUp.same (M := M) ⟨F, T, s7, lb7, tb7, HS8.out, HA7.out.1⟩ HSL8.out.rd (by have := HO.out.wh.rise.2; omega))).mono ?_
     rw [decide_eq_true rfl]
     rintro e w9 ⟨rfl, hb9⟩
     have HS9 := hid (HS8.out.below hb9)
     clear hb9
     go_wp2_with (fail)
     refine (d_steps HS9.out.db.lg.hd).mono ?_
     rintro e w10 ⟨rfl, rfl⟩
     go_wp2_with (fail)
     go_ret
     exact ⟨rfl, HS9.out.db.lg.hd.below⟩
end
end Go.Proofs.YtagdchgkjjpacaaGreat
