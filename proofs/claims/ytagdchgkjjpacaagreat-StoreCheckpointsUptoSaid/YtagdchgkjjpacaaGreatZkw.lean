/- The walk of the statement StoreCheckpoints. -/
import Derived.Test.YtagdchgkjjpacaaGreatZjw
import Derived.Test.YtagdchgkjjpacaaGreatYkw
set_option maxRecDepth 100000
open Go.Lib (hid)
set_option linter.unusedSimpArgs false
set_option linter.unusedVariables false
set_option linter.unusedSectionVars false
namespace Go.Proofs.YtagdchgkjjpacaaGreat
open Go.RowKit Go.Shelf
def FuQ (w : World) (fb : Nat) (dir : ByteArray) (size : Int) (lb sb tb n V : Nat) (M : Prs) (pv : Value) (wr : World) : Prop :=
 ∃ F S s, Sto w wr fb dir size n n V F S lb sb tb s ∧ F.armed = 0 ∧ F.room = 67108864 ∧ s.all = M ∧ SlAt prKind 85 wr pv M ∧ ∀ g, pv.ownBlock = some g → w.heap.size ≤ g
def FuR (w : World) (fb : Nat) (dir : ByteArray) (size : Int) (lb sb tb n V : Nat) (M : Prs) (pv : Value) (b : Bool) (wr : World) : Prop :=
 ∃ F S s, Sto w wr fb dir size n n V F S lb sb tb s ∧ F.armed = 0 ∧ F.room = 67108864 ∧ s.all = M ∧ SlAt prKind 85 wr pv M ∧ (∀ g, pv.ownBlock = some g → w.heap.size ≤ g) ∧ (b = true → s.base ≠ 0 ∧ LogOn F s.log [[]])
theorem times_val (z : Int) : ∃ t : Nat, wrap64 ((wrap64 (z.tmod 3 + 3)).tmod 3 + 1) = (t : Int) ∧ 1 ≤ t ∧ t ≤ 3 := by
 have h1 : z.tmod 3 < 3 := Int.tmod_lt_of_pos z (by decide)
 have h2 : -3 < z.tmod 3 := Int.lt_tmod_of_pos z (by decide)
 obtain ⟨a, ha⟩ : ∃ a, a = z.tmod 3 := ⟨_, rfl⟩
 rw [← ha] at h1 h2 ⊢
 rw [IntWalk.wrap64_in (a + 3) (by omega)]
 have h3 : (a + 3).tmod 3 = (a + 3) % 3 := Int.tmod_eq_emod_of_nonneg (by omega)
 rw [h3, IntWalk.wrap64_in _ (by omega)]
 exact ⟨((a + 3) % 3 + 1).toNat, by omega, by omega, by omega⟩
theorem text_at0 {w : World} {a : Option Addr} {n cap : Nat} {x : ByteArray} {xs : List ByteArray} (h : RdAt textKind w (.slice a n cap) (x :: xs)) : ∃ g off, a = some ⟨g, off, none⟩ ∧ w.cell? ⟨g, off, none⟩ = some (.string x) := by
 obtain ⟨a', cap', e, hh⟩ := h
 injection e with e1 _ _
 subst e1
 obtain ⟨g, off, ea, hc⟩ := hh 0 x rfl
 have h0 := hc 0 (by decide)
 rw [show off + 0 * textKind.size + 0 = off from by omega] at h0
 exact ⟨g, off, ea, h0⟩
section
variable {w : World}
set_option maxHeartbeats 16000000 in
theorem l_storeCheckpoints {u : Value} {ls : List (List Chg)} (hl : BatsAt w u ls) (size after : Int) (hc1 : -9223372036854775808 ≤ after) (hc2 : after ≤ 9223372036854775807) :
 Calls Tryz.prog 7 #[.int .i64 size, u, .int .i64 after] w fun e w' => e = .returned (.bool true) ∧ Below w.heap.size w w' := by
 obtain ⟨a0, c0, rfl⟩ := hl.shape
 have HL := hid hl
 have HC := hid (And.intro hc1 hc2)
 clear hl hc1 hc2
 go_enter Tryz.func7, Tryz.ntmps7
 go_wp2_with (fail)
 refine (x_sfirst w).mono ?_
 rintro e w1 ⟨rfl, hb1⟩
 have HB1 := hid hb1
 clear hb1
 go_wp2_with (fail)
 refine (x_fewB (HL.out.below HB1.out)).mono ?_
 rintro e w2 ⟨bb, rfl, hbf, hb2⟩
 have HB2 : Hid (Below w.heap.size w w2) := hid (HB1.out.trans (hb2.mono HB1.out.size))
 clear hb2
 cases bb with
 | false =>
   clear hbf
   go_wp2_with (fail)
   go_ret
   exact ⟨rfl, HB2.out⟩
 | true =>
   have HFEW : Hid (FewB ls) := hid (hbf rfl)
   have hm : (ls.length : Int) ≤ 40 := by have := HFEW.out.len; omega
   clear hbf
   by_cases h16 : size < 16
   ·go_wp2_with (fail)
    go_ret
    exact ⟨rfl, HB2.out⟩
   by_cases h20 : (1048576 : Int) < size
   ·go_wp2_with (fail)
    go_ret
    exact ⟨rfl, HB2.out⟩
   have HSZ : Hid (16 ≤ size ∧ size ≤ 1048576) := hid (by omega)
   go_wp2_with (fail)
   clear h16 h20
   refine (f_new 67108864 (by omega) (by omega)).mono ?_
   rintro e w3 ⟨fb, rfl, hf, hb⟩
   have HF : Hid (Hd w w3 fb (FsS.new 67108864) 0 (New w2 w3 fun _ => False)) := hid ⟨hf, fun i e => by rcases e with e | e; exact e.elim; have := HB2.out.size; omega, HB2.out.trans (hb.mono HB2.out.size), FsOk.new0 67108864⟩
   clear hf hb
   go_wp2_with (fail)
   refine (open_fresh (c := 0) HF.out (by omega) (fun k x hx => by cases hx) dirS_db HSZ.out.1 HSZ.out.2 rfl rfl (by show (0 : Nat) ≤ 5; decide) (by show (0 : Int) ≤ 810000; decide)).mono ?_
   rintro e w4 ⟨G, T, lb, sb, tb, s, rfl, hsto, hall, hseq, hcalm, hroom, hkp, hlow, -, -⟩
   have HI : Hid (FuQ w fb nmDb size lb sb tb 1 0 [] (.slice none 0 0) w4) := hid ⟨G, T, s, hsto, hcalm, hroom, hall, SlAt.nil, fun g hg => by simp [Value.ownBlock] at hg⟩
   clear hsto hall hseq hcalm hroom hkp hlow HF
   go_wp2_with (first | (go_at_call 19; refine (r_num _ _).mono ?_; rintro e w' ⟨rfl, rfl⟩))
   go_loopw [12, 13] (fun pv iv wr => ∃ (i : Nat) (pa : Option Addr) (pc : Nat) (M : Prs), i ≤ ls.length ∧ iv = .int .i64 (i : Int) ∧ pv = .slice pa M.length pc ∧ Hid (FuQ w fb nmDb size lb sb tb (1 + i) (batsV ls i) M (.slice pa M.length pc) wr)) (fun _ iv _ => ls.length - (intOf iv).toNat)
   case atStart => exact ⟨0, none, 0, [], Nat.zero_le _, rfl, rfl, by rw [batsV_zero]; exact HI⟩
   case round =>
    clear HI
    obtain ⟨i, pa, pc, M, hi, rfl, rfl, HX⟩ := hrel
    obtain ⟨F, S, s, hst, hcalm, hroom, hall, hwant, hown⟩ := HX.out
    have HST := hid hst
    have HCALM := hid (And.intro hcalm hroom)
    have HALL := hid hall
    have HWANT := hid hwant
    have HOWN := hid hown
    have q0 : (0 : Int) ≤ (i : Int) := by omega
    clear hst hcalm hroom hall hwant hown
    by_cases hlt : i < ls.length
    ·have q1 : (i : Int) < (ls.length : Int) := by omega
     obtain ⟨l, hli⟩ : ∃ l, ls[i]? = some l := ⟨_, List.getElem?_eq_getElem hlt⟩
     obtain ⟨g, off, cap, la, lc, hv, hc, hrd⟩ := HL.out.at_ hli
     injection hv with hv _ hv3
     subst hv hv3
     have HLT := hid hlt
     have HLI := hid hli
     have HRD := hid hrd
     have HEA := hid (HL.out.each l (List.mem_of_getElem? hli))
     have HCELL : Hid (∀ W, Below w.heap.size w W → W.cell? ⟨g, off + i, none⟩ = some (.slice la l.length lc)) := hid fun W hW => (hW.cell (p := ⟨g, off + i, none⟩) (World.block_lt_of_cell? w _ hc)).trans hc
     have hc1 := HCELL.out _ HST.out.db.lg.hd.below
     have hi40 : i < 40 := by have := HFEW.out.len; omega
     have HI40 := hid hi40
     clear hli hc hrd hlt hi hi40
     go_wp2_with (fail)
     refine (HST.out.write dirS_db (by have := HI40.out; omega) (by have := HI40.out; omega) HRD.out HEA.out.1).mono ?_
     rintro e w5 ⟨rfl, ho, hp⟩
     obtain ⟨R, hR⟩ : ∃ R, R = writeS s F l := ⟨_, rfl⟩
     rw [← hR] at ho hp ⊢
     have h5 := ho.calm HCALM.out.1
     obtain ⟨⟨S5, hst5, hS5⟩, hca5, hro5, hcs⟩ := HST.out.wrote (by have := HI40.out; omega) (HFEW.out.bat HLI.out) ho hp h5
     have HW5 := hid (want_keeps HST.out.db HWANT.out hp.keeps)
     rw [← batsV_next HLI.out] at hst5
     have HST5 := hid hst5
     have HCA5 : Hid (R.2.1.armed = 0 ∧ R.2.1.room = 67108864) := hid ⟨hca5 HCALM.out.1, by rw [hro5, HCALM.out.2]⟩
     obtain ⟨r, hr⟩ : ∃ r, r = R.2.2 := ⟨_, rfl⟩
     rw [← hr] at hcs ⊢
     have HCS : Hid ((r ≠ 0 ∧ R.1.all = M) ∨ (r = 0 ∧ R.1.all = applyB M l)) := hid (by
      rcases hcs with ⟨h1, h2, h3, _⟩ | ⟨h1, h2, h3, _⟩ | ⟨h1, h2, h3, _⟩
      ·exact .inl ⟨h2, by rw [h3, HALL.out]⟩
      ·exact .inr ⟨h1, by rw [h3, HALL.out]⟩
      ·exact .inl ⟨by omega, by rw [h3, HALL.out]⟩)
     have HMR : Hid (Rise slt M ∧ M.length ≤ 450000) := hid (by
      have h1 := HST.out.on.fit
      rw [HALL.out] at h1
      have := HST.out.on.nq
      have := HST.out.on.n1
      exact ⟨h1.ok.1, by have := h1.len; omega⟩)
     have HB5 := hid hst5.db.lg.hd.below
     clear hR ho hp h5 hst5 hS5 hca5 hro5 hcs hr hc1
     rcases HCS.out with ⟨h1, h3⟩ | ⟨h1, h3⟩
     ·have z0 : (r == 0) = false := by simp; omega
      have HFIN : Hid (FuQ w fb nmDb size lb sb tb (1 + (i + 1)) (batsV ls (i + 1)) M (.slice pa M.length pc) w5) := hid ⟨_, _, _, HST5.out, HCA5.out.1, HCA5.out.2, h3, HW5.out, HOWN.out⟩
      clear h3
      go_wp2_with (first | (go_at_call 19; refine (r_num _ _).mono ?_; rintro e w' ⟨rfl, rfl⟩))
      go_roundw
      case rel => exact ⟨i + 1, pa, pc, M, by have := HLT.out; omega, by go_num, rfl, HFIN⟩
      case measure => simp [intOf]; have := HLT.out; omega
     ·subst h1
      have HAP := hid h3
      have hc5 := HCELL.out _ HB5.out
      clear h3
      go_wp2_with (first | (go_at_call 19; refine (r_num _ _).mono ?_; rintro e w' ⟨rfl, rfl⟩))
      refine (x_changes (HRD.out.below HB5.out) (by have := HEA.out.1; omega)).mono ?_
      rintro e w7 ⟨va, vc, rfl, hn7⟩
      have HN7 := hid hn7
      clear hn7
      go_wp2_with (fail)
      refine (d_apply (HW5.out.below HN7.out.below) HN7.out.sl.rd HMR.out.1 (by have := HMR.out.2; have := HEA.out.1; omega)).mono ?_
      rintro e w8 ⟨vb, vd, rfl, h8, h9, h10⟩
      have hb58 := HN7.out.below.trans (h10.mono HN7.out.below.size)
      have HFIN : Hid (FuQ w fb nmDb size lb sb tb (1 + (i + 1)) (batsV ls (i + 1)) (applyB M l) (.slice vb (applyB M l).length vd) w8) := hid ⟨_, _, _, HST5.out.below hb58, HCA5.out.1, HCA5.out.2, HAP.out, h8, fun g hg => by
       rcases h9 g hg with e | e
       ·exact HOWN.out g e
       ·have := HN7.out.below.size; have := HB5.out.size; omega⟩
      clear h8 h9 h10 hb58
      go_wp2_with (fail)
      go_roundw
      case rel => exact ⟨i + 1, vb, vd, _, by have := HLT.out; omega, by go_num, rfl, HFIN⟩
      case measure => simp [intOf]; have := HLT.out; omega
    ·have q1 : ¬ (i : Int) < (ls.length : Int) := by omega
     have HI40 : Hid (i ≤ 40) := hid (by have := HFEW.out.len; omega)
     have hie : i = ls.length := by omega
     obtain ⟨t, ht, ht1, ht3⟩ := times_val after
     have HT := hid (And.intro ht1 ht3)
     have htI : (t : Int) ≤ 3 := by omega
     have HQ : Hid (FuR w fb nmDb size lb sb tb (1 + i + 0) (batsV ls i) M (.slice pa M.length pc) false wr) := hid ⟨F, S, s, HST.out, HCALM.out.1, HCALM.out.2, HALL.out, HWANT.out, HOWN.out, fun e => by cases e⟩
     have HMB : Hid (M.length ≤ 1000000) := hid (by
      have h1 := HST.out.on.fit.len
      have h2 := HST.out.on.nq
      have h3 := HST.out.on.n1
      rw [HALL.out] at h1
      omega)
     clear hlt hi hie ht1 ht3 HST HCALM HALL HWANT HOWN HX
     go_wp2_with (fail)
     go_loopw [15] (fun jv wr2 => ∃ j : Nat, j ≤ t ∧ jv = .int .i64 (j : Int) ∧ Hid (FuR w fb nmDb size lb sb tb (1 + i + j) (batsV ls i) M (.slice pa M.length pc) (decide (0 < j)) wr2)) (fun jv _ => t - (intOf jv).toNat)
     case atStart => exact ⟨0, Nat.zero_le _, rfl, HQ⟩
     case round =>
      clear HQ
      obtain ⟨j, hj, rfl, HX⟩ := hrel
      rename World => wr2
      obtain ⟨F, S, s, hst, hcalm, hroom, hall, hwant, hown, hlast⟩ := HX.out
      have HST := hid hst
      have HCALM := hid (And.intro hcalm hroom)
      have HALL := hid hall
      have HWANT := hid hwant
      have HOWN := hid hown
      have HLAST := hid hlast
      have j0 : (0 : Int) ≤ (j : Int) := by omega
      clear hst hcalm hroom hall hwant hown hlast HX
      by_cases hlt : j < t
      ·have j1 : (j : Int) < (t : Int) := by omega
       have HLT := hid hlt
       clear hlt hj
       go_wp2_with (fail)
       refine (HST.out.chk dirS_db (by have := HI40.out; have := HLT.out; have := HT.out; omega) (by have := HI40.out; have := HLT.out; have := HT.out; omega) (HFEW.out.small _)).mono ?_
       rintro e w9 ⟨rfl, ho, hp⟩
       obtain ⟨R2, hR2⟩ : ∃ R2, R2 = chkS s F := ⟨_, rfl⟩
       rw [← hR2] at ho hp ⊢
       have h5 := ho.calm HCALM.out.1
       obtain ⟨⟨S9, hst9, -⟩, hca9, hro9, hall9, hseq9, hcs9⟩ := HST.out.ckpt (by have := HI40.out; have := HLT.out; have := HT.out; omega) (HFEW.out.small _) ho hp h5
       have HW9 := hid (want_keeps HST.out.db HWANT.out hp.keeps)
       have hz : R2.2.2 = 0 ∧ R2.1.base ≠ 0 ∧ LogOn R2.2.1 R2.1.log [[]] := by
        rcases hcs9 with h | ⟨_, h⟩
        ·exact h
        ·exfalso
         have h1 := HST.out.used
         have h2 := HCALM.out.2
         have h3 := HI40.out
         have h4 := HLT.out
         have h5 := HT.out
         omega
       have HALL9 : Hid (R2.1.all = M) := hid (by rw [hall9, HALL.out])
       have HFIN : Hid (∀ W, Below w9.heap.size w9 W → FuR w fb nmDb size lb sb tb (1 + i + (j + 1)) (batsV ls i) M (.slice pa M.length pc) (decide (0 < j + 1)) W) := hid fun W hW =>
        ⟨_, _, _, hst9.below hW, hca9 HCALM.out.1, by rw [hro9]; exact HCALM.out.2, HALL9.out, HW9.out.below hW, HOWN.out, fun _ => hz.2⟩
       have HSAME : Hid (Calls Tryz.prog 34 #[.pointer (some ⟨sb, 0, none⟩), .slice pa M.length pc] w9 fun e w' => e = .returned (.bool true) ∧ Below w9.heap.size w9 w') := hid (by
        have h := x_same hst9.db.st HW9.out.rd (by rw [HALL9.out]; have := HMB.out; omega) (by have := HMB.out; omega)
        rw [decide_eq_true HALL9.out] at h
        exact h)
       rw [hz.1]
       clear hR2 ho hp h5 hst9 hca9 hro9 hall9 hseq9 hcs9 hz
       go_wp2_with (first | (go_at_call 19; refine (r_num _ _).mono ?_; rintro e w' ⟨rfl, rfl⟩))
       refine HSAME.out.mono ?_
       rintro e w10 ⟨rfl, hb10⟩
       have HF10 := hid (HFIN.out _ hb10)
       clear hb10
       go_wp2_with (fail)
       go_roundw
       case rel => exact ⟨j + 1, HLT.out, by go_num, HF10⟩
       case measure => simp [intOf]; have := HLT.out; omega
      ·have j1 : ¬ (j : Int) < (t : Int) := by omega
       have hjt : j = t := by omega
       have HLG : Hid (s.base ≠ 0 ∧ LogOn F s.log [[]]) := hid (HLAST.out (decide_eq_true (by have := HT.out; omega)))
       have HNB : Hid (1 + i + j ≤ 44) := hid (by have := HI40.out; have := HT.out; omega)
       clear hjt hlt hj HLAST
       obtain ⟨sg, hsg⟩ : ∃ sg, sg = segName (nmOf nmDb sLog) s.log.last := ⟨_, rfl⟩
       have hnm := HST.out.on.names HLG.out.1 HLG.out.2
       have hth := (HST.out.on.three HLG.out.1 HLG.out.2).2
       rw [HST.out.dir, ← hsg] at hnm hth
       obtain ⟨n1, n2, n3, n4⟩ := hnm
       have HSG : Hid (F.find sg = some (fl [])) := hid hth
       obtain ⟨L1, hL1⟩ : ∃ L, L = namesL (dirOf nmDb) F.files := ⟨_, rfl⟩
       obtain ⟨L3, hL3⟩ : ∃ L, L = namesL (nmOf nmDb sBase) F.files := ⟨_, rfl⟩
       obtain ⟨L4, hL4⟩ : ∃ L, L = namesL (nmOf nmDb sMan) F.files := ⟨_, rfl⟩
       rw [← hL1] at n1
       rw [← hL3] at n3
       rw [← hL4] at n4
       have c1 := s_names HST.out.db.lg.hd.fs HST.out.db.lg.hd.ok (dirOf nmDb)
       rw [← hL1, n1] at c1
       have HC1 := hid c1
       have HC2 : Hid (∀ W, Below wr2.heap.size wr2 W → Calls Tryz.prog 27 #[.pointer (some ⟨fb, 0, none⟩), .string (inD nmDb (tx sLog ++ [47]))] W fun e w' => ∃ a cap, e = .returned (.slice a 1 cap) ∧ TextsAt W w' (.slice a 1 cap) [sg]) := hid fun W hW => by
        have h := HST.out.below hW
        have c := s_names h.db.lg.hd.fs h.db.lg.hd.ok (inD nmDb (tx sLog ++ [47]))
        rw [n2] at c
        exact c
       have HC3 : Hid (∀ W, Below wr2.heap.size wr2 W → Calls Tryz.prog 27 #[.pointer (some ⟨fb, 0, none⟩), .string (nmOf nmDb sBase)] W fun e w' => ∃ a cap, e = .returned (.slice a 1 cap) ∧ TextsAt W w' (.slice a 1 cap) L3) := hid fun W hW => by
        have h := HST.out.below hW
        have c := s_names h.db.lg.hd.fs h.db.lg.hd.ok (nmOf nmDb sBase)
        rw [← hL3, n3] at c
        exact c
       have HC4 : Hid (∀ W, Below wr2.heap.size wr2 W → Calls Tryz.prog 27 #[.pointer (some ⟨fb, 0, none⟩), .string (nmOf nmDb sMan)] W fun e w' => ∃ a cap, e = .returned (.slice a 1 cap) ∧ TextsAt W w' (.slice a 1 cap) L4) := hid fun W hW => by
        have h := HST.out.below hW
        have c := s_names h.db.lg.hd.fs h.db.lg.hd.ok (nmOf nmDb sMan)
        rw [← hL4, n4] at c
        exact c
       rw [show dirOf nmDb = ⟨#[100, 98, 47]⟩ from by kernel_rfl] at HC1
       rw [show inD nmDb (tx sLog ++ [47]) = ⟨#[100, 98, 47, 108, 111, 103, 47]⟩ from by kernel_rfl] at HC2
       rw [show nmOf nmDb sBase = ⟨#[100, 98, 47, 98, 97, 115, 101, 45]⟩ from by kernel_rfl] at HC3
       rw [show nmOf nmDb sMan = ⟨#[100, 98, 47, 109, 97, 110, 105, 102, 101, 115, 116]⟩ from by kernel_rfl] at HC4
       clear c1 n1 n2 n3 n4 hL1 hL3 hL4 hsg hth
       go_wp2_with (fail)
       refine HC1.out.mono ?_
       rintro e wA ⟨aA, cA, rfl, htA⟩
       have HBA := hid htA.below
       clear htA HC1
       go_wp2_with (fail)
       refine (HC2.out _ HBA.out).mono ?_
       rintro e wB ⟨aB, cB, rfl, htB⟩
       have HTB := hid htB.sl.rd
       have HBB := hid (HBA.out.trans (htB.below.mono HBA.out.size))
       clear htB HC2
       go_wp2_with (fail)
       refine (HC3.out _ HBB.out).mono ?_
       rintro e wC ⟨aC, cC, rfl, htC⟩
       have HBC := hid (HBB.out.trans (htC.below.mono HBB.out.size))
       have HTC := hid (HTB.out.below htC.below)
       clear htC HC3
       go_wp2_with (fail)
       refine (HC4.out _ HBC.out).mono ?_
       rintro e wD ⟨aD, cD, rfl, htD⟩
       have HBD := hid (HBC.out.trans (htD.below.mono HBC.out.size))
       have HTD := HTC.out.below htD.below
       obtain ⟨gB, offB, eB, hcB⟩ := text_at0 HTD
       subst eB
       have HSD := hid (HST.out.below HBD.out)
       have HWD := hid (HWANT.out.below HBD.out)
       clear htD HC4 HTD
       go_wp2_with (fail)
       refine (d_size HSD.out.db.lg.hd sg).mono ?_
       rw [HSG.out, show sizeRes (some (fl [])) = .tuple #[.int .i64 0, .int .i64 0] from rfl]
       rintro e wE ⟨rfl, rfl⟩
       clear hcB
       go_wp2_with (fail)
       refine (d_crash_nil HSD.out.db.lg.hd.ps).mono ?_
       rintro e wF ⟨rfl, hdF, hkF⟩
       have HDF := hid hdF
       have HSF := hid (HSD.out.db.st.pure (PS.pure _ _) hkF)
       have HWF := hid (want_keeps HSD.out.db HWD.out (hkF.mono fun i _ e => .inl e.1))
       have HDK : Hid (Disk (F.crash fun _ _ => 0) nmDb (1 + i + j) s.seq s.all) := hid (by
        have h := HST.out.on.disk
        rw [HST.out.dir] at h
        exact h.crash _)
       clear hdF hkF
       go_wp2_with (fail)
       refine (open_calm HDF.out HDK.out dirS_db HSZ.out.1 HSZ.out.2 rfl (by have := HNB.out; omega) rfl (by rw [crash_len]; exact HST.out.few) (Int.le_trans (crash_used F HST.out.db.lg.hd.ok _) HST.out.used) HST.out.wt).mono ?_
       rintro e wG ⟨G5, T5, lb5, sb5, tb5, s5, rfl, hst5, hall5, hseq5, hca5, hro5, hkp5, hlow5, hstp5⟩
       have HST5 := hid hst5
       have HALL5 : Hid (s5.all = M) := hid (by rw [hall5, HALL.out])
       have HSG5 := hid (HSF.out.pure (PS.pure _ _) hkp5)
       have HW5 : Hid (SlAt prKind 85 wG (.slice pa M.length pc) M) := hid (HWF.out.keeps hkp5 fun g hg e => by
        obtain ⟨cs, hcs⟩ := HWF.out.own g hg
        exact (PS.pure _ _).not hcs (by decide) (by decide) (by decide) e)
       have HSQ : Hid (s5.seq = s.seq) := hid hseq5
       have HSAME : Hid (Calls Tryz.prog 34 #[.pointer (some ⟨sb5, 0, none⟩), .slice pa M.length pc] wG fun e w' => e = .returned (.bool true) ∧ Below wG.heap.size wG w') := hid (by
        have h := x_same hst5.db.st HW5.out.rd (by rw [HALL5.out]; have := HMB.out; omega) (by have := HMB.out; omega)
        rw [decide_eq_true HALL5.out] at h
        exact h)
       have HB5 := hid hst5.db.lg.hd.below
       clear hst5 hall5 hseq5 hca5 hro5 hkp5 hlow5 hstp5 HDF HDK HSF
       go_wp2_with (first | (go_at_call 19; refine (r_num _ _).mono ?_; rintro e w' ⟨rfl, rfl⟩))
       refine HSAME.out.mono ?_
       rintro e wH ⟨rfl, hbH⟩
       have HBH := hid hbH
       clear hbH
       go_wp2_with (fail)
       refine (so_seq (HST5.out.db.st.below HBH.out).blk).mono ?_
       rintro e wI ⟨rfl, hbI⟩
       have HBI := hid (HBH.out.trans (hbI.mono HBH.out.size))
       clear hbI
       go_wp2_with (fail)
       refine (so_seq (HSG5.out.below HBI.out).blk).mono ?_
       rintro e wJ ⟨rfl, hbJ⟩
       have HE := hid (HB5.out.trans ((HBI.out.trans (hbJ.mono HBI.out.size)).mono HB5.out.size))
       clear hbJ
       simp only [HSQ.out]
       go_wp2_with (fail)
       go_ret
       exact ⟨rfl, HE.out⟩
end
end Go.Proofs.YtagdchgkjjpacaaGreat
