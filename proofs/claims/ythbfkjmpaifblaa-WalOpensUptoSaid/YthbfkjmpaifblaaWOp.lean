/- The walk of the statement WalOpens. -/
import Derived.Deep.CutBlock
import Derived.Deep.DeepCutAuto
import Derived.Test.YthbfkjmpaifblaaWxa
namespace Go.Proofs.Ythbfkjmpaifblaa
open Go.RowKit Go.Shelf

/-- The number at the head of a round. -/
def headPos (fr : Nat) (gap : Int) (j : Nat) : Nat := fr + j + if 0 < gap ∧ gap < j then 1 else 0
section
variable {w : World}
set_option maxRecDepth 100000 in
set_option maxHeartbeats 16000000 in
theorem l_walOpens {u : Value} {l : List (List UInt8)} (hl : ListsAt w u l 1048576) (from0 gap : Int) (hf1 : -9223372036854775808 ≤ from0) (hf2 : from0 ≤ 9223372036854775807) (hg1 : -9223372036854775808 ≤ gap) (hg2 : gap ≤ 9223372036854775807) (down : Bool) :
    Calls Try.prog 6 #[u, .int .i64 from0, .int .i64 gap, .bool down] w fun e w' => e = .returned (.bool true) ∧ Below w.heap.size w w' := by
  obtain ⟨a0, c0, rfl⟩ := hl.rd.shape
  have HL := Lib.hid hl
  have HGB := Lib.hid (And.intro hg1 hg2)
  obtain ⟨fr, hfr, hfr1, hfr2⟩ : ∃ fr : Nat, wrap64 ((wrap64 (from0.tmod 50 + 50)).tmod 50 + 1) = (fr : Int) ∧ 1 ≤ fr ∧ fr ≤ 50 := by
    have t1 : -50 < from0.tmod 50 ∧ from0.tmod 50 < 50 := ⟨by have := Int.lt_tmod_of_pos from0 (show (0 : Int) < 50 by omega); omega, Int.tmod_lt_of_pos from0 (by omega)⟩
    have e1 : wrap64 (from0.tmod 50 + 50) = from0.tmod 50 + 50 := IntWalk.wrap64_in _ (by omega)
    have t2 : 0 ≤ (from0.tmod 50 + 50).tmod 50 ∧ (from0.tmod 50 + 50).tmod 50 < 50 := ⟨Int.tmod_nonneg _ (by omega), Int.tmod_lt_of_pos _ (by omega)⟩
    rw [e1]
    generalize (from0.tmod 50 + 50).tmod 50 = q at t2
    rw [IntWalk.wrap64_in _ (by omega)]
    exact ⟨(q + 1).toNat, by omega, by omega, by omega⟩
  have HFRE := Lib.hid hfr
  have HFR := Lib.hid (And.intro hfr1 hfr2)
  clear hl hf1 hf2 hg1 hg2 hfr hfr1 hfr2
  go_enter Try.func6, Try.ntmps6
  go_wp2_with (fail)
  refine (x_wfirst (w := w)).mono ?_
  rintro e w1 ⟨rfl, hb1⟩
  have HB1 := Lib.hid hb1
  clear hb1
  go_wp2_with (fail)
  refine (x_wfew (HL.out.below HB1.out)).mono ?_
  rintro e w2 ⟨bb, rfl, hbf, hb2⟩
  have HB2 : Hid (Below w.heap.size w w2) := Lib.hid (HB1.out.trans (hb2.mono HB1.out.size))
  clear hb2
  cases bb with
  | false =>
    clear hbf
    go_wp2_with (fail)
    go_ret
    exact ⟨rfl, HB2.out⟩
  | true =>
    clear hbf
    by_cases hls : (20 : Int) < (l.length : Int)
    · go_wp2_with (fail)
      go_ret
      exact ⟨rfl, HB2.out⟩
    have HLE : Hid (l.length ≤ 20) := Lib.hid (by omega)
    have hm : (l.length : Int) ≤ 20 := by omega
    clear hls
    go_wp2_with (fail)
    rw [HFRE.out]
    refine (f_new 67108864 (by decide) (by decide)).mono ?_
    rintro e w3 ⟨fb, rfl, hf, hb⟩
    have HF : Hid (Hd w w3 fb (FsS.new 67108864) 0 (New w2 w3 fun _ => False)) := Lib.hid ⟨hf, fun i e => by rcases e with e | e; exact e.elim; have := HB2.out.size; omega, HB2.out.trans (hb.mono HB2.out.size), FsOk.new0 67108864⟩
    clear hf hb
    go_wp2_with (fail)
    go_loopw [12, 13] (fun nv iv wr => ∃ j : Nat, iv = .int .i64 (j : Int) ∧ nv = .int .i64 (headPos fr gap j : Int) ∧ j ≤ l.length ∧ Hid (∃ F S, Hd w wr fb F (2 * j) S ∧ LayI F fr gap l j)) (fun _ iv _ => l.length - (intOf iv).toNat)
    case atStart => exact ⟨0, rfl, by unfold headPos; rw [if_neg (by omega)]; rfl, Nat.zero_le _, Lib.hid ⟨_, _, HF.out, LayI.new _ _ _⟩⟩
    case round =>
      obtain ⟨j, rfl, rfl, hj, HX⟩ := hrel
      have hk1 : (0 : Int) ≤ (j : Int) := by omega
      by_cases hlt : (j : Int) < (l.length : Int)
      · have HJ : Hid (j < l.length ∧ j < 60) := Lib.hid (by have := HLE.out; omega)
        obtain ⟨r, hr⟩ : ∃ r, l[j]? = some r := ⟨_, List.getElem?_eq_getElem HJ.out.1⟩
        obtain ⟨lg, loff, lcap, a, ca, hv, hcx, hrd, -, -, hrn⟩ := HL.out.at_ hr
        injection hv with hv _ hv3
        subst hv hv3
        have HRD := Lib.hid hrd
        have HRN := Lib.hid hrn
        have HRR := Lib.hid hr
        have CELL : Hid (∀ W, Below w.heap.size w W → W.cell? ⟨lg, loff + j, none⟩ = some (.slice a r.length ca)) := Lib.hid fun W hW => (hW.cell (p := ⟨lg, loff + j, none⟩) (World.block_lt_of_cell? w _ hcx)).trans hcx
        clear hr hcx hrd hrn
        go_upto_region 11 with (fail)
        go_cut [61] (fun b wc => wc = wr ∧ ∃ bv : Bool, b = .bool bv ∧ Hid (bv = decide (0 < gap ∧ gap = (j : Int))))
        case first =>
          by_cases h1 : (j : Int) = gap
          · by_cases h2 : (0 : Int) < (j : Int)
            · have h3 : ((j : Int) == gap) = true := beq_iff_eq.2 h1
              have HB : Hid (true = decide (0 < gap ∧ gap = (j : Int))) := Lib.hid (decide_eq_true (by omega)).symm
              clear h1
              go_wp2_with (fail)
              go_meet
              exact ⟨rfl, true, by rw [decide_eq_true (by omega)], HB⟩
            · have h3 : ((j : Int) == gap) = true := beq_iff_eq.2 h1
              have HB : Hid (false = decide (0 < gap ∧ gap = (j : Int))) := Lib.hid (decide_eq_false (by omega)).symm
              clear h1
              go_wp2_with (fail)
              go_meet
              exact ⟨rfl, false, by rw [decide_eq_false (by omega)], HB⟩
          · have h3 : ((j : Int) == gap) = false := beq_eq_false_iff_ne.2 h1
            have HB : Hid (false = decide (0 < gap ∧ gap = (j : Int))) := Lib.hid (decide_eq_false (by omega)).symm
            clear h1
            go_wp2_with (fail)
            go_meet
            exact ⟨rfl, false, rfl, HB⟩
        case rest =>
          obtain ⟨hw, bv, rfl, HBV⟩ := hcut
          subst hw
          go_upto_if 61 with (fail)
          go_cut [12] (fun nv wd => wd = wc ∧ nv = .int .i64 (posOf fr gap j : Int))
          case first =>
            have HN : Hid ((if bv then (headPos fr gap j : Int) + 1 else (headPos fr gap j : Int)) = (posOf fr gap j : Int)) := Lib.hid (by
              have hb := HBV.out
              unfold headPos posOf
              cases bv with
              | true =>
                have h := of_decide_eq_true hb.symm
                rw [if_pos rfl, if_neg (by omega), if_pos (by omega)]; omega
              | false =>
                have h := of_decide_eq_false hb.symm
                simp only [Bool.false_eq_true, if_false]
                split <;> split <;> omega)
            have hwr : wrap64 ((headPos fr gap j : Int) + 1) = (headPos fr gap j : Int) + 1 := IntWalk.wrap64_in _ (by have := HFR.out; have := HJ.out; unfold headPos; split <;> omega)
            cases bv with
            | true =>
              go_wp2_with (fail)
              go_meet
              exact ⟨rfl, by have := HN.out; simpa using this⟩
            | false =>
              go_wp2_with (fail)
              go_meet
              exact ⟨rfl, by have := HN.out; simpa using this⟩
          case rest =>
            obtain ⟨hw, rfl⟩ := hcut
            subst hw
            obtain ⟨F, S, hH, hI⟩ := HX.out
            have HH := Lib.hid hH
            have HI := Lib.hid hI
            have HP : Hid (posOf fr gap j < 100000000) := Lib.hid (by have := HFR.out; have := HJ.out; unfold posOf; split <;> omega)
            obtain ⟨q, hq⟩ : ∃ q, q = posOf fr gap j := ⟨_, rfl⟩
            rw [← hq] at HP ⊢
            have HQ := Lib.hid hq
            clear hH hI hq HX
            go_wp2_with (fail)
            refine (h_name _ nmW (by decide) q HP.out).mono ?_
            rintro e w5 ⟨rfl, hb5⟩
            have HH5 := Lib.hid (HH.out.read hb5)
            clear hb5
            go_wp2_with (fail)
            refine (d_create HH5.out (by have := HJ.out; omega) _).mono ?_
            rintro e w6 ⟨rfl, hH6, hK6⟩
            have HH6 := Lib.hid hH6
            clear hH6 hK6
            have hc6 := CELL.out _ HH6.out.below
            have HNM : Hid (∀ W1, Below w6.heap.size w6 W1 → Calls Try.prog 22 #[.string nmW, .int .i64 (q : Int)] W1 fun e w2 => e = .returned (.string (segName nmW q)) ∧ w2.cell? ⟨lg, loff + j, none⟩ = some (.slice a r.length ca) ∧ Hid (Below w6.heap.size w6 w2)) := Lib.hid fun W1 hW1 => by
              refine (h_name W1 nmW (by decide) q HP.out).mono fun e w2 ⟨he, hb2⟩ => ?_
              have hb3 := hW1.trans (hb2.mono hW1.size)
              exact ⟨he, CELL.out _ (HH6.out.below.trans (hb3.mono HH6.out.below.size)), Lib.hid hb3⟩
            have HAP : Hid (∀ W1, Below w6.heap.size w6 W1 → Calls Try.prog 36 #[.pointer (some ⟨fb, 0, none⟩), .string (segName nmW q), .slice a r.length ca] W1 fun e w2 => e = .returned (.int .i64 ((F.create (segName nmW q)).1.append (segName nmW q) r).2) ∧ w2.cell? ⟨lg, loff + j, none⟩ = some (.slice a r.length ca) ∧ Hid (∃ S', Hd w w2 fb ((F.create (segName nmW q)).1.append (segName nmW q) r).1 (2 * j + 1 + 1) S')) := Lib.hid fun W1 hW1 => by
              have h1 := HH6.out.read hW1
              refine (d_append h1 (by have := HJ.out; omega) (segName nmW q) HRD.out (by have := HRN.out; omega)).mono fun e w2 ⟨he, h2, _⟩ => ?_
              exact ⟨he, CELL.out _ h2.below, Lib.hid ⟨_, h2⟩⟩
            have hb0 : Below w6.heap.size w6 w6.drew := (Below.refl _ _).drew
            have hj0 : (0 : Int) ≤ (j : Int) := by omega
            have hq8 : (q : Int) < 100000000 := by have := HP.out; omega
            have hq0 : (0 : Int) ≤ (q : Int) := by omega
            go_wp2_with (fail)
            go_region_held3 (fun w' => w'.cell? ⟨lg, loff + j, none⟩ = some (.slice a r.length ca))
              (first
                | go_keep
                | exact s2
                | exact s1)
              (first
                | (go_at_call 22; (with_reducible refine (HNM.out _ ?_).mono ?_); exact hb0; rintro e w7 ⟨rfl, s1, HC⟩)
                | (go_at_call 36; (with_reducible refine (HAP.out _ HC.out).mono ?_); rintro e w8 ⟨rfl, s2, HD⟩))
            have HX2 : Hid (∃ F S, Hd w w8 fb F (2 * (j + 1)) S ∧ LayI F fr gap l (j + 1)) := Lib.hid (by
              obtain ⟨S', h⟩ := HD.out
              refine ⟨_, S', h, ?_⟩
              rw [HQ.out]
              exact HI.out.next HRR.out HFR.out.1 HFR.out.2 HJ.out.2 HL.out.bulk)
            have HHP : Hid ((headPos fr gap (j + 1) : Int) = (q : Int) + 1) := Lib.hid (by
              have h1 := HQ.out
              unfold headPos
              unfold posOf at h1
              rw [h1]
              split <;> split <;> omega)
            clear HNM HAP hb0 hc6
            go_wp2_with (fail)
            go_roundw
            case rel => exact ⟨j + 1, by go_num, by rw [HHP.out], HJ.out.1, HX2⟩
            case measure => simp [intOf]; omega
      · obtain rfl : j = l.length := by omega
        obtain ⟨F, S, hH, hI⟩ := HX.out
        have HH := Lib.hid hH
        have HO : Hid (LayO (F.create nmO).1 fr gap l) := Lib.hid (hI.other HLE.out)
        clear hH hI HX hj hlt
        go_wp2_with (fail)
        refine (d_create HH.out (by have := HLE.out; omega) nmO).mono ?_
        rintro e w5 ⟨rfl, hH5, hK5⟩
        have HH5 := Lib.hid hH5
        clear hH5 hK5
        generalize (F.create nmO).1 = G at HO HH5
        cases down with
        | true =>
          go_wp2_with (fail)
          obtain ⟨mb, rs, hf5⟩ := HH5.out.fs
          refine (f_arm hf5 1 (by decide) (by decide)).mono ?_
          rintro e w6 ⟨rfl, hp6⟩
          have HH6 := Lib.hid (HH5.out.post hp6 (HH5.out.ok.arm (show (0 : Int) ≤ max 1 0 by decide) (by decide)))
          clear hf5 hp6
          go_wp2_with (fail)
          refine (d_create HH6.out (by have := HLE.out; omega) nmX).mono ?_
          rintro e w7 ⟨rfl, hH7, hK7⟩
          rw [HO.out.falls HLE.out] at hH7
          have HH7 := Lib.hid hH7
          clear hH7 hK7
          go_wp2_with (fail)
          refine (w_open HH7.out (by have := HLE.out; omega) nmW (by decide) 64 (HO.out.few_ HLE.out HFR.out.1 HFR.out.2 HL.out.bulk)).mono ?_
          rw [open_down (okName_seg dirOk_w 1) (by decide) (by decide) rfl]
          rintro e w8 ⟨lv, x1, rfl, hO⟩
          obtain ⟨rfl, rfl, T, _, hd8⟩ := hO.bad (show (5 : Int) ≠ 0 by decide)
          have HB8 := Lib.hid hd8.below
          clear hO hd8
          go_wp2_with (first | (go_at_call 27; refine (r_num _ _).mono ?_; rintro e w' ⟨rfl, rfl⟩))
          go_ret
          exact ⟨rfl, HB8.out⟩
        | false =>
          go_wp2_with (fail)
          refine (w_open HH5.out (by have := HLE.out; omega) nmW (by decide) 64 (HO.out.few_ HLE.out HFR.out.1 HFR.out.2 HL.out.bulk)).mono ?_
          by_cases hl0 : l = []
          · subst hl0
            obtain ⟨G', ho⟩ := HO.out.none_
            rw [ho]
            rintro e w8 ⟨lv, x1, rfl, hO⟩
            obtain ⟨lb, rfl, -, T, -, hlg, hx⟩ := hO.good rfl
            obtain ⟨a8, c8, rfl⟩ := hx.shape
            have HL8 := Lib.hid hlg
            clear hO hlg hx ho
            go_wp2_with (first | (go_at_call 27; refine (r_num _ _).mono ?_; rintro e w' ⟨rfl, rfl⟩) | (go_at_call 31; refine (w_segment HL8.out).mono ?_; rintro e w' ⟨rfl, rfl⟩))
            go_ret
            exact ⟨rfl, HL8.out.hd.below⟩
          · have hlp : (0 : Int) < (l.length : Int) := by have := List.length_pos_iff.2 hl0; omega
            have HL0 := Lib.hid hl0
            clear hl0
            obtain ⟨R, hR⟩ : ∃ R, R = openL G nmW 64 := ⟨_, rfl⟩
            rw [← hR]
            rintro e w8 ⟨lv, x1, rfl, hO⟩
            have HR := Lib.hid hR
            have HOP := Lib.hid hO
            have HB8 : Hid (Below w.heap.size w w8) := Lib.hid (by
              by_cases e : R.2.2.2 = 0
              · obtain ⟨lb, _, _, T, _, hlg, _⟩ := hO.good e
                exact hlg.hd.below
              · obtain ⟨_, _, T, _, h⟩ := hO.bad e
                exact h.below)
            clear hR hO
            go_upto_region 25 with (fail)
            go_cut [17] (fun b wc => wc = w8 ∧ ∃ bv : Bool, b = .bool bv ∧ Hid (bv = true ↔ BadTo l gap 0))
            case first =>
              have key : (0 < gap ∧ gap < (l.length : Int)) ↔ BadTo l gap 0 := ⟨fun e => .inl e, fun e => by
                rcases e with e | ⟨i, c, _, h, _⟩
                · exact e
                · exact absurd h (by omega)⟩
              have HKEY := Lib.hid key
              clear key
              by_cases h1 : 0 < gap
              · by_cases h2 : gap < (l.length : Int)
                · go_wp2_with (fail)
                  go_meet
                  exact ⟨rfl, true, by simp [h2], Lib.hid ⟨fun _ => HKEY.out.1 ⟨h1, h2⟩, fun _ => rfl⟩⟩
                · go_wp2_with (fail)
                  go_meet
                  exact ⟨rfl, false, by simp [h2], Lib.hid ⟨fun e => (by cases e), fun e => (by have := (HKEY.out.2 e).2; omega)⟩⟩
              · go_wp2_with (fail)
                go_meet
                exact ⟨rfl, false, rfl, Lib.hid ⟨fun e => (by cases e), fun e => (by have := (HKEY.out.2 e).1; omega)⟩⟩
            case rest =>
              obtain ⟨hw, bv, rfl, HBV⟩ := hcut
              subst hw
              go_wp2_with (fail)
              go_loopw [17, 18, 19, 20] (fun bb wv cv iv wr => ∃ (j : Nat) (b : Bool), iv = .int .i64 (j : Int) ∧ bb = .bool b ∧ Hid (b = true ↔ BadTo l gap j) ∧ cv = .int .i64 (cutTo l j : Int) ∧ j ≤ l.length ∧ Hid (Below wc.heap.size wc wr ∧ LsAt wc.heap.size wr wv ((l.take j).flatMap scanOf))) (fun _ _ _ iv _ => l.length - (intOf iv).toNat)
              case atStart => exact ⟨0, bv, rfl, rfl, HBV, rfl, Nat.zero_le _, Lib.hid ⟨Below.refl _ _, by rw [List.take_zero]; exact LsAt.nil _ _⟩⟩
              case round =>
                obtain ⟨j, b, rfl, rfl, HBJ, rfl, hj, HW⟩ := hrel
                have hk1 : (0 : Int) ≤ (j : Int) := by omega
                by_cases hlt : (j : Int) < (l.length : Int)
                · have HJ : Hid (j < l.length ∧ j < 60) := Lib.hid (by have := HLE.out; omega)
                  obtain ⟨r, hr⟩ : ∃ r, l[j]? = some r := ⟨_, List.getElem?_eq_getElem HJ.out.1⟩
                  obtain ⟨lg, loff, lcap, a, ca, hv, hcx, hrd, hrc, hrm, hrn⟩ := HL.out.at_ hr
                  injection hv with hv _ hv3
                  subst hv hv3
                  have HRD := Lib.hid hrd
                  have HRN := Lib.hid (And.intro hrn (And.intro hrc hrm))
                  have HRR := Lib.hid hr
                  have CELL : Hid (∀ W, Below w.heap.size w W → W.cell? ⟨lg, loff + j, none⟩ = some (.slice a r.length ca)) := Lib.hid fun W hW => (hW.cell (p := ⟨lg, loff + j, none⟩) (World.block_lt_of_cell? w _ hcx)).trans hcx
                  have HBW : Hid (Below w.heap.size w wr) := Lib.hid (HB8.out.trans (HW.out.1.mono HB8.out.size))
                  have hc5 := CELL.out _ HBW.out
                  have hsh := HW.out.2.rd.shape
                  obtain ⟨nv, hnv⟩ : ∃ n, n = ((l.take j).flatMap scanOf).length := ⟨_, rfl⟩
                  rw [← hnv] at hsh
                  obtain ⟨av, cv, rfl⟩ := hsh
                  clear hnv
                  clear hr hcx hrd hrn hrc hrm
                  go_wp2_with (fail)
                  refine (h_scan (HRD.out.below HBW.out) (by have := HRN.out.1; omega) HRN.out.2.1 HRN.out.2.2).mono ?_
                  rintro e w9 ⟨sv, rfl, hls, hb9⟩
                  obtain ⟨asl, csl, rfl⟩ := hls.rd.shape
                  have HBW9 : Hid (Below w.heap.size w w9) := Lib.hid (HBW.out.trans (hb9.mono HBW.out.size))
                  have hfew := recs_few l
                  have hfj : 8 * ((l.take j).flatMap scanOf).length ≤ 1048576 := by
                    have h1 := recs_few (l.take j)
                    have h2 := sum_take_le l j
                    have h3 := HL.out.bulk
                    omega
                  have hfr : 8 * (scanOf r).length ≤ 1048576 := by
                    have h1 := endOf_len (scanOf r)
                    have h2 := scan_end r
                    have h3 := HRN.out.1
                    omega
                  obtain ⟨v10, w10, hrun, hls10, hk10⟩ := (HW.out.2.below hb9).join (hls.mono (by have := HW.out.1.size; omega)) (by have := HW.out.1.size; have := hb9.size; omega) (by omega) 25
                  have HW2 : Hid (Below wc.heap.size wc w10 ∧ LsAt wc.heap.size w10 v10 ((l.take (j + 1)).flatMap scanOf)) := Lib.hid (by
                    have hb2 : Below wc.heap.size wc w9 := HW.out.1.trans (hb9.mono HW.out.1.size)
                    refine ⟨below_keeps hb2 hk10 (fun i e => HW.out.2.new i e) hb2.size, ?_⟩
                    rw [List.take_add_one, HRR.out]
                    simpa using hls10)
                  have HCT : Hid ((cutTo l (j + 1) : Int) = ((r.length - endOf (scanOf r) : Nat) : Int)) := Lib.hid (by rw [cutTo_next HRR.out])
                  have hcw : wrap64 ((r.length : Int) - (endOf (scanOf r) : Int)) = ((r.length - endOf (scanOf r) : Nat) : Int) := by
                    have h1 := scan_end r
                    have h2 := HRN.out.1
                    rw [IntWalk.wrap64_in _ (by omega)]
                    omega
                  have hlw : wrap64 ((l.length : Int) - 1) = (l.length : Int) - 1 := IntWalk.wrap64_in _ (by omega)
                  have hc9 := CELL.out _ HBW9.out
                  have HNB := Lib.hid (BadTo.next (gap := gap) HRR.out)
                  clear hls hb9 hls10 hk10 hfew hfj hfr
                  by_cases hwh : endOf (scanOf r) = r.length
                  · have HBN : Hid (b = true ↔ BadTo l gap (j + 1)) := Lib.hid (by rw [HNB.out, HBJ.out]; exact ⟨fun e => .inl e, fun e => e.resolve_right fun e2 => e2.2 hwh⟩)
                    obtain ⟨dw, hdw⟩ : ∃ dw, dw = decide (endOf (scanOf r) = r.length) := ⟨_, rfl⟩
                    have hdt : dw = true := by rw [hdw]; exact decide_eq_true hwh
                    rw [← hdw]
                    subst hdt
                    clear hdw hwh
                    go_wp2_with (first | (at_builtin; refine wpList_append_run rfl (.tmp 163) (.tmp 164) 25 rfl _ _ rfl rfl _ _ hrun ?_))
                    go_roundw
                    case rel => exact ⟨j + 1, b, by go_num, rfl, HBN, by rw [HCT.out], HJ.out.1, HW2⟩
                    case measure => simp [intOf]; omega
                  · obtain ⟨dw, hdw⟩ : ∃ dw, dw = decide (endOf (scanOf r) = r.length) := ⟨_, rfl⟩
                    have hdt : dw = false := by rw [hdw]; exact decide_eq_false hwh
                    rw [← hdw]
                    subst hdt
                    have HWH := Lib.hid hwh
                    clear hdw hwh
                    by_cases hln : (j : Int) < (l.length : Int) - 1
                    · have HBT : Hid (BadTo l gap (j + 1)) := Lib.hid (by rw [HNB.out]; exact .inr ⟨by omega, HWH.out⟩)
                      go_wp2_with (first | (at_builtin; refine wpList_append_run rfl (.tmp 163) (.tmp 164) 25 rfl _ _ rfl rfl _ _ hrun ?_))
                      go_roundw
                      case rel => exact ⟨j + 1, true, by go_num, rfl, Lib.hid ⟨fun _ => HBT.out, fun _ => rfl⟩, by rw [HCT.out], HJ.out.1, HW2⟩
                      case measure => simp [intOf]; omega
                    · have HBN : Hid (b = true ↔ BadTo l gap (j + 1)) := Lib.hid (by rw [HNB.out, HBJ.out]; exact ⟨fun e => .inl e, fun e => e.resolve_right fun e2 => by omega⟩)
                      go_wp2_with (first | (at_builtin; refine wpList_append_run rfl (.tmp 163) (.tmp 164) 25 rfl _ _ rfl rfl _ _ hrun ?_))
                      go_roundw
                      case rel => exact ⟨j + 1, b, by go_num, rfl, HBN, by rw [HCT.out], HJ.out.1, HW2⟩
                      case measure => simp [intOf]; omega
                · obtain rfl : j = l.length := by omega
                  have HBW : Hid (Below w.heap.size w wr) := Lib.hid (HB8.out.trans (HW.out.1.mono HB8.out.size))
                  cases b with
                  | true =>
                    have hr := HO.out.bad HFR.out.1 HFR.out.2 HLE.out (HBJ.out.1 rfl)
                    rw [← HR.out] at hr
                    have hr1 : R.2.2.2 = 14 := by rw [hr]
                    obtain ⟨rfl, rfl, _⟩ := HOP.out.bad (by rw [hr1]; decide)
                    rw [hr1]
                    clear hr hr1
                    go_wp2_with (first | (go_at_call 27; refine (r_num _ _).mono ?_; rintro e w' ⟨rfl, rfl⟩))
                    go_ret
                    exact ⟨rfl, HBW.out⟩
                  | false =>
                    obtain ⟨G', y, x, ho, hy, hx, hyd, hcl⟩ := HO.out.good HFR.out.1 HFR.out.2 HLE.out HL0.out (fun e => by have := HBJ.out.2 e; cases this)
                    obtain rfl : R = _ := HR.out.trans ho
                    obtain ⟨lb, rfl, -, T, -, hlg, hx8⟩ := HOP.out.good rfl
                    have hsh := hx8.shape
                    obtain ⟨nv, hnv⟩ : ∃ n, n = (l.flatMap scanOf).length := ⟨_, rfl⟩
                    obtain ⟨ct, hct⟩ : ∃ n, n = cutTo l l.length := ⟨_, rfl⟩
                    obtain ⟨m, hm'⟩ : ∃ n, n = l.length - 1 := ⟨_, rfl⟩
                    have hhp : headPos fr gap l.length = fr + m + 1 := by
                      have h1 : ¬ (0 < gap ∧ gap < (l.length : Int)) := fun e => by have := HBJ.out.2 (.inl e); cases this
                      unfold headPos
                      rw [if_neg h1]
                      omega
                    have hml : m + 1 = l.length := by omega
                    have HML := Lib.hid hml
                    have h1fr := HFR.out
                    have hw1 : wrap64 ((headPos fr gap l.length : Int) - 1) = ((fr + m : Nat) : Int) := by
                      rw [hhp, IntWalk.wrap64_in _ (by omega)]; omega
                    have hw2 : wrap64 ((l.length : Int) - 1) = (m : Int) := by
                      rw [IntWalk.wrap64_in _ (by omega)]; omega
                    rw [← hm'] at hy hx hlg
                    rw [← hct] at hyd hcl hlg
                    rw [← hnv] at hsh
                    obtain ⟨a8, c8, rfl⟩ := hsh
                    have HX8 : Hid (LrAt wr (.slice a8 nv c8) (l.flatMap scanOf)) := Lib.hid (hx8.rd.below HW.out.1)
                    have HL8 := Lib.hid (hlg.below HW.out.1)
                    have HWR : Hid (LrAt wr u18 (l.flatMap scanOf)) := Lib.hid (by have h := HW.out.2.rd; rw [List.take_length] at h; exact h)
                    have hsh2 := HWR.out.shape
                    rw [← hnv] at hsh2
                    obtain ⟨aw, cw, rfl⟩ := hsh2
                    have HNV : Hid (8 * (l.flatMap scanOf).length ≤ 1048576) := Lib.hid (by have h1 := recs_few l; have h3 := HL.out.bulk; omega)
                    obtain ⟨lg, loff, lcap, a, ca, hv, hcx, hrd, hrc, hrm, hrn⟩ := HL.out.at_ hx
                    injection hv with hv _ hv3
                    subst hv hv3
                    have HRD := Lib.hid hrd
                    have HRN := Lib.hid (And.intro hrn (And.intro hrc (And.intro hrm hcl)))
                    have CELL : Hid (∀ W, Below w.heap.size w W → W.cell? ⟨lg, loff + m, none⟩ = some (.slice a x.length ca)) := Lib.hid fun W hW => (hW.cell (p := ⟨lg, loff + m, none⟩) (World.block_lt_of_cell? w _ hcx)).trans hcx
                    have HY := Lib.hid (And.intro hy hyd)
                    have hm0 : (0 : Int) ≤ (m : Int) := by omega
                    have hm1 : (m : Int) < (l.length : Int) := by omega
                    have hw3 : wrap64 ((x.length : Int) - (ct : Int)) = ((x.length - ct : Nat) : Int) := by
                      rw [IntWalk.wrap64_in _ (by omega)]; omega
                    rw [← hct]
                    clear hx8 hlg ho hy hx hyd hcl hm' hml hhp hcx hrd hrc hrm hrn hnv hct h1fr
                    obtain ⟨hp, hhp⟩ : ∃ n : Nat, n = headPos fr gap l.length := ⟨_, rfl⟩
                    rw [← hhp] at hw1 ⊢
                    clear hhp
                    go_wp2_with (first | (go_at_call 27; refine (r_num _ _).mono ?_; rintro e w' ⟨rfl, rfl⟩))
                    refine (r_sameLists HX8.out HWR.out (by have := HNV.out; omega) (fun q hq => Nat.le_trans (recs_small q hq) (by omega))).mono ?_
                    rintro e w9 ⟨rfl, hb9⟩
                    have HL9 := Lib.hid (HL8.out.below hb9)
                    have HCU : Hid (Calls Try.prog 39 #[.pointer (some ⟨lb, 0, none⟩)] w9 fun e w' => e = .returned (.int .i64 (ct : Int)) ∧ w9 = w') := Lib.hid (w_cut HL9.out)
                    have HFI : Hid (Calls Try.prog 32 #[.pointer (some ⟨lb, 0, none⟩)] w9 fun e w' => e = .returned (.int .i64 (fr : Int)) ∧ w9 = w') := Lib.hid (w_first HL9.out)
                    have HSE : Hid (Calls Try.prog 31 #[.pointer (some ⟨lb, 0, none⟩)] w9 fun e w' => e = .returned (.int .i64 ((fr + m : Nat) : Int)) ∧ w9 = w') := Lib.hid (w_segment HL9.out)
                    clear hb9
                    obtain ⟨sg, hsg⟩ : ∃ sg : Nat, sg = fr + m := ⟨_, rfl⟩
                    rw [← hsg] at hw1 HSE
                    have HSG := Lib.hid hsg
                    clear hsg
                    go_wp2_with (first | (go_at_call 39; refine HCU.out.mono ?_; rintro e w' ⟨rfl, rfl⟩) | (go_at_call 32; refine HFI.out.mono ?_; rintro e w' ⟨rfl, rfl⟩) | (go_at_call 31; refine HSE.out.mono ?_; rintro e w' ⟨rfl, rfl⟩))
                    refine (h_name _ nmW (by decide) sg (by have := HSG.out; have := HFR.out; have := HML.out; have := HLE.out; omega)).mono ?_
                    rintro e w10 ⟨rfl, hb10⟩
                    have HL10 := Lib.hid (HL9.out.below hb10)
                    clear hb10
                    go_wp2_with (fail)
                    refine (d_read HL10.out.hd (by rw [HSG.out]; exact HY.out.1)).mono ?_
                    rintro e w11 ⟨ar, cr, rfl, hfr, hd11⟩
                    obtain ⟨z, hz⟩ : ∃ z, z = x.length - ct := ⟨_, rfl⟩
                    have hyl : y.data.length = z := by rw [HY.out.2, List.length_take, hz]; omega
                    have hzc : z ≤ ca := by have := HRN.out.2.1; omega
                    have HRX : Hid (RdAt byteKind w11 (.slice a z ca) (x.take z)) := Lib.hid ((HRD.out.below hd11.below).take (by omega) ca)
                    rw [← hz] at hw3
                    have HZ := Lib.hid hz
                    rw [hyl] at hfr ⊢
                    have HRY : Hid (RdAt byteKind w11 (.slice ar z cr) (x.take z)) := Lib.hid (by have h := hfr.sl.rd; rw [HY.out.2, ← hz] at h; exact h)
                    have HD11 := Lib.hid hd11
                    have hc11 : w11.cell? ⟨lg, loff + (l.length - 1), none⟩ = some (.slice a x.length ca) := by rw [show l.length - 1 = m by have := HML.out; omega]; exact CELL.out _ hd11.below
                    have hst : (0 : Int) ≤ G'.steps := hd11.ok.steps0
                    clear hz hyl hfr hd11
                    go_wp2_with (fail)
                    refine (r_sameBytes HRY.out HRX.out (by rw [List.length_take]; have := HRN.out.1; omega)).mono ?_
                    rintro e w12 ⟨rfl, hb12⟩
                    have HD12 := Lib.hid (HD11.out.read hb12)
                    have HSTE : Hid (Calls Try.prog 38 #[.pointer (some ⟨fb, 0, none⟩)] w12 fun e w' => e = .returned (.int .i64 G'.steps) ∧ w12 = w') := Lib.hid (d_steps HD12.out)
                    clear hb12
                    go_wp2_with (first | (go_at_call 38; refine HSTE.out.mono ?_; rintro e w' ⟨rfl, rfl⟩))
                    go_ret
                    exact ⟨rfl, HD12.out.below⟩
end
end Go.Proofs.Ythbfkjmpaifblaa
