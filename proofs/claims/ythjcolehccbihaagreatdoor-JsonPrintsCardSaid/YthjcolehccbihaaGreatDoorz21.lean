/- The walks of exref7's number and Literal. -/
import Derived.Test.YthjcolehccbihaaGreatDoorz20
set_option linter.unusedSimpArgs false
set_option linter.unusedVariables false
set_option linter.unusedSectionVars false
namespace Go.Proofs.YthjcolehccbihaaGreatDoor
open Go.RowKit Go.Shelf
theorem now_cons {l : List UInt8} {c : UInt8} (h : now l = c) (hc : c ≠ 0) : ∃ r, l = c :: r := by
  cases l with
  | nil => exact absurd h.symm hc
  | cons d r => exact ⟨r, by rw [show d = c from h]⟩
section
variable {w w' : World} {rb : Nat} {bv : Value} {bs : List UInt8} {s : DSt}
/-- The byte here, as a number; what is known of it. -/
theorem now_is (l : List UInt8) (n : Nat) (hn : n < 256) : (((now l).toNat : Int) == (n : Int)) = decide (now l = UInt8.ofNat n) := by
  by_cases h : now l = UInt8.ofNat n
  · rw [h, decide_eq_true rfl]
    have : (UInt8.ofNat n).toNat = n := by rw [UInt8.toNat_ofNat']; omega
    rw [this]; simp
  · rw [decide_eq_false h]
    have h2 : (now l).toNat ≠ n := fun e => h (by rw [← e]; simp)
    simp; omega
set_option maxRecDepth 100000 in
set_option maxHeartbeats 4000000 in
theorem k_number (h : KRd w rb bv bs (bs, false)) : Calls Tryz.prog 111 #[.pointer (some ⟨rb, 0, none⟩)] w fun e w' => e = .returned (.string (str (bs.take (bs.length - (dNum bs).1.length)))) ∧ KRd w' rb bv bs (dNum bs) ∧ Keeps (Only rb) w w' := by
  have H0 := Lib.hid h
  have K0 := Lib.hid (Keeps.refl (Only rb) w)
  obtain ⟨a, cap, k, er, -, hk, hkl, -, c0, c1, c2, f1, -⟩ := h.parts
  have hk0 : k = 0 := by simpa using hk
  subst hk0
  clear h hk hkl
  have HN := Lib.hid (k_now H0.out)
  obtain ⟨z, hz⟩ : ∃ z : Int, z = ((now bs).toNat : Int) := ⟨_, rfl⟩
  rw [show ((now ((bs, false)).1).toNat : Int) = z from hz.symm] at HN
  have HZ := Lib.hid hz
  clear hz
  go_enter Tryz.func111, Tryz.ntmps111
  go_wp2_with (fail)
  refine HN.out.mono ?_
  rintro e w1 ⟨rfl, n1, rfl⟩
  have H1 := Lib.hid (H0.out.below (below_drewN _ w n1))
  have K1 := Lib.hid (K0.out.trans' (keeps_drew rb w n1))
  generalize w.drewN n1 = w1 at H1 K1 ⊢
  clear HN H0 K0
  clear c0 c1 c2 f1
  go_upto_if 10 with (fail)
  go_cut [] from 8 (fun wx => Hid (KRd wx rb bv bs (dSign bs, false)) ∧ Hid (Keeps (Only rb) w wx))
  case first =>
    by_cases hc : now bs = 45
    · obtain ⟨r, hr⟩ := now_cons hc (by decide)
      obtain ⟨a, cap, k, er, -, hk, hkl, -, c0, c1, c2, f1, -⟩ := H1.out.parts
      have HS := Lib.hid (k_step H1.out hr hk)
      have kb : (0 : Int) ≤ (k : Int) ∧ (k : Int) ≤ 1000000 := by have := H1.out.len; omega
      obtain ⟨kb1, kb2⟩ := kb
      have HR := Lib.hid hr
      clear hk hkl hr
      have HE : Hid (dSign bs = r) := Lib.hid (by unfold dSign; rw [if_pos hc, HR.out]; rfl)
      have tz : (z == 45) = true := by rw [HZ.out]; exact (now_is bs 45 (by decide)).trans (by simp [hc])
      clear hc
      go_wp2_with (fail)
      go_meet
      exact ⟨Lib.hid (by rw [HE.out]; exact HS.out.1), Lib.hid (K1.out.trans' HS.out.2)⟩
    · have HE : Hid (dSign bs = bs) := Lib.hid (by unfold dSign; rw [if_neg hc])
      have tz : (z == 45) = false := by rw [HZ.out]; exact (now_is bs 45 (by decide)).trans (by simp [hc])
      clear hc
      go_wp2_with (fail)
      go_meet
      exact ⟨Lib.hid (by rw [HE.out]; exact H1.out), K1⟩
  case rest =>
    obtain ⟨H2, K2⟩ := hcut
    clear H1 K1 HZ
    obtain ⟨l2, hl2⟩ : ∃ l, l = dSign bs := ⟨_, rfl⟩
    rw [← hl2] at H2
    have HL2 := Lib.hid hl2
    clear hl2
    have HN := Lib.hid (k_now H2.out)
    obtain ⟨z, hz⟩ : ∃ z : Int, z = ((now l2).toNat : Int) := ⟨_, rfl⟩
    rw [show ((now ((l2, false)).1).toNat : Int) = z from hz.symm] at HN
    have HZ := Lib.hid hz
    clear hz
    go_wp2_with (fail)
    refine HN.out.mono ?_
    rintro e w3 ⟨rfl, n1, rfl⟩
    have H3 := Lib.hid (H2.out.below (below_drewN _ wc n1))
    have K3 := Lib.hid (K2.out.trans' (keeps_drew rb wc n1))
    generalize wc.drewN n1 = w3 at H3 K3 ⊢
    clear HN H2 K2
    go_upto_if 21 with (fail)
    go_cut [] from 19 (fun wx => Hid (KRd wx rb bv bs (dWhole l2)) ∧ Hid (Keeps (Only rb) w wx))
    case first =>
      by_cases hc : now l2 = 48
      · obtain ⟨r, hr⟩ := now_cons hc (by decide)
        obtain ⟨a, cap, k, er, -, hk, hkl, -, c0, c1, c2, f1, -⟩ := H3.out.parts
        have HS := Lib.hid (k_step H3.out hr hk)
        have kb : (0 : Int) ≤ (k : Int) ∧ (k : Int) ≤ 1000000 := by have := H3.out.len; omega
        obtain ⟨kb1, kb2⟩ := kb
        have HR := Lib.hid hr
        clear hk hkl hr
        have HE : Hid (dWhole l2 = (r, false)) := Lib.hid (by unfold dWhole; rw [if_pos hc, HR.out]; rfl)
        have tz : (z == 48) = true := by rw [HZ.out]; exact (now_is l2 48 (by decide)).trans (by simp [hc])
        clear hc
        go_wp2_with (fail)
        go_meet
        exact ⟨Lib.hid (by rw [HE.out]; exact HS.out.1), Lib.hid (K3.out.trans' HS.out.2)⟩
      · have HE : Hid (dWhole l2 = dDigits (l2, false)) := Lib.hid (by unfold dWhole; rw [if_neg hc])
        have tz : (z == 48) = false := by rw [HZ.out]; exact (now_is l2 48 (by decide)).trans (by simp [hc])
        have HD := Lib.hid (k_digits H3.out)
        clear hc
        go_wp2_with (fail)
        refine HD.out.mono ?_
        rintro e w4 ⟨rfl, h4, k4⟩
        have H4 := Lib.hid h4
        have K4 := Lib.hid (K3.out.trans' k4)
        clear h4 k4
        go_wp2_with (fail)
        go_meet
        exact ⟨Lib.hid (by rw [HE.out]; exact H4.out), K4⟩
    case rest =>
      obtain ⟨H4, K4⟩ := hcut
      clear H3 K3 HZ
      obtain ⟨s3, hs3⟩ : ∃ s, s = dWhole l2 := ⟨_, rfl⟩
      rw [← hs3] at H4
      have HS3 := Lib.hid hs3
      clear hs3
      go_upto_region 7 with (fail)
      go_cut [41] from 32 (fun c wx => c = .bool (!s3.2 && now s3.1 == 46) ∧ Hid (KRd wx rb bv bs s3) ∧ Hid (Keeps (Only rb) w wx))
      case first =>
        obtain ⟨a, cap, k, er, -, hk, hkl, hes, c0, c1, c2, f1, -⟩ := H4.out.parts
        clear hk hkl
        cases hb : s3.2 with
        | true =>
          have t0 : (er == 0) = false := by
            have : er ≠ 0 := fun e => by have := hes.1 e; rw [hb] at this; cases this
            simpa using this
          clear hes
          go_wp2_with (fail)
          go_meet
          exact ⟨by simp [hb], H4, K4⟩
        | false =>
          have e0 : er = 0 := hes.2 hb
          subst e0
          clear hes
          have HN := Lib.hid (k_now H4.out)
          obtain ⟨z, hz⟩ : ∃ z : Int, z = ((now s3.1).toNat : Int) := ⟨_, rfl⟩
          rw [show ((now (s3).1).toNat : Int) = z from hz.symm] at HN
          have HZ := Lib.hid hz
          clear hz
          go_wp2_with (fail)
          refine HN.out.mono ?_
          rintro e w5 ⟨rfl, n1, rfl⟩
          have H5 := Lib.hid (H4.out.below (below_drewN _ wc n1))
          have K5 := Lib.hid (K4.out.trans' (keeps_drew rb wc n1))
          generalize wc.drewN n1 = w5 at H5 K5 ⊢
          clear HN H4 K4
          have HT : Hid ((z == 46) = (now s3.1 == 46)) := Lib.hid (by rw [HZ.out]; refine (now_is s3.1 46 (by decide)).trans ?_; by_cases hc : now s3.1 = 46 <;> simp [hc])
          clear c0 c1 c2 f1
          go_wp2_with (fail)
          go_meet
          exact ⟨by rw [hb, ← HT.out]; simp, H5, K5⟩
      case rest =>
        obtain ⟨hb, H5, K5⟩ := hcut
        subst hb
        clear H4 K4
        go_upto_if 41 with (fail)
        go_cut [] from 32 (fun wx => Hid (KRd wx rb bv bs (dFrac s3)) ∧ Hid (Keeps (Only rb) w wx))
        case first =>
          cases hb : (!s3.2 && now s3.1 == 46) with
          | true =>
            have hc : now s3.1 = 46 := by simp at hb; exact hb.2
            have hf : s3.2 = false := by simp at hb; exact hb.1
            obtain ⟨r, hr⟩ := now_cons hc (by decide)
            obtain ⟨a, cap, k, er, -, hk, hkl, -, c0, c1, c2, f1, -⟩ := H5.out.parts
            have HS := Lib.hid (k_step H5.out hr hk)
            have kb : (0 : Int) ≤ (k : Int) ∧ (k : Int) ≤ 1000000 := by have := H5.out.len; omega
            obtain ⟨kb1, kb2⟩ := kb
            have HR := Lib.hid hr
            clear hk hkl hr
            have HE : Hid (dFrac s3 = dDigits (r, s3.2)) := Lib.hid (by unfold dFrac; rw [hb, if_pos rfl, HR.out]; rfl)
            have HD := Lib.hid (k_digits HS.out.1)
            have K6 := Lib.hid (K5.out.trans' HS.out.2)
            clear hc hf hb
            go_wp2_with (fail)
            refine HD.out.mono ?_
            rintro e w6 ⟨rfl, h6, k6⟩
            have H7 := Lib.hid h6
            have K7 := Lib.hid (K6.out.trans' k6)
            clear h6 k6
            go_wp2_with (fail)
            go_meet
            exact ⟨Lib.hid (by rw [HE.out]; exact H7.out), K7⟩
          | false =>
            have HE : Hid (dFrac s3 = s3) := Lib.hid (by unfold dFrac; rw [hb]; rfl)
            clear hb
            go_wp2_with (fail)
            go_meet
            exact ⟨Lib.hid (by rw [HE.out]; exact H5.out), K5⟩
        case rest =>
          obtain ⟨H6, K6⟩ := hcut
          clear H5 K5
          obtain ⟨s4, hs4⟩ : ∃ s, s = dFrac s3 := ⟨_, rfl⟩
          rw [← hs4] at H6
          have HS4 := Lib.hid hs4
          clear hs4
          go_upto_region 10 with (fail)
          go_cut [66] from 52 (fun c wx => c = .bool (!s4.2 && isE (now s4.1)) ∧ Hid (KRd wx rb bv bs s4) ∧ Hid (Keeps (Only rb) w wx))
          case first =>
            obtain ⟨a, cap, k, er, -, hk, hkl, hes, c0, c1, c2, f1, -⟩ := H6.out.parts
            clear hk hkl
            cases hb : s4.2 with
            | true =>
              have t0 : (er == 0) = false := by
                have : er ≠ 0 := fun e => by have := hes.1 e; rw [hb] at this; cases this
                simpa using this
              clear hes
              go_wp2_with (fail)
              go_meet
              exact ⟨by simp [hb], H6, K6⟩
            | false =>
              have e0 : er = 0 := hes.2 hb
              subst e0
              clear hes
              have HN := Lib.hid (k_now H6.out)
              obtain ⟨z, hz⟩ : ∃ z : Int, z = ((now s4.1).toNat : Int) := ⟨_, rfl⟩
              rw [show ((now (s4).1).toNat : Int) = z from hz.symm] at HN
              have HZ := Lib.hid hz
              clear hz
              go_wp2_with (fail)
              refine HN.out.mono ?_
              rintro e w7 ⟨rfl, n1, rfl⟩
              have H7 := Lib.hid (H6.out.below (below_drewN _ wc n1))
              have K7 := Lib.hid (K6.out.trans' (keeps_drew rb wc n1))
              generalize wc.drewN n1 = w7 at H7 K7 ⊢
              clear HN H6 K6
              clear c0 c1 c2 f1
              by_cases hc : now s4.1 = 101
              · have tz : (z == 101) = true := by rw [HZ.out]; exact (now_is s4.1 101 (by decide)).trans (by simp [hc])
                have HT : Hid (isE (now s4.1) = true) := Lib.hid (by rw [hc]; rfl)
                clear hc
                go_wp2_with (fail)
                go_meet
                exact ⟨by simp [hb, HT.out], H7, K7⟩
              · have tz : (z == 101) = false := by rw [HZ.out]; exact (now_is s4.1 101 (by decide)).trans (by simp [hc])
                have HN := Lib.hid (k_now H7.out)
                rw [show ((now s4.1).toNat : Int) = z from HZ.out.symm] at HN
                have HT : Hid ((z == 69) = isE (now s4.1)) := Lib.hid (by rw [HZ.out]; refine (now_is s4.1 69 (by decide)).trans ?_; unfold isE; by_cases h2 : now s4.1 = 69 <;> simp [hc, h2])
                clear hc
                go_wp2_with (fail)
                refine HN.out.mono ?_
                rintro e w8 ⟨rfl, n1, rfl⟩
                have H8 := Lib.hid (H7.out.below (below_drewN _ w7 n1))
                have K8 := Lib.hid (K7.out.trans' (keeps_drew rb w7 n1))
                generalize w7.drewN n1 = w8 at H8 K8 ⊢
                clear HN H7 K7
                go_wp2_with (fail)
                go_meet
                exact ⟨by rw [hb, ← HT.out]; simp, H8, K8⟩
          case rest =>
            obtain ⟨hb, H7, K7⟩ := hcut
            subst hb
            clear H6 K6
            go_upto_if 66 with (fail)
            go_cut [] from 52 (fun wx => Hid (KRd wx rb bv bs (dExp s4)) ∧ Hid (Keeps (Only rb) w wx))
            case first =>
              cases hb : (!s4.2 && isE (now s4.1)) with
              | true =>
                obtain ⟨r, hr⟩ : ∃ r, s4.1 = now s4.1 :: r := now_cons rfl (fun e => by rw [e] at hb; simp [isE] at hb)
                obtain ⟨a, cap, k, er, -, hk, hkl, -, c0, c1, c2, f1, -⟩ := H7.out.parts
                have HS := Lib.hid (k_step H7.out hr hk)
                have kb : (0 : Int) ≤ (k : Int) ∧ (k : Int) ≤ 1000000 := by have := H7.out.len; omega
                obtain ⟨kb1, kb2⟩ := kb
                have HE : Hid (dExp s4 = dDigits (dPlus r, s4.2)) := Lib.hid (by
                  unfold dExp
                  rw [hb, if_pos rfl]
                  have : s4.1.tail = r := by rw [hr]; rfl
                  rw [this])
                clear hk hkl hr hb
                go_upto_region 12 with (fail)
                have H8 := Lib.hid HS.out.1
                have K8 := Lib.hid (K7.out.trans' HS.out.2)
                clear HS H7 K7 c0 c1 c2 f1
                generalize wc.setCell ⟨rb, 1, none⟩ (.int .i64 ((k : Int) + 1)) = w8 at H8 K8 ⊢
                have HN := Lib.hid (k_now H8.out)
                obtain ⟨z, hz⟩ : ∃ z : Int, z = ((now r).toNat : Int) := ⟨_, rfl⟩
                rw [show ((now ((r, s4.2)).1).toNat : Int) = z from hz.symm] at HN
                have HZ := Lib.hid hz
                clear hz
                go_wp2_with (fail)
                refine HN.out.mono ?_
                rintro e w9 ⟨rfl, n1, rfl⟩
                have H9 := Lib.hid (H8.out.below (below_drewN _ w8 n1))
                have K9 := Lib.hid (K8.out.trans' (keeps_drew rb w8 n1))
                generalize w8.drewN n1 = w9 at H9 K9 ⊢
                clear HN H8 K8
                by_cases hc : now r = 43
                · have tz : (z == 43) = true := by rw [HZ.out]; exact (now_is r 43 (by decide)).trans (by simp [hc])
                  obtain ⟨q, hr⟩ := now_cons hc (by decide)
                  obtain ⟨a, cap, k, er, -, hk, hkl, -, c0, c1, c2, f1, -⟩ := H9.out.parts
                  have HS := Lib.hid (k_step H9.out hr hk)
                  have kb : (0 : Int) ≤ (k : Int) ∧ (k : Int) ≤ 1000000 := by have := H9.out.len; omega
                  obtain ⟨kb1, kb2⟩ := kb
                  have HR := Lib.hid hr
                  clear hk hkl hr
                  have HP : Hid (dPlus r = q) := Lib.hid (by unfold dPlus; rw [if_pos (.inl hc), HR.out]; rfl)
                  have HD := Lib.hid (k_digits HS.out.1)
                  have K10 := Lib.hid (K9.out.trans' HS.out.2)
                  clear hc
                  go_wp2_with (fail)
                  refine HD.out.mono ?_
                  rintro e w10 ⟨rfl, h6, k6⟩
                  have H11 := Lib.hid h6
                  have K11 := Lib.hid (K10.out.trans' k6)
                  clear h6 k6
                  go_wp2_with (fail)
                  go_meet
                  exact ⟨Lib.hid (by rw [HE.out, HP.out]; exact H11.out), K11⟩
                · have tz : (z == 43) = false := by rw [HZ.out]; exact (now_is r 43 (by decide)).trans (by simp [hc])
                  have HN := Lib.hid (k_now H9.out)
                  rw [show ((now (r, s4.2).1).toNat : Int) = z from HZ.out.symm] at HN
                  have HC := Lib.hid hc
                  clear hc
                  go_wp2_with (fail)
                  refine HN.out.mono ?_
                  rintro e w10 ⟨rfl, n1, rfl⟩
                  have H10 := Lib.hid (H9.out.below (below_drewN _ w9 n1))
                  have K10 := Lib.hid (K9.out.trans' (keeps_drew rb w9 n1))
                  generalize w9.drewN n1 = w10 at H10 K10 ⊢
                  clear HN H9 K9
                  by_cases hc : now r = 45
                  · have tz : (z == 45) = true := by rw [HZ.out]; exact (now_is r 45 (by decide)).trans (by simp [hc])
                    obtain ⟨q, hr⟩ := now_cons hc (by decide)
                    obtain ⟨a, cap, k, er, -, hk, hkl, -, c0, c1, c2, f1, -⟩ := H10.out.parts
                    have HS := Lib.hid (k_step H10.out hr hk)
                    have kb : (0 : Int) ≤ (k : Int) ∧ (k : Int) ≤ 1000000 := by have := H10.out.len; omega
                    obtain ⟨kb1, kb2⟩ := kb
                    have HR := Lib.hid hr
                    clear hk hkl hr
                    have HP : Hid (dPlus r = q) := Lib.hid (by unfold dPlus; rw [if_pos (.inr hc), HR.out]; rfl)
                    have HD := Lib.hid (k_digits HS.out.1)
                    have K11 := Lib.hid (K10.out.trans' HS.out.2)
                    clear hc
                    go_wp2_with (fail)
                    refine HD.out.mono ?_
                    rintro e w11 ⟨rfl, h6, k6⟩
                    have H11 := Lib.hid h6
                    have K12 := Lib.hid (K11.out.trans' k6)
                    clear h6 k6
                    go_wp2_with (fail)
                    go_meet
                    exact ⟨Lib.hid (by rw [HE.out, HP.out]; exact H11.out), K12⟩
                  · have tz : (z == 45) = false := by rw [HZ.out]; exact (now_is r 45 (by decide)).trans (by simp [hc])
                    have HP : Hid (dPlus r = r) := Lib.hid (by unfold dPlus; rw [if_neg (fun h => h.elim HC.out hc)])
                    have HD := Lib.hid (k_digits H10.out)
                    clear hc
                    go_wp2_with (fail)
                    refine HD.out.mono ?_
                    rintro e w11 ⟨rfl, h6, k6⟩
                    have H11 := Lib.hid h6
                    have K12 := Lib.hid (K10.out.trans' k6)
                    clear h6 k6
                    go_wp2_with (fail)
                    go_meet
                    exact ⟨Lib.hid (by rw [HE.out, HP.out]; exact H11.out), K12⟩
              | false =>
                have HE : Hid (dExp s4 = s4) := Lib.hid (by unfold dExp; rw [hb]; rfl)
                clear hb
                go_wp2_with (fail)
                go_meet
                exact ⟨Lib.hid (by rw [HE.out]; exact H7.out), K7⟩
            case rest =>
              obtain ⟨H8, K8⟩ := hcut
              clear H7 K7
              have HRS : Hid (dExp s4 = dRest bs) := Lib.hid (by unfold dRest; rw [HS4.out, HS3.out, HL2.out])
              rw [HRS.out] at H8
              obtain ⟨s5, hs5⟩ : ∃ s, s = dRest bs := ⟨_, rfl⟩
              rw [← hs5] at H8
              have HS5 := Lib.hid hs5
              have HDN : Hid (dNum bs = (s5.1, s5.2 || decide (40 < bs.length - s5.1.length))) := Lib.hid (by unfold dNum; rw [← hs5])
              clear hs5 HRS
              go_upto_region 15 with (fail)
              go_cut [106] from 93 (fun c wx => c = .bool (!s5.2 && decide (40 < bs.length - s5.1.length)) ∧ Hid (KRd wx rb bv bs s5) ∧ Hid (Keeps (Only rb) w wx))
              case first =>
                obtain ⟨a, cap, k, er, -, hk, hkl, hes, c0, c1, c2, f1, -⟩ := H8.out.parts
                have kb : (0 : Int) ≤ (k : Int) ∧ (k : Int) ≤ 1000000 := by have := H8.out.len; omega
                obtain ⟨kb1, kb2⟩ := kb
                have HKK : Hid (decide ((40 : Int) < (k : Int)) = decide (40 < bs.length - s5.1.length)) := Lib.hid (by rw [← hk]; apply decide_eq_decide.2; omega)
                have HKN : Hid (decide (40 < k) = decide (40 < bs.length - s5.1.length)) := Lib.hid (by rw [← hk])
                clear hk hkl
                cases hb : s5.2 with
                | true =>
                  have t0 : (er == 0) = false := by
                    have : er ≠ 0 := fun e => by have := hes.1 e; rw [hb] at this; cases this
                    simpa using this
                  clear hes
                  go_wp2_with (fail)
                  go_meet
                  exact ⟨by simp [hb], H8, K8⟩
                | false =>
                  have e0 : er = 0 := hes.2 hb
                  subst e0
                  clear hes
                  go_wp2_with (fail)
                  go_meet
                  exact ⟨by rw [hb, ← HKN.out]; simp; omega, H8, K8⟩
              case rest =>
                obtain ⟨hb, H9, K9⟩ := hcut
                subst hb
                clear H8 K8
                go_upto_if 106 with (fail)
                go_cut [] from 93 (fun wx => Hid (KRd wx rb bv bs (dNum bs)) ∧ Hid (Keeps (Only rb) w wx))
                case first =>
                  cases hb : (!s5.2 && decide (40 < bs.length - s5.1.length)) with
                  | true =>
                    have HF := Lib.hid (k_fault H9.out 0 8 (by decide))
                    have HE : Hid (dNum bs = (s5.1, true)) := Lib.hid (by rw [HDN.out]; simp at hb; simp [hb.2])
                    clear hb
                    go_wp2_with (fail)
                    refine HF.out.mono ?_
                    rintro e w10 ⟨rfl, h6, k6⟩
                    have H10 := Lib.hid h6
                    have K10 := Lib.hid (K9.out.trans' k6)
                    clear h6 k6
                    go_wp2_with (fail)
                    go_meet
                    exact ⟨Lib.hid (by rw [HE.out]; exact H10.out), K10⟩
                  | false =>
                    have HE : Hid (dNum bs = s5) := Lib.hid (by
                      rw [HDN.out]
                      obtain ⟨l, b⟩ := s5
                      cases b with
                      | true => rfl
                      | false => simp at hb; simp; omega)
                    clear hb
                    go_wp2_with (fail)
                    go_meet
                    exact ⟨Lib.hid (by rw [HE.out]; exact H9.out), K9⟩
                case rest =>
                  obtain ⟨H10, K10⟩ := hcut
                  clear H9 K9
                  obtain ⟨a, cap, k, er, e0, hk, hkl, -, c0, c1, c2, f1, -⟩ := H10.out.parts
                  subst e0
                  have hroom := H10.out.room a bs.length cap rfl
                  have hcv : ∀ W, Below wc.heap.size wc W → (convert 26 9 (.slice a k cap)).run Tryz.prog W = .ok (.string (str (bs.take k))) W := fun W hW => by
                    have h1 : RdAt byteKind W (.slice a (bs.take k).length cap) (bs.take k) := by
                      obtain ⟨a', c', e, hr⟩ := H10.out.rd.below hW
                      injection e with e1 _ e3
                      subst e1 e3
                      exact ⟨a, cap, rfl, fun j x hx => hr j x (by rw [List.getElem?_take] at hx; split at hx <;> simp_all)⟩
                    have h2 := run_text h1
                    rw [show (bs.take k).length = k by rw [List.length_take]; omega] at h2
                    exact h2
                  have kb : (0 : Int) ≤ (k : Int) ∧ (k : Int) ≤ (cap : Int) ∧ (cap : Int) ≤ 9223372036854775807 := by omega
                  obtain ⟨kb1, kb2, kb3⟩ := kb
                  have HRES : Hid (str (bs.take k) = str (bs.take (bs.length - (dNum bs).1.length))) := Lib.hid (by rw [hk])
                  obtain ⟨T, hT⟩ : ∃ T, T = str (bs.take k) := ⟨_, rfl⟩
                  rw [← hT] at hcv HRES
                  have HCV := Lib.hid hcv
                  clear hk hkl hroom hcv hT c2
                  go_upto_region 17 with (fail)
                  refine wp_region_still_tail 10 (by kernel_rfl) (by kernel_rfl) ?_
                  obtain ⟨wd, hwd⟩ : ∃ wd, wd = wc.drew := ⟨_, rfl⟩
                  rw [show ({ heap := wc.heap, tape := wc.tape, drawn := wc.drawn + 1, os := wc.os, output := wc.output } : World) = wd from hwd.symm]
                  have hbd : Below wc.heap.size wc wd := by rw [hwd]; exact (Below.refl _ _).drew
                  have H11 := Lib.hid (H10.out.below hbd)
                  have K11 := Lib.hid (K10.out.trans' ((Keeps.of_below hbd).mono fun _ _ h => h.elim))
                  have hcv := HCV.out wd hbd
                  have c0' : wd.cell? ⟨rb, 0, none⟩ = some (.slice a bs.length cap) := by rw [hwd]; exact c0
                  have c1' : wd.cell? ⟨rb, 1, none⟩ = some (.int .i64 (k : Int)) := by rw [hwd]; exact c1
                  clear hwd c0 c1 f1 H10 K10
                  simp only [List.take_succ_cons, List.take_zero, List.drop_succ_cons, List.drop_zero]
                  repeat still_step
                  refine wpStill_nil ?_
                  go_wp2
                  go_ret
                  exact ⟨by rw [← HRES.out]; rfl, H11.out, K11.out⟩
end
end Go.Proofs.YthjcolehccbihaaGreatDoor
