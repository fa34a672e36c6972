/- The walks of exref7's Sequence and Valid. -/
import Derived.Test.YthjcolehccbihaaGreatDoorz22
import Derived.Test.YthjcolehccbihaaGreatDoorz33
set_option linter.unusedSimpArgs false
set_option linter.unusedVariables false
set_option linter.unusedSectionVars false
namespace Go.Proofs.YthjcolehccbihaaGreatDoor
open Go.RowKit Go.Shelf
/-- May it stand so far behind the first byte? -/
def loAt (c : UInt8) (j : Nat) : UInt8 := if j = 1 then lowSecond c else 128
def hiAt (c : UInt8) (j : Nat) : UInt8 := if j = 1 then highSecond c else 191
def okAt (c : UInt8) (j : Nat) (d : UInt8) : Bool := decide (loAt c j ≤ d) && decide (d ≤ hiAt c j)
theorem okAt_one (c d : UInt8) : okAt c 1 d = okSecond c d := rfl
theorem okAt_more (c d : UInt8) {j : Nat} (h : j ≠ 1) : okAt c j d = isCont d := by unfold okAt loAt hiAt isCont; rw [if_neg h, if_neg h]
theorem lead_le (c : UInt8) : leadLen c ≤ 4 := by unfold leadLen; repeat' split
                                                  all_goals omega
theorem seq_yes {c : UInt8} {l : List UInt8} (h2 : 2 ≤ leadLen c) (h : ∀ j, 1 ≤ j → j < leadLen c → ∃ d, (c :: l)[j]? = some d ∧ okAt c j d = true) : seqLen (c :: l) = leadLen c := by
  have h4 := lead_le c
  have hn : leadLen c = 2 ∨ leadLen c = 3 ∨ leadLen c = 4 := by omega
  rcases hn with hn | hn | hn
  · obtain ⟨d, hd, h1⟩ := h 1 (by omega) (by omega)
    cases l with
    | nil => simp at hd
    | cons e l =>
      simp at hd
      subst hd
      rw [okAt_one] at h1
      simp [seqLen, hn, h1]
  · obtain ⟨d, hd, h1⟩ := h 1 (by omega) (by omega)
    obtain ⟨d2, hd2, h2⟩ := h 2 (by omega) (by omega)
    match l with
    | [] => simp at hd
    | [_] => simp at hd2
    | e :: f :: l =>
      simp at hd hd2
      subst hd hd2
      rw [okAt_one] at h1
      rw [okAt_more _ _ (by decide)] at h2
      simp [seqLen, hn, h1, h2]
  · obtain ⟨d, hd, h1⟩ := h 1 (by omega) (by omega)
    obtain ⟨d2, hd2, h2⟩ := h 2 (by omega) (by omega)
    obtain ⟨d3, hd3, h3⟩ := h 3 (by omega) (by omega)
    match l with
    | [] => simp at hd
    | [_] => simp at hd2
    | [_, _] => simp at hd3
    | e :: f :: g :: l =>
      simp at hd hd2 hd3
      subst hd hd2 hd3
      rw [okAt_one] at h1
      rw [okAt_more _ _ (by decide)] at h2 h3
      simp [seqLen, hn, h1, h2, h3]
theorem seq_no {c : UInt8} {l : List UInt8} (h2 : 2 ≤ leadLen c) {j : Nat} (h1 : 1 ≤ j) (hj : j < leadLen c) (h : ∀ d, (c :: l)[j]? = some d → okAt c j d = false) : seqLen (c :: l) = 0 := by
  have h4 := lead_le c
  have hn : leadLen c = 2 ∨ leadLen c = 3 ∨ leadLen c = 4 := by omega
  have hjj : j = 1 ∨ j = 2 ∨ j = 3 := by omega
  rcases hn with hn | hn | hn
  · match l with
    | [] => simp [seqLen, hn]
    | e :: l =>
      have hj1 : j = 1 := by omega
      subst hj1
      have := h e rfl
      rw [okAt_one] at this
      simp [seqLen, hn, this]
  · match l with
    | [] => simp [seqLen, hn]
    | [_] => simp [seqLen, hn]
    | e :: f :: l =>
      rcases hjj with rfl | rfl | rfl
      · have := h e rfl
        rw [okAt_one] at this
        simp [seqLen, hn, this]
      · have := h f rfl
        rw [okAt_more _ _ (by decide)] at this
        simp [seqLen, hn, this]
      · omega
  · match l with
    | [] => simp [seqLen, hn]
    | [_] => simp [seqLen, hn]
    | [_, _] => simp [seqLen, hn]
    | e :: f :: g :: l =>
      rcases hjj with rfl | rfl | rfl
      · have := h e rfl
        rw [okAt_one] at this
        simp [seqLen, hn, this]
      · have := h f rfl
        rw [okAt_more _ _ (by decide)] at this
        simp [seqLen, hn, this]
      · have := h g rfl
        rw [okAt_more _ _ (by decide)] at this
        simp [seqLen, hn, this]
theorem lead_val (c : UInt8) : (c.toNat < 128 → leadLen c = 1) ∧ (194 ≤ c.toNat → c.toNat < 224 → leadLen c = 2) ∧ (224 ≤ c.toNat → c.toNat < 240 → leadLen c = 3) ∧ (240 ≤ c.toNat → c.toNat < 245 → leadLen c = 4) :=
  ⟨fun h => by unfold leadLen; rw [if_pos (UInt8.lt_iff_toNat_lt.2 h)], lead_two, lead_three, lead_four⟩
theorem low_val (c : UInt8) : (c.toNat = 224 → (lowSecond c).toNat = 160) ∧ (c.toNat = 240 → (lowSecond c).toNat = 144) ∧ (c.toNat ≠ 224 → c.toNat ≠ 240 → (lowSecond c).toNat = 128) := by
  exact u8_all (P := fun c => (c.toNat = 224 → (lowSecond c).toNat = 160) ∧ (c.toNat = 240 → (lowSecond c).toNat = 144) ∧ (c.toNat ≠ 224 → c.toNat ≠ 240 → (lowSecond c).toNat = 128)) (by decide +kernel) c
theorem high_val (c : UInt8) : (c.toNat = 237 → (highSecond c).toNat = 159) ∧ (c.toNat = 244 → (highSecond c).toNat = 143) ∧ (c.toNat ≠ 237 → c.toNat ≠ 244 → (highSecond c).toNat = 191) := by
  exact u8_all (P := fun c => (c.toNat = 237 → (highSecond c).toNat = 159) ∧ (c.toNat = 244 → (highSecond c).toNat = 143) ∧ (c.toNat ≠ 237 → c.toNat ≠ 244 → (highSecond c).toNat = 191)) (by decide +kernel) c
theorem u8_le (a b : UInt8) : decide (a ≤ b) = decide ((a.toNat : Int) ≤ (b.toNat : Int)) := by
  apply decide_eq_decide.2
  rw [UInt8.le_iff_toNat_le]; omega
section
variable {w : World}
set_option maxRecDepth 100000 in
set_option maxHeartbeats 4000000 in
theorem k_sequence {a : Option Addr} {cap : Nat} {c : UInt8} {l : List UInt8} (h : RdAt byteKind w (.slice a (c :: l).length cap) (c :: l)) (hl : l.length ≤ 1000000) :
    Calls Tryz.prog 112 #[.slice a (c :: l).length cap] w fun e w' => ∃ r : Int, e = .returned (.int .i64 r) ∧ Hid ((seqLen (c :: l) ≠ 0 → r = (seqLen (c :: l) : Int)) ∧ (seqLen (c :: l) = 0 → r < 1)) ∧ w = w' := by
  obtain ⟨g, off, rfl, hc⟩ := byte_cell h (k := 0) (x := c) rfl
  have HR := Lib.hid h
  obtain ⟨N, hN⟩ : ∃ N, N = (c :: l).length := ⟨_, rfl⟩
  have hN1 : (1 : Int) ≤ (N : Int) ∧ (N : Int) ≤ 1000001 := by rw [hN]; simp; omega
  obtain ⟨hn1, hn2⟩ := hN1
  have hn3 : (0 : Int) < (N : Int) := by omega
  rw [← hN] at HR ⊢
  have HNN := Lib.hid hN
  rw [Nat.add_zero] at hc
  obtain ⟨z, hz⟩ : ∃ z : Int, z = (c.toNat : Int) := ⟨_, rfl⟩
  rw [← hz] at hc
  clear h hl hN
  by_cases h128 : c.toNat < 128
  · have t0 : decide (z < 128) = true := by rw [hz]; simp; omega
    have HE : Hid (seqLen (c :: l) = 1) := Lib.hid (by
      have : leadLen c = 1 := by unfold leadLen; rw [if_pos (UInt8.lt_iff_toNat_lt.2 h128)]
      simp [seqLen, this])
    clear hz h128
    go_enter Tryz.func112, Tryz.ntmps112
    go_wp2_with (fail)
    go_ret
    exact ⟨1, rfl, Lib.hid ⟨fun _ => by rw [HE.out]; rfl, fun h => absurd h (by rw [HE.out]; decide)⟩, rfl⟩
  · have t0 : decide (z < 128) = false := by rw [hz]; simp; omega
    by_cases hbad : c.toNat < 194 ∨ 244 < c.toNat
    · have HE : Hid (seqLen (c :: l) = 0) := Lib.hid (by
        have : leadLen c = 0 := by
          unfold leadLen
          have e1 : ∀ n : UInt8, (c < n) = (c.toNat < n.toNat) := fun n => by rw [UInt8.lt_iff_toNat_lt]
          simp only [e1]
          have e128 : (128 : UInt8).toNat = 128 := rfl
          have e194 : (194 : UInt8).toNat = 194 := rfl
          have e224 : (224 : UInt8).toNat = 224 := rfl
          have e240 : (240 : UInt8).toNat = 240 := rfl
          have e245 : (245 : UInt8).toNat = 245 := rfl
          repeat' split
          all_goals first | rfl | omega
        simp [seqLen, this])
      have hzb : z < 194 ∨ 244 < z := by omega
      clear hz h128
      by_cases hlo : z < 194
      · have hlo2 : (128 : Int) ≤ z := by simpa using t0
        clear hbad hzb
        have t1 : decide ((194 : Int) ≤ z) = false := by simp; omega
        have t2 : decide ((224 : Int) ≤ z) = false := by simp; omega
        have t3 : decide ((240 : Int) ≤ z) = false := by simp; omega
        clear hlo hlo2
        go_enter Tryz.func112, Tryz.ntmps112
        go_wp2_with (fail)
        go_ret
        exact ⟨0, rfl, Lib.hid ⟨fun h => absurd HE.out h, fun _ => by decide⟩, rfl⟩
      · have hlo2 : 244 < z := by omega
        clear hbad hzb
        have t1 : decide ((194 : Int) ≤ z) = true := by simp; omega
        have t2 : decide (z ≤ 223) = false := by simp; omega
        have t3 : decide ((224 : Int) ≤ z) = true := by simp; omega
        have t4 : decide (z ≤ 239) = false := by simp; omega
        have t5 : decide ((240 : Int) ≤ z) = true := by simp; omega
        have t6 : decide (z ≤ 244) = false := by simp; omega
        clear hlo hlo2
        go_enter Tryz.func112, Tryz.ntmps112
        go_wp2_with (fail)
        go_ret
        exact ⟨0, rfl, Lib.hid ⟨fun h => absurd HE.out h, fun _ => by decide⟩, rfl⟩
    · have hr1 : (194 : Int) ≤ z := by omega
      have hr2 : z ≤ 244 := by omega
      have HZ := Lib.hid hz
      have HLE : Hid (2 ≤ leadLen c) := Lib.hid (by have := lead_val c; omega)
      clear hz h128 hbad
      go_enter Tryz.func112, Tryz.ntmps112
      go_upto_block 0 with (fail)
      go_cut [4, 5, 6] from 11 (fun nv lv hv wx => wx = w ∧ nv = .int .i64 (leadLen c : Int) ∧ lv = .int .u8 ((lowSecond c).toNat : Int) ∧ hv = .int .u8 ((highSecond c).toNat : Int))
      case first =>
        by_cases hcs0 : z ≤ 223
        · have HV : Hid (leadLen c = 2 ∧ (lowSecond c).toNat = 128 ∧ (highSecond c).toNat = 191) := Lib.hid (by
            have h1 := lead_val c
            have h2 := low_val c
            have h3 := high_val c
            have hzz := HZ.out
            refine ⟨?_, ?_, ?_⟩ <;> omega)
          have t1 : decide ((194 : Int) ≤ z) = true := by simp; omega
          have t2 : decide (z ≤ 223) = true := by simp; omega
          clear hcs0 hr1 hr2 HZ
          go_wp2_with (fail)
          go_meet
          exact ⟨rfl, by rw [HV.out.1]; rfl, by rw [HV.out.2.1]; rfl, by rw [HV.out.2.2]; rfl⟩
        by_cases hcs1 : z = 224
        · have HV : Hid (leadLen c = 3 ∧ (lowSecond c).toNat = 160 ∧ (highSecond c).toNat = 191) := Lib.hid (by
            have h1 := lead_val c
            have h2 := low_val c
            have h3 := high_val c
            have hzz := HZ.out
            refine ⟨?_, ?_, ?_⟩ <;> omega)
          have t1 : decide ((194 : Int) ≤ z) = true := by simp; omega
          have t2 : decide (z ≤ 223) = false := by simp; omega
          have t3 : decide ((224 : Int) ≤ z) = true := by simp; omega
          have t4 : decide (z ≤ 239) = true := by simp; omega
          have t5 : (z == 224) = true := by simp; omega
          have t6 : (z == 237) = false := by simp; omega
          clear hcs0 hcs1 hr1 hr2 HZ
          go_wp2_with (fail)
          go_meet
          exact ⟨rfl, by rw [HV.out.1]; rfl, by rw [HV.out.2.1]; rfl, by rw [HV.out.2.2]; rfl⟩
        by_cases hcs2 : z = 237
        · have HV : Hid (leadLen c = 3 ∧ (lowSecond c).toNat = 128 ∧ (highSecond c).toNat = 159) := Lib.hid (by
            have h1 := lead_val c
            have h2 := low_val c
            have h3 := high_val c
            have hzz := HZ.out
            refine ⟨?_, ?_, ?_⟩ <;> omega)
          have t1 : decide ((194 : Int) ≤ z) = true := by simp; omega
          have t2 : decide (z ≤ 223) = false := by simp; omega
          have t3 : decide ((224 : Int) ≤ z) = true := by simp; omega
          have t4 : decide (z ≤ 239) = true := by simp; omega
          have t5 : (z == 224) = false := by simp; omega
          have t6 : (z == 237) = true := by simp; omega
          clear hcs0 hcs1 hcs2 hr1 hr2 HZ
          go_wp2_with (fail)
          go_meet
          exact ⟨rfl, by rw [HV.out.1]; rfl, by rw [HV.out.2.1]; rfl, by rw [HV.out.2.2]; rfl⟩
        by_cases hcs3 : z ≤ 239
        · have HV : Hid (leadLen c = 3 ∧ (lowSecond c).toNat = 128 ∧ (highSecond c).toNat = 191) := Lib.hid (by
            have h1 := lead_val c
            have h2 := low_val c
            have h3 := high_val c
            have hzz := HZ.out
            refine ⟨?_, ?_, ?_⟩ <;> omega)
          have t1 : decide ((194 : Int) ≤ z) = true := by simp; omega
          have t2 : decide (z ≤ 223) = false := by simp; omega
          have t3 : decide ((224 : Int) ≤ z) = true := by simp; omega
          have t4 : decide (z ≤ 239) = true := by simp; omega
          have t5 : (z == 224) = false := by simp; omega
          have t6 : (z == 237) = false := by simp; omega
          clear hcs0 hcs1 hcs2 hcs3 hr1 hr2 HZ
          go_wp2_with (fail)
          go_meet
          exact ⟨rfl, by rw [HV.out.1]; rfl, by rw [HV.out.2.1]; rfl, by rw [HV.out.2.2]; rfl⟩
        by_cases hcs4 : z = 240
        · have HV : Hid (leadLen c = 4 ∧ (lowSecond c).toNat = 144 ∧ (highSecond c).toNat = 191) := Lib.hid (by
            have h1 := lead_val c
            have h2 := low_val c
            have h3 := high_val c
            have hzz := HZ.out
            refine ⟨?_, ?_, ?_⟩ <;> omega)
          have t1 : decide ((194 : Int) ≤ z) = true := by simp; omega
          have t2 : decide (z ≤ 223) = false := by simp; omega
          have t3 : decide ((224 : Int) ≤ z) = true := by simp; omega
          have t4 : decide (z ≤ 239) = false := by simp; omega
          have t5 : decide ((240 : Int) ≤ z) = true := by simp; omega
          have t6 : decide (z ≤ 244) = true := by simp; omega
          have t7 : (z == 240) = true := by simp; omega
          have t8 : (z == 244) = false := by simp; omega
          clear hcs0 hcs1 hcs2 hcs3 hcs4 hr1 hr2 HZ
          go_wp2_with (fail)
          go_meet
          exact ⟨rfl, by rw [HV.out.1]; rfl, by rw [HV.out.2.1]; rfl, by rw [HV.out.2.2]; rfl⟩
        by_cases hcs5 : z = 244
        · have HV : Hid (leadLen c = 4 ∧ (lowSecond c).toNat = 128 ∧ (highSecond c).toNat = 143) := Lib.hid (by
            have h1 := lead_val c
            have h2 := low_val c
            have h3 := high_val c
            have hzz := HZ.out
            refine ⟨?_, ?_, ?_⟩ <;> omega)
          have t1 : decide ((194 : Int) ≤ z) = true := by simp; omega
          have t2 : decide (z ≤ 223) = false := by simp; omega
          have t3 : decide ((224 : Int) ≤ z) = true := by simp; omega
          have t4 : decide (z ≤ 239) = false := by simp; omega
          have t5 : decide ((240 : Int) ≤ z) = true := by simp; omega
          have t6 : decide (z ≤ 244) = true := by simp; omega
          have t7 : (z == 240) = false := by simp; omega
          have t8 : (z == 244) = true := by simp; omega
          clear hcs0 hcs1 hcs2 hcs3 hcs4 hcs5 hr1 hr2 HZ
          go_wp2_with (fail)
          go_meet
          exact ⟨rfl, by rw [HV.out.1]; rfl, by rw [HV.out.2.1]; rfl, by rw [HV.out.2.2]; rfl⟩
        have HV : Hid (leadLen c = 4 ∧ (lowSecond c).toNat = 128 ∧ (highSecond c).toNat = 191) := Lib.hid (by
          have h1 := lead_val c
          have h2 := low_val c
          have h3 := high_val c
          have hzz := HZ.out
          refine ⟨?_, ?_, ?_⟩ <;> omega)
        have t1 : decide ((194 : Int) ≤ z) = true := by simp; omega
        have t2 : decide (z ≤ 223) = false := by simp; omega
        have t3 : decide ((224 : Int) ≤ z) = true := by simp; omega
        have t4 : decide (z ≤ 239) = false := by simp; omega
        have t5 : decide ((240 : Int) ≤ z) = true := by simp; omega
        have t6 : decide (z ≤ 244) = true := by simp; omega
        have t7 : (z == 240) = false := by simp; omega
        have t8 : (z == 244) = false := by simp; omega
        clear hcs0 hcs1 hcs2 hcs3 hcs4 hcs5 hr1 hr2 HZ
        go_wp2_with (fail)
        go_meet
        exact ⟨rfl, by rw [HV.out.1]; rfl, by rw [HV.out.2.1]; rfl, by rw [HV.out.2.2]; rfl⟩
      case rest =>
        obtain ⟨rfl, rfl, rfl, rfl⟩ := hcut
        have hl4 : (leadLen c : Int) ≤ 4 := by have := lead_le c; omega
        have hl2 : (2 : Int) ≤ (leadLen c : Int) := by have := HLE.out; omega
        clear hr1 hr2 t0 hc
        go_wp2_with (fail)
        go_loopw [5, 6, 7] (fun lv hv iv wr => ∃ j : Nat, wr = wc ∧ 1 ≤ j ∧ j ≤ leadLen c ∧ iv = .int .i64 (j : Int) ∧ lv = .int .u8 ((loAt c j).toNat : Int) ∧ hv = .int .u8 ((hiAt c j).toNat : Int) ∧ Hid (∀ i, 1 ≤ i → i < j → ∃ d, (c :: l)[i]? = some d ∧ okAt c i d = true)) (fun _ _ iv _ => leadLen c - (intOf iv).toNat)
        case atStart => exact ⟨1, rfl, Nat.le_refl _, by have := HLE.out; omega, rfl, rfl, rfl, Lib.hid fun i h1 h2 => by omega⟩
        case round =>
          obtain ⟨j, rfl, hj1, hj2, rfl, rfl, rfl, HA⟩ := hrel
          by_cases hlt : j < leadLen c
          · have k1 : (j : Int) < (leadLen c : Int) := by omega
            have k0 : (0 : Int) ≤ (j : Int) := by omega
            by_cases hlen : j < N
            · have k2 : (j : Int) < (N : Int) := by omega
              have k3 : decide ((N : Int) ≤ (j : Int)) = false := by simp; omega
              obtain ⟨d, hd⟩ : ∃ d, (c :: l)[j]? = some d := ⟨_, List.getElem?_eq_getElem (by rw [← HNN.out]; exact hlen)⟩
              obtain ⟨g2, off2, e1, hcd⟩ := byte_cell (HNN.out ▸ HR.out) hd
              obtain ⟨z2, hz2⟩ : ∃ z2 : Int, z2 = (d.toNat : Int) := ⟨_, rfl⟩
              rw [← hz2] at hcd
              injection e1 with e1
              injection e1 with e1 e2 _
              subst e1 e2
              obtain ⟨L, hL⟩ : ∃ L : Int, L = ((loAt c j).toNat : Int) := ⟨_, rfl⟩
              obtain ⟨H, hH⟩ : ∃ H : Int, H = ((hiAt c j).toNat : Int) := ⟨_, rfl⟩
              rw [← hL, ← hH]
              have HOK : Hid (okAt c j d = (decide (L ≤ z2) && decide (z2 ≤ H))) := Lib.hid (by unfold okAt; rw [u8_le, u8_le, hL, hH, hz2])
              have HD := Lib.hid hd
              clear hL hH hz2 hd
              by_cases hlo : z2 < L
              · have t1 : decide (z2 < L) = true := by simpa using hlo
                have HE : Hid (seqLen (c :: l) = 0) := Lib.hid (seq_no HLE.out hj1 hlt (fun d' hd' => by
                  rw [HD.out] at hd'; cases hd'
                  rw [HOK.out, decide_eq_false (by omega)]; rfl))
                clear hlo hlen hlt hj1 hj2
                go_wp2_with (fail)
                go_ret
                exact ⟨0, rfl, Lib.hid ⟨fun h => absurd HE.out h, fun _ => by decide⟩, rfl⟩
              · have t1 : decide (z2 < L) = false := by simpa using hlo
                by_cases hhi : H < z2
                · have t2 : decide (H < z2) = true := by simpa using hhi
                  have HE : Hid (seqLen (c :: l) = 0) := Lib.hid (seq_no HLE.out hj1 hlt (fun d' hd' => by
                    rw [HD.out] at hd'; cases hd'
                    rw [HOK.out, decide_eq_false (show ¬ z2 ≤ H by omega), Bool.and_false]))
                  clear hlo hhi hlen hlt hj1 hj2
                  go_wp2_with (fail)
                  go_ret
                  exact ⟨0, rfl, Lib.hid ⟨fun h => absurd HE.out h, fun _ => by decide⟩, rfl⟩
                · have t2 : decide (H < z2) = false := by simpa using hhi
                  have HA2 : Hid (∀ i, 1 ≤ i → i < j + 1 → ∃ d, (c :: l)[i]? = some d ∧ okAt c i d = true) := Lib.hid (fun i h1 h2 => by
                    by_cases hij : i = j
                    · subst hij
                      exact ⟨d, HD.out, by rw [HOK.out, decide_eq_true (show L ≤ z2 by omega), decide_eq_true (show z2 ≤ H by omega)]; rfl⟩
                    · exact HA.out i h1 (by omega))
                  have HJ := Lib.hid (And.intro hlt hj1)
                  clear hlo hhi hlen hlt hj1 hj2
                  go_wp2_with (fail)
                  go_roundw
                  case rel => exact ⟨j + 1, trivial, by omega, HJ.out.1, by go_num, by unfold loAt; rw [if_neg (by have := HJ.out.2; omega)]; rfl, by unfold hiAt; rw [if_neg (by have := HJ.out.2; omega)]; rfl, HA2⟩
                  case measure => have := HJ.out.1; simp [intOf]; omega
            · have k2 : ¬ (j : Int) < (N : Int) := by omega
              have k3 : decide ((N : Int) ≤ (j : Int)) = true := by simp; omega
              have HE : Hid (seqLen (c :: l) = 0) := Lib.hid (seq_no HLE.out hj1 hlt (fun d hd => by
                have := (List.getElem?_eq_some_iff.1 hd).1
                rw [← HNN.out] at this
                omega))
              clear hlen hlt hj1 hj2
              go_wp2_with (fail)
              go_ret
              exact ⟨-1, rfl, Lib.hid ⟨fun h => absurd HE.out h, fun _ => by decide⟩, rfl⟩
          · have k1 : ¬ (j : Int) < (leadLen c : Int) := by omega
            have hje : j = leadLen c := by omega
            have HE : Hid (seqLen (c :: l) = leadLen c) := Lib.hid (seq_yes HLE.out (fun i h1 h2 => HA.out i h1 (by omega)))
            clear hlt hje hj1 hj2
            go_wp2_with (fail)
            go_ret
            exact ⟨_, rfl, Lib.hid ⟨fun _ => by rw [HE.out], fun h => by rw [HE.out] at h; have := HLE.out; omega⟩, rfl⟩
theorem seq_len_le (c : UInt8) (l : List UInt8) : seqLen (c :: l) ≤ (c :: l).length := by
  unfold seqLen
  repeat' split
  all_goals simp_all
set_option maxRecDepth 100000 in
theorem k_valid (s : ByteArray) (hs : s.size ≤ 1000000) : Calls Tryz.prog 83 #[.string s] w fun e w' => e = .returned (.bool (valid (raw s))) ∧ Below w.heap.size w w' := by
  obtain ⟨cap, W, hrun, hb, hz, hy⟩ := conv_bytes w s hs
  have HB := Lib.hid hb
  have HY := Lib.hid hy.rd
  have hroom := hy.room _ _ _ rfl
  have hl : (raw s).length = s.size := rfl
  obtain ⟨V, hV⟩ : ∃ V, V = valid (raw s) := ⟨_, rfl⟩
  rw [← hV]
  have HV := Lib.hid hV
  have HRM : Hid (s.size ≤ cap ∧ cap ≤ 9223372036854775807 ∧ s.size ≤ 1000000) := Lib.hid ⟨by rw [← hl]; exact hroom.1, hroom.2, hs⟩
  clear hb hz hy hroom hV hs
  go_enter Tryz.func83, Tryz.ntmps83
  go_wp2_with (fail)
  go_loopg [3, 4] s.size (fun gk bv _ wr => ∃ (a : Option Addr) (n c : Nat) (l : List UInt8), wr = W ∧ bv = .slice a n c ∧ Hid (n ≤ gk) ∧ Hid (n = l.length ∧ RdAt byteKind W (.slice a n c) l ∧ n ≤ c ∧ c ≤ 9223372036854775807 ∧ n ≤ 1000000 ∧ valid l = V))
  case atStart => exact ⟨_, s.size, cap, raw s, rfl, rfl, Lib.hid (Nat.le_refl _), Lib.hid ⟨hl, HY.out, HRM.out.1, HRM.out.2.1, HRM.out.2.2, HV.out.symm⟩⟩
  case round =>
    obtain ⟨a, n, c, l, rfl, rfl, HG, HI⟩ := hrel
    cases l with
    | nil =>
      have hn : n = 0 := HI.out.1
      subst hn
      have HE : Hid (true = V) := Lib.hid (by rw [← HI.out.2.2.2.2.2]; rfl)
      clear hl hrun
      go_wp2_with (fail)
      go_ret
      exact ⟨by rw [← HE.out]; rfl, HB.out⟩
    | cons x l =>
      have hnl : n = l.length + 1 := HI.out.1
      have h1 : (0 : Int) < (n : Int) := by omega
      have hn1 : (n : Int) ≤ 1000000 := by have := HI.out.2.2.2.2.1; omega
      have hcall := k_sequence (w := wr) (a := a) (cap := c) (c := x) (l := l) (by have := HI.out.2.1; rw [HI.out.1] at this; exact this) (by have := HI.out.2.2.2.2.1; omega)
      rw [← HI.out.1] at hcall
      have hnc : (n : Int) ≤ (c : Int) ∧ (c : Int) ≤ 9223372036854775807 := by have := HI.out.2.2.1; have := HI.out.2.2.2.1; omega
      obtain ⟨hnc1, hnc2⟩ := hnc
      clear hl hrun hnl
      go_wp2_with (fail)
      refine hcall.mono ?_
      rintro e w2 ⟨r, rfl, HS, rfl⟩
      by_cases h0 : seqLen (x :: l) = 0
      · have hr := HS.out.2 h0
        have t1 : decide (r < 1) = true := by simpa using hr
        have HE : Hid (false = V) := Lib.hid (by
          rw [← HI.out.2.2.2.2.2]
          cases hv : valid (x :: l) with
          | false => rfl
          | true => exact absurd h0 (valid_cons.1 hv).1)
        clear hr h0 hcall
        go_wp2_with (fail)
        go_ret
        exact ⟨by rw [← HE.out]; rfl, HB.out⟩
      · have hr := HS.out.1 h0
        subst hr
        obtain ⟨R, hR⟩ : ∃ R, R = seqLen (x :: l) := ⟨_, rfl⟩
        rw [← hR] at h0 ⊢
        have hRn : R ≤ n := by rw [hR, HI.out.1]; exact seq_len_le _ _
        have t1 : decide ((R : Int) < 1) = false := by simp; omega
        have r1 : (0 : Int) ≤ (R : Int) := by omega
        have r2 : (R : Int) ≤ (n : Int) := by omega
        have HN : Hid (valid ((x :: l).drop R) = V ∧ ((x :: l).drop R).length = n - R ∧ n - R ≤ c - R ∧ c - R ≤ 9223372036854775807 ∧ n - R ≤ 1000000) := Lib.hid (by
          refine ⟨?_, by rw [List.length_drop, HI.out.1], by have := HI.out.2.2.1; omega, by omega, by omega⟩
          rw [← HI.out.2.2.2.2.2]
          cases hv : valid (x :: l) with
          | true => rw [hR]; exact (valid_cons.1 hv).2
          | false =>
            cases hd : valid ((x :: l).drop R) with
            | false => rfl
            | true =>
              have := valid_cons.2 ⟨by rw [← hR]; exact h0, by rw [← hR]; exact hd⟩
              rw [this] at hv; cases hv)
        have HR0 := Lib.hid (And.intro h0 hR)
        obtain ⟨g, off, rfl, -⟩ := byte_cell (k := 0) (x := x) (HI.out.2.1) rfl
        have HSUB : Hid (∀ c', RdAt byteKind wr (.slice (some ⟨g, off + R, none⟩) (n - R) c') ((x :: l).drop R)) := Lib.hid fun c' => by
          obtain ⟨a', c'', e, hrr⟩ := HI.out.2.1
          injection e with e1 _ e3
          subst e1 e3
          refine ⟨_, c', by rw [HN.out.2.1], fun j y hy => ?_⟩
          rw [List.getElem?_drop] at hy
          obtain ⟨g', off', e, hcc⟩ := hrr _ y hy
          injection e with e
          injection e with e1 e2 _
          subst e1 e2
          refine ⟨g, off + R, rfl, fun i hi => ?_⟩
          have := hcc i hi
          rw [show off + R + j * byteKind.size + i = off + (R + j) * byteKind.size + i by rw [Nat.add_mul, show R * byteKind.size = R from Nat.mul_one R]; omega]
          exact this
        by_cases hcR : c = R
        · have HNR : Hid (n = R) := Lib.hid (by have := HI.out.2.2.1; omega)
          have hcR2 : (c : Int) = (R : Int) := by omega
          clear hR h0 hRn hcall
          go_wp2_with (fail)
          go_roundg (n - R)
          case measure => have := HG.out; have := HR0.out.1; have := HNR.out; omega
          case rel =>
            refine ⟨_, n - R, 0, (x :: l).drop R, rfl, rfl, Lib.hid (Nat.le_refl _), Lib.hid ⟨HN.out.2.1.symm, ?_, by have := HNR.out; omega, by omega, HN.out.2.2.2.2, HN.out.1⟩⟩
            have h0 : (x :: l).drop R = [] := List.eq_nil_of_length_eq_zero (by rw [HN.out.2.1, HNR.out]; omega)
            rw [h0]
            exact ⟨some ⟨g, off, none⟩, 0, by have := HNR.out; rw [this]; simp, fun j y hy => by simp at hy⟩
        · have hcR2 : ¬ (c : Int) = (R : Int) := by omega
          clear hR h0 hRn hcall
          go_wp2_with (fail)
          go_roundg (n - R)
          case measure => have := HG.out; have := HR0.out.1; omega
          case rel => exact ⟨_, n - R, c - R, (x :: l).drop R, rfl, rfl, Lib.hid (Nat.le_refl _), Lib.hid ⟨HN.out.2.1.symm, HSUB.out _, HN.out.2.2.1, HN.out.2.2.2.1, HN.out.2.2.2.2, HN.out.1⟩⟩
end
end Go.Proofs.YthjcolehccbihaaGreatDoor
