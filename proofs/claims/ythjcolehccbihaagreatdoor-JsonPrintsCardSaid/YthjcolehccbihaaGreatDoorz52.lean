/- The walk of exlaw7.JsonPrints: it returns true. -/
import Derived.Test.YthjcolehccbihaaGreatDoorz51
set_option linter.unusedSectionVars false
set_option linter.unusedSimpArgs false
set_option linter.unusedVariables false
namespace Go.Proofs.YthjcolehccbihaaGreatDoor
open Go.RowKit Go.Shelf
theorem at_kt {w : World} {A : Nat → Prop} {v : JV} {q : RawV} (h : JAt w A v q) : q.k = v.kind ∧ q.t = v.text := by
  obtain ⟨k, t, l, ns⟩ := v
  simp only [JAt] at h
  exact ⟨h.1, h.2.1⟩
theorem fit_text {v : JV} (h : v.Fit) : v.text.size ≤ 1000000 := by
  obtain ⟨k, t, l, ns⟩ := v
  simp only [JV.Fit] at h
  exact h.1
section
variable {w : World}
set_option maxRecDepth 100000 in
set_option maxHeartbeats 32000000 in
theorem l_prints {v u : JV} {q r : RawV} {A B : Nat → Prop} (hv : JAt w A v q) (hu : JAt w B u r) (hz : v.Sz) (hz2 : u.Sz) (s name : ByteArray) (n : Int) (h0 : -9223372036854775808 ≤ n) (h1 : n ≤ 9223372036854775807) (ht : Tabs w) (hp : PTab w) (he : ErrAt w) :
    Calls Tryz.prog 7 #[.agg #[.int .i64 q.k, .string q.t, .slice q.la q.ll q.lc, .slice q.na q.nl q.nc], .agg #[.int .i64 r.k, .string r.t, .slice r.la r.ll r.lc, .slice r.na r.nl r.nc], .string s, .string name, .int .i64 n] w fun e w' => e = .returned (.bool true) ∧ Below w.heap.size w w' := by
  obtain ⟨B1, B2, hbb, hzz⟩ := wSame_boxes w q r
  obtain ⟨w1, hw1⟩ : ∃ x, x = wSame w q r := ⟨_, rfl⟩
  rw [← hw1] at B1 B2 hbb hzz
  obtain ⟨xb, hxb⟩ : ∃ x, x = w.heap.size := ⟨_, rfl⟩
  obtain ⟨yb, hyb⟩ : ∃ x, x = w.heap.size + 1 := ⟨_, rfl⟩
  have HX1 : Hid (JX w1 xb q v) := Lib.hid ⟨by rw [hxb]; exact B1, (hv.below hbb).mono (fun _ _ => trivial)⟩
  have HY1 : Hid (JX w1 yb r u) := Lib.hid ⟨by rw [hyb]; exact B2, (hu.below hbb).mono (fun _ _ => trivial)⟩
  have HW1 : Hid ((w.alloc (.cells #[.int .i64 q.k, .string q.t, .slice q.la q.ll q.lc, .slice q.na q.nl q.nc] 25)).alloc (.cells #[.int .i64 r.k, .string r.t, .slice r.la r.ll r.lc, .slice r.na r.nl r.nc] 25) = w1) := Lib.hid hw1.symm
  have HB1 : Hid (Below w.heap.size w w1) := Lib.hid hbb
  have HT := Lib.hid ht
  have HP := Lib.hid hp
  have HE := Lib.hid he
  have HN := Lib.hid (And.intro h0 h1)
  have HZ := Lib.hid (And.intro hz hz2)
  have HKT := Lib.hid (at_kt hv)
  obtain ⟨sm, hsm⟩ : ∃ x : Nat, x = smallJ v 200 := ⟨_, rfl⟩
  obtain ⟨um, hum⟩ : ∃ x : Nat, x = smallJ u 200 := ⟨_, rfl⟩
  have hsl : (sm : Int) ≤ 40000000000000 := by have := small_le v hz 200; omega
  have hul : (um : Int) ≤ 40000000000000 := by have := small_le u hz2 200; omega
  have HSM := Lib.hid hsm
  have HUM := Lib.hid hum
  clear hw1 hbb hzz B1 B2 hv hu hz hz2 h0 h1 ht hp he hsm hum
  go_enter Tryz.func7, Tryz.ntmps7
  go_upto_region 1 with (fail)
  rw [HW1.out, ← hyb, ← hxb]
  clear HW1 hxb hyb
  go_wp2_with (fail)
  refine (x_first (HT.out.below HB1.out)).mono ?_
  rintro e w2 ⟨rfl, hb2⟩
  have HX2 := Lib.hid (HX1.out.on hb2)
  have HY2 := Lib.hid (HY1.out.on hb2)
  have HB2 : Hid (Below w.heap.size w w2) := Lib.hid (HB1.out.trans (hb2.mono HB1.out.size))
  clear hb2 HX1 HY1 HB1
  obtain ⟨⟨b0, b1, b2, b3⟩, -⟩ := jbox_cells HX2.out.box
  go_wp2_with (fail)
  refine (small_200 HZ.out.1 HX2.out.val).mono ?_
  rw [← HSM.out]
  rintro e w3 ⟨rfl, hb3⟩
  have HX3 := Lib.hid (HX2.out.on hb3)
  have HY3 := Lib.hid (HY2.out.on hb3)
  have HB3 : Hid (Below w.heap.size w w3) := Lib.hid (HB2.out.trans (hb3.mono HB2.out.size))
  clear hb3 HX2 HY2 HB2 b0 b1 b2 b3
  by_cases hbig : 200 < sm
  · have t0 : decide ((200 : Int) < (sm : Int)) = true := by simp; omega
    have t1 : (200 : Int) < (sm : Int) := by omega
    go_wp2_with (fail)
    go_ret
    exact ⟨rfl, HB3.out⟩
  have t0 : decide ((200 : Int) < (sm : Int)) = false := by simp; omega
  have t1 : ¬ (200 : Int) < (sm : Int) := by omega
  have HSS := Lib.hid (show sm ≤ 200 by omega)
  clear hbig
  obtain ⟨⟨b0, b1, b2, b3⟩, -⟩ := jbox_cells HY3.out.box
  go_wp2_with (fail)
  refine (small_200 HZ.out.2 HY3.out.val).mono ?_
  rw [← HUM.out]
  rintro e w4 ⟨rfl, hb4⟩
  have HX4 := Lib.hid (HX3.out.on hb4)
  have HY4 := Lib.hid (HY3.out.on hb4)
  have HB4 : Hid (Below w.heap.size w w4) := Lib.hid (HB3.out.trans (hb4.mono HB3.out.size))
  clear hb4 HX3 HY3 HB3 b0 b1 b2 b3 t0 t1
  by_cases hbig : 200 < um
  · have t0 : decide ((200 : Int) < (um : Int)) = true := by simp; omega
    have t1 : (200 : Int) < (um : Int) := by omega
    go_wp2_with (fail)
    go_ret
    exact ⟨rfl, HB4.out⟩
  have t0 : decide ((200 : Int) < (um : Int)) = false := by simp; omega
  have t1 : ¬ (200 : Int) < (um : Int) := by omega
  have HUU := Lib.hid (show um ≤ 200 by omega)
  clear hbig
  by_cases hbig2 : 4000 < s.size
  · have t2 : decide ((4000 : Int) < (s.size : Int)) = true := by simp; omega
    have t3 : (4000 : Int) < (s.size : Int) := by omega
    go_wp2_with (fail)
    go_ret
    exact ⟨rfl, HB4.out⟩
  have t2 : decide ((4000 : Int) < (s.size : Int)) = false := by simp; omega
  have t3 : ¬ (4000 : Int) < (s.size : Int) := by omega
  have HSZ := Lib.hid (show s.size ≤ 4000 by omega)
  clear hbig2
  by_cases hbig3 : 4000 < name.size
  · have t4 : decide ((4000 : Int) < (name.size : Int)) = true := by simp; omega
    have t5 : (4000 : Int) < (name.size : Int) := by omega
    go_wp2_with (fail)
    go_ret
    exact ⟨rfl, HB4.out⟩
  have t4 : decide ((4000 : Int) < (name.size : Int)) = false := by simp; omega
  have t5 : ¬ (4000 : Int) < (name.size : Int) := by omega
  clear hbig3
  have HFL : Hid (v.Fit ∧ (lay v).length ≤ 40000) := Lib.hid (by
    have h1 := HSS.out
    rw [HSM.out] at h1
    have := small_fit v 200 (by decide) h1
    exact ⟨this.1, by omega⟩)
  have HFU : Hid u.Fit := Lib.hid (by
    have h1 := HUU.out
    rw [HUM.out] at h1
    exact (small_fit u 200 (by decide) h1).1)
  go_upto_region 4 with (fail)
  clear t0 t1 t2 t3 t4 t5 hsl hul HSM HUM HSS HUU HZ
  obtain ⟨⟨b0, b1, b2, b3⟩, -⟩ := jbox_cells HX4.out.box
  go_wp2_with (fail)
  refine (j_toRef v q w4 _ HFL.out.1 HX4.out.val).mono ?_
  rintro e w5 ⟨p, rfl, HPP⟩
  obtain ⟨w6, hw6, HBX⟩ := kbox_new w5 p
  obtain ⟨zb, hzb⟩ : ∃ x, x = w5.heap.size := ⟨_, rfl⟩
  have hb6 : Below w4.heap.size w4 w6 := HPP.out.2.trans (HBX.out.1.mono HPP.out.2.size)
  have HD6 : Hid (KX w6 zb p v) := Lib.hid ⟨by rw [hzb]; exact HBX.out.2, (HPP.out.1.below HBX.out.1).mono (fun _ _ => trivial)⟩
  have HX6 := Lib.hid (HX4.out.on hb6)
  have HY6 := Lib.hid (HY4.out.on hb6)
  have HB6 : Hid (Below w.heap.size w w6) := Lib.hid (HB4.out.trans (hb6.mono HB4.out.size))
  have HW6 := Lib.hid hw6
  have HKP := Lib.hid (at_kt HPP.out.1)
  clear hw6 hb6 HX4 HY4 HB4 b0 b1 b2 b3 HPP HBX
  go_upto_region 5 with (fail)
  rw [HW6.out, ← hzb]
  clear HW6 hzb
  obtain ⟨⟨b0, b1, b2, b3⟩, -⟩ := jbox_cells HX6.out.box
  obtain ⟨er, her⟩ : ∃ x : Int, x = ((print v).2 : Int) := ⟨_, rfl⟩
  have HER := Lib.hid her
  clear her
  go_wp2_with (fail)
  refine (j_print HX6.out.val.lt HFL.out.1 (HT.out.below HB6.out) (fun g h => h.2) (fun _ => by have := HFL.out.2; omega)).mono ?_
  intro e w7 hpr
  obtain ⟨bv, he, HPB⟩ := printed_rd hpr
  rw [← HER.out] at he
  subst he
  have HX7 := Lib.hid (HX6.out.on HPB.out.1)
  have HY7 := Lib.hid (HY6.out.on HPB.out.1)
  have HD7 := Lib.hid (HD6.out.on HPB.out.1)
  have HB7 : Hid (Below w.heap.size w w7) := Lib.hid (HB6.out.trans (HPB.out.1.mono HB6.out.size))
  have HV7 := Lib.hid HPB.out.2
  clear hpr HX6 HY6 HD6 HB6 HPB b0 b1 b2 b3
  obtain ⟨⟨b0, b1, b2, b3⟩, -⟩ := kbox_cells HD7.out.box
  go_wp2_with (fail)
  refine (k_print HD7.out.val HFL.out.1 (fun _ => by have := HFL.out.2; omega)).mono ?_
  intro e w8 hpr
  obtain ⟨cv, he, HPB⟩ := printed_rd hpr
  rw [← HER.out] at he
  subst he
  have HX8 := Lib.hid (HX7.out.on HPB.out.1)
  have HY8 := Lib.hid (HY7.out.on HPB.out.1)
  have HD8 := Lib.hid (HD7.out.on HPB.out.1)
  have HB8 : Hid (Below w.heap.size w w8) := Lib.hid (HB7.out.trans (HPB.out.1.mono HB7.out.size))
  have HV8 : Hid (RdAt byteKind w8 bv ((print v).1.getD []) ∧ RdAt byteKind w8 cv ((print v).1.getD [])) := Lib.hid ⟨HV7.out.below HPB.out.1, HPB.out.2⟩
  clear hpr HX7 HY7 HD7 HB7 HPB HV7 HER b0 b1 b2 b3
  obtain ⟨x, bb, hxf, hg1, hg2⟩ := get_pair v HFL.out.1 name
  have HGET := Lib.hid (And.intro hxf (And.intro hg1 hg2))
  clear hxf hg1 hg2
  obtain ⟨⟨b0, b1, b2, b3⟩, -⟩ := jbox_cells HX8.out.box
  go_wp2_with (fail)
  refine (HGET.out.2.1 w8 q _ HX8.out.val).mono ?_
  rintro e w9 ⟨m, rfl, HM⟩
  obtain ⟨w10, hw10, HBX⟩ := jbox_new w9 m
  obtain ⟨mb, hmb⟩ : ∃ x, x = w9.heap.size := ⟨_, rfl⟩
  have hb10 : Below w8.heap.size w8 w10 := HM.out.2.trans (HBX.out.1.mono HM.out.2.size)
  have HM10 : Hid (JX w10 mb m x) := Lib.hid ⟨by rw [hmb]; exact HBX.out.2, HM.out.1.below HBX.out.1⟩
  have HX10 := Lib.hid (HX8.out.on hb10)
  have HY10 := Lib.hid (HY8.out.on hb10)
  have HD10 := Lib.hid (HD8.out.on hb10)
  have HB10 : Hid (Below w.heap.size w w10) := Lib.hid (HB8.out.trans (hb10.mono HB8.out.size))
  have HV10 : Hid (RdAt byteKind w10 bv ((print v).1.getD []) ∧ RdAt byteKind w10 cv ((print v).1.getD [])) := Lib.hid ⟨HV8.out.1.below hb10, HV8.out.2.below hb10⟩
  have HW10 := Lib.hid hw10
  clear hw10 hb10 HX8 HY8 HD8 HB8 HV8 HM HBX b0 b1 b2 b3
  go_upto_region 8 with (fail)
  rw [HW10.out, ← hmb]
  clear HW10 hmb
  obtain ⟨⟨b0, b1, b2, b3⟩, -⟩ := kbox_cells HD10.out.box
  go_wp2_with (fail)
  refine (HGET.out.2.2 w10 p _ HD10.out.val).mono ?_
  rintro e w11 ⟨k, rfl, HM⟩
  obtain ⟨w12, hw12, HBX⟩ := kbox_new w11 k
  obtain ⟨kb, hkb⟩ : ∃ x, x = w11.heap.size := ⟨_, rfl⟩
  have hb12 : Below w10.heap.size w10 w12 := HM.out.2.trans (HBX.out.1.mono HM.out.2.size)
  have HK12 : Hid (KX w12 kb k x) := Lib.hid ⟨by rw [hkb]; exact HBX.out.2, HM.out.1.below HBX.out.1⟩
  have HM12 := Lib.hid (HM10.out.on hb12)
  have HX12 := Lib.hid (HX10.out.on hb12)
  have HY12 := Lib.hid (HY10.out.on hb12)
  have HD12 := Lib.hid (HD10.out.on hb12)
  have HB12 : Hid (Below w.heap.size w w12) := Lib.hid (HB10.out.trans (hb12.mono HB10.out.size))
  have HV12 : Hid (RdAt byteKind w12 bv ((print v).1.getD []) ∧ RdAt byteKind w12 cv ((print v).1.getD [])) := Lib.hid ⟨HV10.out.1.below hb12, HV10.out.2.below hb12⟩
  have HW12 := Lib.hid hw12
  clear hw12 hb12 HX10 HY10 HD10 HB10 HV10 HM10 HM HBX b0 b1 b2 b3
  go_upto_region 9 with (fail)
  rw [HW12.out, ← hkb]
  clear HW12 hkb
  obtain ⟨i1, hi1⟩ : ∃ z, z = (asInt q.k q.t).1 := ⟨_, rfl⟩
  obtain ⟨i2, hi2⟩ : ∃ z : Int, z = ((asInt q.k q.t).2 : Int) := ⟨_, rfl⟩
  have HJI := Lib.hid (j_int (w := w12) q.k q.t (by rw [HKT.out.2]; exact fit_text HFL.out.1) (HE.out.below HB12.out) q.la q.ll q.lc q.na q.nl q.nc)
  rw [← hi1, ← hi2] at HJI
  have hpq : asInt q.k q.t = asInt p.k p.t := by rw [HKT.out.1, HKT.out.2, HKP.out.1, HKP.out.2]
  rw [hpq] at hi1 hi2
  have HII := Lib.hid (And.intro hi1 hi2)
  clear hi1 hi2 hpq
  obtain ⟨⟨b0, b1, b2, b3⟩, -⟩ := jbox_cells HX12.out.box
  go_wp2_with (fail)
  refine HJI.out.mono ?_
  rintro e w13 ⟨rfl, hb13⟩
  have HK13 := Lib.hid (HK12.out.on hb13)
  have HM13 := Lib.hid (HM12.out.on hb13)
  have HX13 := Lib.hid (HX12.out.on hb13)
  have HY13 := Lib.hid (HY12.out.on hb13)
  have HD13 := Lib.hid (HD12.out.on hb13)
  have HB13 : Hid (Below w.heap.size w w13) := Lib.hid (HB12.out.trans (hb13.mono HB12.out.size))
  have HV13 : Hid (RdAt byteKind w13 bv ((print v).1.getD []) ∧ RdAt byteKind w13 cv ((print v).1.getD [])) := Lib.hid ⟨HV12.out.1.below hb13, HV12.out.2.below hb13⟩
  clear hb13 HK12 HM12 HX12 HY12 HD12 HB12 HV12 HJI b0 b1 b2 b3
  have HKI := Lib.hid (k_int (w := w13) p.k p.t (by rw [HKP.out.2]; exact fit_text HFL.out.1) p.la p.ll p.lc p.na p.nl p.nc)
  rw [← HII.out.1, ← HII.out.2] at HKI
  obtain ⟨⟨b0, b1, b2, b3⟩, -⟩ := kbox_cells HD13.out.box
  go_wp2_with (fail)
  refine HKI.out.mono ?_
  rintro e w14 ⟨rfl, hb14⟩
  have HK14 := Lib.hid (HK13.out.on hb14)
  have HM14 := Lib.hid (HM13.out.on hb14)
  have HX14 := Lib.hid (HX13.out.on hb14)
  have HY14 := Lib.hid (HY13.out.on hb14)
  have HD14 := Lib.hid (HD13.out.on hb14)
  have HB14 : Hid (Below w.heap.size w w14) := Lib.hid (HB13.out.trans (hb14.mono HB13.out.size))
  have HSB := Lib.hid (r_sameBytes (HV13.out.1.below hb14) (HV13.out.2.below hb14) (by have := print_size v (by have := HFL.out.2; omega); omega))
  clear hb14 HK13 HM13 HX13 HY13 HD13 HB13 HV13 HKI b0 b1 b2 b3
  go_wp2_with (fail)
  refine HSB.out.mono ?_
  rintro e w15 ⟨rfl, hb15⟩
  have HK15 := Lib.hid (HK14.out.on hb15)
  have HM15 := Lib.hid (HM14.out.on hb15)
  have HX15 := Lib.hid (HX14.out.on hb15)
  have HY15 := Lib.hid (HY14.out.on hb15)
  have HD15 := Lib.hid (HD14.out.on hb15)
  have HB15 : Hid (Below w.heap.size w w15) := Lib.hid (HB14.out.trans (hb15.mono HB14.out.size))
  clear hb15 HK14 HM14 HX14 HY14 HD14 HB14 HSB
  obtain ⟨⟨b0, b1, b2, b3⟩, -⟩ := jbox_cells HM15.out.box
  obtain ⟨⟨c0, c1, c2, c3⟩, -⟩ := kbox_cells HK15.out.box
  have e1 : (er == er) = true := by simp
  have e2 : (i1 == i1) = true := by simp
  have e3 : (i2 == i2) = true := by simp
  have e4 : (bb == bb) = true := by simp
  go_wp2_with (fail)
  refine (r_num _ _).mono ?_
  rintro e w' ⟨rfl, rfl⟩
  go_wp2_with (fail)
  refine (j_jsame x m k w15 _ _ HGET.out.1 HM15.out.val HK15.out.val).mono ?_
  rintro e w16 ⟨rfl, hb16⟩
  have HX16 := Lib.hid (HX15.out.on hb16)
  have HY16 := Lib.hid (HY15.out.on hb16)
  have HD16 := Lib.hid (HD15.out.on hb16)
  have HB16 : Hid (Below w.heap.size w w16) := Lib.hid (HB15.out.trans (hb16.mono HB15.out.size))
  clear hb16 HK15 HM15 HX15 HY15 HD15 HB15 b0 b1 b2 b3 c0 c1 c2 c3
  go_wp2_with (fail)
  refine (r_num _ _).mono ?_
  rintro e w' ⟨rfl, rfl⟩
  go_wp2_with (fail)
  refine (j_ofInt n HN.out.1 HN.out.2 (HP.out.below HB16.out)).mono ?_
  rintro e w17 ⟨rfl, hb17⟩
  have HX17 := Lib.hid (HX16.out.on hb17)
  have HY17 := Lib.hid (HY16.out.on hb17)
  have HD17 := Lib.hid (HD16.out.on hb17)
  have HB17 : Hid (Below w.heap.size w w17) := Lib.hid (HB16.out.trans (hb17.mono HB16.out.size))
  have HSN := Lib.hid (fun W => same_number W HN.out.1 HN.out.2)
  obtain ⟨S, hS⟩ : ∃ S, S = str (Lib.itoa n) := ⟨_, rfl⟩
  have HS := Lib.hid hS
  rw [← hS] at HSN ⊢
  clear hS hb17 HX16 HY16 HD16 HB16 e1 e2 e3 e4
  go_wp2_with (fail)
  refine (r_bigOf n HN.out.1 HN.out.2).mono ?_
  rintro e w18 ⟨ga, gc, gm, rfl, HG⟩
  have HX18 := Lib.hid (HX17.out.on HG.out.2.1)
  have HY18 := Lib.hid (HY17.out.on HG.out.2.1)
  have HD18 := Lib.hid (HD17.out.on HG.out.2.1)
  have HB18 : Hid (Below w.heap.size w w18) := Lib.hid (HB17.out.trans (HG.out.2.1.mono HB17.out.size))
  have HBT := Lib.hid (x_bigText n HN.out.1 HN.out.2 HG.out.1 HG.out.2.2.1 HG.out.2.2.2)
  rw [← HS.out] at HBT
  generalize decide (n < 0) = ng at HBT ⊢
  clear HX17 HY17 HD17 HB17 HG
  go_wp2_with (fail)
  refine HBT.out.mono ?_
  rintro e w19 ⟨rfl, hb19⟩
  have HX19 := Lib.hid (HX18.out.on hb19)
  have HY19 := Lib.hid (HY18.out.on hb19)
  have HD19 := Lib.hid (HD18.out.on hb19)
  have HB19 : Hid (Below w.heap.size w w19) := Lib.hid (HB18.out.trans (hb19.mono HB18.out.size))
  clear hb19 HX18 HY18 HD18 HB18 HBT
  go_wp2_with (fail)
  refine (HSN.out w19).mono ?_
  rintro e w20 ⟨rfl, hb20⟩
  have HX20 := Lib.hid (HX19.out.on hb20)
  have HY20 := Lib.hid (HY19.out.on hb20)
  have HD20 := Lib.hid (HD19.out.on hb20)
  have HB20 : Hid (Below w.heap.size w w20) := Lib.hid (HB19.out.trans (hb20.mono HB19.out.size))
  clear hb20 HX19 HY19 HD19 HB19 HSN
  go_wp2_with (fail)
  refine (j_ofText s).mono ?_
  rintro e w21 ⟨rfl, hb21⟩
  have HX21 := Lib.hid (HX20.out.on hb21)
  have HY21 := Lib.hid (HY20.out.on hb21)
  have HD21 := Lib.hid (HD20.out.on hb21)
  have HB21 : Hid (Below w.heap.size w w21) := Lib.hid (HB20.out.trans (hb21.mono HB20.out.size))
  clear hb21 HX20 HY20 HD20 HB20
  go_wp2_with (fail)
  refine (same_text w21 HSZ.out).mono ?_
  rintro e w22 ⟨rfl, hb22⟩
  have HX22 := Lib.hid (HX21.out.on hb22)
  have HY22 := Lib.hid (HY21.out.on hb22)
  have HD22 := Lib.hid (HD21.out.on hb22)
  have HB22 : Hid (Below w.heap.size w w22) := Lib.hid (HB21.out.trans (hb22.mono HB21.out.size))
  clear hb22 HX21 HY21 HD21 HB21
  go_upto_region 13 with (fail)
  have HCEL : Hid (∀ W, Below w22.heap.size w22 W → (W.cell? ⟨xb, 0, none⟩ = some (.int .i64 q.k) ∧ W.cell? ⟨xb, 1, none⟩ = some (.string q.t) ∧ W.cell? ⟨xb, 2, none⟩ = some (.slice q.la q.ll q.lc) ∧ W.cell? ⟨xb, 3, none⟩ = some (.slice q.na q.nl q.nc)) ∧ (W.cell? ⟨yb, 0, none⟩ = some (.int .i64 r.k) ∧ W.cell? ⟨yb, 1, none⟩ = some (.string r.t) ∧ W.cell? ⟨yb, 2, none⟩ = some (.slice r.la r.ll r.lc) ∧ W.cell? ⟨yb, 3, none⟩ = some (.slice r.na r.nl r.nc)) ∧ (W.cell? ⟨zb, 0, none⟩ = some (.int .i64 p.k) ∧ W.cell? ⟨zb, 1, none⟩ = some (.string p.t) ∧ W.cell? ⟨zb, 2, none⟩ = some (.slice p.la p.ll p.lc) ∧ W.cell? ⟨zb, 3, none⟩ = some (.slice p.na p.nl p.nc))) := Lib.hid fun W hW =>
    ⟨(jbox_cells (jbox_below HX22.out.box hW)).1, (jbox_cells (jbox_below HY22.out.box hW)).1, (kbox_cells (kbox_below HD22.out.box hW)).1⟩
  have hV : (fun W : World => Below w22.heap.size w22 W) w22.drew := (Below.refl _ _).drew
  refine wp_region_B (T := fun W : World => Below w22.heap.size w22 W) (B := fun _ => true) (by kernel_rfl) ?_
  generalize w22.drew = V at hV ⊢
  have HV : Hid (Below w22.heap.size w22 V) := Lib.hid hV
  obtain ⟨QT, hQT⟩ : ∃ x, x = str (quote (raw s)) := ⟨_, rfl⟩
  obtain ⟨sv, hsv⟩ : ∃ x, x = sameJ v u := ⟨_, rfl⟩
  have HQT := Lib.hid hQT
  have HSV := Lib.hid hsv
  have f1 : (sv == sv) = true := by simp
  have f2 : (QT.toList == QT.toList) = true := by simp
  clear hQT hsv
  refine wpAnyB_take (i := 0) (v := ?mv0) rfl (by kernel_rfl) (by kernel_rfl) (by kernel_rfl) (fun _ _ _ h => h) (Or.inl ⟨by kernel_rfl, ?my0⟩) ?ms0
  case my0 => (intro w; go_simp) <;> with_reducible rfl
  try simp only [Act.put, List.setIfInBounds_toArray, List.set_cons_zero, List.set_cons_succ]
  refine wpAnyB_take (i := 1) (v := ?mv1) rfl (by kernel_rfl) (by kernel_rfl) (by kernel_rfl) (fun _ _ _ h => h) (Or.inl ⟨by kernel_rfl, ?my1⟩) ?ms1
  case my1 => (intro w; go_simp) <;> with_reducible rfl
  try simp only [Act.put, List.setIfInBounds_toArray, List.set_cons_zero, List.set_cons_succ]
  refine wpAnyB_take (i := 2) (v := ?mv2) rfl (by kernel_rfl) (by kernel_rfl) (by kernel_rfl) (fun _ _ _ h => h) (Or.inl ⟨by kernel_rfl, ?my2⟩) ?ms2
  case my2 => (intro w; go_simp) <;> with_reducible rfl
  try simp only [Act.put, List.setIfInBounds_toArray, List.set_cons_zero, List.set_cons_succ]
  refine wpAnyB_take (i := 3) (v := ?mv3) rfl (by kernel_rfl) (by kernel_rfl) (by kernel_rfl) (fun _ _ _ h => h) (Or.inl ⟨by kernel_rfl, ?my3⟩) ?ms3
  case my3 => (intro w; go_simp) <;> with_reducible rfl
  try simp only [Act.put, List.setIfInBounds_toArray, List.set_cons_zero, List.set_cons_succ]
  refine wpAnyB_take (i := 4) (v := ?mv4) rfl (by kernel_rfl) (by kernel_rfl) (by kernel_rfl) (fun _ _ _ h => h) (Or.inl ⟨by kernel_rfl, ?my4⟩) ?ms4
  case my4 => (intro w; go_simp) <;> with_reducible rfl
  try simp only [Act.put, List.setIfInBounds_toArray, List.set_cons_zero, List.set_cons_succ]
  refine wpAnyB_take (i := 5) (v := ?mv5) rfl (by kernel_rfl) (by kernel_rfl) (by kernel_rfl) (fun _ _ _ h => h) (Or.inl ⟨by kernel_rfl, ?my5⟩) ?ms5
  case my5 => (intro w; go_simp) <;> with_reducible rfl
  try simp only [Act.put, List.setIfInBounds_toArray, List.set_cons_zero, List.set_cons_succ]
  refine wpAnyB_take (i := 7) (v := ?mv7) rfl (by kernel_rfl) (by kernel_rfl) (by kernel_rfl) (fun _ _ _ h => h) (Or.inl ⟨by kernel_rfl, ?my7⟩) ?ms7
  case my7 => (intro w; go_simp) <;> with_reducible rfl
  try simp only [Act.put, List.setIfInBounds_toArray, List.set_cons_zero, List.set_cons_succ]
  have HQ1 := Lib.hid (j_quote (w := V) s (by have := HSZ.out; omega))
  rw [← HQT.out] at HQ1
  refine wpAnyB_ready (rs := [6]) (by kernel_rfl) (by simp) ?_
  refine AllReadyB.cons (o := { dst := some 135, op := Op.call { callee := Callee.value (Operand.func 28), args := #[Operand.tmp 134], argTypes := #[9] }, type := 9, pos := "law.go:81", after := #[{ on := 5, ground := Ground.data }, { on := 4, ground := Ground.chain }, { on := 4, ground := Ground.guard }], guard := some (4, true) }) rfl (fun K hK => ?_) AllReadyB.nil
  go_simp
  go_at_call 28
  refine HQ1.out.mono ?_
  rintro e V2 ⟨rfl, hb2⟩
  have HV2 : Hid (Below w22.heap.size w22 V2) := Lib.hid (HV.out.trans (hb2.mono HV.out.size))
  clear hb2
  refine hK.out _ _ (fun _ _ => HV2.out) ?_
  clear hK K
  try simp only [Act.put, List.setIfInBounds_toArray, List.set_cons_zero, List.set_cons_succ]
  have HQ2 := Lib.hid (k_quote (w := V2) s (by have := HSZ.out; omega))
  rw [← HQT.out] at HQ2
  refine wpAnyB_ready (rs := [8]) (by kernel_rfl) (by simp) ?_
  refine AllReadyB.cons (o := { dst := some 137, op := Op.call { callee := Callee.value (Operand.func 29), args := #[Operand.tmp 136], argTypes := #[9] }, type := 9, pos := "law.go:81", after := #[{ on := 7, ground := Ground.data }, { on := 6, ground := Ground.chain }, { on := 4, ground := Ground.guard }], guard := some (4, true) }) rfl (fun K hK => ?_) AllReadyB.nil
  go_simp
  go_at_call 29
  refine HQ2.out.mono ?_
  rintro e V3 ⟨rfl, hb3⟩
  have HV3 : Hid (Below w22.heap.size w22 V3) := Lib.hid (HV2.out.trans (hb3.mono HV2.out.size))
  clear hb3
  refine hK.out _ _ (fun _ _ => HV3.out) ?_
  clear hK K
  try simp only [Act.put, List.setIfInBounds_toArray, List.set_cons_zero, List.set_cons_succ]
  refine wpAnyB_take (i := 9) (v := ?mv9) rfl (by kernel_rfl) (by kernel_rfl) (by kernel_rfl) (fun _ _ _ h => h) (Or.inl ⟨by kernel_rfl, ?my9⟩) ?ms9
  case my9 => (intro w; go_simp) <;> with_reducible rfl
  try simp only [Act.put, List.setIfInBounds_toArray, List.set_cons_zero, List.set_cons_succ]
  refine wpAnyB_take (i := 10) (v := ?mv10) rfl (by kernel_rfl) (by kernel_rfl) (by kernel_rfl) (fun _ _ _ h => h) (Or.inl ⟨by kernel_rfl, ?my10⟩) ?ms10
  case my10 => (intro w; go_simp) <;> with_reducible rfl
  try simp only [Act.put, List.setIfInBounds_toArray, List.set_cons_zero, List.set_cons_succ]
  refine wpAnyB_take (i := 11) (v := ?mv11) rfl (by kernel_rfl) (by kernel_rfl) (by kernel_rfl) (fun _ _ _ h => h) (Or.inl ⟨by kernel_rfl, ?my11⟩) ?ms11
  case my11 => (intro w; go_simp) <;> with_reducible rfl
  try simp only [Act.put, List.setIfInBounds_toArray, List.set_cons_zero, List.set_cons_succ]
  have hV3 := HV3.out
  refine wpAnyB_load (i := 12) (v := ?mv12) rfl (by kernel_rfl) (by kernel_rfl) (by kernel_rfl) (by kernel_rfl) (fun _ _ _ h => h) (Or.inl ⟨by kernel_rfl, ?my12⟩) (by assumption) ?ms12
  case my12 => (intro w hSw; obtain ⟨⟨u0, u1, u2, u3⟩, -, -⟩ := HCEL.out w hSw; go_simp) <;> with_reducible rfl
  try simp only [Act.put, List.setIfInBounds_toArray, List.set_cons_zero, List.set_cons_succ]
  refine wpAnyB_load (i := 13) (v := ?mv13) rfl (by kernel_rfl) (by kernel_rfl) (by kernel_rfl) (by kernel_rfl) (fun _ _ _ h => h) (Or.inl ⟨by kernel_rfl, ?my13⟩) (by assumption) ?ms13
  case my13 => (intro w hSw; obtain ⟨-, ⟨u0, u1, u2, u3⟩, -⟩ := HCEL.out w hSw; go_simp) <;> with_reducible rfl
  try simp only [Act.put, List.setIfInBounds_toArray, List.set_cons_zero, List.set_cons_succ]
  refine wpAnyB_load (i := 15) (v := ?mv15) rfl (by kernel_rfl) (by kernel_rfl) (by kernel_rfl) (by kernel_rfl) (fun _ _ _ h => h) (Or.inl ⟨by kernel_rfl, ?my15⟩) (by assumption) ?ms15
  case my15 => (intro w hSw; obtain ⟨-, -, ⟨u0, u1, u2, u3⟩⟩ := HCEL.out w hSw; go_simp) <;> with_reducible rfl
  try simp only [Act.put, List.setIfInBounds_toArray, List.set_cons_zero, List.set_cons_succ]
  refine wpAnyB_load (i := 16) (v := ?mv16) rfl (by kernel_rfl) (by kernel_rfl) (by kernel_rfl) (by kernel_rfl) (fun _ _ _ h => h) (Or.inl ⟨by kernel_rfl, ?my16⟩) (by assumption) ?ms16
  case my16 => (intro w hSw; obtain ⟨-, ⟨u0, u1, u2, u3⟩, -⟩ := HCEL.out w hSw; go_simp) <;> with_reducible rfl
  try simp only [Act.put, List.setIfInBounds_toArray, List.set_cons_zero, List.set_cons_succ]
  have HQ4 := Lib.hid (j_same v u q r V3 _ _ HFL.out.1 (HX22.out.val.below HV3.out) (HY22.out.val.below HV3.out))
  rw [← HSV.out] at HQ4
  clear hV3
  refine wpAnyB_ready (rs := [14]) (by kernel_rfl) (by simp) ?_
  refine AllReadyB.cons (o := { dst := some 143, op := Op.call { callee := Callee.value (Operand.func 13), args := #[Operand.tmp 141, Operand.tmp 142], argTypes := #[25, 25] }, type := 4, pos := "law.go:81", after := #[{ on := 12, ground := Ground.data }, { on := 13, ground := Ground.data }, { on := 11, ground := Ground.chain }, { on := 11, ground := Ground.guard }], guard := some (11, true) }) rfl (fun K hK => ?_) AllReadyB.nil
  go_simp
  go_at_call 13
  refine HQ4.out.mono ?_
  rintro e V4 ⟨rfl, hb4⟩
  have HV4 : Hid (Below w22.heap.size w22 V4) := Lib.hid (HV3.out.trans (hb4.mono HV3.out.size))
  clear hb4
  refine hK.out _ _ (fun _ _ => HV4.out) ?_
  clear hK K
  try simp only [Act.put, List.setIfInBounds_toArray, List.set_cons_zero, List.set_cons_succ]
  refine wpAnyB_ready (rs := [17]) (by kernel_rfl) (by simp) ?_
  refine AllReadyB.cons (o := { dst := some 146, op := Op.call { callee := Callee.value (Operand.func 23), args := #[Operand.tmp 145], argTypes := #[25] }, type := 40, pos := "law.go:81", after := #[{ on := 16, ground := Ground.data }, { on := 14, ground := Ground.chain }, { on := 11, ground := Ground.guard }], guard := some (11, true) }) rfl (fun K hK => ?_) AllReadyB.nil
  go_simp
  go_at_call 23
  refine (j_toRef u r V4 _ HFU.out (HY22.out.val.below HV4.out)).mono ?_
  rintro e V5 ⟨up, rfl, HUP⟩
  have HV5 : Hid (Below w22.heap.size w22 V5) := Lib.hid (HV4.out.trans (HUP.out.2.mono HV4.out.size))
  refine hK.out _ _ (fun _ _ => HV5.out) ?_
  clear hK K
  try simp only [Act.put, List.setIfInBounds_toArray, List.set_cons_zero, List.set_cons_succ]
  have HQ6 := Lib.hid (k_same v u p up V5 _ _ HFL.out.1 (HD22.out.val.below HV5.out) HUP.out.1)
  rw [← HSV.out] at HQ6
  refine wpAnyB_ready (rs := [18]) (by kernel_rfl) (by simp) ?_
  refine AllReadyB.cons (o := { dst := some 147, op := Op.call { callee := Callee.value (Operand.func 30), args := #[Operand.tmp 144, Operand.tmp 146], argTypes := #[40, 40] }, type := 4, pos := "law.go:81", after := #[{ on := 15, ground := Ground.data }, { on := 17, ground := Ground.data }, { on := 17, ground := Ground.chain }, { on := 11, ground := Ground.guard }], guard := some (11, true) }) rfl (fun K hK => ?_) AllReadyB.nil
  go_simp
  go_at_call 30
  refine HQ6.out.mono ?_
  rintro e V6 ⟨rfl, hb6⟩
  have HV6 : Hid (Below w22.heap.size w22 V6) := Lib.hid (HV5.out.trans (hb6.mono HV5.out.size))
  clear hb6
  refine hK.out _ _ (fun _ _ => HV6.out) ?_
  clear hK K
  try simp only [Act.put, List.setIfInBounds_toArray, List.set_cons_zero, List.set_cons_succ]
  refine wpAnyB_take (i := 19) (v := ?mv19) rfl (by kernel_rfl) (by kernel_rfl) (by kernel_rfl) (fun _ _ _ h => h) (Or.inl ⟨by kernel_rfl, ?my19⟩) ?ms19
  case my19 => (intro w; go_simp) <;> with_reducible rfl
  try simp only [Act.put, List.setIfInBounds_toArray, List.set_cons_zero, List.set_cons_succ]
  refine wpAnyB_take (i := 20) (v := ?mv20) rfl (by kernel_rfl) (by kernel_rfl) (by kernel_rfl) (fun _ _ _ h => h) (Or.inl ⟨by kernel_rfl, ?my20⟩) ?ms20
  case my20 => (intro w; go_simp) <;> with_reducible rfl
  try simp only [Act.put, List.setIfInBounds_toArray, List.set_cons_zero, List.set_cons_succ]
  refine wpAnyB_take (i := 21) (v := ?mv21) rfl (by kernel_rfl) (by kernel_rfl) (by kernel_rfl) (fun _ _ _ h => h) (Or.inl ⟨by kernel_rfl, ?my21⟩) ?ms21
  case my21 => (intro w; go_simp) <;> with_reducible rfl
  try simp only [Act.put, List.setIfInBounds_toArray, List.set_cons_zero, List.set_cons_succ]
  have hV6 := HV6.out
  refine wpAnyB_load (i := 22) (v := ?mv22) rfl (by kernel_rfl) (by kernel_rfl) (by kernel_rfl) (by kernel_rfl) (fun _ _ _ h => h) (Or.inl ⟨by kernel_rfl, ?my22⟩) (by assumption) ?ms22
  case my22 => (intro w hSw; obtain ⟨⟨u0, u1, u2, u3⟩, -, -⟩ := HCEL.out w hSw; go_simp) <;> with_reducible rfl
  try simp only [Act.put, List.setIfInBounds_toArray, List.set_cons_zero, List.set_cons_succ]
  refine wpAnyB_load (i := 23) (v := ?mv23) rfl (by kernel_rfl) (by kernel_rfl) (by kernel_rfl) (by kernel_rfl) (fun _ _ _ h => h) (Or.inl ⟨by kernel_rfl, ?my23⟩) (by assumption) ?ms23
  case my23 => (intro w hSw; obtain ⟨⟨u0, u1, u2, u3⟩, -, -⟩ := HCEL.out w hSw; go_simp) <;> with_reducible rfl
  try simp only [Act.put, List.setIfInBounds_toArray, List.set_cons_zero, List.set_cons_succ]
  have HQ7 := Lib.hid (j_same v v q q V6 _ _ HFL.out.1 (HX22.out.val.below HV6.out) (HX22.out.val.below HV6.out))
  rw [sameJ_refl] at HQ7
  clear hV6
  refine wpAnyB_ready (rs := [24]) (by kernel_rfl) (by simp) ?_
  refine AllReadyB.cons (o := { dst := some 153, op := Op.call { callee := Callee.value (Operand.func 13), args := #[Operand.tmp 151, Operand.tmp 152], argTypes := #[25, 25] }, type := 4, pos := "law.go:81", after := #[{ on := 22, ground := Ground.data }, { on := 23, ground := Ground.data }, { on := 21, ground := Ground.chain }, { on := 21, ground := Ground.guard }], guard := some (21, true) }) rfl (fun K hK => ?_) AllReadyB.nil
  go_simp
  go_at_call 13
  refine HQ7.out.mono ?_
  rintro e V7 ⟨rfl, hb7⟩
  have HV7 : Hid (Below w22.heap.size w22 V7) := Lib.hid (HV6.out.trans (hb7.mono HV6.out.size))
  clear hb7
  refine hK.out _ _ (fun _ _ => HV7.out) ?_
  clear hK K
  try simp only [Act.put, List.setIfInBounds_toArray, List.set_cons_zero, List.set_cons_succ]
  refine wpAnyB_take (i := 25) (v := ?mv25) rfl (by kernel_rfl) (by kernel_rfl) (by kernel_rfl) (fun _ _ _ h => h) (Or.inl ⟨by kernel_rfl, ?my25⟩) ?ms25
  case my25 => (intro w; go_simp) <;> with_reducible rfl
  try simp only [Act.put, List.setIfInBounds_toArray, List.set_cons_zero, List.set_cons_succ]
  refine wpAnyB_take (i := 26) (v := ?mv26) rfl (by kernel_rfl) (by kernel_rfl) (by kernel_rfl) (fun _ _ _ h => h) (Or.inl ⟨by kernel_rfl, ?my26⟩) ?ms26
  case my26 => (intro w; go_simp) <;> with_reducible rfl
  try simp only [Act.put, List.setIfInBounds_toArray, List.set_cons_zero, List.set_cons_succ]
  have hV7 := HV7.out
  refine wpAnyB_load (i := 27) (v := ?mv27) rfl (by kernel_rfl) (by kernel_rfl) (by kernel_rfl) (by kernel_rfl) (fun _ _ _ h => h) (Or.inl ⟨by kernel_rfl, ?my27⟩) (by assumption) ?ms27
  case my27 => (intro w hSw; obtain ⟨⟨u0, u1, u2, u3⟩, -, -⟩ := HCEL.out w hSw; go_simp) <;> with_reducible rfl
  try simp only [Act.put, List.setIfInBounds_toArray, List.set_cons_zero, List.set_cons_succ]
  refine wpAnyB_load (i := 28) (v := ?mv28) rfl (by kernel_rfl) (by kernel_rfl) (by kernel_rfl) (by kernel_rfl) (fun _ _ _ h => h) (Or.inl ⟨by kernel_rfl, ?my28⟩) (by assumption) ?ms28
  case my28 => (intro w hSw; obtain ⟨-, -, ⟨u0, u1, u2, u3⟩⟩ := HCEL.out w hSw; go_simp) <;> with_reducible rfl
  try simp only [Act.put, List.setIfInBounds_toArray, List.set_cons_zero, List.set_cons_succ]
  have HQ8 := Lib.hid (j_jsame v q p V7 _ _ HFL.out.1 (HX22.out.val.below HV7.out) (HD22.out.val.below HV7.out))
  clear hV7
  refine wpAnyB_ready (rs := [29]) (by kernel_rfl) (by simp) ?_
  refine AllReadyB.cons (o := { dst := some 158, op := Op.call { callee := Callee.value (Operand.func 15), args := #[Operand.tmp 156, Operand.tmp 157], argTypes := #[25, 40] }, type := 4, pos := "law.go:81", after := #[{ on := 27, ground := Ground.data }, { on := 28, ground := Ground.data }, { on := 26, ground := Ground.chain }, { on := 26, ground := Ground.guard }], guard := some (26, true) }) rfl (fun K hK => ?_) AllReadyB.nil
  go_simp
  go_at_call 15
  refine HQ8.out.mono ?_
  rintro e V8 ⟨rfl, hb8⟩
  have HV8 : Hid (Below w22.heap.size w22 V8) := Lib.hid (HV7.out.trans (hb8.mono HV7.out.size))
  clear hb8
  refine hK.out _ _ (fun _ _ => HV8.out) ?_
  clear hK K
  try simp only [Act.put, List.setIfInBounds_toArray, List.set_cons_zero, List.set_cons_succ]
  refine wpAnyB_take (i := 30) (oi := { dst := some 159, op := Op.pick (Operand.tmp 155) (Operand.tmp 158) (Operand.const (Value.bool false)), type := 4, pos := "law.go:81", after := #[{ on := 26, ground := Ground.data }, { on := 29, ground := Ground.data }], guard := none }) (v := ?mv30) rfl (by kernel_rfl) (by kernel_rfl) (by kernel_rfl) (fun _ _ _ h => h) (Or.inl ⟨by kernel_rfl, ?my30⟩) ?ms30
  case my30 => (intro w; go_simp) <;> with_reducible rfl
  try simp only [Act.put, List.setIfInBounds_toArray, List.set_cons_zero, List.set_cons_succ]
  refine wpAnyB_take (i := 31) (oi := { dst := some 10, op := Op.assign (Operand.tmp 159), type := 4, pos := "law.go:81", after := #[{ on := 30, ground := Ground.data }, { on := 29, ground := Ground.chain }, { on := 0, ground := Ground.phase }, { on := 1, ground := Ground.phase }, { on := 2, ground := Ground.phase }, { on := 3, ground := Ground.phase }, { on := 4, ground := Ground.phase }, { on := 5, ground := Ground.phase }, { on := 6, ground := Ground.phase }, { on := 7, ground := Ground.phase }, { on := 8, ground := Ground.phase }, { on := 9, ground := Ground.phase }, { on := 10, ground := Ground.phase }, { on := 11, ground := Ground.phase }, { on := 12, ground := Ground.phase }, { on := 13, ground := Ground.phase }, { on := 14, ground := Ground.phase }, { on := 15, ground := Ground.phase }, { on := 16, ground := Ground.phase }, { on := 17, ground := Ground.phase }, { on := 18, ground := Ground.phase }, { on := 19, ground := Ground.phase }, { on := 20, ground := Ground.phase }, { on := 21, ground := Ground.phase }, { on := 22, ground := Ground.phase }, { on := 23, ground := Ground.phase }, { on := 24, ground := Ground.phase }, { on := 25, ground := Ground.phase }, { on := 26, ground := Ground.phase }, { on := 27, ground := Ground.phase }, { on := 28, ground := Ground.phase }, { on := 29, ground := Ground.phase }, { on := 30, ground := Ground.phase }], guard := none }) (v := ?mv31) rfl (by kernel_rfl) (by kernel_rfl) (by kernel_rfl) (fun _ _ _ h => h) (Or.inl ⟨by kernel_rfl, ?my31⟩) ?ms31
  case my31 => (intro w; go_simp) <;> with_reducible rfl
  try simp only [Act.put, List.setIfInBounds_toArray, List.set_cons_zero, List.set_cons_succ]
  refine wpAnyB_done (by kernel_rfl) ?_ _
  go_wp2_with (fail)
  go_ret
  exact ⟨rfl, HB22.out.trans (HV8.out.mono HB22.out.size)⟩
end
end Go.Proofs.YthjcolehccbihaaGreatDoor
