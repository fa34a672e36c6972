/- The walk of exlaw7.JsonBack: it returns true. -/
import Derived.Test.YthjcolehccbihaaGreatDoorNu
set_option linter.unusedSimpArgs false
set_option linter.unusedVariables false
namespace Go.Proofs.YthjcolehccbihaaGreatDoor
open Go.RowKit Go.Shelf

/-- A value in its box. -/
structure HasX (w wr : World) (xb : Nat) (q : RawV) (v : JV) : Prop where
  box : JBox wr xb q
  val : JAt wr (fun _ => True) v q
  below : Below w.heap.size w wr
theorem HasX.on {w wr wy : World} {xb : Nat} {q : RawV} {v : JV} (h : HasX w wr xb q v) (hb : Below wr.heap.size wr wy) : HasX w wy xb q v := ⟨jbox_below h.box hb, h.val.below hb, h.below.trans (hb.mono h.below.size)⟩
section
variable {w : World}
theorem print_yes {v : JV} {q : RawV} {A : Nat → Prop} (hj : JAt w A v q) (hf : v.Fit) (ht : Tabs w) (hc : chk 0 v = 0) (hlen : (lay v).length ≤ 65536) :
    Calls Tryz.prog 10 #[.agg #[.int .i64 q.k, .string q.t, .slice q.la q.ll q.lc, .slice q.na q.nl q.nc]] w fun e w' => ∃ bv, e = .returned (.tuple #[bv, .int .i64 0]) ∧ Hid (BytesAt w' bv (lay v) ∧ Below w.heap.size w w') := by
  refine (j_print hj.lt hf ht (fun g h => h.2) (fun _ => by omega)).mono ?_
  rw [print_ok hc hlen]
  rintro e w' ⟨hb, h⟩
  rcases h with ⟨h, -⟩ | ⟨l, bv, h1, h2, h3⟩
  · cases h
  · injection h1 with h1
    subst h1
    exact ⟨bv, h2, Lib.hid ⟨h3, hb⟩⟩
theorem print_any {v : JV} {q : RawV} {A : Nat → Prop} (hj : JAt w A v q) (hf : v.Fit) (ht : Tabs w) (hlen : (lay v).length ≤ 65536) :
    Calls Tryz.prog 10 #[.agg #[.int .i64 q.k, .string q.t, .slice q.la q.ll q.lc, .slice q.na q.nl q.nc]] w fun e w' => ∃ (bv : Value) (er : Int), e = .returned (.tuple #[bv, .int .i64 er]) ∧ Hid (Below w.heap.size w w' ∧ (chk 0 v = 0 → er = 0 ∧ BytesAt w' bv (lay v)) ∧ (chk 0 v ≠ 0 → er ≠ 0)) := by
  by_cases hc : chk 0 v = 0
  · refine (print_yes hj hf ht hc hlen).mono ?_
    rintro e w' ⟨bv, rfl, H⟩
    exact ⟨bv, 0, rfl, Lib.hid ⟨H.out.2, fun _ => ⟨rfl, H.out.1⟩, fun h => absurd hc h⟩⟩
  · refine (j_print hj.lt hf ht (fun g h => h.2) (fun h => absurd h hc)).mono ?_
    rintro e w' ⟨hb, h⟩
    have hp : print v = (none, chk 0 v) := by unfold print; rw [if_pos hc]
    rw [hp] at h
    rcases h with ⟨-, h⟩ | ⟨l, bv, h1, -⟩
    · exact ⟨_, _, h, Lib.hid ⟨hb, fun h => absurd h hc, fun _ => by simp only; omega⟩⟩
    · cases h1
theorem small_200 {v : JV} {q : RawV} {A : Nat → Prop} (hz : v.Sz) (hj : JAt w A v q) :
    Calls Tryz.prog 9 #[.agg #[.int .i64 q.k, .string q.t, .slice q.la q.ll q.lc, .slice q.na q.nl q.nc], .int .i64 200] w fun e w' => e = .returned (.int .i64 (smallJ v 200 : Int)) ∧ Below w.heap.size w w' :=
  j_small v q w A 200 hz hj (by decide)
theorem norm_chk {v : JV} (h : chk 0 v = 0) (hl : (lay v).length ≤ 40000) : chk 0 (norm v) = 0 ∧ (norm v).Fit := by
  have hp := parse_lay h (by omega)
  have h1 := parse_chk0 (lay v)
  have h2 := (parse_gd (b := lay v) (N := 40000) hl).1
  rw [hp] at h1 h2
  exact ⟨h1, gd_fit (by decide) _ h2⟩
set_option maxRecDepth 100000 in
set_option maxHeartbeats 8000000 in
theorem l_back {v : JV} {q : RawV} {A : Nat → Prop} (hv : JAt w A v q) (hz : v.Sz) {a : Option Addr} {cap : Nat} {bs : List UInt8} (hb : RdAt byteKind w (.slice a bs.length cap) bs) (hc : bs.length ≤ cap) (hc2 : cap ≤ 9223372036854775807) (ht : Tabs w) :
    Calls Tryz.prog 3 #[.agg #[.int .i64 q.k, .string q.t, .slice q.la q.ll q.lc, .slice q.na q.nl q.nc], .slice a bs.length cap] w fun e w' => e = .returned (.bool true) ∧ Below w.heap.size w w' := by
  obtain ⟨w1, hw1, HBX⟩ := jbox_new w q
  obtain ⟨xb, hxb⟩ : ∃ x, x = w.heap.size := ⟨_, rfl⟩
  have HX1 : Hid (HasX w w1 xb q v) := Lib.hid ⟨by rw [hxb]; exact HBX.out.2, (hv.below HBX.out.1).mono (fun _ _ => trivial), HBX.out.1⟩
  have HW1 := Lib.hid hw1
  have HT := Lib.hid ht
  have HZ := Lib.hid hz
  have HBR := Lib.hid (And.intro hb (And.intro hc hc2))
  have hsl : (smallJ v 200 : Int) ≤ 40000000000000 := by have := small_le v hz 200; omega
  obtain ⟨sm, hsm⟩ : ∃ x : Nat, x = smallJ v 200 := ⟨_, rfl⟩
  have HSM := Lib.hid hsm
  rw [← hsm] at hsl
  clear hw1 HBX hv hz hb hc hc2 ht hsm
  have hlen : (bs.length : Int) ≤ 9223372036854775807 := by have := HBR.out; omega
  go_enter Tryz.func3, Tryz.ntmps3
  go_upto_region 1 with (fail)
  rw [HW1.out, ← hxb]
  clear HW1
  have HXB := Lib.hid hxb
  clear hxb
  go_wp2_with (fail)
  refine (x_first (HT.out.below HX1.out.below)).mono ?_
  rintro e w2 ⟨rfl, hb2⟩
  have HX2 := Lib.hid (HX1.out.on hb2)
  clear hb2 HX1
  obtain ⟨⟨b0, b1, b2, b3⟩, -⟩ := jbox_cells HX2.out.box
  go_wp2_with (fail)
  refine (small_200 HZ.out HX2.out.val).mono ?_
  rw [← HSM.out]
  rintro e w3 ⟨rfl, hb3⟩
  have HX3 := Lib.hid (HX2.out.on hb3)
  clear hb3 HX2 b0 b1 b2 b3
  by_cases hbig : 200 < sm
  · have t0 : decide ((200 : Int) < (sm : Int)) = true := by simp; omega
    have t1 : (200 : Int) < (sm : Int) := by omega
    go_wp2_with (fail)
    go_ret
    exact ⟨rfl, HX3.out.below⟩
  have t0 : decide ((200 : Int) < (sm : Int)) = false := by simp; omega
  have t1 : ¬ (200 : Int) < (sm : Int) := by omega
  by_cases hbig2 : 4000 < bs.length
  · have t2 : decide ((4000 : Int) < (bs.length : Int)) = true := by simp; omega
    have t3 : (4000 : Int) < (bs.length : Int) := by omega
    go_wp2_with (fail)
    go_ret
    exact ⟨rfl, HX3.out.below⟩
  have t2 : decide ((4000 : Int) < (bs.length : Int)) = false := by simp; omega
  have t3 : ¬ (4000 : Int) < (bs.length : Int) := by omega
  have HB4 := Lib.hid (show bs.length ≤ 4000 by omega)
  have HFL : Hid (v.Fit ∧ (lay v).length ≤ 40000) := Lib.hid (by
    have := small_fit v 200 (by decide) (by rw [← HSM.out]; omega)
    rw [← HSM.out] at this
    exact ⟨this.1, by omega⟩)
  go_upto_region 4 with (fail)
  clear t0 t1 t2 t3 hsl HSM HZ
  obtain ⟨⟨b0, b1, b2, b3⟩, -⟩ := jbox_cells HX3.out.box
  go_wp2_with (fail)
  refine (print_any HX3.out.val HFL.out.1 (HT.out.below HX3.out.below) (by have := HFL.out.2; omega)).mono ?_
  rintro e w4 ⟨cv, er, rfl, HPR⟩
  have HX4 := Lib.hid (HX3.out.on HPR.out.1)
  clear HX3 b0 b1 b2 b3
  go_upto_if 44 with (first | (go_at_call 11; refine (r_num _ _).mono ?_; rintro e w' ⟨rfl, rfl⟩))
  go_cut [8, 9, 10, 11, 12] from 45 to 79 (fun _ _ _ _ _ wx => Hid (Below w.heap.size w wx))
  case first =>
    by_cases hchk : chk 0 v = 0
    · obtain ⟨rfl, hby⟩ := HPR.out.2.1 hchk
      have HNC := Lib.hid (norm_chk hchk HFL.out.2)
      have HLN := Lib.hid (lay_norm v 0 hchk)
      have HPL := Lib.hid (parse_lay hchk (by have := HFL.out.2; omega))
      have HSN := Lib.hid (same_norm v 0 hchk).1
      have HBY4 := Lib.hid hby
      have e00 : ((0 : Int) == 0) = true := rfl
      clear hby
      go_wp2_with (fail)
      refine (parse_at HBY4.out (HT.out.below HX4.out.below)).mono ?_
      rw [HPL.out]
      rintro e w5 ⟨r, p0, er5, rfl, HQ⟩
      obtain ⟨w6, hw6, HBX6⟩ := jbox_new w5 r
      obtain ⟨yb, hyb⟩ : ∃ x, x = w5.heap.size := ⟨_, rfl⟩
      have hp0 : p0 = 0 := HQ.out.2.1
      have he5 : er5 = 0 := HQ.out.2.2.1
      subst hp0 he5
      have HX6 : Hid (HasX w w6 xb q v) := Lib.hid ((HX4.out.on HQ.out.2.2.2).on HBX6.out.1)
      have HY6 : Hid (HasX w w6 yb r (norm v)) := Lib.hid ⟨by rw [hyb]; exact HBX6.out.2, (HQ.out.1.below HBX6.out.1).mono (fun _ _ => trivial), HX6.out.below⟩
      have HB6 : Hid (BytesAt w6 cv (lay v)) := Lib.hid ((HBY4.out.below HQ.out.2.2.2).below HBX6.out.1)
      have HW6 := Lib.hid hw6
      clear hw6 HBX6 HQ HX4 HBY4
      go_upto_region 7 with (fail)
      rw [HW6.out, ← hyb]
      clear HW6 hyb
      obtain ⟨⟨b0, b1, b2, b3⟩, -⟩ := jbox_cells HY6.out.box
      go_wp2_with (fail)
      refine (print_yes HY6.out.val HNC.out.2 (HT.out.below HY6.out.below) HNC.out.1 (by rw [HLN.out]; have := HFL.out.2; omega)).mono ?_
      rw [HLN.out]
      rintro e w7 ⟨dv, rfl, HD⟩
      have HX7 := Lib.hid (HX6.out.on HD.out.2)
      have HY7 := Lib.hid (HY6.out.on HD.out.2)
      have HB7 := Lib.hid (HB6.out.below HD.out.2)
      clear HX6 HY6 HB6 b0 b1 b2 b3
      obtain ⟨⟨b0, b1, b2, b3⟩, -⟩ := jbox_cells HX7.out.box
      obtain ⟨⟨c0, c1, c2, c3⟩, -⟩ := jbox_cells HY7.out.box
      go_wp2_with (first | (go_at_call 11; refine (r_num _ _).mono ?_; rintro e w' ⟨rfl, rfl⟩))
      refine (j_same (norm v) v r q _ _ _ HNC.out.2 HY7.out.val HX7.out.val).mono ?_
      rw [HSN.out]
      rintro e w8 ⟨rfl, hb8⟩
      have HB8 : Hid (BytesAt w8 cv (lay v) ∧ BytesAt w8 dv (lay v) ∧ Below w.heap.size w w8) := Lib.hid ⟨HB7.out.below hb8, HD.out.1.below hb8, (HX7.out.on hb8).below⟩
      clear hb8 b0 b1 b2 b3 c0 c1 c2 c3
      go_wp2_with (fail)
      refine (r_sameBytes HB8.out.1.rd HB8.out.2.1.rd (by have := HFL.out.2; omega)).mono ?_
      rintro e w9 ⟨rfl, hb9⟩
      have HB9 : Hid (Below w.heap.size w w9) := Lib.hid (HB8.out.2.2.trans (hb9.mono HB8.out.2.2.size))
      clear hb9
      go_wp2_with (fail)
      go_meet
      exact HB9
    · have her : er ≠ 0 := HPR.out.2.2 hchk
      have her2 : (er == 0) = false := beq_eq_false_iff_ne.2 her
      go_wp2_with (fail)
      go_meet
      exact Lib.hid HX4.out.below
  case rest =>
    have HC : Hid (Below w.heap.size w wc) := hcut
    have HBY : Hid (BytesAt wc (.slice a bs.length cap) bs) := Lib.hid ⟨HBR.out.1.below HC.out, by have := HB4.out; omega, fun a' n' c' e => by injection e with _ _ e3; have := HBR.out.2; omega⟩
    have HTC := Lib.hid (HT.out.below HC.out)
    have HU := Lib.hid (And.intro (parse_chk (b := bs) HB4.out) (gd_fit (by decide) _ (parse_gd (b := bs) (N := 4000) HB4.out).1))
    clear hcut HPR HX4 HBR
    go_wp2_with (fail)
    refine (parse_at HBY.out HTC.out).mono ?_
    rintro e w5 ⟨r, p0, er5, rfl, HQ⟩
    obtain ⟨w6, hw6, HBX6⟩ := jbox_new w5 r
    obtain ⟨yb, hyb⟩ : ∃ x, x = w5.heap.size := ⟨_, rfl⟩
    obtain ⟨u, hu⟩ : ∃ x, x = (parse bs).1 := ⟨_, rfl⟩
    have he5 : er5 = ((parse bs).2.2 : Int) := HQ.out.2.2.1
    have HZE : Hid (er5 ≠ 0 → u = JV.zero) := Lib.hid (fun h => by rw [hu]; exact parse_bad (by omega))
    rw [← hu] at HU
    have HY6 : Hid (HasX w w6 yb r u) := Lib.hid ⟨by rw [hyb]; exact HBX6.out.2, by rw [hu]; exact (HQ.out.1.below HBX6.out.1).mono (fun _ _ => trivial), (HC.out.trans (HQ.out.2.2.2.mono HC.out.size)).trans (HBX6.out.1.mono (by have := HC.out.size; have := HQ.out.2.2.2.size; omega))⟩
    have HW6 := Lib.hid hw6
    clear hw6 HBX6 HQ hu he5
    go_upto_region 11 with (fail)
    rw [HW6.out, ← hyb]
    clear HW6 hyb HBY HC HTC
    by_cases her : er5 = 0
    · subst her
      have HLN := Lib.hid (lay_norm u 0 HU.out.1.1)
      have HPL := Lib.hid (parse_lay HU.out.1.1 (by have := HU.out.1.2; omega))
      have HSN := Lib.hid (same_norm u 0 HU.out.1.1).2
      have HNC := Lib.hid (norm_chk HU.out.1.1 (by have := HU.out.1.2; omega))
      obtain ⟨⟨b0, b1, b2, b3⟩, -⟩ := jbox_cells HY6.out.box
      go_wp2_with (first | (go_at_call 11; refine (r_num _ _).mono ?_; rintro e w' ⟨rfl, rfl⟩))
      refine (print_yes HY6.out.val HU.out.2 (HT.out.below HY6.out.below) HU.out.1.1 (by have := HU.out.1.2; omega)).mono ?_
      rintro e w7 ⟨dv, rfl, HD⟩
      have HY7 := Lib.hid (HY6.out.on HD.out.2)
      clear HY6 b0 b1 b2 b3
      go_wp2_with (fail)
      refine (parse_at HD.out.1 (HT.out.below HY7.out.below)).mono ?_
      rw [HPL.out]
      rintro e w8 ⟨g, p1, er8, rfl, HQ⟩
      obtain ⟨w9, hw9, HBX9⟩ := jbox_new w8 g
      obtain ⟨zb, hzb⟩ : ∃ x, x = w8.heap.size := ⟨_, rfl⟩
      have hp0 : p1 = 0 := HQ.out.2.1
      have he5 : er8 = 0 := HQ.out.2.2.1
      subst hp0 he5
      have HY9 : Hid (HasX w w9 yb r u) := Lib.hid ((HY7.out.on HQ.out.2.2.2).on HBX9.out.1)
      have HZ9 : Hid (HasX w w9 zb g (norm u)) := Lib.hid ⟨by rw [hzb]; exact HBX9.out.2, (HQ.out.1.below HBX9.out.1).mono (fun _ _ => trivial), HY9.out.below⟩
      have HB9 : Hid (BytesAt w9 dv (lay u)) := Lib.hid ((HD.out.1.below HQ.out.2.2.2).below HBX9.out.1)
      have HW9 := Lib.hid hw9
      clear hw9 HBX9 HQ HY7 HD
      go_upto_region 15 with (fail)
      rw [HW9.out, ← hzb]
      clear HW9 hzb
      obtain ⟨⟨b0, b1, b2, b3⟩, -⟩ := jbox_cells HZ9.out.box
      go_wp2_with (fail)
      refine (print_yes HZ9.out.val HNC.out.2 (HT.out.below HZ9.out.below) HNC.out.1 (by rw [HLN.out]; have := HU.out.1.2; omega)).mono ?_
      rw [HLN.out]
      rintro e w10 ⟨xv, rfl, HD⟩
      have HY10 := Lib.hid (HY9.out.on HD.out.2)
      have HZ10 := Lib.hid (HZ9.out.on HD.out.2)
      have HB10 := Lib.hid (HB9.out.below HD.out.2)
      clear HY9 HZ9 HB9 b0 b1 b2 b3
      obtain ⟨⟨b0, b1, b2, b3⟩, -⟩ := jbox_cells HY10.out.box
      obtain ⟨⟨c0, c1, c2, c3⟩, -⟩ := jbox_cells HZ10.out.box
      go_wp2_with (first | (go_at_call 11; refine (r_num _ _).mono ?_; rintro e w' ⟨rfl, rfl⟩))
      refine (j_same u (norm u) r g _ _ _ HU.out.2 HY10.out.val HZ10.out.val).mono ?_
      rw [HSN.out]
      rintro e w11 ⟨rfl, hb11⟩
      have HB11 : Hid (BytesAt w11 dv (lay u) ∧ BytesAt w11 xv (lay u) ∧ Below w.heap.size w w11) := Lib.hid ⟨HB10.out.below hb11, HD.out.1.below hb11, (HY10.out.on hb11).below⟩
      clear hb11 b0 b1 b2 b3 c0 c1 c2 c3
      go_wp2_with (fail)
      refine (r_sameBytes HB11.out.1.rd HB11.out.2.1.rd (by have := HU.out.1.2; omega)).mono ?_
      rintro e w12 ⟨rfl, hb12⟩
      have HB12 : Hid (Below w.heap.size w w12) := Lib.hid (HB11.out.2.2.trans (hb12.mono HB11.out.2.2.size))
      clear hb12
      go_wp2_with (fail)
      go_ret
      exact ⟨rfl, HB12.out⟩
    · have her2 : (er5 == 0) = false := beq_eq_false_iff_ne.2 her
      have her3 : (er5 != 0) = true := by simp [her]
      have hu0 : u = JV.zero := HZE.out her
      subst hu0
      obtain ⟨⟨b0, b1, b2, b3⟩, -⟩ := jbox_cells HY6.out.box
      go_wp2_with (first | (go_at_call 11; refine (r_num _ _).mono ?_; rintro e w' ⟨rfl, rfl⟩))
      refine (j_same0 HY6.out.val).mono ?_
      rintro e w7 ⟨rfl, hb7⟩
      have HB7 : Hid (Below w.heap.size w w7) := Lib.hid (HY6.out.on hb7).below
      clear hb7
      go_wp2_with (fail)
      go_ret
      exact ⟨rfl, HB7.out⟩
end
end Go.Proofs.YthjcolehccbihaaGreatDoor
