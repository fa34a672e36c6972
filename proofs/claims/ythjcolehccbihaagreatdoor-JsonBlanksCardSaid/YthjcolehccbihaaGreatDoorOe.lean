/- The walk of exlaw7.JsonBlanks: it returns true. -/
import Derived.Test.YthjcolehccbihaaGreatDoorOd
import Derived.Test.YthjcolehccbihaaGreatDoorOa
import Derived.Test.YthjcolehccbihaaGreatDoorNv
set_option linter.unusedSectionVars false
set_option linter.unusedSimpArgs false
set_option linter.unusedVariables false
namespace Go.Proofs.YthjcolehccbihaaGreatDoor
open Go.RowKit Go.Shelf

section
variable {w : World}
set_option maxRecDepth 100000 in
set_option maxHeartbeats 16000000 in
theorem l_blanks {a : Option Addr} {cap : Nat} {bs : List UInt8} (hb : RdAt byteKind w (.slice a bs.length cap) bs) (hc : bs.length ≤ cap) (hc2 : cap ≤ 9223372036854775807) (ht : Tabs w) :
    Calls Tryz.prog 4 #[.slice a bs.length cap] w fun e w' => e = .returned (.bool true) ∧ Below w.heap.size w w' := by
  have HT := Lib.hid ht
  have hlen : (bs.length : Int) ≤ 9223372036854775807 := by omega
  have HBR := Lib.hid (And.intro hb (And.intro hc hc2))
  clear ht hb hc hc2
  go_enter Tryz.func4, Tryz.ntmps4
  go_wp2_with (fail)
  refine (x_first HT.out).mono ?_
  rintro e w1 ⟨rfl, hb1⟩
  have HB1 := Lib.hid hb1
  clear hb1
  by_cases hbig : 4000 < bs.length
  · have t0 : decide ((4000 : Int) < (bs.length : Int)) = true := by simp; omega
    have t1 : (4000 : Int) < (bs.length : Int) := by omega
    go_wp2_with (fail)
    go_ret
    exact ⟨rfl, HB1.out⟩
  have t0 : decide ((4000 : Int) < (bs.length : Int)) = false := by simp; omega
  have t1 : ¬ (4000 : Int) < (bs.length : Int) := by omega
  have HB4 := Lib.hid (show bs.length ≤ 4000 by omega)
  have HBY : Hid (BytesAt w (.slice a bs.length cap) bs) := Lib.hid ⟨HBR.out.1, by omega, fun a' n' c' e => by injection e with _ _ e3; have := HBR.out.2; omega⟩
  have HU := Lib.hid (And.intro (parse_chk (b := bs) HB4.out) (And.intro (gd_fit (by decide) _ (parse_gd (b := bs) (N := 4000) HB4.out).1) (parse_neat bs)))
  go_wp2_with (fail)
  refine (parse_at (HBY.out.below HB1.out) (HT.out.below HB1.out)).mono ?_
  rintro e w2 ⟨q, p0, er, rfl, HQ⟩
  obtain ⟨w3, hw3, HBX⟩ := jbox_new w2 q
  obtain ⟨xb, hxb⟩ : ∃ x, x = w2.heap.size := ⟨_, rfl⟩
  obtain ⟨u, hu⟩ : ∃ x, x = (parse bs).1 := ⟨_, rfl⟩
  have her0 : er = ((parse bs).2.2 : Int) := HQ.out.2.2.1
  have HER : Hid (er = 0 → parse (spr 0 bs) = parse bs) := Lib.hid (fun h => parse_spr HB4.out (by omega))
  have HPU := Lib.hid hu
  rw [← hu] at HU
  have HX3 : Hid (HasX w w3 xb q u) := Lib.hid ⟨by rw [hxb]; exact HBX.out.2, by rw [hu]; exact (HQ.out.1.below HBX.out.1).mono (fun _ _ => trivial), (HB1.out.trans (HQ.out.2.2.2.mono HB1.out.size)).trans (HBX.out.1.mono (by have := HB1.out.size; have := HQ.out.2.2.2.size; omega))⟩
  have HW3 := Lib.hid hw3
  have HE0 := Lib.hid her0
  clear hw3 HBX HQ hu her0 t0 t1
  go_upto_region 5 with (fail)
  rw [HW3.out, ← hxb]
  clear HW3 hxb hbig
  by_cases her : er = 0
  · have HPS := Lib.hid (HER.out her)
    subst her
    obtain ⟨⟨b0, b1, b2, b3⟩, -⟩ := jbox_cells HX3.out.box
    go_wp2_with (first | (go_at_call 11; refine (r_num _ _).mono ?_; rintro e w' ⟨rfl, rfl⟩))
    refine (print_yes HX3.out.val HU.out.2.1 (HT.out.below HX3.out.below) HU.out.1.1 (by have := HU.out.1.2; omega)).mono ?_
    rintro e w4 ⟨cv, rfl, HC⟩
    have HX4 := Lib.hid (HX3.out.on HC.out.2)
    have HC4 := Lib.hid HC.out.1
    clear HX3 b0 b1 b2 b3 HC
    go_wp2_with (fail)
    refine (j_spread (HBR.out.1.below HX4.out.below) HB4.out).mono ?_
    rintro e w5 ⟨sv, rfl, HS⟩
    have HX5 := Lib.hid (HX4.out.on HS.out.2)
    have HC5 := Lib.hid (HC4.out.below HS.out.2)
    clear HX4 HC4
    go_wp2_with (fail)
    refine (parse_at HS.out.1 (HT.out.below HX5.out.below)).mono ?_
    rw [HPS.out]
    rintro e w6 ⟨r, p1, er1, rfl, HQ⟩
    obtain ⟨w7, hw7, HBX⟩ := jbox_new w6 r
    obtain ⟨yb, hyb⟩ : ∃ x, x = w6.heap.size := ⟨_, rfl⟩
    have he1 : er1 = 0 := by have h1 := HQ.out.2.2.1; have h2 := HE0.out; omega
    subst he1
    have HX7 : Hid (HasX w w7 xb q u) := Lib.hid ((HX5.out.on HQ.out.2.2.2).on HBX.out.1)
    have HY7 : Hid (HasX w w7 yb r u) := Lib.hid ⟨by rw [hyb]; exact HBX.out.2, by rw [HPU.out]; exact (HQ.out.1.below HBX.out.1).mono (fun _ _ => trivial), HX7.out.below⟩
    have HC7 : Hid (BytesAt w7 cv (lay u)) := Lib.hid ((HC5.out.below HQ.out.2.2.2).below HBX.out.1)
    have HW7 := Lib.hid hw7
    clear hw7 HBX HQ HX5 HC5 HS
    go_upto_region 9 with (fail)
    rw [HW7.out, ← hyb]
    clear HW7 hyb
    obtain ⟨⟨b0, b1, b2, b3⟩, -⟩ := jbox_cells HY7.out.box
    go_wp2_with (fail)
    refine (print_yes HY7.out.val HU.out.2.1 (HT.out.below HY7.out.below) HU.out.1.1 (by have := HU.out.1.2; omega)).mono ?_
    rintro e w8 ⟨dv, rfl, HD⟩
    have HX8 := Lib.hid (HX7.out.on HD.out.2)
    have HC8 : Hid (BytesAt w8 cv (lay u) ∧ BytesAt w8 dv (lay u)) := Lib.hid ⟨HC7.out.below HD.out.2, HD.out.1⟩
    clear HX7 HY7 HC7 HD b0 b1 b2 b3
    obtain ⟨⟨b0, b1, b2, b3⟩, -⟩ := jbox_cells HX8.out.box
    go_wp2_with (fail)
    refine (j_turned u q _ _ HU.out.2.2 HU.out.2.1 HX8.out.val).mono ?_
    rintro e w9 ⟨g, rfl, HG⟩
    have HX9 := Lib.hid (HX8.out.on HG.out.2)
    have HC9 : Hid (BytesAt w9 cv (lay u) ∧ BytesAt w9 dv (lay u)) := Lib.hid ⟨HC8.out.1.below HG.out.2, HC8.out.2.below HG.out.2⟩
    have HTC := Lib.hid (And.intro (turn_chk u 0 HU.out.1.1) (And.intro (turn_lay u 0 HU.out.1.1) (And.intro (turn_same u 0 HU.out.1.1) (turn_fit u HU.out.2.1))))
    have HJG := Lib.hid HG.out.1
    clear HX8 HC8 HG b0 b1 b2 b3
    go_wp2_with (fail)
    refine (print_yes HJG.out HTC.out.2.2.2 (HT.out.below HX9.out.below) HTC.out.1 (by rw [HTC.out.2.1]; have := HU.out.1.2; omega)).mono ?_
    rw [HTC.out.2.1]
    rintro e w10 ⟨tv, rfl, HD⟩
    have HX10 := Lib.hid (HX9.out.on HD.out.2)
    have HC10 : Hid (BytesAt w10 cv (lay u) ∧ BytesAt w10 dv (lay u) ∧ BytesAt w10 tv (lay u)) := Lib.hid ⟨HC9.out.1.below HD.out.2, HC9.out.2.below HD.out.2, HD.out.1⟩
    clear HX9 HC9 HD HJG
    go_upto_region 11 with (fail)
    obtain ⟨V, hVV⟩ : ∃ V, V = w10.drew := ⟨_, rfl⟩
    have hV : Below w10.heap.size w10 V := by rw [hVV]; exact (Below.refl _ _).drew
    have HX11 := Lib.hid (HX10.out.on hV)
    have HC11 : Hid (BytesAt V cv (lay u) ∧ BytesAt V dv (lay u) ∧ BytesAt V tv (lay u)) := Lib.hid ⟨HC10.out.1.below hV, HC10.out.2.1.below hV, HC10.out.2.2.below hV⟩
    have HLL : Hid ((lay u).length ≤ 1000000000) := Lib.hid (by have := HU.out.1.2; omega)
    clear HX10 HC10 hV
    replace hVV := hVV.symm
    have hT0 : (fun W : World => (W.cell? ⟨xb, 0, none⟩ = some (.int .i64 q.k) ∧ W.cell? ⟨xb, 1, none⟩ = some (.string q.t) ∧ W.cell? ⟨xb, 2, none⟩ = some (.slice q.la q.ll q.lc) ∧ W.cell? ⟨xb, 3, none⟩ = some (.slice q.na q.nl q.nc))) V := (jbox_cells HX11.out.box).1
    refine wp_region_B (T := fun W : World => (W.cell? ⟨xb, 0, none⟩ = some (.int .i64 q.k) ∧ W.cell? ⟨xb, 1, none⟩ = some (.string q.t) ∧ W.cell? ⟨xb, 2, none⟩ = some (.slice q.la q.ll q.lc) ∧ W.cell? ⟨xb, 3, none⟩ = some (.slice q.na q.nl q.nc))) (B := fun _ => true) (by kernel_rfl) ?_
    rw [hVV]
    clear hVV
    refine wpAnyB_take (i := 0) (v := ?av0) rfl (by kernel_rfl) (by kernel_rfl) (by kernel_rfl) (fun _ _ _ h => h) (Or.inl ⟨by kernel_rfl, ?ay0⟩) ?as0
    case ay0 => (intro w; go_simp) <;> with_reducible rfl
    try simp only [Act.put, List.setIfInBounds_toArray, List.set_cons_zero, List.set_cons_succ]
    refine wpAnyB_ready (rs := [1]) (by kernel_rfl) (by simp) ?_
    refine AllReadyB.cons (o := { dst := some 58, op := Op.call { callee := Callee.value (Operand.func 11), args := #[Operand.tmp 57], argTypes := #[29] }, type := 3, pos := "law.go:165", after := #[{ on := 0, ground := Ground.data }], guard := none }) rfl (fun K hK => ?_) AllReadyB.nil
    go_simp
    go_at_call 11
    refine (r_num _ _).mono ?_
    rintro e w' ⟨rfl, rfl⟩
    refine hK.out _ _ (fun _ h => h) ?_
    clear hK K
    try simp only [Act.put, List.setIfInBounds_toArray, List.set_cons_zero, List.set_cons_succ]
    refine wpAnyB_take (i := 2) (v := ?av2) rfl (by kernel_rfl) (by kernel_rfl) (by kernel_rfl) (fun _ _ _ h => h) (Or.inl ⟨by kernel_rfl, ?ay2⟩) ?as2
    case ay2 => (intro w; go_simp) <;> with_reducible rfl
    try simp only [Act.put, List.setIfInBounds_toArray, List.set_cons_zero, List.set_cons_succ]
    refine wpAnyB_take (i := 3) (v := ?av3) rfl (by kernel_rfl) (by kernel_rfl) (by kernel_rfl) (fun _ _ _ h => h) (Or.inl ⟨by kernel_rfl, ?ay3⟩) ?as3
    case ay3 => (intro w; go_simp) <;> with_reducible rfl
    try simp only [Act.put, List.setIfInBounds_toArray, List.set_cons_zero, List.set_cons_succ]
    refine wpAnyB_take (i := 4) (v := ?av4) rfl (by kernel_rfl) (by kernel_rfl) (by kernel_rfl) (fun _ _ _ h => h) (Or.inl ⟨by kernel_rfl, ?ay4⟩) ?as4
    case ay4 => (intro w; go_simp) <;> with_reducible rfl
    try simp only [Act.put, List.setIfInBounds_toArray, List.set_cons_zero, List.set_cons_succ]
    refine wpAnyB_ready (rs := [5]) (by kernel_rfl) (by simp) ?_
    refine AllReadyB.cons (o := { dst := some 62, op := Op.call { callee := Callee.value (Operand.func 11), args := #[Operand.tmp 61], argTypes := #[29] }, type := 3, pos := "law.go:165", after := #[{ on := 4, ground := Ground.data }, { on := 3, ground := Ground.chain }, { on := 3, ground := Ground.guard }], guard := some (3, true) }) rfl (fun K hK => ?_) AllReadyB.nil
    go_simp
    go_at_call 11
    refine (r_num _ _).mono ?_
    rintro e w' ⟨rfl, rfl⟩
    refine hK.out _ _ (fun _ h => h) ?_
    clear hK K
    try simp only [Act.put, List.setIfInBounds_toArray, List.set_cons_zero, List.set_cons_succ]
    refine wpAnyB_take (i := 6) (v := ?av6) rfl (by kernel_rfl) (by kernel_rfl) (by kernel_rfl) (fun _ _ _ h => h) (Or.inl ⟨by kernel_rfl, ?ay6⟩) ?as6
    case ay6 => (intro w; go_simp) <;> with_reducible rfl
    try simp only [Act.put, List.setIfInBounds_toArray, List.set_cons_zero, List.set_cons_succ]
    refine wpAnyB_take (i := 7) (v := ?av7) rfl (by kernel_rfl) (by kernel_rfl) (by kernel_rfl) (fun _ _ _ h => h) (Or.inl ⟨by kernel_rfl, ?ay7⟩) ?as7
    case ay7 => (intro w; go_simp) <;> with_reducible rfl
    try simp only [Act.put, List.setIfInBounds_toArray, List.set_cons_zero, List.set_cons_succ]
    refine wpAnyB_take (i := 8) (v := ?av8) rfl (by kernel_rfl) (by kernel_rfl) (by kernel_rfl) (fun _ _ _ h => h) (Or.inl ⟨by kernel_rfl, ?ay8⟩) ?as8
    case ay8 => (intro w; go_simp) <;> with_reducible rfl
    try simp only [Act.put, List.setIfInBounds_toArray, List.set_cons_zero, List.set_cons_succ]
    refine wpAnyB_take (i := 9) (v := ?av9) rfl (by kernel_rfl) (by kernel_rfl) (by kernel_rfl) (fun _ _ _ h => h) (Or.inl ⟨by kernel_rfl, ?ay9⟩) ?as9
    case ay9 => (intro w; go_simp) <;> with_reducible rfl
    try simp only [Act.put, List.setIfInBounds_toArray, List.set_cons_zero, List.set_cons_succ]
    refine wpAnyB_ready (rs := [10]) (by kernel_rfl) (by simp) ?_
    refine AllReadyB.cons (o := { dst := some 67, op := Op.call { callee := Callee.value (Operand.func 11), args := #[Operand.tmp 66], argTypes := #[29] }, type := 3, pos := "law.go:165", after := #[{ on := 9, ground := Ground.data }, { on := 8, ground := Ground.chain }, { on := 8, ground := Ground.guard }], guard := some (8, true) }) rfl (fun K hK => ?_) AllReadyB.nil
    go_simp
    go_at_call 11
    refine (r_num _ _).mono ?_
    rintro e w' ⟨rfl, rfl⟩
    refine hK.out _ _ (fun _ h => h) ?_
    clear hK K
    try simp only [Act.put, List.setIfInBounds_toArray, List.set_cons_zero, List.set_cons_succ]
    refine wpAnyB_take (i := 11) (v := ?av11) rfl (by kernel_rfl) (by kernel_rfl) (by kernel_rfl) (fun _ _ _ h => h) (Or.inl ⟨by kernel_rfl, ?ay11⟩) ?as11
    case ay11 => (intro w; go_simp) <;> with_reducible rfl
    try simp only [Act.put, List.setIfInBounds_toArray, List.set_cons_zero, List.set_cons_succ]
    refine wpAnyB_take (i := 12) (v := ?av12) rfl (by kernel_rfl) (by kernel_rfl) (by kernel_rfl) (fun _ _ _ h => h) (Or.inl ⟨by kernel_rfl, ?ay12⟩) ?as12
    case ay12 => (intro w; go_simp) <;> with_reducible rfl
    try simp only [Act.put, List.setIfInBounds_toArray, List.set_cons_zero, List.set_cons_succ]
    refine wpAnyB_take (i := 13) (v := ?av13) rfl (by kernel_rfl) (by kernel_rfl) (by kernel_rfl) (fun _ _ _ h => h) (Or.inl ⟨by kernel_rfl, ?ay13⟩) ?as13
    case ay13 => (intro w; go_simp) <;> with_reducible rfl
    try simp only [Act.put, List.setIfInBounds_toArray, List.set_cons_zero, List.set_cons_succ]
    refine wpAnyB_take (i := 14) (v := ?av14) rfl (by kernel_rfl) (by kernel_rfl) (by kernel_rfl) (fun _ _ _ h => h) (Or.inl ⟨by kernel_rfl, ?ay14⟩) ?as14
    case ay14 => (intro w; go_simp) <;> with_reducible rfl
    try simp only [Act.put, List.setIfInBounds_toArray, List.set_cons_zero, List.set_cons_succ]
    refine wpAnyB_ready (rs := [15]) (by kernel_rfl) (by simp) ?_
    refine AllReadyB.cons (o := { dst := some 72, op := Op.call { callee := Callee.value (Operand.func 11), args := #[Operand.tmp 71], argTypes := #[29] }, type := 3, pos := "law.go:165", after := #[{ on := 14, ground := Ground.data }, { on := 13, ground := Ground.chain }, { on := 13, ground := Ground.guard }], guard := some (13, true) }) rfl (fun K hK => ?_) AllReadyB.nil
    go_simp
    go_at_call 11
    refine (r_num _ _).mono ?_
    rintro e w' ⟨rfl, rfl⟩
    refine hK.out _ _ (fun _ h => h) ?_
    clear hK K
    try simp only [Act.put, List.setIfInBounds_toArray, List.set_cons_zero, List.set_cons_succ]
    refine wpAnyB_take (i := 16) (v := ?av16) rfl (by kernel_rfl) (by kernel_rfl) (by kernel_rfl) (fun _ _ _ h => h) (Or.inl ⟨by kernel_rfl, ?ay16⟩) ?as16
    case ay16 => (intro w; go_simp) <;> with_reducible rfl
    try simp only [Act.put, List.setIfInBounds_toArray, List.set_cons_zero, List.set_cons_succ]
    refine wpAnyB_take (i := 17) (v := ?av17) rfl (by kernel_rfl) (by kernel_rfl) (by kernel_rfl) (fun _ _ _ h => h) (Or.inl ⟨by kernel_rfl, ?ay17⟩) ?as17
    case ay17 => (intro w; go_simp) <;> with_reducible rfl
    try simp only [Act.put, List.setIfInBounds_toArray, List.set_cons_zero, List.set_cons_succ]
    refine wpAnyB_take (i := 18) (v := ?av18) rfl (by kernel_rfl) (by kernel_rfl) (by kernel_rfl) (fun _ _ _ h => h) (Or.inl ⟨by kernel_rfl, ?ay18⟩) ?as18
    case ay18 => (intro w; go_simp) <;> with_reducible rfl
    try simp only [Act.put, List.setIfInBounds_toArray, List.set_cons_zero, List.set_cons_succ]
    refine wpAnyB_take (i := 19) (v := ?av19) rfl (by kernel_rfl) (by kernel_rfl) (by kernel_rfl) (fun _ _ _ h => h) (Or.inl ⟨by kernel_rfl, ?ay19⟩) ?as19
    case ay19 => (intro w; go_simp) <;> with_reducible rfl
    try simp only [Act.put, List.setIfInBounds_toArray, List.set_cons_zero, List.set_cons_succ]
    refine wpAnyB_take (i := 20) (v := ?av20) rfl (by kernel_rfl) (by kernel_rfl) (by kernel_rfl) (fun _ _ _ h => h) (Or.inl ⟨by kernel_rfl, ?ay20⟩) ?as20
    case ay20 => (intro w; go_simp) <;> with_reducible rfl
    try simp only [Act.put, List.setIfInBounds_toArray, List.set_cons_zero, List.set_cons_succ]
    refine wpAnyB_ready (rs := [21]) (by kernel_rfl) (by simp) ?_
    refine AllReadyB.cons (o := { dst := some 78, op := Op.call { callee := Callee.value (Operand.func 14), args := #[Operand.tmp 76, Operand.tmp 77], argTypes := #[26, 26] }, type := 4, pos := "law.go:165", after := #[{ on := 19, ground := Ground.data }, { on := 20, ground := Ground.data }, { on := 18, ground := Ground.chain }, { on := 18, ground := Ground.guard }], guard := some (18, true) }) rfl (fun K hK => ?_) AllReadyB.nil
    go_simp
    go_at_call 14
    refine (r_sameBytes HC11.out.1.rd HC11.out.2.1.rd HLL.out).mono ?_
    rintro e V2 ⟨rfl, hb2⟩
    have HX12 := Lib.hid (HX11.out.on hb2)
    have HC12 : Hid (BytesAt V2 cv (lay u) ∧ BytesAt V2 tv (lay u)) := Lib.hid ⟨HC11.out.1.below hb2, HC11.out.2.2.below hb2⟩
    clear hb2 hT0
    have hT1 : (fun W : World => (W.cell? ⟨xb, 0, none⟩ = some (.int .i64 q.k) ∧ W.cell? ⟨xb, 1, none⟩ = some (.string q.t) ∧ W.cell? ⟨xb, 2, none⟩ = some (.slice q.la q.ll q.lc) ∧ W.cell? ⟨xb, 3, none⟩ = some (.slice q.na q.nl q.nc))) V2 := (jbox_cells HX12.out.box).1
    refine hK.out _ _ (fun _ _ => hT1) ?_
    clear hK K
    try simp only [Act.put, List.setIfInBounds_toArray, List.set_cons_zero, List.set_cons_succ]
    refine wpAnyB_take (i := 22) (v := ?bv22) rfl (by kernel_rfl) (by kernel_rfl) (by kernel_rfl) (fun _ _ _ h => h) (Or.inl ⟨by kernel_rfl, ?by22⟩) ?bs22
    case by22 => (intro w; go_simp) <;> with_reducible rfl
    try simp only [Act.put, List.setIfInBounds_toArray, List.set_cons_zero, List.set_cons_succ]
    refine wpAnyB_take (i := 23) (v := ?bv23) rfl (by kernel_rfl) (by kernel_rfl) (by kernel_rfl) (fun _ _ _ h => h) (Or.inl ⟨by kernel_rfl, ?by23⟩) ?bs23
    case by23 => (intro w; go_simp) <;> with_reducible rfl
    try simp only [Act.put, List.setIfInBounds_toArray, List.set_cons_zero, List.set_cons_succ]
    refine wpAnyB_take (i := 24) (v := ?bv24) rfl (by kernel_rfl) (by kernel_rfl) (by kernel_rfl) (fun _ _ _ h => h) (Or.inl ⟨by kernel_rfl, ?by24⟩) ?bs24
    case by24 => (intro w; go_simp) <;> with_reducible rfl
    try simp only [Act.put, List.setIfInBounds_toArray, List.set_cons_zero, List.set_cons_succ]
    refine wpAnyB_take (i := 25) (v := ?bv25) rfl (by kernel_rfl) (by kernel_rfl) (by kernel_rfl) (fun _ _ _ h => h) (Or.inl ⟨by kernel_rfl, ?by25⟩) ?bs25
    case by25 => (intro w; go_simp) <;> with_reducible rfl
    try simp only [Act.put, List.setIfInBounds_toArray, List.set_cons_zero, List.set_cons_succ]
    refine wpAnyB_ready (rs := [26]) (by kernel_rfl) (by simp) ?_
    refine AllReadyB.cons (o := { dst := some 83, op := Op.call { callee := Callee.value (Operand.func 14), args := #[Operand.tmp 81, Operand.tmp 82], argTypes := #[26, 26] }, type := 4, pos := "law.go:165", after := #[{ on := 24, ground := Ground.data }, { on := 25, ground := Ground.data }, { on := 23, ground := Ground.chain }, { on := 23, ground := Ground.guard }], guard := some (23, true) }) rfl (fun K hK => ?_) AllReadyB.nil
    go_simp
    go_at_call 14
    refine (r_sameBytes HC12.out.1.rd HC12.out.2.rd HLL.out).mono ?_
    rintro e V3 ⟨rfl, hb3⟩
    have HX13 := Lib.hid (HX12.out.on hb3)
    clear hb3 hT1
    have hT2 : (fun W : World => (W.cell? ⟨xb, 0, none⟩ = some (.int .i64 q.k) ∧ W.cell? ⟨xb, 1, none⟩ = some (.string q.t) ∧ W.cell? ⟨xb, 2, none⟩ = some (.slice q.la q.ll q.lc) ∧ W.cell? ⟨xb, 3, none⟩ = some (.slice q.na q.nl q.nc))) V3 := (jbox_cells HX13.out.box).1
    refine hK.out _ _ (fun _ _ => hT2) ?_
    clear hK K
    try simp only [Act.put, List.setIfInBounds_toArray, List.set_cons_zero, List.set_cons_succ]
    refine wpAnyB_take (i := 27) (v := ?cv27) rfl (by kernel_rfl) (by kernel_rfl) (by kernel_rfl) (fun _ _ _ h => h) (Or.inl ⟨by kernel_rfl, ?cy27⟩) ?cs27
    case cy27 => (intro w; go_simp) <;> with_reducible rfl
    try simp only [Act.put, List.setIfInBounds_toArray, List.set_cons_zero, List.set_cons_succ]
    refine wpAnyB_take (i := 28) (v := ?cv28) rfl (by kernel_rfl) (by kernel_rfl) (by kernel_rfl) (fun _ _ _ h => h) (Or.inl ⟨by kernel_rfl, ?cy28⟩) ?cs28
    case cy28 => (intro w; go_simp) <;> with_reducible rfl
    try simp only [Act.put, List.setIfInBounds_toArray, List.set_cons_zero, List.set_cons_succ]
    refine wpAnyB_load (i := 29) (v := ?cv29) rfl (by kernel_rfl) (by kernel_rfl) (by kernel_rfl) (by kernel_rfl) (fun _ _ _ h => h) (Or.inl ⟨by kernel_rfl, ?cy29⟩) (by assumption) ?cs29
    case cy29 => (intro w hSw; obtain ⟨u0, u1, u2, u3⟩ := hSw; go_simp) <;> with_reducible rfl
    try simp only [Act.put, List.setIfInBounds_toArray, List.set_cons_zero, List.set_cons_succ]
    refine wpAnyB_load (i := 30) (v := ?cv30) rfl (by kernel_rfl) (by kernel_rfl) (by kernel_rfl) (by kernel_rfl) (fun _ _ _ h => h) (Or.inl ⟨by kernel_rfl, ?cy30⟩) (by assumption) ?cs30
    case cy30 => (intro w hSw; obtain ⟨u0, u1, u2, u3⟩ := hSw; go_simp) <;> with_reducible rfl
    try simp only [Act.put, List.setIfInBounds_toArray, List.set_cons_zero, List.set_cons_succ]
    refine wpAnyB_ready (rs := [31]) (by kernel_rfl) (by simp) ?_
    refine AllReadyB.cons (o := { dst := some 88, op := Op.call { callee := Callee.value (Operand.func 17), args := #[Operand.tmp 87], argTypes := #[25] }, type := 25, pos := "law.go:165", after := #[{ on := 30, ground := Ground.data }, { on := 28, ground := Ground.chain }, { on := 28, ground := Ground.guard }], guard := some (28, true) }) rfl (fun K hK => ?_) AllReadyB.nil
    go_simp
    go_at_call 17
    refine (j_turned u q _ _ HU.out.2.2 HU.out.2.1 HX13.out.val).mono ?_
    rintro e V4 ⟨g2, rfl, HG2⟩
    have HX14 := Lib.hid (HX13.out.on HG2.out.2)
    have HJG := Lib.hid HG2.out.1
    clear hT2
    have hT3 : (fun W : World => (W.cell? ⟨xb, 0, none⟩ = some (.int .i64 q.k) ∧ W.cell? ⟨xb, 1, none⟩ = some (.string q.t) ∧ W.cell? ⟨xb, 2, none⟩ = some (.slice q.la q.ll q.lc) ∧ W.cell? ⟨xb, 3, none⟩ = some (.slice q.na q.nl q.nc))) V4 := (jbox_cells HX14.out.box).1
    refine hK.out _ _ (fun _ _ => hT3) ?_
    clear hK K
    try simp only [Act.put, List.setIfInBounds_toArray, List.set_cons_zero, List.set_cons_succ]
    refine wpAnyB_ready (rs := [32]) (by kernel_rfl) (by simp) ?_
    refine AllReadyB.cons (o := { dst := some 89, op := Op.call { callee := Callee.value (Operand.func 13), args := #[Operand.tmp 86, Operand.tmp 88], argTypes := #[25, 25] }, type := 4, pos := "law.go:165", after := #[{ on := 29, ground := Ground.data }, { on := 31, ground := Ground.data }, { on := 31, ground := Ground.chain }, { on := 28, ground := Ground.guard }], guard := some (28, true) }) rfl (fun K hK => ?_) AllReadyB.nil
    go_simp
    go_at_call 13
    refine (j_same u (turnJ u) q g2 _ _ _ HU.out.2.1 HX14.out.val HJG.out).mono ?_
    rw [HTC.out.2.2.1]
    rintro e V5 ⟨rfl, hb5⟩
    have HX15 := Lib.hid (HX14.out.on hb5)
    clear hb5 hT3
    have hT4 : (fun W : World => (W.cell? ⟨xb, 0, none⟩ = some (.int .i64 q.k) ∧ W.cell? ⟨xb, 1, none⟩ = some (.string q.t) ∧ W.cell? ⟨xb, 2, none⟩ = some (.slice q.la q.ll q.lc) ∧ W.cell? ⟨xb, 3, none⟩ = some (.slice q.na q.nl q.nc))) V5 := (jbox_cells HX15.out.box).1
    refine hK.out _ _ (fun _ _ => hT4) ?_
    clear hK K
    try simp only [Act.put, List.setIfInBounds_toArray, List.set_cons_zero, List.set_cons_succ]
    refine wpAnyB_take (i := 33) (v := ?dv33) rfl (by kernel_rfl) (by kernel_rfl) (by kernel_rfl) (fun _ _ _ h => h) (Or.inl ⟨by kernel_rfl, ?dy33⟩) ?ds33
    case dy33 => (intro w; go_simp) <;> with_reducible rfl
    try simp only [Act.put, List.setIfInBounds_toArray, List.set_cons_zero, List.set_cons_succ]
    refine wpAnyB_take (i := 34) (v := ?dv34) rfl (by kernel_rfl) (by kernel_rfl) (by kernel_rfl) (fun _ _ _ h => h) (Or.inl ⟨by kernel_rfl, ?dy34⟩) ?ds34
    case dy34 => (intro w; go_simp) <;> with_reducible rfl
    try simp only [Act.put, List.setIfInBounds_toArray, List.set_cons_zero, List.set_cons_succ]
    refine wpAnyB_done (by kernel_rfl) ?_ _
    go_wp2_with (fail)
    go_ret
    exact ⟨rfl, HX15.out.below⟩
  · have her2 : (er == 0) = false := beq_eq_false_iff_ne.2 her
    have her3 : (er != 0) = true := by simp [her]
    go_wp2_with (first | (go_at_call 11; refine (r_num _ _).mono ?_; rintro e w' ⟨rfl, rfl⟩))
    go_ret
    exact ⟨rfl, HX3.out.below⟩
end
end Go.Proofs.YthjcolehccbihaaGreatDoor
