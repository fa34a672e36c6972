/- The walk of exlaw7.JsonInts: it returns true. -/
import Derived.Test.YthjcolehccbihaaGreatDoorPc
import Derived.Test.YthjcolehccbihaaGreatDoorNv
set_option linter.unusedSimpArgs false
set_option linter.unusedVariables false
set_option linter.unusedSectionVars false
namespace Go.Proofs.YthjcolehccbihaaGreatDoor
open Go.RowKit Go.Shelf

section
variable {w : World}
theorem ofInt_fit {n : Int} (h0 : -9223372036854775808 ≤ n) (h1 : n ≤ 9223372036854775807) : (ofInt n).Fit := by
  have h := itoa_small n h0 h1
  unfold ofInt
  simp only [JV.Fit, FitAll]
  have hz : (str (Lib.itoa n)).size = (Lib.itoa n).length := by show (Lib.itoa n).toArray.size = _; rw [List.size_toArray]
  exact ⟨by omega, by simp, by simp, by simp, trivial⟩
theorem x_bigText {w : World} (n : Int) (h0 : -9223372036854775808 ≤ n) (h1 : n ≤ 9223372036854775807) {a : Option Addr} {cap m B : Nat} (h : IntRow w B (.slice a m cap) (chunks n.natAbs m)) (hT : Top n.natAbs m) (hm : m ≤ 5) :
    Calls Tryz.prog 21 #[.agg #[.bool (decide (n < 0)), .slice a m cap]] w fun e w' => e = .returned (.string (str (Lib.itoa n))) ∧ Below w.heap.size w w' := by
  rw [itoa_text]
  have hneg : decide (n < 0) = true → n.natAbs ≠ 0 := fun e => by
    have : n < 0 := by simpa using e
    omega
  have := r_bigText (w := w) (neg := decide (n < 0)) h hT (by omega) hneg (by omega)
  simpa using this
set_option maxRecDepth 100000 in
set_option maxHeartbeats 16000000 in
theorem l_ints (n : Int) (h0 : -9223372036854775808 ≤ n) (h1 : n ≤ 9223372036854775807) (ht : Tabs w) (hp : PTab w) (he : ErrAt w) :
    Calls Tryz.prog 6 #[.int .i64 n] w fun e w' => e = .returned (.bool true) ∧ Below w.heap.size w w' := by
  have HT := Lib.hid ht
  have HP := Lib.hid hp
  have HE := Lib.hid he
  have HN := Lib.hid (And.intro h0 h1)
  obtain ⟨S, hS⟩ : ∃ S, S = str (Lib.itoa n) := ⟨_, rfl⟩
  have HS := Lib.hid hS
  have HZ : Hid (S.size ≤ 21) := Lib.hid (by rw [hS]; show (Lib.itoa n).toArray.size ≤ 21; rw [List.size_toArray]; exact itoa_small n h0 h1)
  have HR : Hid (raw S = Lib.itoa n) := Lib.hid (by rw [hS]; exact str_toList _)
  clear ht hp he hS h0 h1
  go_enter Tryz.func6, Tryz.ntmps6
  go_wp2_with (fail)
  refine (x_first HT.out).mono ?_
  rintro e w1 ⟨rfl, hb1⟩
  have HB1 := Lib.hid hb1
  clear hb1
  go_wp2_with (fail)
  refine (j_ofInt n HN.out.1 HN.out.2 (HP.out.below HB1.out)).mono ?_
  rw [← HS.out]
  rintro e w2 ⟨rfl, hb2⟩
  obtain ⟨w3, hw3, HBX⟩ := jbox_new w2 ⟨3, S, none, 0, 0, none, 0, 0⟩
  obtain ⟨xb, hxb⟩ : ∃ x, x = w2.heap.size := ⟨_, rfl⟩
  have HB3 : Hid (Below w.heap.size w w3) := Lib.hid ((HB1.out.trans (hb2.mono HB1.out.size)).trans (HBX.out.1.mono (by have := HB1.out.size; have := hb2.size; omega)))
  obtain ⟨⟨b0, b1, b2, b3⟩, -⟩ := jbox_cells HBX.out.2
  have HW3 := Lib.hid hw3
  clear hw3 hb2
  go_upto_region 3 with (fail)
  rw [HW3.out, ← hxb]
  rw [← hxb] at b0 b1 b2 b3
  clear HW3 HBX hxb
  go_wp2_with (fail)
  have HJ : Hid (JAt w3 (fun _ => False) (ofInt n) ⟨3, S, none, 0, 0, none, 0, 0⟩) := Lib.hid (by unfold ofInt; rw [← HS.out]; exact JAt.plain _ _ _ _)
  refine (print_yes HJ.out (ofInt_fit HN.out.1 HN.out.2) (HT.out.below HB3.out) (ofInt_chk HN.out.1 HN.out.2 0) (by rw [ofInt_lay]; have := itoa_small n HN.out.1 HN.out.2; omega)).mono ?_
  rw [ofInt_lay]
  rintro e w4 ⟨cv, rfl, HC⟩
  obtain ⟨ca, cc, hcv, hcap⟩ : ∃ ca cc, cv = .slice ca S.size cc ∧ True := by
    obtain ⟨a, c, h, -⟩ := HC.out.1.rd
    exact ⟨a, c, by rw [h, ← HR.out]; rfl, trivial⟩
  subst hcv
  have HB4 : Hid (Below w.heap.size w w4) := Lib.hid (HB3.out.trans (HC.out.2.mono HB3.out.size))
  have HC4 := Lib.hid HC.out.1
  clear HC HJ b0 b1 b2 b3 hcap
  go_wp2_with (fail)
  refine (parse_at HC4.out (HT.out.below HB4.out)).mono ?_
  rw [ofInt_parse HN.out.1 HN.out.2]
  rintro e w5 ⟨q, p0, er, rfl, HQ⟩
  have he0 : er = 0 := HQ.out.2.2.1
  subst he0
  obtain ⟨qk, qt, la, ll, lc, na, nl, nc⟩ := q
  have hj := HQ.out.1
  unfold ofInt at hj
  simp only [JAt] at hj
  obtain ⟨h1, h2, -⟩ := hj
  rw [← HS.out] at h2
  subst h1 h2
  obtain ⟨w6, hw6, HBX⟩ := jbox_new w5 ⟨3, qt, la, ll, lc, na, nl, nc⟩
  obtain ⟨yb, hyb⟩ : ∃ x, x = w5.heap.size := ⟨_, rfl⟩
  have HB6 : Hid (Below w4.heap.size w4 w6) := Lib.hid (HQ.out.2.2.2.trans (HBX.out.1.mono HQ.out.2.2.2.size))
  obtain ⟨⟨b0, b1, b2, b3⟩, -⟩ := jbox_cells HBX.out.2
  have HW6 := Lib.hid hw6
  clear hw6 HQ
  go_upto_region 5 with (fail)
  rw [HW6.out, ← hyb]
  rw [← hyb] at b0 b1 b2 b3
  clear HW6 HBX hyb
  go_wp2_with (fail)
  have HB7 : Hid (Below w.heap.size w w6) := Lib.hid (HB4.out.trans (HB6.out.mono HB4.out.size))
  refine (j_int 3 qt (by have := HZ.out; omega) (HE.out.below HB7.out) la ll lc na nl nc).mono ?_
  rw [show asInt 3 qt = (n, 0) by rw [HS.out]; exact int_itoa HN.out.1 HN.out.2]
  rintro e w7 ⟨rfl, hb7⟩
  have HC7 := Lib.hid ((HC4.out.below HB6.out).below hb7)
  have HB8 : Hid (Below w.heap.size w w7) := Lib.hid (HB7.out.trans (hb7.mono HB7.out.size))
  clear hb7 HC4 HB6 b0 b1 b2 b3
  go_upto_region 6 with (fail)
  obtain ⟨V, hVV⟩ : ∃ V, V = w7.drew := ⟨_, rfl⟩
  have hV : Below w7.heap.size w7 V := by rw [hVV]; exact (Below.refl _ _).drew
  have HC8 := Lib.hid (HC7.out.below hV)
  have HB9 : Hid (Below w.heap.size w V) := Lib.hid (HB8.out.trans (hV.mono HB8.out.size))
  clear HC7 HB8 hV
  replace hVV := hVV.symm
  have hcv : ∀ W, Below V.heap.size V W → (convert 26 9 (.slice ca qt.size cc)).run Tryz.prog W = .ok (.string qt) W := fun W hW => by
    have h2 := run_text (ys := raw qt) (a := ca) (cap := cc) (by have h3 := (HC8.out.below hW).rd; rw [← HR.out] at h3; exact h3)
    rw [show (⟨(raw qt).toArray⟩ : ByteArray) = qt from str_of qt] at h2
    exact h2
  have HCV := Lib.hid hcv
  have hT0 : (fun W : World => Below V.heap.size V W) V := Below.refl _ _
  clear hcv
  refine wp_region_B (T := fun W : World => Below V.heap.size V W) (B := fun _ => true) (by kernel_rfl) ?_
  rw [hVV]
  clear hVV
  refine wpAnyB_take (i := 0) (v := ?av0) rfl (by kernel_rfl) (by kernel_rfl) (by kernel_rfl) (fun _ _ _ h => h) (Or.inl ⟨by kernel_rfl, ?ay0⟩) ?as0
  case ay0 => (intro w; go_simp) <;> with_reducible rfl
  try simp only [Act.put, List.setIfInBounds_toArray, List.set_cons_zero, List.set_cons_succ]
  refine wpAnyB_take (i := 1) (v := ?av1) rfl (by kernel_rfl) (by kernel_rfl) (by kernel_rfl) (fun _ _ _ h => h) (Or.inl ⟨by kernel_rfl, ?ay1⟩) ?as1
  case ay1 => (intro w; go_simp) <;> with_reducible rfl
  try simp only [Act.put, List.setIfInBounds_toArray, List.set_cons_zero, List.set_cons_succ]
  refine wpAnyB_take (i := 2) (v := ?av2) rfl (by kernel_rfl) (by kernel_rfl) (by kernel_rfl) (fun _ _ _ h => h) (Or.inl ⟨by kernel_rfl, ?ay2⟩) ?as2
  case ay2 => (intro w; go_simp) <;> with_reducible rfl
  try simp only [Act.put, List.setIfInBounds_toArray, List.set_cons_zero, List.set_cons_succ]
  refine wpAnyB_ready (rs := [3]) (by kernel_rfl) (by simp) ?_
  refine AllReadyB.cons (o := { dst := some 34, op := Op.call { callee := Callee.value (Operand.func 11), args := #[Operand.tmp 33], argTypes := #[29] }, type := 3, pos := "more.go:15", after := #[{ on := 2, ground := Ground.data }, { on := 1, ground := Ground.chain }, { on := 1, ground := Ground.guard }], guard := some (1, true) }) rfl (fun K hK => ?_) AllReadyB.nil
  go_simp
  go_at_call 11
  refine (r_num _ _).mono ?_
  rintro e w' ⟨rfl, rfl⟩
  refine hK.out _ _ (fun _ h => h) ?_
  clear hK K
  try simp only [Act.put, List.setIfInBounds_toArray, List.set_cons_zero, List.set_cons_succ]
  refine wpAnyB_take (i := 4) (v := ?av4) rfl (by kernel_rfl) (by kernel_rfl) (by kernel_rfl) (fun _ _ _ h => h) (Or.inl ⟨by kernel_rfl, ?ay4⟩) ?as4
  case ay4 => (intro w; go_simp) <;> with_reducible rfl
  try simp only [Act.put, List.setIfInBounds_toArray, List.set_cons_zero, List.set_cons_succ]
  refine wpAnyB_take (i := 5) (v := ?av5) rfl (by kernel_rfl) (by kernel_rfl) (by kernel_rfl) (fun _ _ _ h => h) (Or.inl ⟨by kernel_rfl, ?ay5⟩) ?as5
  case ay5 => (intro w; go_simp) <;> with_reducible rfl
  try simp only [Act.put, List.setIfInBounds_toArray, List.set_cons_zero, List.set_cons_succ]
  refine wpAnyB_take (i := 6) (v := ?av6) rfl (by kernel_rfl) (by kernel_rfl) (by kernel_rfl) (fun _ _ _ h => h) (Or.inl ⟨by kernel_rfl, ?ay6⟩) ?as6
  case ay6 => (intro w; go_simp) <;> with_reducible rfl
  try simp only [Act.put, List.setIfInBounds_toArray, List.set_cons_zero, List.set_cons_succ]
  refine wpAnyB_take (i := 7) (v := ?av7) rfl (by kernel_rfl) (by kernel_rfl) (by kernel_rfl) (fun _ _ _ h => h) (Or.inl ⟨by kernel_rfl, ?ay7⟩) ?as7
  case ay7 => (intro w; go_simp) <;> with_reducible rfl
  try simp only [Act.put, List.setIfInBounds_toArray, List.set_cons_zero, List.set_cons_succ]
  refine wpAnyB_load (i := 8) (v := .string qt) rfl (by kernel_rfl) (by kernel_rfl) (by kernel_rfl) (by kernel_rfl) (fun _ _ _ h => h) (Or.inl ⟨by kernel_rfl, ?ay8⟩) hT0 ?as8
  case ay8 => (intro w hSw; have hcv2 := HCV.out w hSw; go_simp) <;> with_reducible rfl
  try simp only [Act.put, List.setIfInBounds_toArray, List.set_cons_zero, List.set_cons_succ]
  refine wpAnyB_take (i := 9) (v := ?av9) rfl (by kernel_rfl) (by kernel_rfl) (by kernel_rfl) (fun _ _ _ h => h) (Or.inl ⟨by kernel_rfl, ?ay9⟩) ?as9
  case ay9 => (intro w; go_simp) <;> with_reducible rfl
  try simp only [Act.put, List.setIfInBounds_toArray, List.set_cons_zero, List.set_cons_succ]
  refine wpAnyB_ready (rs := [10]) (by kernel_rfl) (by simp) ?_
  refine AllReadyB.cons (o := { dst := some 41, op := Op.call { callee := Callee.value (Operand.func 22), args := #[Operand.tmp 40], argTypes := #[3] }, type := 54, pos := "more.go:15", after := #[{ on := 9, ground := Ground.data }, { on := 6, ground := Ground.chain }, { on := 6, ground := Ground.guard }], guard := some (6, true) }) rfl (fun K hK => ?_) AllReadyB.nil
  go_simp
  go_at_call 22
  refine (r_bigOf n HN.out.1 HN.out.2).mono ?_
  rintro e V2 ⟨ga, gc, gm, rfl, HG⟩
  have HV2 : Hid (Below V.heap.size V V2) := Lib.hid HG.out.2.1
  refine hK.out _ _ (fun _ _ => HV2.out) ?_
  clear hK K
  try simp only [Act.put, List.setIfInBounds_toArray, List.set_cons_zero, List.set_cons_succ]
  refine wpAnyB_ready (rs := [11]) (by kernel_rfl) (by simp) ?_
  refine AllReadyB.cons (o := { dst := some 42, op := Op.call { callee := Callee.value (Operand.func 21), args := #[Operand.tmp 41], argTypes := #[54] }, type := 9, pos := "more.go:15", after := #[{ on := 10, ground := Ground.data }, { on := 10, ground := Ground.chain }, { on := 6, ground := Ground.guard }], guard := some (6, true) }) rfl (fun K hK => ?_) AllReadyB.nil
  go_simp
  go_at_call 21
  refine (x_bigText n HN.out.1 HN.out.2 HG.out.1 HG.out.2.2.1 HG.out.2.2.2).mono ?_
  rw [← HS.out]
  rintro e V3 ⟨rfl, hb3⟩
  have HV3 : Hid (Below V.heap.size V V3) := Lib.hid (HV2.out.trans (hb3.mono HV2.out.size))
  clear hb3
  refine hK.out _ _ (fun _ _ => HV3.out) ?_
  clear hK K
  try simp only [Act.put, List.setIfInBounds_toArray, List.set_cons_zero, List.set_cons_succ]
  refine wpAnyB_take (i := 12) (v := ?bv12) rfl (by kernel_rfl) (by kernel_rfl) (by kernel_rfl) (fun _ _ _ h => h) (Or.inl ⟨by kernel_rfl, ?by12⟩) ?bs12
  case by12 => (intro w; go_simp) <;> with_reducible rfl
  try simp only [Act.put, List.setIfInBounds_toArray, List.set_cons_zero, List.set_cons_succ]
  refine wpAnyB_take (i := 13) (v := ?bv13) rfl (by kernel_rfl) (by kernel_rfl) (by kernel_rfl) (fun _ _ _ h => h) (Or.inl ⟨by kernel_rfl, ?by13⟩) ?bs13
  case by13 => (intro w; go_simp) <;> with_reducible rfl
  try simp only [Act.put, List.setIfInBounds_toArray, List.set_cons_zero, List.set_cons_succ]
  refine wpAnyB_take (i := 14) (v := ?bv14) rfl (by kernel_rfl) (by kernel_rfl) (by kernel_rfl) (fun _ _ _ h => h) (Or.inl ⟨by kernel_rfl, ?by14⟩) ?bs14
  case by14 => (intro w; go_simp) <;> with_reducible rfl
  try simp only [Act.put, List.setIfInBounds_toArray, List.set_cons_zero, List.set_cons_succ]
  refine wpAnyB_take (i := 15) (v := ?bv15) rfl (by kernel_rfl) (by kernel_rfl) (by kernel_rfl) (fun _ _ _ h => h) (Or.inl ⟨by kernel_rfl, ?by15⟩) ?bs15
  case by15 => (intro w; go_simp) <;> with_reducible rfl
  try simp only [Act.put, List.setIfInBounds_toArray, List.set_cons_zero, List.set_cons_succ]
  refine wpAnyB_ready (rs := [16]) (by kernel_rfl) (by simp) ?_
  refine AllReadyB.cons (o := { dst := some 47, op := Op.call { callee := Callee.value (Operand.func 11), args := #[Operand.tmp 46], argTypes := #[29] }, type := 3, pos := "more.go:15", after := #[{ on := 15, ground := Ground.data }, { on := 14, ground := Ground.chain }, { on := 14, ground := Ground.guard }], guard := some (14, true) }) rfl (fun K hK => ?_) AllReadyB.nil
  go_simp
  go_at_call 11
  refine (r_num _ _).mono ?_
  rintro e w' ⟨rfl, rfl⟩
  refine hK.out _ _ (fun _ h => h) ?_
  clear hK K
  try simp only [Act.put, List.setIfInBounds_toArray, List.set_cons_zero, List.set_cons_succ]
  refine wpAnyB_take (i := 17) (v := ?cv17) rfl (by kernel_rfl) (by kernel_rfl) (by kernel_rfl) (fun _ _ _ h => h) (Or.inl ⟨by kernel_rfl, ?cy17⟩) ?cs17
  case cy17 => (intro w; go_simp) <;> with_reducible rfl
  try simp only [Act.put, List.setIfInBounds_toArray, List.set_cons_zero, List.set_cons_succ]
  refine wpAnyB_take (i := 18) (v := ?cv18) rfl (by kernel_rfl) (by kernel_rfl) (by kernel_rfl) (fun _ _ _ h => h) (Or.inl ⟨by kernel_rfl, ?cy18⟩) ?cs18
  case cy18 => (intro w; go_simp) <;> with_reducible rfl
  try simp only [Act.put, List.setIfInBounds_toArray, List.set_cons_zero, List.set_cons_succ]
  refine wpAnyB_take (i := 19) (v := ?cv19) rfl (by kernel_rfl) (by kernel_rfl) (by kernel_rfl) (fun _ _ _ h => h) (Or.inl ⟨by kernel_rfl, ?cy19⟩) ?cs19
  case cy19 => (intro w; go_simp) <;> with_reducible rfl
  try simp only [Act.put, List.setIfInBounds_toArray, List.set_cons_zero, List.set_cons_succ]
  refine wpAnyB_take (i := 20) (v := ?cv20) rfl (by kernel_rfl) (by kernel_rfl) (by kernel_rfl) (fun _ _ _ h => h) (Or.inl ⟨by kernel_rfl, ?cy20⟩) ?cs20
  case cy20 => (intro w; go_simp) <;> with_reducible rfl
  try simp only [Act.put, List.setIfInBounds_toArray, List.set_cons_zero, List.set_cons_succ]
  refine wpAnyB_take (i := 21) (v := ?cv21) rfl (by kernel_rfl) (by kernel_rfl) (by kernel_rfl) (fun _ _ _ h => h) (Or.inl ⟨by kernel_rfl, ?cy21⟩) ?cs21
  case cy21 => (intro w; go_simp) <;> with_reducible rfl
  try simp only [Act.put, List.setIfInBounds_toArray, List.set_cons_zero, List.set_cons_succ]
  refine wpAnyB_take (i := 22) (v := ?cv22) rfl (by kernel_rfl) (by kernel_rfl) (by kernel_rfl) (fun _ _ _ h => h) (Or.inl ⟨by kernel_rfl, ?cy22⟩) ?cs22
  case cy22 => (intro w; go_simp) <;> with_reducible rfl
  try simp only [Act.put, List.setIfInBounds_toArray, List.set_cons_zero, List.set_cons_succ]
  refine wpAnyB_take (i := 23) (v := ?cv23) rfl (by kernel_rfl) (by kernel_rfl) (by kernel_rfl) (fun _ _ _ h => h) (Or.inl ⟨by kernel_rfl, ?cy23⟩) ?cs23
  case cy23 => (intro w; go_simp) <;> with_reducible rfl
  try simp only [Act.put, List.setIfInBounds_toArray, List.set_cons_zero, List.set_cons_succ]
  refine wpAnyB_take (i := 24) (v := ?cv24) rfl (by kernel_rfl) (by kernel_rfl) (by kernel_rfl) (fun _ _ _ h => h) (Or.inl ⟨by kernel_rfl, ?cy24⟩) ?cs24
  case cy24 => (intro w; go_simp) <;> with_reducible rfl
  try simp only [Act.put, List.setIfInBounds_toArray, List.set_cons_zero, List.set_cons_succ]
  refine wpAnyB_take (i := 25) (v := ?cv25) rfl (by kernel_rfl) (by kernel_rfl) (by kernel_rfl) (fun _ _ _ h => h) (Or.inl ⟨by kernel_rfl, ?cy25⟩) ?cs25
  case cy25 => (intro w; go_simp) <;> with_reducible rfl
  try simp only [Act.put, List.setIfInBounds_toArray, List.set_cons_zero, List.set_cons_succ]
  refine wpAnyB_ready (rs := [26]) (by kernel_rfl) (by simp) ?_
  refine AllReadyB.cons (o := { dst := some 57, op := Op.call { callee := Callee.value (Operand.func 11), args := #[Operand.tmp 56], argTypes := #[29] }, type := 3, pos := "more.go:15", after := #[{ on := 25, ground := Ground.data }, { on := 24, ground := Ground.chain }, { on := 24, ground := Ground.guard }], guard := some (24, true) }) rfl (fun K hK => ?_) AllReadyB.nil
  go_simp
  go_at_call 11
  refine (r_num _ _).mono ?_
  rintro e w' ⟨rfl, rfl⟩
  refine hK.out _ _ (fun _ h => h) ?_
  clear hK K
  try simp only [Act.put, List.setIfInBounds_toArray, List.set_cons_zero, List.set_cons_succ]
  refine wpAnyB_take (i := 27) (v := ?dv27) rfl (by kernel_rfl) (by kernel_rfl) (by kernel_rfl) (fun _ _ _ h => h) (Or.inl ⟨by kernel_rfl, ?dy27⟩) ?ds27
  case dy27 => (intro w; go_simp) <;> with_reducible rfl
  try simp only [Act.put, List.setIfInBounds_toArray, List.set_cons_zero, List.set_cons_succ]
  refine wpAnyB_take (i := 28) (v := ?dv28) rfl (by kernel_rfl) (by kernel_rfl) (by kernel_rfl) (fun _ _ _ h => h) (Or.inl ⟨by kernel_rfl, ?dy28⟩) ?ds28
  case dy28 => (intro w; go_simp) <;> with_reducible rfl
  try simp only [Act.put, List.setIfInBounds_toArray, List.set_cons_zero, List.set_cons_succ]
  refine wpAnyB_take (i := 29) (v := ?dv29) rfl (by kernel_rfl) (by kernel_rfl) (by kernel_rfl) (fun _ _ _ h => h) (Or.inl ⟨by kernel_rfl, ?dy29⟩) ?ds29
  case dy29 => (intro w; go_simp) <;> with_reducible rfl
  try simp only [Act.put, List.setIfInBounds_toArray, List.set_cons_zero, List.set_cons_succ]
  refine wpAnyB_done (by kernel_rfl) ?_ _
  go_wp2_with (fail)
  go_ret
  exact ⟨rfl, HB9.out.trans (HV3.out.mono HB9.out.size)⟩
end
end Go.Proofs.YthjcolehccbihaaGreatDoor
