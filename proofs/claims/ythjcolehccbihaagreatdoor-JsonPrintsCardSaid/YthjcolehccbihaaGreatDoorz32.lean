/- The walk of json.Same. -/
import Derived.Test.YthjcolehccbihaaGreatDoorz31
import Derived.Test.YthjcolehccbihaaGreatDoorz15
set_option linter.unusedSimpArgs false
set_option linter.unusedVariables false
namespace Go.Proofs.YthjcolehccbihaaGreatDoor
open Go.RowKit Go.Shelf
theorem grp_cons {α : Type} (n : ByteArray) (x : α) (L : List (ByteArray × α)) (k : ByteArray) : grp ((n, x) :: L) k = if n = k then x :: grp L k else grp L k := by
  unfold grp
  by_cases h : n = k
  · simp [h]
  · simp [h]
theorem JsAt.grp {w : World} {A : Nat → Prop} (k : ByteArray) : ∀ (ns : List ByteArray) (l : List JV) (rs : List RawV), JsAt w A l rs → JsAt w A (YthjcolehccbihaaGreatDoor.grp (ns.zip l) k) (YthjcolehccbihaaGreatDoor.grp (ns.zip rs) k)
  | [], l, rs, _ => by simp [YthjcolehccbihaaGreatDoor.grp, JsAt]
  | n :: ns, [], [], _ => by simp [YthjcolehccbihaaGreatDoor.grp, JsAt]
  | n :: ns, v :: l, r :: rs, h => by
    simp only [JsAt] at h
    have ih := JsAt.grp k ns l rs h.2
    rw [List.zip_cons_cons, List.zip_cons_cons, grp_cons, grp_cons]
    by_cases e : n = k
    · rw [if_pos e, if_pos e]
      simp only [JsAt]
      exact ⟨h.1, ih⟩
    · rw [if_neg e, if_neg e]
      exact ih
  | _ :: _, [], _ :: _, h => by simp only [JsAt] at h
  | _ :: _, _ :: _, [], h => by simp only [JsAt] at h
theorem sameObj_iff (L : List (ByteArray × JV)) (qs : List (ByteArray × JV)) : sameObj (L.map fun x => (x.1, sameJ x.2)) qs = true ↔ ∀ k, grp L k ≠ [] → eqL ((grp L k).map sameJ) (grp qs k) = true := by
  unfold sameObj
  rw [List.all_eq_true]
  constructor
  · intro h k hk
    obtain ⟨v, r, e⟩ := List.exists_cons_of_ne_nil hk
    have hm : (k, v) ∈ L := grp_mem (by rw [e]; simp)
    have := h _ (List.mem_map.2 ⟨_, hm, rfl⟩)
    rw [grp_map] at this
    exact this
  · intro h x hx
    obtain ⟨y, hy, rfl⟩ := List.mem_map.1 hx
    rw [grp_map]
    refine h y.1 fun e => ?_
    have : y.2 ∈ grp L y.1 := List.mem_map.2 ⟨y, List.mem_filter.2 ⟨hy, by simp⟩, rfl⟩
    rw [e] at this
    cases this
/-- Groups gone through: those that were met are alike. -/
structure RngI (w1 w wr : World) (mb r : Nat) (m left : List (ByteArray × SlR)) (P : ByteArray → Prop) : Prop where
  rng : RangeAt strKind SlR.val wr mb r m left
  done : ∃ d, (d ++ left).Perm m ∧ ∀ x ∈ d, P x.1
  below : Below w1.heap.size w1 wr
  base : Below w.heap.size w wr
section
variable {w : World}
/-- The boxes of Same. -/
def wSame (w : World) (q r : RawV) : World := (w.alloc (.cells #[.int .i64 q.k, .string q.t, .slice q.la q.ll q.lc, .slice q.na q.nl q.nc] 25)).alloc (.cells #[.int .i64 r.k, .string r.t, .slice r.la r.ll r.lc, .slice r.na r.nl r.nc] 25)
theorem wSame_boxes (w : World) (q r : RawV) : JBox (wSame w q r) w.heap.size q ∧ JBox (wSame w q r) (w.heap.size + 1) r ∧ Below w.heap.size w (wSame w q r) ∧ (wSame w q r).heap.size = w.heap.size + 2 := by
  have h1 : Below w.heap.size w (w.alloc (.cells #[.int .i64 q.k, .string q.t, .slice q.la q.ll q.lc, .slice q.na q.nl q.nc] 25)) := (Below.refl _ _).alloc (Nat.le_refl _) _
  have b1 : JBox (w.alloc (.cells #[.int .i64 q.k, .string q.t, .slice q.la q.ll q.lc, .slice q.na q.nl q.nc] 25)) w.heap.size q := blk_new _ _
  have hz : (w.alloc (.cells #[.int .i64 q.k, .string q.t, .slice q.la q.ll q.lc, .slice q.na q.nl q.nc] 25)).heap.size = w.heap.size + 1 := by simp
  have b2 := blk_new (w.alloc (.cells #[.int .i64 q.k, .string q.t, .slice q.la q.ll q.lc, .slice q.na q.nl q.nc] 25)) (.cells #[.int .i64 r.k, .string r.t, .slice r.la r.ll r.lc, .slice r.na r.nl r.nc] 25)
  rw [hz] at b2
  have h2 : Below (w.heap.size + 1) (w.alloc (.cells #[.int .i64 q.k, .string q.t, .slice q.la q.ll q.lc, .slice q.na q.nl q.nc] 25)) (wSame w q r) := by
    have := (Below.refl (w.alloc (.cells #[.int .i64 q.k, .string q.t, .slice q.la q.ll q.lc, .slice q.na q.nl q.nc] 25)).heap.size (w.alloc (.cells #[.int .i64 q.k, .string q.t, .slice q.la q.ll q.lc, .slice q.na q.nl q.nc] 25))).alloc (Nat.le_refl _) (.cells #[.int .i64 r.k, .string r.t, .slice r.la r.ll r.lc, .slice r.na r.nl r.nc] 25)
    rw [hz] at this
    exact this
  refine ⟨(h2.block _ (by omega)).trans b1, b2, h1.trans (h2.mono (by omega)), by unfold wSame; simp⟩
set_option maxRecDepth 100000 in
set_option maxHeartbeats 8000000 in
/-- All kinds but objects. -/
theorem j_sameA (k : Int) (t : ByteArray) (l : List JV) (ns : List ByteArray) (hk6 : k ≠ 6) (ih : ∀ v ∈ l, SameOk v) : SameOk (.mk k t l ns) := by
  intro b q r w A B hf hq hr
  obtain ⟨k2, t2, l2, ns2⟩ := b
  simp only [JAt] at hq hr
  obtain ⟨hqk, hqt, -, rs1, ⟨hrs1, -⟩, hl1⟩ := hq
  obtain ⟨hrk, hrt, -, rs2, ⟨hrs2, -⟩, hl2⟩ := hr
  simp only [JV.Fit] at hf
  obtain ⟨B1, B2, hbb, hzz⟩ := wSame_boxes w q r
  obtain ⟨qk, qt, la, ll, lc, na, nl, nc⟩ := q
  obtain ⟨rk, rt, la2, ll2, lc2, na2, nl2, nc2⟩ := r
  simp only at hqk hqt hrk hrt
  subst hqk hqt hrk hrt
  simp only [RawV.lv] at hrs1 hrs2
  obtain ⟨⟨b0, b1, b2, b3⟩, -⟩ := jbox_cells B1
  obtain ⟨⟨c0, c1, c2, c3⟩, -⟩ := jbox_cells B2
  obtain ⟨w2, hw2⟩ : ∃ x, x = wSame w ⟨qk, qt, la, ll, lc, na, nl, nc⟩ ⟨rk, rt, la2, ll2, lc2, na2, nl2, nc2⟩ := ⟨_, rfl⟩
  rw [← hw2] at b0 b1 b2 b3 c0 c1 c2 c3 hbb
  have HW2 : Hid ((w.alloc (.cells #[.int .i64 qk, .string qt, .slice la ll lc, .slice na nl nc] 25)).alloc (.cells #[.int .i64 rk, .string rt, .slice la2 ll2 lc2, .slice na2 nl2 nc2] 25) = w2) := Lib.hid hw2.symm
  have HBB := Lib.hid hbb
  have HE : Hid (∀ V, Below w2.heap.size w2 V → qk = 5 → Calls Tryz.prog 41 #[.slice la ll lc, .slice la2 ll2 lc2, .func (.func 13) #[] #[]] V fun e w' => e = .returned (.bool (eqL (l.map sameJ) l2)) ∧ Below V.heap.size V w') := Lib.hid fun V hV _ =>
    s_equalFn (hrs1.below (hbb.trans (hV.mono hbb.size))) (hl1.below (hbb.trans (hV.mono hbb.size))) (hrs2.below (hbb.trans (hV.mono hbb.size))) (hl2.below (hbb.trans (hV.mono hbb.size))) hf.2.2.2.1 ih (fun v hv => FitAll.mem hf.2.2.2.2 v hv)
  obtain ⟨RES, hres⟩ : ∃ z, z = sameJ (.mk qk qt l ns) (.mk rk rt l2 ns2) := ⟨_, rfl⟩
  rw [← hres]
  have HRES : Hid (RES = if qk ≠ rk then false else if qk = 3 ∨ qk = 4 then decide (qt = rt) else if qk = 5 then eqL (l.map sameJ) l2 else true) := Lib.hid (by
    rw [hres, sameJ_mk]
    simp only [JV.kind, JV.text, JV.list]
    rw [if_neg (c := qk = 6) hk6]
    rfl)
  have HK6 := Lib.hid hk6
  clear hw2 hres hf hrs1 hrs2 hl1 hl2 hbb hzz B1 B2 ih hk6
  by_cases hkk : qk = rk
  · subst hkk
    have n0 : (qk != qk) = false := by simp
    by_cases h34 : qk = 3 ∨ qk = 4
    · have hR : Hid (RES = decide (qt = rt)) := Lib.hid (by rw [HRES.out, if_neg (by simp), if_pos h34])
      clear HRES HE HK6
      by_cases ht : qt = rt
      · subst ht
        rcases h34 with rfl | rfl
        all_goals
          go_enter Tryz.func13, Tryz.ntmps13
          go_upto_region 1 with (fail)
          rw [HW2.out]
          go_wp2_with (fail)
          go_ret
          rw [hR.out]
          exact ⟨by simp, HBB.out⟩
      · have hts : (qt.toList == rt.toList) = false := beq_eq_false_iff_ne.2 (fun e => ht (str_inj e))
        have hR2 : Hid (RES = false) := Lib.hid (by rw [hR.out]; simp [ht])
        clear hR ht
        rcases h34 with rfl | rfl
        all_goals
          go_enter Tryz.func13, Tryz.ntmps13
          go_upto_region 1 with (fail)
          rw [HW2.out]
          go_wp2_with (fail)
          go_ret
          rw [hR2.out]
          exact ⟨rfl, HBB.out⟩
    · have n3 : ¬ qk = 3 := fun e => h34 (.inl e)
      have n4 : ¬ qk = 4 := fun e => h34 (.inr e)
      by_cases h5 : qk = 5
      · have hR : Hid (RES = eqL (l.map sameJ) l2) := Lib.hid (by rw [HRES.out, if_neg (by simp), if_neg h34, if_pos h5])
        have HE2 := Lib.hid fun V hV => HE.out V hV h5
        subst h5
        clear HRES HE HK6 n3 n4 h34 n0
        go_enter Tryz.func13, Tryz.ntmps13
        go_upto_region 1 with (fail)
        rw [HW2.out]
        go_wp2_with (fail)
        refine (HE2.out _ (Below.refl _ _)).mono ?_
        rintro e w3 ⟨rfl, hb3⟩
        have HB3 := Lib.hid hb3
        clear hb3
        go_wp2_with (fail)
        go_ret
        rw [hR.out]
        exact ⟨rfl, HBB.out.trans (HB3.out.mono HBB.out.size)⟩
      · have hR : Hid (RES = true) := Lib.hid (by rw [HRES.out, if_neg (by simp), if_neg h34, if_neg h5])
        have n6 : ¬ qk = 6 := HK6.out
        have d3 : decide (qk = 3) = false := by simp [n3]
        have d4 : decide (qk = 4) = false := by simp [n4]
        have d5 : decide (qk = 5) = false := by simp [h5]
        have d6 : decide (qk = 6) = false := by simp [n6]
        have e3 : (qk == 3) = false := by simp [n3]
        have e4 : (qk == 4) = false := by simp [n4]
        have e5 : (qk == 5) = false := by simp [h5]
        have e6 : (qk == 6) = false := by simp [n6]
        clear HRES HE HK6 n3 n4 h34 n0 h5 n6
        go_enter Tryz.func13, Tryz.ntmps13
        go_upto_region 1 with (fail)
        rw [HW2.out]
        go_wp2_with (fail)
        go_ret
        rw [hR.out]
        exact ⟨rfl, HBB.out⟩
  · have n0 : (qk != rk) = true := by simp [hkk]
    have hR : Hid (RES = false) := Lib.hid (by rw [HRES.out, if_pos hkk])
    clear HRES HE HK6 hkk
    go_enter Tryz.func13, Tryz.ntmps13
    go_upto_region 1 with (fail)
    rw [HW2.out]
    go_wp2_with (fail)
    go_ret
    rw [hR.out]
    exact ⟨rfl, HBB.out⟩
end
end Go.Proofs.YthjcolehccbihaaGreatDoor
namespace Go.Proofs.YthjcolehccbihaaGreatDoor
open Go.RowKit Go.Shelf
section
variable {w : World}
set_option maxRecDepth 100000 in
set_option maxHeartbeats 8000000 in
theorem j_sameO (t : ByteArray) (l : List JV) (ns : List ByteArray) (ih : ∀ v ∈ l, SameOk v) : SameOk (.mk 6 t l ns) := by
  intro b q r w A B hf hq hr
  obtain ⟨k2, t2, l2, ns2⟩ := b
  simp only [JAt] at hq hr
  obtain ⟨hqk, hqt, ⟨hns1, -, hrm1⟩, rs1, ⟨hrs1, -⟩, hl1⟩ := hq
  obtain ⟨hrk, hrt, ⟨hns2, -, hrm2⟩, rs2, ⟨hrs2, -⟩, hl2⟩ := hr
  simp only [JV.Fit] at hf
  obtain ⟨B1, B2, hbb, hzz⟩ := wSame_boxes w q r
  have e1 : q.ll = l.length := by
    obtain ⟨_, _, e, _⟩ := hrs1
    injection e with _ e _
    rw [e, hl1.length]
  have e2 : r.ll = l2.length := by
    obtain ⟨_, _, e, _⟩ := hrs2
    injection e with _ e _
    rw [e, hl2.length]
  have e3 : q.nl = ns.length := by obtain ⟨_, _, e, _⟩ := hns1; injection e
  have e4 : r.nl = ns2.length := by obtain ⟨_, _, e, _⟩ := hns2; injection e
  obtain ⟨w2, hw2⟩ : ∃ x, x = wSame w q r := ⟨_, rfl⟩
  rw [← hw2] at B1 B2 hbb hzz
  have HM1 : Hid (∀ V, Below w2.heap.size w2 V → Calls Tryz.prog 42 #[.agg #[.int .i64 q.k, .string q.t, .slice q.la q.ll q.lc, .slice q.na q.nl q.nc]] V fun e w' => ∃ mb : Nat, e = .returned (.map (some mb)) ∧ Hid ((∃ m, GrpM w' mb V.heap.size (ns.zip rs1) m) ∧ Below V.heap.size V w')) := Lib.hid fun V hV =>
    j_members (hns1.below (hbb.trans (hV.mono hbb.size))) (hrs1.below (hbb.trans (hV.mono hbb.size))) hrm1 hf.2.1 (by rw [hl1.length]; exact hf.2.2.2.1)
  have HM2 : Hid (∀ V, Below w2.heap.size w2 V → ns2.length ≤ 1000000 → l2.length ≤ 1000000 → Calls Tryz.prog 42 #[.agg #[.int .i64 r.k, .string r.t, .slice r.la r.ll r.lc, .slice r.na r.nl r.nc]] V fun e w' => ∃ mb : Nat, e = .returned (.map (some mb)) ∧ Hid ((∃ m, GrpM w' mb V.heap.size (ns2.zip rs2) m) ∧ Below V.heap.size V w')) := Lib.hid fun V hV h1 h2 =>
    j_members (hns2.below (hbb.trans (hV.mono hbb.size))) (hrs2.below (hbb.trans (hV.mono hbb.size))) hrm2 h1 (by rw [hl2.length]; exact h2)
  have HJ := Lib.hid (And.intro hl1 hl2)
  obtain ⟨qk, qt, la, ll, lc, na, nl, nc⟩ := q
  obtain ⟨rk, rt, la2, ll2, lc2, na2, nl2, nc2⟩ := r
  simp only at hqk hqt hrk hrt e1 e2 e3 e4
  subst hqk hqt hrk hrt e1 e2 e3 e4
  obtain ⟨⟨b0, b1, b2, b3⟩, -⟩ := jbox_cells B1
  obtain ⟨⟨c0, c1, c2, c3⟩, -⟩ := jbox_cells B2
  have HW2 : Hid ((w.alloc (.cells #[.int .i64 6, .string qt, .slice la l.length lc, .slice na ns.length nc] 25)).alloc (.cells #[.int .i64 rk, .string rt, .slice la2 l2.length lc2, .slice na2 ns2.length nc2] 25) = w2) := Lib.hid hw2.symm
  have HBB := Lib.hid (And.intro hbb hzz)
  have HBX := Lib.hid (And.intro B1 B2)
  obtain ⟨RES, hres⟩ : ∃ z, z = sameJ (.mk 6 qt l ns) (.mk rk rt l2 ns2) := ⟨_, rfl⟩
  rw [← hres]
  have HRES : Hid (RES = if 6 ≠ rk then false else (decide (l.length = l2.length) && decide (ns.length = ns2.length)) && sameObj ((ns.zip l).map fun x => (x.1, sameJ x.2)) (ns2.zip l2)) := Lib.hid (by
    rw [hres, sameJ_mk]
    rfl)
  have HF := Lib.hid hf
  have HIH := Lib.hid ih
  clear hw2 hres hf hns1 hns2 hrs1 hrs2 hl1 hl2 hbb hzz B1 B2 ih hrm1 hrm2
  by_cases hkk : 6 = rk
  · subst hkk
    by_cases hl : l.length = l2.length
    · have m0 : ((l.length : Int) != (l2.length : Int)) = false := by simp; omega
      by_cases hn : ns.length = ns2.length
      · have m1 : ((ns.length : Int) != (ns2.length : Int)) = false := by simp; omega
        have hR : Hid (RES = sameObj ((ns.zip l).map fun x => (x.1, sameJ x.2)) (ns2.zip l2)) := Lib.hid (by rw [HRES.out]; simp [hl, hn])
        have HM3 := Lib.hid fun V hV => HM2.out V hV (by have := HF.out.2.1; omega) (by have := HF.out.2.2.2.1; omega)
        clear HRES HM2 hl hn
        go_enter Tryz.func13, Tryz.ntmps13
        go_upto_region 1 with (fail)
        rw [HW2.out]
        go_upto_region 12 with (fail)
        have hT0 : (fun W : World => (W.cell? ⟨w.heap.size, 0, none⟩ = some (.int .i64 6) ∧ W.cell? ⟨w.heap.size, 1, none⟩ = some (.string qt) ∧ W.cell? ⟨w.heap.size, 2, none⟩ = some (.slice la l.length lc) ∧ W.cell? ⟨w.heap.size, 3, none⟩ = some (.slice na ns.length nc)) ∧ (W.cell? ⟨w.heap.size + 1, 0, none⟩ = some (.int .i64 6) ∧ W.cell? ⟨w.heap.size + 1, 1, none⟩ = some (.string rt) ∧ W.cell? ⟨w.heap.size + 1, 2, none⟩ = some (.slice la2 l2.length lc2) ∧ W.cell? ⟨w.heap.size + 1, 3, none⟩ = some (.slice na2 ns2.length nc2))) w2.drew := ⟨⟨b0, b1, b2, b3⟩, ⟨c0, c1, c2, c3⟩⟩
        refine wp_region_B (T := fun W : World => (W.cell? ⟨w.heap.size, 0, none⟩ = some (.int .i64 6) ∧ W.cell? ⟨w.heap.size, 1, none⟩ = some (.string qt) ∧ W.cell? ⟨w.heap.size, 2, none⟩ = some (.slice la l.length lc) ∧ W.cell? ⟨w.heap.size, 3, none⟩ = some (.slice na ns.length nc)) ∧ (W.cell? ⟨w.heap.size + 1, 0, none⟩ = some (.int .i64 6) ∧ W.cell? ⟨w.heap.size + 1, 1, none⟩ = some (.string rt) ∧ W.cell? ⟨w.heap.size + 1, 2, none⟩ = some (.slice la2 l2.length lc2) ∧ W.cell? ⟨w.heap.size + 1, 3, none⟩ = some (.slice na2 ns2.length nc2))) (B := fun _ => true) (by kernel_rfl) ?_
        refine wpAnyB_load (i := 0) (v := ?vv0) rfl (by kernel_rfl) (by kernel_rfl) (by kernel_rfl) (by kernel_rfl) (fun _ _ _ h => h) (Or.inl ⟨by rfl, ?hy0⟩) (by assumption) ?rs0
        case hy0 => (intro w hSw; obtain ⟨⟨s0, s1, s2, s3⟩, ⟨s4, s5, s6, s7⟩⟩ := hSw; go_simp) <;> with_reducible rfl
        try simp only [Act.put, List.setIfInBounds_toArray, List.set_cons_zero, List.set_cons_succ]
        refine wpAnyB_load (i := 2) (v := ?vv2) rfl (by kernel_rfl) (by kernel_rfl) (by kernel_rfl) (by kernel_rfl) (fun _ _ _ h => h) (Or.inl ⟨by rfl, ?hy2⟩) (by assumption) ?rs2
        case hy2 => (intro w hSw; obtain ⟨⟨s0, s1, s2, s3⟩, ⟨s4, s5, s6, s7⟩⟩ := hSw; go_simp) <;> with_reducible rfl
        try simp only [Act.put, List.setIfInBounds_toArray, List.set_cons_zero, List.set_cons_succ]
        clear hT0 b0 b1 b2 b3 c0 c1 c2 c3
        have hdr : Below w2.heap.size w2 w2.drew := (Below.refl _ _).drew
        refine wpAnyB_ready (rs := [1]) (by kernel_rfl) (by simp) ?_
        refine AllReadyB.cons (o := { dst := some 50, op := Op.call { callee := Callee.value (Operand.func 42), args := #[Operand.tmp 49], argTypes := #[25] }, type := 87, pos := "json.go:223", after := #[{ on := 0, ground := Ground.data }], guard := none }) rfl (fun K hK => ?_) AllReadyB.nil
        go_simp
        go_at_call 42
        refine (HM1.out _ hdr).mono ?_
        rintro e w3 ⟨m1, rfl, HG1⟩
        have hb3 : Below w2.heap.size w2 w3 := hdr.trans HG1.out.2
        refine hK.out _ _ (fun _ _ => ⟨(jbox_cells (jbox_below HBX.out.1 hb3)).1, (jbox_cells (jbox_below HBX.out.2 hb3)).1⟩) ?_
        clear hK K
        try simp only [Act.put, List.setIfInBounds_toArray, List.set_cons_zero, List.set_cons_succ]
        refine wpAnyB_ready (rs := [3]) (by kernel_rfl) (by simp) ?_
        refine AllReadyB.cons (o := { dst := some 52, op := Op.call { callee := Callee.value (Operand.func 42), args := #[Operand.tmp 51], argTypes := #[25] }, type := 87, pos := "json.go:223", after := #[{ on := 2, ground := Ground.data }, { on := 1, ground := Ground.chain }], guard := none }) rfl (fun K hK => ?_) AllReadyB.nil
        go_simp
        go_at_call 42
        refine (HM3.out _ hb3).mono ?_
        rintro e w4 ⟨m2, rfl, HG2⟩
        have hb4 : Below w2.heap.size w2 w4 := hb3.trans (HG2.out.2.mono hb3.size)
        refine hK.out _ _ (fun _ _ => ⟨(jbox_cells (jbox_below HBX.out.1 hb4)).1, (jbox_cells (jbox_below HBX.out.2 hb4)).1⟩) ?_
        clear hK K
        try simp only [Act.put, List.setIfInBounds_toArray, List.set_cons_zero, List.set_cons_succ]
        refine wpAnyB_take (i := 4) (v := ?vv4) rfl (by kernel_rfl) (by kernel_rfl) (by kernel_rfl) (fun _ _ _ h => h) (Or.inl ⟨by rfl, ?hy4⟩) ?rs4
        case hy4 => (intro w; go_simp) <;> with_reducible rfl
        try simp only [Act.put, List.setIfInBounds_toArray, List.set_cons_zero, List.set_cons_succ]
        refine wpAnyB_take (i := 5) (v := ?vv5) rfl (by kernel_rfl) (by kernel_rfl) (by kernel_rfl) (fun _ _ _ h => h) (Or.inl ⟨by rfl, ?hy5⟩) ?rs5
        case hy5 => (intro w; go_simp) <;> with_reducible rfl
        try simp only [Act.put, List.setIfInBounds_toArray, List.set_cons_zero, List.set_cons_succ]
        refine wpAnyB_done (by kernel_rfl) ?_ _
        obtain ⟨mm1, hg1⟩ := HG1.out.1
        obtain ⟨mm2, hg2⟩ := HG2.out.1
        have hG1 := hg1.below HG2.out.2
        obtain ⟨w5, hrange, hR, hk5, hz5⟩ := hG1.map.range (P := Tryz.prog) (t := 87) Tryz.underlying87
        have hs4 : w2.heap.size ≤ w4.heap.size := hb4.size
        have HGG := Lib.hid (And.intro hG1 hg2)
        have HB4 : Hid (Below w.heap.size w w4 ∧ w.heap.size ≤ w4.heap.size) := Lib.hid ⟨HBB.out.1.trans (hb4.mono HBB.out.1.size), Nat.le_trans HBB.out.1.size hs4⟩
        obtain ⟨PP, hPP⟩ : ∃ P : ByteArray → Prop, P = fun k => eqL ((grp (ns.zip l) k).map sameJ) (grp (ns2.zip l2) k) = true := ⟨_, rfl⟩
        have HPP := Lib.hid hPP
        obtain ⟨rb, hrb⟩ : ∃ x, x = w4.heap.size := ⟨_, rfl⟩
        rw [← hrb] at hrange hR hz5
        have HI0 : Hid (RngI w4 w w5 m1 rb mm1 mm1 PP) := Lib.hid ⟨hR, ⟨[], by simp, fun x hx => by cases hx⟩, hk5, HB4.out.1.trans (hk5.mono HB4.out.2)⟩
        have HRB := Lib.hid hrb
        clear hg1 hg2 hG1 hR hk5 hz5 hPP hb3 hb4 hdr hs4 hrb HM1 HM3 HG1 HG2
        go_wp2_with (fail)
        clear hrange
        go_loopg [7] (mm1.length + 1) (fun gk _ wr => ∃ left : List (ByteArray × SlR), gk = left.length + 1 ∧ Hid (RngI w4 w wr m1 rb mm1 left PP))
        case atStart => exact ⟨mm1, rfl, HI0⟩
        case round =>
          obtain ⟨left, rfl, HI⟩ := hrel
          rcases HI.out.rng.next (P := Tryz.prog) 0 with ⟨rfl, hrun⟩ | ⟨x, rest, w6, hp, hrun, hR, hk, hz, hent⟩
          · have hRT : Hid (RES = true) := Lib.hid (by
              rw [hR.out, sameObj_iff]
              intro k hk
              obtain ⟨d, h1, h2⟩ := HI.out.done
              rcases HGG.out.1.find k with ⟨-, h3⟩ | ⟨s, h3, h4, h5⟩
              · exfalso
                have := (JsAt.grp k ns l rs1 HJ.out.1).length
                rw [h3] at this
                exact hk (List.length_eq_zero_iff.1 this.symm)
              · have h6 := Kv.find_mem h3 HGG.out.1.map.rise
                have h7 := h2 _ (by
                  have := h1.mem_iff.2 h6
                  simpa using this)
                have e := HPP.out
                rw [e] at h7
                exact h7)
            go_wp2_with (fail)
            go_ret
            rw [hRT.out]
            exact ⟨rfl, HI.out.base⟩
          · have hent' : (Instr.entry (.pointer (some ⟨rb, 0, none⟩))).run Tryz.prog w6 = .ok (.tuple #[.string x.1, .slice x.2.a x.2.n x.2.c]) w6 := hent
            have hrun' : (Instr.next (.pointer (some ⟨rb, 0, none⟩)) false 0).run Tryz.prog wr = .ok (.tuple #[.bool true, .string x.1, .slice x.2.a x.2.n x.2.c]) w6 := hrun
            have hb46 : Below w4.heap.size w4 w6 := below_keeps HI.out.below hk (fun i e => by have e : i = rb := e; have := HRB.out; omega) HI.out.below.size
            have hbw6 : Below w.heap.size w w6 := HB4.out.1.trans (hb46.mono HB4.out.2)
            have hmem : x ∈ mm1 := by
              obtain ⟨d, h1, -⟩ := HI.out.done
              exact h1.mem_iff.1 (List.mem_append.2 (.inr (hp.mem_iff.2 (by simp))))
            have hfind : x.2.xs = grp (ns.zip rs1) x.1 ∧ x.2.xs ≠ [] := by
              have h3 := Kv.find_of_mem (n := x.1) (y := x.2) HGG.out.1.map.rise hmem
              rcases HGG.out.1.find x.1 with ⟨h4, -⟩ | ⟨s, h4, h5, h6⟩
              · have := h3.symm.trans h4
                cases this
              · have := Option.some.inj (h3.symm.trans h4)
                rw [this]
                exact ⟨h5, h6⟩
            obtain ⟨s2, hlk, hxs2, hsl2, -⟩ := (HGG.out.2.below hb46).lookup x.1
            have hrd1 : RdAt rawKind w6 (.slice x.2.a x.2.n x.2.c) (grp (ns.zip rs1) x.1) := by
              have := ((HGG.out.1.sl x hmem).1.below hb46).rd
              rw [hfind.1] at this
              exact this
            have hrd2 : RdAt rawKind w6 (.slice s2.a s2.n s2.c) (grp (ns2.zip rs2) x.1) := by
              have := hsl2.rd
              rw [hxs2] at this
              exact this
            have hsub : ∀ v ∈ grp (ns.zip l) x.1, v ∈ l := fun v hv => (List.of_mem_zip (grp_mem hv)).2
            have hlen : (grp (ns.zip l) x.1).length ≤ 1000000 := by
              have h1 : (grp (ns.zip l) x.1).length ≤ (ns.zip l).length := by unfold grp; rw [List.length_map]; exact List.length_filter_le _ _
              have h2 := HF.out.2.2.2.1
              rw [List.length_zip] at h1
              omega
            have HEQ := Lib.hid (s_equalFn hrd1 (JsAt.grp x.1 ns l rs1 (HJ.out.1.below hbw6)) hrd2 (JsAt.grp x.1 ns2 l2 rs2 (HJ.out.2.below hbw6)) hlen (fun v hv => HIH.out v (hsub v hv)) (fun v hv => FitAll.mem HF.out.2.2.2.2 v (hsub v hv)))
            have HX := Lib.hid (And.intro hp (And.intro hR (And.intro hk (And.intro hb46 (And.intro hbw6 hfind)))))
            obtain ⟨bb, hbb⟩ : ∃ z, z = eqL ((grp (ns.zip l) x.1).map sameJ) (grp (ns2.zip l2) x.1) := ⟨_, rfl⟩
            rw [← hbb] at HEQ
            have HBV := Lib.hid hbb
            have hlen2 : left.length = rest.length + 1 := by rw [hp.length_eq]; rfl
            clear hent hrun hk hR hb46 hbw6 hmem hfind hxs2 hsl2 hrd1 hrd2 hsub hlen hbb hp hz
            cases bb with
            | true =>
              go_wp2_with (fail)
              refine HEQ.out.mono ?_
              rintro e w7 ⟨rfl, hb7⟩
              have HB7 := Lib.hid hb7
              clear hb7
              have HNX : Hid (RngI w4 w w7 m1 rb mm1 rest PP) := Lib.hid (by
                obtain ⟨hp, hR, hk, hb46, hbw6, -⟩ := HX.out
                obtain ⟨d, h1, h2⟩ := HI.out.done
                refine ⟨hR.below HB7.out, ⟨d ++ [x], ?_, fun y hy => ?_⟩, hb46.trans (HB7.out.mono hb46.size), hbw6.trans (HB7.out.mono hbw6.size)⟩
                · have := (List.Perm.append_left d hp.symm).trans h1
                  simpa using this
                · rcases List.mem_append.1 hy with hy | hy
                  · exact h2 y hy
                  · obtain rfl := List.mem_singleton.1 hy
                    rw [HPP.out]
                    exact HBV.out.symm)
              go_wp2_with (fail)
              go_roundg (rest.length + 1)
              case measure => omega
              case rel => exact ⟨rest, rfl, HNX⟩
            | false =>
              go_wp2_with (fail)
              refine HEQ.out.mono ?_
              rintro e w7 ⟨rfl, hb7⟩
              have HB7 := Lib.hid hb7
              clear hb7
              go_wp2_with (fail)
              go_ret
              have hRF : RES = false := by
                cases hc : RES with
                | false => rfl
                | true =>
                  rw [hR.out, sameObj_iff] at hc
                  have := hc x.1 (fun e => HX.out.2.2.2.2.2.2 (by
                    rw [HX.out.2.2.2.2.2.1]
                    have := (JsAt.grp x.1 ns l rs1 HJ.out.1).length
                    rw [e] at this
                    exact List.length_eq_zero_iff.1 this))
                  rw [← HBV.out] at this
                  cases this
              rw [hRF]
              exact ⟨rfl, HX.out.2.2.2.2.1.trans (HB7.out.mono HX.out.2.2.2.2.1.size)⟩
      · have m1 : ((ns.length : Int) != (ns2.length : Int)) = true := by simp; omega
        have hR : Hid (RES = false) := Lib.hid (by rw [HRES.out]; simp [hn])
        clear HRES HM1 HM2 hl hn
        go_enter Tryz.func13, Tryz.ntmps13
        go_upto_region 1 with (fail)
        rw [HW2.out]
        go_wp2_with (fail)
        go_ret
        rw [hR.out]
        exact ⟨rfl, HBB.out.1⟩
    · have m0 : ((l.length : Int) != (l2.length : Int)) = true := by simp; omega
      have hR : Hid (RES = false) := Lib.hid (by rw [HRES.out]; simp [hl])
      clear HRES HM1 HM2 hl
      go_enter Tryz.func13, Tryz.ntmps13
      go_upto_region 1 with (fail)
      rw [HW2.out]
      go_wp2_with (fail)
      go_ret
      rw [hR.out]
      exact ⟨rfl, HBB.out.1⟩
  · have n0 : ((6 : Int) != rk) = true := by simp [hkk]
    have hR : Hid (RES = false) := Lib.hid (by rw [HRES.out, if_pos hkk])
    clear HRES HM1 HM2 hkk
    go_enter Tryz.func13, Tryz.ntmps13
    go_upto_region 1 with (fail)
    rw [HW2.out]
    go_wp2_with (fail)
    go_ret
    rw [hR.out]
    exact ⟨rfl, HBB.out.1⟩
theorem j_same (v : JV) : SameOk v := JV.ind (P := SameOk) (fun k t l ns ih => by
  by_cases h : k = 6
  · subst h; exact j_sameO t l ns ih
  · exact j_sameA k t l ns h ih) v
end
end Go.Proofs.YthjcolehccbihaaGreatDoor
