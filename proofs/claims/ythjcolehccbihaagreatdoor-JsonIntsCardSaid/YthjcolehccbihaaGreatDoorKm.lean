/- lay, whole. -/
import Derived.Test.YthjcolehccbihaaGreatDoorKk
import Derived.Test.YthjcolehccbihaaGreatDoorLa
namespace Go.Proofs.YthjcolehccbihaaGreatDoor
open Go.RowKit Go.Shelf

section
variable {w : World}
set_option maxRecDepth 100000 in
set_option maxHeartbeats 8000000 in
theorem j_layObj (t : ByteArray) (l : List JV) (ns : List ByteArray) (ih : ∀ v ∈ l, LayOk v) : LayOk (.mk 6 t l ns) := by
  intro d q w B b p hc hf hj hp hB hlen
  have hqk : q.k = 6 := by simp only [JAt] at hj; exact hj.1
  obtain ⟨w1, hw1, HBX⟩ := jbox_new w q
  have HM := Lib.hid (j_layMembers d t l ns ih q w1 B b p hc hf (hj.below HBX.out.1) (hp.below HBX.out.1) (Nat.le_trans hB HBX.out.1.size) hlen)
  have HK := Lib.hid (PrK.of_below (b := b) HBX.out.1 hB)
  have HW1 := Lib.hid hw1
  obtain ⟨qk, qt, la, ll, lc, na, nl, nc⟩ := q
  simp only at hqk
  subst hqk
  obtain ⟨⟨b0, b1, b2, b3⟩, -⟩ := jbox_cells HBX.out.2
  obtain ⟨RES, hres⟩ : ∃ z, z = lay (.mk 6 t l ns) := ⟨_, rfl⟩
  rw [← hres] at HM ⊢
  clear hc hf hj hp hB hlen hw1 ih hres
  go_enter Tryz.func34, Tryz.ntmps34
  go_upto_region 1 with (fail)
  rw [show w.alloc (.cells #[.int .i64 6, .string qt, .slice la ll lc, .slice na nl nc] 25) = w1 from HW1.out]
  go_wp2_with (fail)
  refine HM.out.mono ?_
  rintro e w2 ⟨rfl, hp2, hk2⟩
  have HP2 := Lib.hid (And.intro hp2 hk2)
  clear hp2 hk2
  go_wp2_with (fail)
  go_end0
  exact ⟨rfl, HP2.out.1, HK.out.trans HP2.out.2⟩
theorem j_lay (v : JV) : LayOk v := JV.ind (P := LayOk) (fun k t l ns ih => by
  by_cases h5 : k < 5
  · exact j_layLeaf k t l ns h5
  by_cases h : k = 5
  · subst h; exact j_layArr t l ns ih
  by_cases h6 : k = 6
  · subst h6; exact j_layObj t l ns ih
  intro d q w B b p hc
  have : chk d (.mk k t l ns) = 7 := chk_own _ _ _ _ _ _ (by unfold chkOwn; rw [if_pos (.inr (by omega))]) (by decide)
  rw [this] at hc
  cases hc) v
end
end Go.Proofs.YthjcolehccbihaaGreatDoor
/- The walk of json.Print. -/
namespace Go.Proofs.YthjcolehccbihaaGreatDoor
open Go.RowKit Go.Shelf

section
variable {w : World}
set_option maxRecDepth 100000 in
set_option maxHeartbeats 4000000 in
theorem j_print1 {xb : Nat} {q : RawV} {v : JV} {A : Nat → Prop} (hx : JBox w xb q) (hj : JAt w A v q) (hf : v.Fit) (ht : Tabs w) :
    Calls Tryz.prog 32 #[.pointer (some ⟨xb, 0, none⟩)] w fun e w' => (if chk 0 v = 0 then e = .returned (.agg #[.int .i64 0, .string ⟨#[]⟩, .slice none 0 0, .slice none 0 0]) else e = faultE 0 (chk 0 v : Int)) ∧ Below w.heap.size w w' := by
  obtain ⟨w1, hw1, HBX⟩ := jbox_zero w
  have HC := Lib.hid (j_check v 0 q w1 A (by decide) (hj.below HBX.out.1) hf (ht.below HBX.out.1))
  have hx1 := jbox_below hx HBX.out.1
  obtain ⟨⟨b0, b1, b2, b3⟩, -⟩ := jbox_cells hx1
  have HW1 := Lib.hid hw1
  clear hx hj hf ht hw1 hx1
  go_enter Tryz.func32, Tryz.ntmps32
  go_upto_region 1 with (fail)
  rw [show w.alloc (.cells #[.int .i64 0, .string ⟨#[]⟩, .slice none 0 0, .slice none 0 0] 25) = w1 from HW1.out]
  go_wp2_with (fail)
  refine HC.out.mono ?_
  rintro e w2 ⟨he, hb2⟩
  have HB2 := Lib.hid (HBX.out.1.trans (hb2.mono HBX.out.1.size))
  have HX2 := Lib.hid (jbox_below HBX.out.2 hb2)
  clear hb2 b0 b1 b2 b3
  by_cases hz : chk 0 v = 0
  · rw [if_pos hz] at he
    subst he
    have HZ := Lib.hid hz
    obtain ⟨⟨b0, b1, b2, b3⟩, z0, z1, z2, z3⟩ := jbox_cells HX2.out
    clear hz
    go_wp2_with (fail)
    all_goals
     try (exfalso; have := HZ.out; omega)
    have hk := keeps4 w2 w.heap.size (.int .i64 0) (.string ⟨#[]⟩) (.slice none 0 0) (.slice none 0 0)
    refine bodyPost_ret (v := raw0.val) (jres_cell rfl (jbox_set HX2.out raw0) _ rfl) rfl ⟨by first | rfl | (rw [if_pos HZ.out]; rfl), below_keeps HB2.out hk (fun i e => by have e : i = w.heap.size := e; omega) HB2.out.size⟩
  · rw [if_neg hz] at he
    subst he
    refine leave_panic (P := Tryz.prog) (fn := Tryz.f32) rfl ⟨by rw [if_neg hz]; rfl, HB2.out⟩
end
end Go.Proofs.YthjcolehccbihaaGreatDoor
/- The walk of json.Print: what it is guarded by, what it hands back. -/
namespace Go.Proofs.YthjcolehccbihaaGreatDoor
open Go.RowKit Go.Shelf

theorem enters_print1 : ∀ args w, (callFunc 32 args).run Tryz.prog w = .ok (.enter 32 args) w := enters_of Tryz.func32 (P := Tryz.prog) (by kernel_rfl) rfl
theorem guard_below (w : World) : Below w.heap.size w (wGuard w) := ((Below.refl _ _).alloc (Nat.le_refl _) _).alloc (by simp) _
theorem j_guardPrint {w : World} {xb : Nat} {q : RawV} {v : JV} {A : Nat → Prop} (hx : JBox w xb q) (hj : JAt w A v q) (hf : v.Fit) (ht : Tabs w) :
    Calls Tryz.prog 31 #[.func (Fn.func 32) #[] #[.pointer (some ⟨xb, 0, none⟩)]] w fun e w' => e = .returned (.tuple #[.agg #[.int .i64 0, .string ⟨#[]⟩, .slice none 0 0, .slice none 0 0], .agg #[.int .i64 0, .int .i64 (chk 0 v : Int)]]) ∧ Below w.heap.size w w' := by
  have hb := guard_below w
  have hs : (wGuard w).heap.size = w.heap.size + 2 := by unfold wGuard; simp
  refine (j_guarded 32 enters_print1 _ w (fun _ => False) (fun h => h) (fun h => h)
    (fun e w' => (if chk 0 v = 0 then e = .returned raw0.val else e = faultE 0 (chk 0 v : Int)) ∧ Below (wGuard w).heap.size (wGuard w) w') ?_).mono ?_
  · refine (j_print1 (jbox_below hx hb) (hj.below hb) hf (ht.below hb)).mono ?_
    rintro e w' ⟨he, hw⟩
    refine ⟨Keeps.of_below hw, ⟨he, hw⟩, ?_⟩
    by_cases hz : chk 0 v = 0
    · rw [if_pos hz] at he
      exact .inl ⟨raw0, he⟩
    · rw [if_neg hz] at he
      exact .inr ⟨_, _, he⟩
  · rintro e w' ⟨w0, hk, hr⟩
    have hbw : ∀ {V : World}, Below (wGuard w).heap.size (wGuard w) V → Keeps (fun i => i = w.heap.size ∨ i = w.heap.size + 1) V w' → Below w.heap.size w w' := fun h hk => by
      have h1 : Below w.heap.size w _ := hb.trans (h.mono (by omega))
      exact below_keeps h1 hk (fun i e => by omega) h1.size
    rcases hr with ⟨q1, ⟨he, hw⟩, rfl⟩ | ⟨p, er, ⟨he, hw⟩, rfl⟩
    · by_cases hz : chk 0 v = 0
      · rw [if_pos hz] at he
        injection he with he
        rw [he, hz]
        exact ⟨rfl, hbw hw hk⟩
      · rw [if_neg hz] at he
        cases he
    · by_cases hz : chk 0 v = 0
      · rw [if_pos hz] at he
        cases he
      · rw [if_neg hz] at he
        have e4 : p = 0 ∧ er = (chk 0 v : Int) := by
          simp only [faultE, Ending.panicked.injEq, List.cons.injEq, and_true, PanicEntry.mk.injEq, Value.iface.injEq, Value.agg.injEq] at he
          simpa using he
        obtain ⟨rfl, rfl⟩ := e4
        exact ⟨rfl, hbw hw hk⟩
/-- What Print hands back. -/
def PrintedTo (w : World) (r : Option (List UInt8) × Nat) (e : Ending) (w' : World) : Prop :=
  Below w.heap.size w w' ∧ ((r.1 = none ∧ e = .returned (.tuple #[.slice none 0 0, .int .i64 (r.2 : Int)])) ∨ ∃ (l : List UInt8) (bv : Value), r.1 = some l ∧ e = .returned (.tuple #[bv, .int .i64 (r.2 : Int)]) ∧ BytesAt w' bv l)
section
variable {w : World}
theorem new_prn (w : World) : Prn w.heap.size w.heap.size [] (w.alloc (.cells #[.pointer none, .slice none 0 0] 79)) := Lib.fresh_isBuilder _ _ _
set_option maxRecDepth 100000 in
set_option maxHeartbeats 8000000 in
theorem j_print {v : JV} {q : RawV} {A : Nat → Prop} (hj : JAt w A v q) (hf : v.Fit) (ht : Tabs w) (hA : ∀ g, A g → g < w.heap.size) (hlen : chk 0 v = 0 → (lay v).length ≤ 1000000) :
    Calls Tryz.prog 10 #[.agg #[.int .i64 q.k, .string q.t, .slice q.la q.ll q.lc, .slice q.na q.nl q.nc]] w (PrintedTo w (print v)) := by
  obtain ⟨w1, hw1, HBX⟩ := jbox_new w q
  have hj1 : JAt w1 (fun g => g < w.heap.size) v q := (hj.mono hA).below HBX.out.1
  have hs1 : w1.heap.size = w.heap.size + 1 := by rw [← hw1]; simp
  have HG := Lib.hid (j_guardPrint HBX.out.2 hj1 hf (ht.below HBX.out.1))
  have HW1 := Lib.hid hw1
  have HS1 := Lib.hid hs1
  have HJ1 := Lib.hid (And.intro hj1 hf)
  clear hj ht hw1 hf hA hs1 hj1
  obtain ⟨er, her⟩ : ∃ x : Int, x = (chk 0 v : Int) := ⟨_, rfl⟩
  rw [← her] at HG
  by_cases hz : chk 0 v = 0
  · have HLEN := Lib.hid (hlen hz)
    have HZ := Lib.hid hz
    obtain rfl : er = 0 := by rw [her, hz]; rfl
    clear her hlen hz
    go_enter Tryz.func10, Tryz.ntmps10
    go_upto_region 1 with fail
    rw [show w.alloc (.cells #[.int .i64 q.k, .string q.t, .slice q.la q.ll q.lc, .slice q.na q.nl q.nc] 25) = w1 from HW1.out]
    go_wp2_with (fail)
    refine HG.out.mono ?_
    rintro e w2 ⟨rfl, hb2⟩
    have HB2 := Lib.hid hb2
    clear hb2
    go_upto_region 2 with fail
    obtain ⟨w3, hw3⟩ : ∃ x, x = w2.alloc (.cells #[.int .i64 0, .string ⟨#[]⟩, .slice none 0 0, .slice none 0 0] 25) := ⟨_, rfl⟩
    rw [← hw3]
    obtain ⟨w4, hw4⟩ : ∃ x, x = w3.alloc (.cells #[.int .i64 0, .int .i64 0] 69) := ⟨_, rfl⟩
    rw [← hw4]
    have hs3 : w3.heap.size = w2.heap.size + 1 := by rw [hw3]; simp
    have hf4 : FBox w4 (w2.heap.size + 1) 0 0 := by rw [hw4, ← hs3]; exact blk_new _ _
    have hb24 : Below w2.heap.size w2 w4 := by rw [hw4, hw3]; exact ((Below.refl _ _).alloc (Nat.le_refl _) _).alloc (by simp) _
    have hb14 : Below w1.heap.size w1 w4 := HB2.out.trans (hb24.mono HB2.out.size)
    have HX4 := Lib.hid (jbox_below HBX.out.2 hb14)
    have HJ4 := Lib.hid (HJ1.out.1.below hb14)
    have HB4 : Hid (Below w.heap.size w w4 ∧ w.heap.size < w4.heap.size) := Lib.hid ⟨HBX.out.1.trans (hb14.mono (by have := HS1.out; omega)), by have := hb14.size; have := HS1.out; omega⟩
    obtain ⟨d0, d1, -⟩ := fbox_cells hf4
    clear hw3 hw4 hs3 hf4 hb24 hb14 HBX HW1 HG
    go_upto_region 5 with fail
    obtain ⟨w5, hw5⟩ : ∃ x, x = w4.alloc (.cells #[.pointer none, .slice none 0 0] 79) := ⟨_, rfl⟩
    rw [← hw5]
    have hp5 : Prn w4.heap.size w4.heap.size [] w5 := by rw [hw5]; exact new_prn w4
    have hb45 : Below w4.heap.size w4 w5 := by rw [hw5]; exact (Below.refl _ _).alloc (Nat.le_refl _) _
    obtain ⟨b, hb⟩ : ∃ x, x = w4.heap.size := ⟨_, rfl⟩
    have HL := Lib.hid (j_lay v 0 q w5 b b [] HZ.out HJ1.out.2 ((HJ4.out.below hb45).mono (fun g hg => by have := HB4.out.2; omega)) (by rw [hb]; exact hp5) (by rw [hb]; exact hb45.size) (by have := HLEN.out; simp only [List.length_nil]; omega))
    have HB5 : Hid (Below w.heap.size w w5 ∧ w.heap.size < b) := Lib.hid ⟨HB4.out.1.trans (hb45.mono (by have := HB4.out.2; omega)), by rw [hb]; exact HB4.out.2⟩
    obtain ⟨⟨b0, b1, b2, b3⟩, -⟩ := jbox_cells (jbox_below HX4.out hb45)
    rw [← hb]
    have HPR : Hid (print v = if 65536 < (lay v).length then (none, 8) else (some (lay v), 0)) := Lib.hid (by unfold print; rw [if_neg (by have := HZ.out; omega)])
    have HNE : Hid (lay v ≠ []) := Lib.hid (by obtain ⟨c, r, e, -⟩ := lay_head HZ.out; rw [e]; simp)
    obtain ⟨L, hL⟩ : ∃ x, x = lay v := ⟨_, rfl⟩
    rw [List.nil_append, ← hL] at HL
    rw [← hL] at HPR HNE HLEN
    clear hw5 hp5 hb45 hb hL d0 d1 HX4 HJ4 HB4 HB2 HJ1 HS1
    go_wp2_with (fail)
    refine HL.out.mono ?_
    rintro e w6 ⟨rfl, hp6, hk6⟩
    have HP6 := Lib.hid hp6
    have HB6 : Hid (Below w.heap.size w w6) := Lib.hid (below_keeps HB5.out.1 hk6.keeps (fun i hi => by have := HB5.out.2; omega) HB5.out.1.size)
    obtain ⟨m, hm⟩ : ∃ x, x = L.length := ⟨_, rfl⟩
    have HLN := Lib.hid (b_len hp6)
    rw [Lib.byteCells_length, ← hm] at HLN
    have HM := Lib.hid hm
    clear hp6 hk6 HL hm b0 b1 b2 b3
    by_cases hbig : 65536 < m
    · have ht : decide ((65536 : Int) < (m : Int)) = true := by simp; omega
      have HE : Hid (print v = (none, 8)) := Lib.hid (by rw [HPR.out, if_pos (by rw [← HM.out]; exact hbig)])
      clear hbig
      go_wp2_with (first | (go_at_call 35; refine HLN.out.mono ?_; rintro e w' ⟨rfl, rfl⟩))
      go_ret2
      rw [HE.out]
      exact ⟨HB6.out, .inl ⟨rfl, rfl⟩⟩
    · have ht : decide ((65536 : Int) < (m : Int)) = false := by simp; omega
      have HE : Hid (print v = (some L, 0)) := Lib.hid (by rw [HPR.out, if_neg (by rw [← HM.out]; exact hbig)])
      have HS := Lib.hid (b_string HP6.out HNE.out)
      have HLL : Hid (L.length ≤ 1000000) := Lib.hid (by have := HM.out; omega)
      clear hbig
      go_wp2_with (first
        | (go_at_call 35; refine HLN.out.mono ?_; rintro e w' ⟨rfl, rfl⟩)
        | (go_at_call 36; refine HS.out.mono ?_; rintro e w7 ⟨rfl, hb7⟩
           obtain ⟨cap, w8, hcv, hb8, hs8, hy8⟩ := conv_bytes w7 ⟨L.toArray⟩ (by show L.toArray.size ≤ 1000000; rw [List.size_toArray]; exact HLL.out)
           have HB7 := Lib.hid hb7
           have HB8 := Lib.hid (And.intro hb8 hy8)
           clear hb7 hb8 hs8 hy8))
      go_ret2
      rw [HE.out]
      have hz6 := HB6.out.size
      have hz5 := HB5.out.2
      have hz7 := HB7.out.size
      refine ⟨(HB6.out.trans (HB7.out.mono (by omega))).trans (HB8.out.1.mono (by omega)), .inr ⟨L, _, rfl, rfl, ?_⟩⟩
      have := HB8.out.2
      rw [show raw ⟨L.toArray⟩ = L from str_toList L] at this
      exact this
  · have HNZ := Lib.hid hz
    have hne : er ≠ 0 := by rw [her]; omega
    have h1 : decide (er = 0) = false := by simp [hne]
    have h2 : (er != 0) = true := by simp [hne]
    have h3 : (er == 0) = false := by simp [hne]
    have HPR : Hid (print v = (none, chk 0 v)) := Lib.hid (by unfold print; rw [if_pos hz])
    have HER := Lib.hid her
    clear her hlen hz
    go_enter Tryz.func10, Tryz.ntmps10
    go_upto_region 1 with fail
    rw [show w.alloc (.cells #[.int .i64 q.k, .string q.t, .slice q.la q.ll q.lc, .slice q.na q.nl q.nc] 25) = w1 from HW1.out]
    go_wp2_with (fail)
    refine HG.out.mono ?_
    rintro e w2 ⟨rfl, hb2⟩
    have HB2 := Lib.hid hb2
    clear hb2
    go_upto_region 2 with fail
    obtain ⟨w3, hw3⟩ : ∃ x, x = w2.alloc (.cells #[.int .i64 0, .string ⟨#[]⟩, .slice none 0 0, .slice none 0 0] 25) := ⟨_, rfl⟩
    rw [← hw3]
    obtain ⟨w4, hw4⟩ : ∃ x, x = w3.alloc (.cells #[.int .i64 0, .int .i64 er] 69) := ⟨_, rfl⟩
    rw [← hw4]
    have hs3 : w3.heap.size = w2.heap.size + 1 := by rw [hw3]; simp
    have hf4 : FBox w4 (w2.heap.size + 1) 0 er := by rw [hw4, ← hs3]; exact blk_new _ _
    have hb24 : Below w2.heap.size w2 w4 := by rw [hw4, hw3]; exact ((Below.refl _ _).alloc (Nat.le_refl _) _).alloc (by simp) _
    have hb14 : Below w1.heap.size w1 w4 := HB2.out.trans (hb24.mono HB2.out.size)
    have HB4 : Hid (Below w.heap.size w w4) := Lib.hid (HBX.out.1.trans (hb14.mono (by have := HS1.out; omega)))
    obtain ⟨d0, d1, -⟩ := fbox_cells hf4
    clear hw3 hw4 hs3 hf4 hb24 hb14 HBX HW1 HG
    go_wp2_with (fail)
    go_quiet (fail)
    go_wp2_with (fail)
    go_ret2
    rw [HPR.out]
    have he := HER.out
    clear HER
    subst he
    exact ⟨HB4.out.trans ((below_drewN _ _ _).mono HB4.out.size), .inl ⟨rfl, rfl⟩⟩
end
end Go.Proofs.YthjcolehccbihaaGreatDoor
