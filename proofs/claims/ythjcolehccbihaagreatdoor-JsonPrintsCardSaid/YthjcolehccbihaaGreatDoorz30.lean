/- Plain laws: the chapter's example; texts quoted. No program in it. -/
import Derived.Test.YthjcolehccbihaaGreatDoorz00
import Derived.Test.YthjcolehccbihaaGreatDoorz29
import Derived.Lib.SlBytesConst
namespace Go.Proofs.YthjcolehccbihaaGreatDoor
def exV : JV := .mk 6 ByteArray.empty [.mk 5 ByteArray.empty [.mk 3 (str [49]) [] [], .mk 3 (str [50, 46, 53, 48, 101, 49]) [] []] [], .mk 4 (str [65, 47]) [] []] [str [98], str [97]]
theorem ex_one : parse exOne = (exV, 0, 0) := by kernel_rfl
theorem ex_two : ∃ v, parse exTwo = (v, 7, 12) := ⟨JV.zero, by kernel_rfl⟩
theorem ex_print : print exV = (some exOut, 0) := by kernel_rfl
theorem quoted_len : ∀ s : List UInt8, (s.flatMap quoteByte).length ≤ 6 * s.length
  | [] => by simp
  | c :: s => by
    have := (sign_len c).2
    have := quoted_len s
    simp only [List.flatMap_cons, List.length_append, List.length_cons]
    omega
theorem quote_size (s : List UInt8) : (quote s).length ≤ 6 * s.length + 2 := by
  have := quoted_len s
  unfold quote
  simp only [List.length_cons, List.length_append, List.length_nil]
  omega
end Go.Proofs.YthjcolehccbihaaGreatDoor
namespace Go.Proofs.YthjcolehccbihaaGreatDoor
open Go.RowKit Go.Shelf
section
variable {w : World}
set_option maxRecDepth 100000 in
set_option maxHeartbeats 8000000 in
theorem j_layObj (t : ByteArray) (l : List JV) (ns : List ByteArray) (ih : ∀ v ∈ l, LayOk v) : LayOk (.mk 6 t l ns) := by
  intro d q w B b p hc hf hj hp hB hlen
  have hqk : q.k = 6 := by simp only [JAt] at hj; exact hj.1
  obtain ⟨w1, hw1, HBX⟩ := jbox_new w q
  have HM := Lib.hid (j_layMembers d t l ns ih q w1 B b p hc hf (hj.below HBX.out.1) (hp.below HBX.out.1) (Nat.le_trans hB HBX.out.1.size) hlen)
  have HK := Lib.hid (PrK.of_below (b := b) HBX.out.1 hB)
  have HW1 := Lib.hid hw1
  obtain ⟨qk, qt, la, ll, lc, na, nl, nc⟩ := q
  simp only at hqk
  subst hqk
  obtain ⟨⟨b0, b1, b2, b3⟩, -⟩ := jbox_cells HBX.out.2
  obtain ⟨RES, hres⟩ : ∃ z, z = lay (.mk 6 t l ns) := ⟨_, rfl⟩
  rw [← hres] at HM ⊢
  clear hc hf hj hp hB hlen hw1 ih hres
  go_enter Tryz.func34, Tryz.ntmps34
  go_upto_region 1 with (fail)
  rw [show w.alloc (.cells #[.int .i64 6, .string qt, .slice la ll lc, .slice na nl nc] 25) = w1 from HW1.out]
  go_wp2_with (fail)
  refine HM.out.mono ?_
  rintro e w2 ⟨rfl, hp2, hk2⟩
  have HP2 := Lib.hid (And.intro hp2 hk2)
  clear hp2 hk2
  go_wp2_with (fail)
  go_end0
  exact ⟨rfl, HP2.out.1, HK.out.trans HP2.out.2⟩
theorem j_lay (v : JV) : LayOk v := JV.ind (P := LayOk) (fun k t l ns ih => by
  by_cases h5 : k < 5
  · exact j_layLeaf k t l ns h5
  by_cases h : k = 5
  · subst h; exact j_layArr t l ns ih
  by_cases h6 : k = 6
  · subst h6; exact j_layObj t l ns ih
  intro d q w B b p hc
  have : chk d (.mk k t l ns) = 7 := chk_own _ _ _ _ _ _ (by unfold chkOwn; rw [if_pos (.inr (by omega))]) (by decide)
  rw [this] at hc
  cases hc) v
end
end Go.Proofs.YthjcolehccbihaaGreatDoor
namespace Go.Proofs.YthjcolehccbihaaGreatDoor
open Go.RowKit Go.Shelf
section
variable {w : World}
set_option maxRecDepth 100000 in
set_option maxHeartbeats 4000000 in
theorem j_print1 {xb : Nat} {q : RawV} {v : JV} {A : Nat → Prop} (hx : JBox w xb q) (hj : JAt w A v q) (hf : v.Fit) (ht : Tabs w) :
    Calls Tryz.prog 32 #[.pointer (some ⟨xb, 0, none⟩)] w fun e w' => (if chk 0 v = 0 then e = .returned (.agg #[.int .i64 0, .string ⟨#[]⟩, .slice none 0 0, .slice none 0 0]) else e = faultE 0 (chk 0 v : Int)) ∧ Below w.heap.size w w' := by
  obtain ⟨w1, hw1, HBX⟩ := jbox_zero w
  have HC := Lib.hid (j_check v 0 q w1 A (by decide) (hj.below HBX.out.1) hf (ht.below HBX.out.1))
  have hx1 := jbox_below hx HBX.out.1
  obtain ⟨⟨b0, b1, b2, b3⟩, -⟩ := jbox_cells hx1
  have HW1 := Lib.hid hw1
  clear hx hj hf ht hw1 hx1
  go_enter Tryz.func32, Tryz.ntmps32
  go_upto_region 1 with (fail)
  rw [show w.alloc (.cells #[.int .i64 0, .string ⟨#[]⟩, .slice none 0 0, .slice none 0 0] 25) = w1 from HW1.out]
  go_wp2_with (fail)
  refine HC.out.mono ?_
  rintro e w2 ⟨he, hb2⟩
  have HB2 := Lib.hid (HBX.out.1.trans (hb2.mono HBX.out.1.size))
  have HX2 := Lib.hid (jbox_below HBX.out.2 hb2)
  clear hb2 b0 b1 b2 b3
  by_cases hz : chk 0 v = 0
  · rw [if_pos hz] at he
    subst he
    have HZ := Lib.hid hz
    obtain ⟨⟨b0, b1, b2, b3⟩, z0, z1, z2, z3⟩ := jbox_cells HX2.out
    clear hz
    go_wp2_with (fail)
    all_goals
     try (exfalso; have := HZ.out; omega)
    have hk := keeps4 w2 w.heap.size (.int .i64 0) (.string ⟨#[]⟩) (.slice none 0 0) (.slice none 0 0)
    refine bodyPost_ret (v := raw0.val) (jres_cell rfl (jbox_set HX2.out raw0) _ rfl) rfl ⟨by first | rfl | (rw [if_pos HZ.out]; rfl), below_keeps HB2.out hk (fun i e => by have e : i = w.heap.size := e; omega) HB2.out.size⟩
  · rw [if_neg hz] at he
    subst he
    refine leave_panic (P := Tryz.prog) (fn := Tryz.f32) rfl ⟨by rw [if_neg hz]; rfl, HB2.out⟩
end
end Go.Proofs.YthjcolehccbihaaGreatDoor
namespace Go.Proofs.YthjcolehccbihaaGreatDoor
open Go.RowKit Go.Shelf
theorem enters_print1 : ∀ args w, (callFunc 32 args).run Tryz.prog w = .ok (.enter 32 args) w := enters_of Tryz.func32 (P := Tryz.prog) (by kernel_rfl) rfl
theorem guard_below (w : World) : Below w.heap.size w (wGuard w) := ((Below.refl _ _).alloc (Nat.le_refl _) _).alloc (by simp) _
theorem j_guardPrint {w : World} {xb : Nat} {q : RawV} {v : JV} {A : Nat → Prop} (hx : JBox w xb q) (hj : JAt w A v q) (hf : v.Fit) (ht : Tabs w) :
    Calls Tryz.prog 31 #[.func (Fn.func 32) #[] #[.pointer (some ⟨xb, 0, none⟩)]] w fun e w' => e = .returned (.tuple #[.agg #[.int .i64 0, .string ⟨#[]⟩, .slice none 0 0, .slice none 0 0], .agg #[.int .i64 0, .int .i64 (chk 0 v : Int)]]) ∧ Below w.heap.size w w' := by
  have hb := guard_below w
  have hs : (wGuard w).heap.size = w.heap.size + 2 := by unfold wGuard; simp
  refine (j_guarded 32 enters_print1 _ w (fun _ => False) (fun h => h) (fun h => h)
    (fun e w' => (if chk 0 v = 0 then e = .returned raw0.val else e = faultE 0 (chk 0 v : Int)) ∧ Below (wGuard w).heap.size (wGuard w) w') ?_).mono ?_
  · refine (j_print1 (jbox_below hx hb) (hj.below hb) hf (ht.below hb)).mono ?_
    rintro e w' ⟨he, hw⟩
    refine ⟨Keeps.of_below hw, ⟨he, hw⟩, ?_⟩
    by_cases hz : chk 0 v = 0
    · rw [if_pos hz] at he
      exact .inl ⟨raw0, he⟩
    · rw [if_neg hz] at he
      exact .inr ⟨_, _, he⟩
  · rintro e w' ⟨w0, hk, hr⟩
    have hbw : ∀ {V : World}, Below (wGuard w).heap.size (wGuard w) V → Keeps (fun i => i = w.heap.size ∨ i = w.heap.size + 1) V w' → Below w.heap.size w w' := fun h hk => by
      have h1 : Below w.heap.size w _ := hb.trans (h.mono (by omega))
      exact below_keeps h1 hk (fun i e => by omega) h1.size
    rcases hr with ⟨q1, ⟨he, hw⟩, rfl⟩ | ⟨p, er, ⟨he, hw⟩, rfl⟩
    · by_cases hz : chk 0 v = 0
      · rw [if_pos hz] at he
        injection he with he
        rw [he, hz]
        exact ⟨rfl, hbw hw hk⟩
      · rw [if_neg hz] at he
        cases he
    · by_cases hz : chk 0 v = 0
      · rw [if_pos hz] at he
        cases he
      · rw [if_neg hz] at he
        have e4 : p = 0 ∧ er = (chk 0 v : Int) := by
          simp only [faultE, Ending.panicked.injEq, List.cons.injEq, and_true, PanicEntry.mk.injEq, Value.iface.injEq, Value.agg.injEq] at he
          simpa using he
        obtain ⟨rfl, rfl⟩ := e4
        exact ⟨rfl, hbw hw hk⟩
/-- What Print hands back. -/
def PrintedTo (w : World) (r : Option (List UInt8) × Nat) (e : Ending) (w' : World) : Prop :=
  Below w.heap.size w w' ∧ ((r.1 = none ∧ e = .returned (.tuple #[.slice none 0 0, .int .i64 (r.2 : Int)])) ∨ ∃ (l : List UInt8) (bv : Value), r.1 = some l ∧ e = .returned (.tuple #[bv, .int .i64 (r.2 : Int)]) ∧ BytesAt w' bv l)
section
variable {w : World}
theorem new_prn (w : World) : Prn w.heap.size w.heap.size [] (w.alloc (.cells #[.pointer none, .slice none 0 0] 79)) := Lib.fresh_isBuilder _ _ _
set_option maxRecDepth 100000 in
set_option maxHeartbeats 8000000 in
theorem j_print {v : JV} {q : RawV} {A : Nat → Prop} (hj : JAt w A v q) (hf : v.Fit) (ht : Tabs w) (hA : ∀ g, A g → g < w.heap.size) (hlen : chk 0 v = 0 → (lay v).length ≤ 1000000) :
    Calls Tryz.prog 10 #[.agg #[.int .i64 q.k, .string q.t, .slice q.la q.ll q.lc, .slice q.na q.nl q.nc]] w (PrintedTo w (print v)) := by
  obtain ⟨w1, hw1, HBX⟩ := jbox_new w q
  have hj1 : JAt w1 (fun g => g < w.heap.size) v q := (hj.mono hA).below HBX.out.1
  have hs1 : w1.heap.size = w.heap.size + 1 := by rw [← hw1]; simp
  have HG := Lib.hid (j_guardPrint HBX.out.2 hj1 hf (ht.below HBX.out.1))
  have HW1 := Lib.hid hw1
  have HS1 := Lib.hid hs1
  have HJ1 := Lib.hid (And.intro hj1 hf)
  clear hj ht hw1 hf hA hs1 hj1
  obtain ⟨er, her⟩ : ∃ x : Int, x = (chk 0 v : Int) := ⟨_, rfl⟩
  rw [← her] at HG
  by_cases hz : chk 0 v = 0
  · have HLEN := Lib.hid (hlen hz)
    have HZ := Lib.hid hz
    obtain rfl : er = 0 := by rw [her, hz]; rfl
    clear her hlen hz
    go_enter Tryz.func10, Tryz.ntmps10
    go_upto_region 1 with fail
    rw [show w.alloc (.cells #[.int .i64 q.k, .string q.t, .slice q.la q.ll q.lc, .slice q.na q.nl q.nc] 25) = w1 from HW1.out]
    go_wp2_with (fail)
    refine HG.out.mono ?_
    rintro e w2 ⟨rfl, hb2⟩
    have HB2 := Lib.hid hb2
    clear hb2
    go_upto_region 2 with fail
    obtain ⟨w3, hw3⟩ : ∃ x, x = w2.alloc (.cells #[.int .i64 0, .string ⟨#[]⟩, .slice none 0 0, .slice none 0 0] 25) := ⟨_, rfl⟩
    rw [← hw3]
    obtain ⟨w4, hw4⟩ : ∃ x, x = w3.alloc (.cells #[.int .i64 0, .int .i64 0] 69) := ⟨_, rfl⟩
    rw [← hw4]
    have hs3 : w3.heap.size = w2.heap.size + 1 := by rw [hw3]; simp
    have hf4 : FBox w4 (w2.heap.size + 1) 0 0 := by rw [hw4, ← hs3]; exact blk_new _ _
    have hb24 : Below w2.heap.size w2 w4 := by rw [hw4, hw3]; exact ((Below.refl _ _).alloc (Nat.le_refl _) _).alloc (by simp) _
    have hb14 : Below w1.heap.size w1 w4 := HB2.out.trans (hb24.mono HB2.out.size)
    have HX4 := Lib.hid (jbox_below HBX.out.2 hb14)
    have HJ4 := Lib.hid (HJ1.out.1.below hb14)
    have HB4 : Hid (Below w.heap.size w w4 ∧ w.heap.size < w4.heap.size) := Lib.hid ⟨HBX.out.1.trans (hb14.mono (by have := HS1.out; omega)), by have := hb14.size; have := HS1.out; omega⟩
    obtain ⟨d0, d1, -⟩ := fbox_cells hf4
    clear hw3 hw4 hs3 hf4 hb24 hb14 HBX HW1 HG
    go_upto_region 5 with fail
    obtain ⟨w5, hw5⟩ : ∃ x, x = w4.alloc (.cells #[.pointer none, .slice none 0 0] 79) := ⟨_, rfl⟩
    rw [← hw5]
    have hp5 : Prn w4.heap.size w4.heap.size [] w5 := by rw [hw5]; exact new_prn w4
    have hb45 : Below w4.heap.size w4 w5 := by rw [hw5]; exact (Below.refl _ _).alloc (Nat.le_refl _) _
    obtain ⟨b, hb⟩ : ∃ x, x = w4.heap.size := ⟨_, rfl⟩
    have HL := Lib.hid (j_lay v 0 q w5 b b [] HZ.out HJ1.out.2 ((HJ4.out.below hb45).mono (fun g hg => by have := HB4.out.2; omega)) (by rw [hb]; exact hp5) (by rw [hb]; exact hb45.size) (by have := HLEN.out; simp only [List.length_nil]; omega))
    have HB5 : Hid (Below w.heap.size w w5 ∧ w.heap.size < b) := Lib.hid ⟨HB4.out.1.trans (hb45.mono (by have := HB4.out.2; omega)), by rw [hb]; exact HB4.out.2⟩
    obtain ⟨⟨b0, b1, b2, b3⟩, -⟩ := jbox_cells (jbox_below HX4.out hb45)
    rw [← hb]
    have HPR : Hid (print v = if 65536 < (lay v).length then (none, 8) else (some (lay v), 0)) := Lib.hid (by unfold print; rw [if_neg (by have := HZ.out; omega)])
    have HNE : Hid (lay v ≠ []) := Lib.hid (by obtain ⟨c, r, e, -⟩ := lay_head HZ.out; rw [e]; simp)
    obtain ⟨L, hL⟩ : ∃ x, x = lay v := ⟨_, rfl⟩
    rw [List.nil_append, ← hL] at HL
    rw [← hL] at HPR HNE HLEN
    clear hw5 hp5 hb45 hb hL d0 d1 HX4 HJ4 HB4 HB2 HJ1 HS1
    go_wp2_with (fail)
    refine HL.out.mono ?_
    rintro e w6 ⟨rfl, hp6, hk6⟩
    have HP6 := Lib.hid hp6
    have HB6 : Hid (Below w.heap.size w w6) := Lib.hid (below_keeps HB5.out.1 hk6.keeps (fun i hi => by have := HB5.out.2; omega) HB5.out.1.size)
    obtain ⟨m, hm⟩ : ∃ x, x = L.length := ⟨_, rfl⟩
    have HLN := Lib.hid (b_len hp6)
    rw [Lib.byteCells_length, ← hm] at HLN
    have HM := Lib.hid hm
    clear hp6 hk6 HL hm b0 b1 b2 b3
    by_cases hbig : 65536 < m
    · have ht : decide ((65536 : Int) < (m : Int)) = true := by simp; omega
      have HE : Hid (print v = (none, 8)) := Lib.hid (by rw [HPR.out, if_pos (by rw [← HM.out]; exact hbig)])
      clear hbig
      go_wp2_with (first | (go_at_call 35; refine HLN.out.mono ?_; rintro e w' ⟨rfl, rfl⟩))
      go_ret2
      rw [HE.out]
      exact ⟨HB6.out, .inl ⟨rfl, rfl⟩⟩
    · have ht : decide ((65536 : Int) < (m : Int)) = false := by simp; omega
      have HE : Hid (print v = (some L, 0)) := Lib.hid (by rw [HPR.out, if_neg (by rw [← HM.out]; exact hbig)])
      have HS := Lib.hid (b_string HP6.out HNE.out)
      have HLL : Hid (L.length ≤ 1000000) := Lib.hid (by have := HM.out; omega)
      clear hbig
      go_wp2_with (first
        | (go_at_call 35; refine HLN.out.mono ?_; rintro e w' ⟨rfl, rfl⟩)
        | (go_at_call 36; refine HS.out.mono ?_; rintro e w7 ⟨rfl, hb7⟩
           obtain ⟨cap, w8, hcv, hb8, hs8, hy8⟩ := conv_bytes w7 ⟨L.toArray⟩ (by show L.toArray.size ≤ 1000000; rw [List.size_toArray]; exact HLL.out)
           have HB7 := Lib.hid hb7
           have HB8 := Lib.hid (And.intro hb8 hy8)
           clear hb7 hb8 hs8 hy8))
      go_ret2
      rw [HE.out]
      have hz6 := HB6.out.size
      have hz5 := HB5.out.2
      have hz7 := HB7.out.size
      refine ⟨(HB6.out.trans (HB7.out.mono (by omega))).trans (HB8.out.1.mono (by omega)), .inr ⟨L, _, rfl, rfl, ?_⟩⟩
      have := HB8.out.2
      rw [show raw ⟨L.toArray⟩ = L from str_toList L] at this
      exact this
  · have HNZ := Lib.hid hz
    have hne : er ≠ 0 := by rw [her]; omega
    have h1 : decide (er = 0) = false := by simp [hne]
    have h2 : (er != 0) = true := by simp [hne]
    have h3 : (er == 0) = false := by simp [hne]
    have HPR : Hid (print v = (none, chk 0 v)) := Lib.hid (by unfold print; rw [if_pos hz])
    have HER := Lib.hid her
    clear her hlen hz
    go_enter Tryz.func10, Tryz.ntmps10
    go_upto_region 1 with fail
    rw [show w.alloc (.cells #[.int .i64 q.k, .string q.t, .slice q.la q.ll q.lc, .slice q.na q.nl q.nc] 25) = w1 from HW1.out]
    go_wp2_with (fail)
    refine HG.out.mono ?_
    rintro e w2 ⟨rfl, hb2⟩
    have HB2 := Lib.hid hb2
    clear hb2
    go_upto_region 2 with fail
    obtain ⟨w3, hw3⟩ : ∃ x, x = w2.alloc (.cells #[.int .i64 0, .string ⟨#[]⟩, .slice none 0 0, .slice none 0 0] 25) := ⟨_, rfl⟩
    rw [← hw3]
    obtain ⟨w4, hw4⟩ : ∃ x, x = w3.alloc (.cells #[.int .i64 0, .int .i64 er] 69) := ⟨_, rfl⟩
    rw [← hw4]
    have hs3 : w3.heap.size = w2.heap.size + 1 := by rw [hw3]; simp
    have hf4 : FBox w4 (w2.heap.size + 1) 0 er := by rw [hw4, ← hs3]; exact blk_new _ _
    have hb24 : Below w2.heap.size w2 w4 := by rw [hw4, hw3]; exact ((Below.refl _ _).alloc (Nat.le_refl _) _).alloc (by simp) _
    have hb14 : Below w1.heap.size w1 w4 := HB2.out.trans (hb24.mono HB2.out.size)
    have HB4 : Hid (Below w.heap.size w w4) := Lib.hid (HBX.out.1.trans (hb14.mono (by have := HS1.out; omega)))
    obtain ⟨d0, d1, -⟩ := fbox_cells hf4
    clear hw3 hw4 hs3 hf4 hb24 hb14 HBX HW1 HG
    go_wp2_with (fail)
    go_quiet (fail)
    go_wp2_with (fail)
    go_ret2
    rw [HPR.out]
    have he := HER.out
    clear HER
    subst he
    exact ⟨HB4.out.trans ((below_drewN _ _ _).mono HB4.out.size), .inl ⟨rfl, rfl⟩⟩
end
end Go.Proofs.YthjcolehccbihaaGreatDoor
namespace Go.Proofs.YthjcolehccbihaaGreatDoor
open Go.RowKit Go.Shelf
abbrev litObj (ys : List UInt8) : Obj := .cells (ys.map fun b => Value.int .u8 (b.toNat : Int)).toArray 5 (ys.length, ys.length + 1)
theorem lit_bytes (W : World) (ys : List UInt8) (hy : ys.length ≤ 1000) : BytesAt (W.alloc (litObj ys)) (.slice (some ⟨W.heap.size, 0, none⟩) ys.length ys.length) ys := by
  refine ⟨⟨_, _, rfl, fun j x hx => ⟨W.heap.size, 0, rfl, fun i hi => ?_⟩⟩, by omega, fun a n cap e => ?_⟩
  · have hi0 : i = 0 := by have : i < 1 := hi; omega
    subst hi0
    have hb := heap_alloc_new W (litObj ys)
    have hc : (W.alloc (litObj ys)).cell? ⟨W.heap.size, 0 + j * 1 + 0, none⟩ = ((ys.map fun b => Value.int .u8 (b.toNat : Int)).toArray)[0 + j * 1 + 0]? := by simp only [World.cell?, hb]; rw [if_neg (by simp)]
    refine hc.trans ?_
    simp [hx, byteKind]
  · injection e with e1 e2 e3
    omega
theorem lit_below (w : World) (ys : List UInt8) : Below w.heap.size w (w.alloc (litObj ys)) := (Below.refl _ _).alloc (Nat.le_refl _) _
theorem r_num (w : World) (n : Int) : Calls Tryz.prog 11 #[.int .i64 n] w fun e w' => e = .returned (.int .i64 n) ∧ w = w' := by
  go_enter Tryz.func11, Tryz.ntmps11
  go_wp2
  go_ret
  exact ⟨rfl, rfl⟩
section
variable {w : World}
theorem parse_one (ht : Tabs w) : Calls Tryz.prog 12 #[.slice (some ⟨w.heap.size, 0, none⟩) 37 37] (w.alloc (litObj exOne)) fun e w' =>
    ∃ q : RawV, e = .returned (.tuple #[.agg #[.int .i64 q.k, .string q.t, .slice q.la q.ll q.lc, .slice q.na q.nl q.nc], .int .i64 0, .int .i64 0]) ∧ Hid (JAt w' (fun g => w.heap.size ≤ g) exV q ∧ Below w.heap.size w w') := by
  have hb := lit_below w exOne
  refine (j_parse (lit_bytes w exOne (by decide)) (ht.below hb)).mono ?_
  rw [ex_one]
  rintro e w' ⟨q, rfl, hj, hb2⟩
  exact ⟨q, rfl, Lib.hid ⟨hj.mono (fun g hg => by have := hb.size; omega), hb.trans (hb2.mono hb.size)⟩⟩
theorem parse_two (ht : Tabs w) : Calls Tryz.prog 12 #[.slice (some ⟨w.heap.size, 0, none⟩) 13 13] (w.alloc (litObj exTwo)) fun e w' =>
    ∃ q : RawV, e = .returned (.tuple #[.agg #[.int .i64 q.k, .string q.t, .slice q.la q.ll q.lc, .slice q.na q.nl q.nc], .int .i64 7, .int .i64 12]) ∧ Hid (Below w.heap.size w w') := by
  have hb := lit_below w exTwo
  refine (j_parse (lit_bytes w exTwo (by decide)) (ht.below hb)).mono ?_
  obtain ⟨v, hv⟩ := ex_two
  rw [hv]
  rintro e w' ⟨q, rfl, hj, hb2⟩
  exact ⟨q, rfl, Lib.hid (hb.trans (hb2.mono hb.size))⟩
theorem exV_fit : exV.Fit := by
  simp only [exV, JV.Fit, FitAll]
  decide
theorem print_one {q : RawV} {A : Nat → Prop} (hj : JAt w A exV q) (ht : Tabs w) (hA : ∀ g, A g → g < w.heap.size) :
    Calls Tryz.prog 10 #[.agg #[.int .i64 q.k, .string q.t, .slice q.la q.ll q.lc, .slice q.na q.nl q.nc]] w fun e w' =>
      ∃ (a : Option Addr) (n cap : Nat), e = .returned (.tuple #[.slice a n cap, .int .i64 0]) ∧ Hid (BytesAt w' (.slice a n cap) exOut ∧ n = exOut.length ∧ Below w.heap.size w w') := by
  refine (j_print hj exV_fit ht hA (fun _ => by decide +kernel)).mono ?_
  rw [ex_print]
  rintro e w' ⟨hb, ⟨h, -⟩ | ⟨l, bv, h, rfl, hl⟩⟩
  · cases h
  · cases h
    obtain ⟨a, cap, rfl, -⟩ := hl.rd
    exact ⟨a, _, cap, rfl, Lib.hid ⟨hl, rfl, hb⟩⟩
set_option maxRecDepth 100000 in
set_option maxHeartbeats 4000000 in
theorem x_first (ht : Tabs w) : Calls Tryz.prog 8 #[] w fun e w' => e = .returned (.bool true) ∧ Below w.heap.size w w' := by
  have kc := fun (w : World) (C : Array Value) (n c : Nat) => Lib.run_convert_bytes_const (P := Tryz.prog) w 26 5 C n c Tryz.underlying26 Tryz.underlying5
  have HT := Lib.hid ht
  clear ht
  go_enter Tryz.func8, Tryz.ntmps8
  go_wp2_with (fail)
  refine (parse_one HT.out).mono ?_
  rintro e w1 ⟨q, rfl, HQ⟩
  obtain ⟨w2, hw2, HBX⟩ := jbox_new w1 q
  have HW2 := Lib.hid hw2
  have HB2 : Hid (Below w.heap.size w w2) := Lib.hid (HQ.out.2.trans (HBX.out.1.mono HQ.out.2.size))
  have hs2 : w2.heap.size = w1.heap.size + 1 := by rw [← hw2]; simp
  have HP := Lib.hid (print_one (HQ.out.1.lt.below HBX.out.1) (HT.out.below HB2.out) (fun g hg => by have := hg.2; omega))
  clear hw2 hs2
  go_upto_region 2 with fail
  rw [HW2.out]
  obtain ⟨⟨b0, b1, b2, b3⟩, -⟩ := jbox_cells HBX.out.2
  go_wp2_with (fail)
  refine HP.out.mono ?_
  rintro e w3 ⟨a, n, cap, rfl, HO⟩
  have HB3 : Hid (Below w.heap.size w w3) := Lib.hid (HB2.out.trans (HO.out.2.2.mono HB2.out.size))
  clear b0 b1 b2 b3 HP HW2
  go_wp2_with (fail)
  refine (parse_two (HT.out.below HB3.out)).mono ?_
  rintro e w4 ⟨q2, rfl, HQ2⟩
  obtain ⟨w5, hw5, HBX5⟩ := jbox_new w4 q2
  have HW5 := Lib.hid hw5
  have HB4 : Hid (Below w.heap.size w w4) := Lib.hid (HB3.out.trans (HQ2.out.mono HB3.out.size))
  have HB5 : Hid (Below w.heap.size w w5) := Lib.hid (HB4.out.trans (HBX5.out.1.mono HB4.out.size))
  obtain ⟨hb3, rfl, -⟩ := HO.out
  have hcv := run_text (hb3.rd.below (HQ2.out.trans (HBX5.out.1.mono HQ2.out.size)))
  clear hw5 hb3
  go_upto_region 4 with fail
  rw [HW5.out]
  clear HBX HBX5 HQ HQ2 HO
  go_wp2_with (first | (go_at_call 11; refine (r_num _ _).mono ?_; rintro e w' ⟨rfl, rfl⟩))
  go_ret
  exact ⟨rfl, HB5.out⟩
end
end Go.Proofs.YthjcolehccbihaaGreatDoor
