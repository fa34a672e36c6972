/- The walk of what a JSON value is looked at with: unless, literal, UTF-8. -/
import Derived.Test.YthjcolehccbihaaGreatDoorz18
import Derived.Lib.ConvBytes
namespace Go.Proofs.YthjcolehccbihaaGreatDoor
open Go.RowKit Go.Shelf
theorem j_unless (w : World) (b : Bool) (e : Int) : Calls Tryz.prog 59 #[.bool b, .int .i64 e] w fun en w' => (if b then en = .returned (.tuple #[]) else en = faultE 0 e) ∧ w = w' := by
  cases b with
  | true =>
    go_enter Tryz.func59, Tryz.ntmps59
    go_wp2
    go_end0
    exact ⟨rfl, rfl⟩
  | false =>
    go_enter Tryz.func59, Tryz.ntmps59
    go_wp2
    refine leave_panic rfl ?_
    exact ⟨rfl, rfl⟩
theorem u_validString {w : World} (s : ByteArray) (hs : s.size ≤ 9223372036854775807) (hT : Tabs w) : Calls Tryz.prog 61 #[.string s] w fun e w' => e = .returned (.bool (valid (raw s))) ∧ Below w.heap.size w w' := by
  have := Any.utf8_ValidString Tryz.laysValid s w hs hT
  rw [validD_eq] at this
  exact this
/-- []byte(s). -/
theorem conv_bytes (w : World) (s : ByteArray) (hs : s.size ≤ 1000000) : ∃ (cap : Nat) (W : World), (convert 9 26 (.string s)).run Tryz.prog w = .ok (.slice (some ⟨w.heap.size, 0, none⟩) s.size cap) W ∧ Below w.heap.size w W ∧ W.heap.size = w.heap.size + 1 ∧
    BytesAt W (.slice (some ⟨w.heap.size, 0, none⟩) s.size cap) (raw s) := by
  refine ⟨_, _, Lib.run_convert_string_bytes w 9 26 5 s Tryz.underlying9 Tryz.underlying26 Tryz.underlying5, ?_, Lib.bytesWorld_size _ _ _, ?_⟩
  · exact ⟨rfl, rfl, rfl, by rw [Lib.bytesWorld_size]; omega, fun i hi => Lib.bytesWorld_at_old _ _ _ _ hi⟩
  · have hl : (raw s).length = s.size := rfl
    refine ⟨⟨_, _, by rw [hl], fun j x hj => ⟨_, _, rfl, fun i hi => ?_⟩⟩, by rw [hl]; exact hs, fun a n cap e => ?_⟩
    · have hj2 : j < s.size := by
        have := (List.getElem?_eq_some_iff.1 hj).1
        omega
      have h0 : i = 0 := by have : i < 1 := hi; omega
      subst h0
      have := Lib.bytesWorld_cell w 5 s j hj2
      rw [show s.data.toList.getD j 0 = x from by rw [List.getD_eq_getElem?_getD]; exact (by show (raw s)[j]?.getD 0 = x; rw [hj]; rfl)] at this
      simpa [byteKind] using this
    · injection e with e1 e2 e3
      rw [← e3, hl]
      exact ⟨grownCap_ge _ _ _ _, Nat.le_trans (grownCap_le_maxLen _ _ _ _ (by unfold maxLen; omega)) (by unfold maxLen; omega)⟩
def Out.Told {α : Type} (o : Out α) : Prop := ∀ p e, o = .bad p e → e ≠ 0
theorem Out.Told.bind {α β : Type} {o : Out α} {f : α → List UInt8 → Out β} (h : o.Told) (hf : ∀ x l, (f x l).Told) : (o.andThen f).Told := by
  intro p e h1
  cases o with
  | ok x l => exact hf x l p e h1
  | bad p' e' => cases h1; exact h _ _ rfl
theorem told_ok {α : Type} (x : α) (l : List UInt8) : (Out.ok x l).Told := fun _ _ h => by cases h
theorem told_bad {α : Type} (p e : Nat) (he : e ≠ 0) : (Out.bad (α := α) p e).Told := fun _ _ h => by cases h; exact he
theorem some1_told : ∀ l, (some1 l).Told
  | [] => told_bad _ _ (by decide)
  | c :: l => by
    unfold some1
    dsimp only
    split
    · exact told_ok _ _
    · exact told_bad _ _ (by decide)
theorem number_told (l : List UInt8) : (number l).Told := by
  unfold number
  refine Out.Told.bind ?_ fun _ r => ?_
  · unfold numRest
    refine Out.Told.bind ?_ fun _ r => Out.Told.bind ?_ fun _ r => ?_
    · unfold numWhole
      split
      · exact told_ok _ _
      · exact some1_told _
    · unfold numFrac
      split
      · exact some1_told _
      · exact told_ok _ _
    · unfold numExp
      split
      · exact some1_told _
      · exact told_ok _ _
  · split
    · exact told_bad _ _ (by decide)
    · exact told_ok _ _
section
variable {w : World} {rb pb : Nat} {bv : Value} {bs : List UInt8}
set_option maxRecDepth 100000 in
set_option maxHeartbeats 4000000 in
theorem j_literal1 (h : Rdr w rb bv bs bs) (hp : IsBlk w pb #[.pointer (some ⟨rb, 0, none⟩)] 83) : Calls Tryz.prog 87 #[.pointer (some ⟨pb, 0, none⟩)] w (ROut rb bv bs w (VJ w.heap.size) (number bs)) := by
  obtain ⟨w1, hw1, HBX⟩ := jbox_zero w
  have HI1 : Hid (ValI w w1 rb bv bs bs) := Lib.hid ⟨h.below HBX.out.1, (Keeps.refl _ _).below HBX.out.1, HBX.out.2, h.lt, h.glt⟩
  have HP1 : Hid (IsBlk w1 pb #[.pointer (some ⟨rb, 0, none⟩)] 83) := Lib.hid ((HBX.out.1.block _ (lt_of_block hp)).trans hp)
  have HW1 := Lib.hid hw1
  clear hw1 h HBX hp
  obtain ⟨RES, hres⟩ : ∃ o, o = number bs := ⟨_, rfl⟩
  rw [← hres]
  have HRES := Lib.hid hres
  clear hres
  go_enter Tryz.func87, Tryz.ntmps87
  go_upto_region 1 with fail
  rw [show w.alloc (.cells #[.int .i64 0, .string ⟨#[]⟩, .slice none 0 0, .slice none 0 0] 25) = w1 from HW1.out]
  have c1 : w1.cell? ⟨pb, 0, none⟩ = some (.pointer (some ⟨rb, 0, none⟩)) := blk_cell HP1.out 0
  have HNB := Lib.hid (j_number HI1.out.rdr)
  go_wp2_with (fail)
  refine HNB.out.mono ?_
  intro e w2 hp
  cases ho : number bs with
  | bad p er =>
    have HE : Hid (RES = .bad p er) := Lib.hid (by rw [HRES.out, ho])
    rw [ho] at hp
    obtain ⟨rfl, hk⟩ := hp
    refine leave_panic (P := Tryz.prog) (fn := Tryz.f87) rfl ?_
    rw [HE.out]
    exact ⟨rfl, HI1.out.keep.trans' hk⟩
  | ok v l3 =>
    have HE : Hid (RES = .ok v l3) := Lib.hid (by rw [HRES.out, ho])
    rw [ho] at hp
    obtain ⟨⟨v3, rfl, q, hv3, hq⟩, hr3, hk3⟩ := hp
    replace hv3 : v3 = .agg #[.int .i64 q.k, .string q.t, .slice q.la q.ll q.lc, .slice q.na q.nl q.nc] := hv3
    subst hv3
    have HI2 := Lib.hid (HI1.out.step hr3 hk3)
    have HQ := Lib.hid (hq.mono (A' := fun g => w.heap.size < g) (fun g hg => by have := HI1.out.size; omega))
    clear hr3 hk3 HNB ho HI1 hq c1
    obtain ⟨⟨b0, b1, b2, b3⟩, z0, z1, z2, z3⟩ := jbox_cells HI2.out.res
    go_wp2_with (fail)
    have hf := HI2.out.fin HQ.out
    refine bodyPost_ret (v := q.val) (jres_cell rfl hf.1 _ rfl) rfl ?_
    rw [HE.out]
    exact hf.2
end
theorem enters_literal1 : ∀ args w, (callFunc 87 args).run Tryz.prog w = .ok (.enter 87 args) w := enters_of Tryz.func87 (P := Tryz.prog) (by kernel_rfl) rfl
/-- Reader and variable, as a guarded reading finds them. -/
theorem read_worlds {w1 : World} {bv : Value} {bs : List UInt8} (h : BytesAt w1 bv bs) (ht : Tabs w1) : Rdr (wGuard (wRead w1 bv)) w1.heap.size bv bs bs ∧ IsBlk (wGuard (wRead w1 bv)) (w1.heap.size + 1) #[.pointer (some ⟨w1.heap.size, 0, none⟩)] 83 ∧
    (wRead w1 bv).heap.size = w1.heap.size + 2 ∧ Below w1.heap.size w1 (wGuard (wRead w1 bv)) := by
  have hb1 : Below w1.heap.size w1 (w1.alloc (.cells #[bv, .int .i64 0] 85)) := (Below.refl _ _).alloc (Nat.le_refl _) _
  have hk1 := blk_new w1 (.cells #[bv, .int .i64 0] 85)
  have hz1 : (w1.alloc (.cells #[bv, .int .i64 0] 85)).heap.size = w1.heap.size + 1 := by simp
  have hb2 : Below (w1.heap.size + 1) (w1.alloc (.cells #[bv, .int .i64 0] 85)) (wRead w1 bv) := by
    have := (Below.refl (w1.alloc (.cells #[bv, .int .i64 0] 85)).heap.size (w1.alloc (.cells #[bv, .int .i64 0] 85))).alloc (Nat.le_refl _) (.cells #[.pointer (some ⟨w1.heap.size, 0, none⟩)] 83)
    rw [hz1] at this
    exact this
  have hk2 : IsBlk (wRead w1 bv) (w1.heap.size + 1) #[.pointer (some ⟨w1.heap.size, 0, none⟩)] 83 := by
    have := blk_new (w1.alloc (.cells #[bv, .int .i64 0] 85)) (.cells #[.pointer (some ⟨w1.heap.size, 0, none⟩)] 83)
    rw [hz1] at this
    exact this
  have hz2 : (wRead w1 bv).heap.size = w1.heap.size + 2 := by unfold wRead; simp
  have hbb : Below w1.heap.size w1 (wRead w1 bv) := hb1.trans (hb2.mono (by omega))
  have hg3 : Below (wRead w1 bv).heap.size (wRead w1 bv) (wGuard (wRead w1 bv)) := ((Below.refl _ _).alloc (Nat.le_refl _) _).alloc (by simp) _
  have hbg : Below w1.heap.size w1 (wGuard (wRead w1 bv)) := hbb.trans (hg3.mono (by omega))
  refine ⟨?_, (hg3.block _ (by omega)).trans hk2, hz2, hbg⟩
  have e : IsBlk (wGuard (wRead w1 bv)) w1.heap.size #[bv, .int .i64 0] 85 := (hg3.block _ (by omega)).trans ((hb2.block _ (by omega)).trans hk1)
  refine ⟨by simpa using e, h.rd.below hbg, List.suffix_refl _, h.len, fun g hg hb => ?_, ht.below hbg, ht.lt, h.room⟩
  have := h.rd.lt hb hg
  omega
theorem j_guardNum {w1 : World} {bv : Value} {bs : List UInt8} (h : BytesAt w1 bv bs) (ht : Tabs w1) : Calls Tryz.prog 31 #[.func (Fn.func 87) #[] #[.pointer (some ⟨w1.heap.size + 1, 0, none⟩)]] (wRead w1 bv) fun e w' =>
    ∃ (q : RawV) (p er : Int), e = .returned (.tuple #[.agg #[.int .i64 q.k, .string q.t, .slice q.la q.ll q.lc, .slice q.na q.nl q.nc], .agg #[.int .i64 p, .int .i64 er]]) ∧ Hid (Below w1.heap.size w1 w') ∧
      ((er ≠ 0 ∧ Hid (literal bs = false)) ∨ (er = 0 ∧ ∃ k : Int, Hid (IsBlk w' w1.heap.size #[bv, .int .i64 k] 85 ∧ IsBlk w' (w1.heap.size + 1) #[.pointer (some ⟨w1.heap.size, 0, none⟩)] 83 ∧ literal bs = (k == (bs.length : Int))))) := by
  obtain ⟨hrd, hp, hz2, hbg⟩ := read_worlds h ht
  refine (j_guarded 87 enters_literal1 _ (wRead w1 bv) (Only w1.heap.size) (fun e => by have e : (wRead w1 bv).heap.size = w1.heap.size := e; omega) (fun e => by have e : (wRead w1 bv).heap.size + 1 = w1.heap.size := e; omega)
    (ROut w1.heap.size bv bs (wGuard (wRead w1 bv)) (VJ (wGuard (wRead w1 bv)).heap.size) (number bs)) ?_).mono ?_
  · refine (j_literal1 hrd hp).mono ?_
    intro e w' hr
    cases ho : number bs with
    | ok v r =>
      rw [ho] at hr
      obtain ⟨⟨v3, rfl, q, hv3, hq⟩, hr3, hk3⟩ := hr
      exact ⟨hk3, ⟨⟨v3, rfl, q, hv3, hq⟩, hr3, hk3⟩, .inl ⟨q, by rw [hv3]; rfl⟩⟩
    | bad p er =>
      rw [ho] at hr
      obtain ⟨rfl, hk⟩ := hr
      exact ⟨hk, ⟨rfl, hk⟩, .inr ⟨_, _, rfl⟩⟩
  · rintro e w' ⟨w0, hk, hr⟩
    have hbw : ∀ {V : World}, Keeps (Only w1.heap.size) (wGuard (wRead w1 bv)) V → Below w1.heap.size w1 V := fun hk => below_keeps hbg hk (fun i e => by have e : i = w1.heap.size := e; omega) hbg.size
    cases ho : number bs with
    | ok v r =>
      rw [ho] at hr
      rcases hr with ⟨q, ⟨⟨v3, e3, q3, hv3, hq⟩, hr3, hk3⟩, rfl⟩ | ⟨p, er, ⟨⟨v3, e3, _⟩, _⟩, rfl⟩
      · injection e3 with e3
        refine ⟨q, 0, 0, rfl, Lib.hid (below_keeps (hbw hk3) hk (fun i e => by omega) (hbw hk3).size), .inr ⟨rfl, _, Lib.hid ⟨hk.obj hr3.blk (fun e => by omega), hk.obj (hk3.obj hp (fun e => by have e : w1.heap.size + 1 = w1.heap.size := e; omega)) (fun e => by omega), ?_⟩⟩⟩
        unfold literal
        rw [ho]
        have := suf_len hr3.suf
        cases r with
        | nil => simp
        | cons c r => simp only [List.length_cons] at this ⊢; symm; simp; omega
      · cases e3
    | bad p er =>
      rw [ho] at hr
      rcases hr with ⟨q, ⟨e3, _⟩, rfl⟩ | ⟨p', er', ⟨e3, hk3⟩, rfl⟩
      · cases e3
      · have e4 : p' = ((bs.length - p : Nat) : Int) ∧ er' = (er : Int) := by
          simp only [faultE, Ending.panicked.injEq, List.cons.injEq, and_true, PanicEntry.mk.injEq, Value.iface.injEq, Value.agg.injEq] at e3
          simpa using e3
        obtain ⟨rfl, rfl⟩ := e4
        have := number_told bs p er ho
        exact ⟨raw0, _, _, rfl, Lib.hid (below_keeps (hbw hk3) hk (fun i e => by omega) (hbw hk3).size), .inl ⟨by omega, Lib.hid (by unfold literal; rw [ho])⟩⟩
end Go.Proofs.YthjcolehccbihaaGreatDoor
namespace Go.Proofs.YthjcolehccbihaaGreatDoor
open Go.RowKit Go.Shelf
section
variable {w : World}
set_option maxRecDepth 100000 in
set_option maxHeartbeats 4000000 in
theorem j_literal (s : ByteArray) (hs : s.size ≤ 1000000) (ht : Tabs w) : Calls Tryz.prog 60 #[.string s] w fun e w' => e = .returned (.bool (literal (raw s))) ∧ Below w.heap.size w w' := by
  obtain ⟨cap, W, hcv, hb, hz, hbs⟩ := conv_bytes w s hs
  have HB := Lib.hid hb
  have HZ := Lib.hid hz
  have HBS := Lib.hid hbs
  have HT := Lib.hid (ht.below hb)
  have HL : Hid ((raw s).length = s.size) := Lib.hid rfl
  clear hb hz hbs ht hs
  obtain ⟨RES, hres⟩ : ∃ o, o = literal (raw s) := ⟨_, rfl⟩
  rw [← hres]
  have HRES := Lib.hid hres
  clear hres
  go_enter Tryz.func60, Tryz.ntmps60
  go_upto_region 2 with (fail)
  clear hcv
  go_wp2_with (fail)
  refine (j_guardNum HBS.out HT.out).mono ?_
  rintro e w2 ⟨q, p, er, rfl, HW, hq⟩
  obtain ⟨w3, hw3, HB3⟩ := jbox_new w2 q
  have hz3 : w3.heap.size = w2.heap.size + 1 := by rw [← hw3]; simp
  obtain ⟨w4, hw4⟩ : ∃ x, w3.alloc (.cells #[.int .i64 p, .int .i64 er] 69) = x := ⟨_, rfl⟩
  have hb4 : Below w3.heap.size w3 w4 := by rw [← hw4]; exact (Below.refl _ _).alloc (Nat.le_refl _) _
  have hf4 : FBox w4 (w2.heap.size + 1) p er := by rw [← hw4, ← hz3]; exact blk_new _ _
  have hb24 : Below w2.heap.size w2 w4 := HB3.out.1.trans (hb4.mono HB3.out.1.size)
  have HB4 : Hid (Below w.heap.size w w4) := Lib.hid (HB.out.trans ((HW.out.trans (hb24.mono HW.out.size)).mono (by have := HB.out.size; omega)))
  have HW3 := Lib.hid (And.intro hw3 hw4)
  rcases hq with ⟨hne, HN⟩ | ⟨rfl, k, HK⟩
  · have h0 : (er == 0) = false := by simpa using hne
    obtain ⟨d0, d1, -⟩ := fbox_cells hf4
    clear hw3 hw4 hz3 hb4 hf4 hb24 hne HB3
    go_upto_region 3 with (fail)
    rw [HW3.out.1, HW3.out.2]
    go_wp2_with (fail)
    go_ret
    exact ⟨by rw [HRES.out, HN.out]; rfl, HB4.out⟩
  · obtain ⟨d0, d1, -⟩ := fbox_cells hf4
    have g0 : w4.cell? ⟨W.heap.size + 1, 0, none⟩ = some (.pointer (some ⟨W.heap.size, 0, none⟩)) := blk_cell ((hb24.block _ (lt_of_block HK.out.2.1)).trans HK.out.2.1) 0
    have g1 : w4.cell? ⟨W.heap.size, 1, none⟩ = some (.int .i64 k) := blk_cell ((hb24.block _ (lt_of_block HK.out.1)).trans HK.out.1) 1
    obtain ⟨b, hb⟩ : ∃ b, b = (k == (s.size : Int)) := ⟨_, rfl⟩
    have hb' := hb.symm
    have HBB : Hid (RES = b) := Lib.hid (by rw [HRES.out, HK.out.2.2, hb, HL.out])
    clear hw3 hw4 hz3 hb4 hf4 hb24 HB3 hb
    go_upto_region 3 with (fail)
    rw [HW3.out.1, HW3.out.2]
    cases b
    all_goals
      go_wp2_with (fail)
      go_ret
      exact ⟨by rw [HBB.out]; rfl, HB4.out⟩
end
end Go.Proofs.YthjcolehccbihaaGreatDoor
