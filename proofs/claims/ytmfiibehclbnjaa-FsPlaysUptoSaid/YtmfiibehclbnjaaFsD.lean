/- The walks of the file system's writes: Append, Truncate, Remove. -/
import Derived.Test.YtmfiibehclbnjaaFsC
namespace Go.Proofs.Ytmfiibehclbnjaa
open Go.RowKit Go.Shelf

theorem alloc2 (w : World) (o1 o2 : Obj) : Below w.heap.size w ((w.alloc o1).alloc o2) ∧ ((w.alloc o1).alloc o2).heap[w.heap.size]? = some o1 ∧ ((w.alloc o1).alloc o2).heap[w.heap.size + 1]? = some o2 ∧ ((w.alloc o1).alloc o2).heap.size = w.heap.size + 2 := by
  have q := blk_new (w.alloc o1) o2
  rw [World.size_alloc] at q
  exact ⟨((Below.refl _ _).alloc (Nat.le_refl _) _).alloc (by simp) _, blk_alloc (blk_new w o1), q, by simp⟩
theorem alloc3 (w : World) (o1 o2 o3 : Obj) : Below w.heap.size w (((w.alloc o1).alloc o2).alloc o3) ∧ (((w.alloc o1).alloc o2).alloc o3).heap[w.heap.size]? = some o1 ∧ (((w.alloc o1).alloc o2).alloc o3).heap[w.heap.size + 1]? = some o2 ∧
    (((w.alloc o1).alloc o2).alloc o3).heap[w.heap.size + 2]? = some o3 ∧ (((w.alloc o1).alloc o2).alloc o3).heap.size = w.heap.size + 3 := by
  obtain ⟨h1, h2, h3, h4⟩ := alloc2 w o1 o2
  have q := blk_new ((w.alloc o1).alloc o2) o3
  rw [h4] at q
  exact ⟨h1.alloc (by omega) _, blk_alloc h2, blk_alloc h3, q, by rw [World.size_alloc, h4]⟩
theorem alloc4 (w : World) (o1 o2 o3 o4 : Obj) : Below w.heap.size w ((((w.alloc o1).alloc o2).alloc o3).alloc o4) ∧ ((((w.alloc o1).alloc o2).alloc o3).alloc o4).heap[w.heap.size]? = some o1 ∧ ((((w.alloc o1).alloc o2).alloc o3).alloc o4).heap[w.heap.size + 1]? = some o2 ∧
    ((((w.alloc o1).alloc o2).alloc o3).alloc o4).heap[w.heap.size + 2]? = some o3 ∧ ((((w.alloc o1).alloc o2).alloc o3).alloc o4).heap[w.heap.size + 3]? = some o4 ∧ ((((w.alloc o1).alloc o2).alloc o3).alloc o4).heap.size = w.heap.size + 4 := by
  obtain ⟨h1, h2, h3, h4, h5⟩ := alloc3 w o1 o2 o3
  have q := blk_new (((w.alloc o1).alloc o2).alloc o3) o4
  rw [h5] at q
  exact ⟨h1.alloc (by omega) _, blk_alloc h2, blk_alloc h3, blk_alloc h4, q, by rw [World.size_alloc, h5]⟩
section
variable {w : World} {fb mb : Nat} {F : FsS} {S : Nat → Prop} {rs : List (ByteArray × Pl)}
theorem f_ofH (h : FsAt w fb F S mb rs) (n : ByteArray) : Hid (∀ W, Below w.heap.size w W → Calls Try.prog 48 #[.pointer (some ⟨fb, 0, none⟩), .string n] W fun e w' => e = .returned (ofRes F.down (findL slt rs n)) ∧ W = w') :=
  Lib.hid fun _ hW => f_of (h.below hW) n
theorem fs_on (h : FsAt w fb F S mb rs) (n : ByteArray) (k : FileS → FsS × Int) : F.on n k = if F.down then (F, 5) else match findL slt rs n with | none => (F, 2) | some p => k p.fl := by
  unfold FsS.on
  rw [h.find]
  cases F.down with
  | true => rfl
  | false => cases findL slt rs n <;> rfl
theorem FsAt.unkept {W w1 : World} (hk : Keeps (Only fb) W w1) (h : FsAt W fb F S mb rs) {b : Nat} {cs : Array Value} {T : TypeId} (hb : IsBlk W b cs T) (hT : T ≠ 73) : IsBlk w1 b cs T :=
  hk.obj hb fun e => blk_ne_type hb h.blk hT e

/-- Bytes do not lie in the file system's own block. -/
theorem bytes_not_fs {u : Value} {ys : List UInt8} (hu : RdAt byteKind w u ys) (h : FsAt w fb F S mb rs) : ∀ g, u.ownBlock = some g → ys ≠ [] → ¬ Only fb g := by
  rintro g hg hy rfl
  obtain ⟨off, x, hc⟩ := hu.first hy hg
  rw [blk_cell h.blk] at hc
  have hc : (fsCells F mb)[off]? = some (.int .u8 (x.toNat : Int)) := hc
  match off with
  | 0 | 1 | 2 | 3 | 4 | 5 => simp [fsCells] at hc
  | n + 6 => simp [fsCells] at hc
set_option maxRecDepth 100000 in
set_option maxHeartbeats 2000000 in
theorem f_append (h : FsAt w fb F S mb rs) {k : Nat} (ho : FsOk F k) (hk : k < 1000000) (n : ByteArray) {u : Value} {ys : List UInt8} (hu : RdAt byteKind w u ys) (hy : ys.length ≤ 9223372036854775807) :
    Calls Try.prog 32 #[.pointer (some ⟨fb, 0, none⟩), .string n, u] w fun e w' => e = .returned (.int .i64 (F.append n ys).2) ∧ FsPost w fb (F.append n ys).1 S w' := by
  have HOF := f_ofH h n
  have H := Lib.hid h
  have HO := Lib.hid ho
  have HU := Lib.hid hu
  have eg := enters_of Try.func58 (P := Try.prog) (by kernel_rfl) rfl
  obtain ⟨ua, ucap, rfl, _⟩ := hu
  have hr0 : F.append n ys = _ := fs_on h n fun x => if F.room - F.used < ys.length then (F, 4) else F.write fun G => { G.set n ⟨x.data ++ ys, x.synced⟩ with used := G.used + ys.length }
  cases hd : F.down with
  | true =>
    have hr : Hid (F.append n ys = (F, 5)) := Lib.hid (by rw [hd, if_pos rfl] at hr0; exact hr0)
    rw [hd] at HOF
    clear h ho hd hr0
    go_enter Try.func32, Try.ntmps32
    go_wp2_with fail
    refine (HOF.out _ (alloc2 _ _ _).1).mono ?_
    rintro e w' ⟨rfl, rfl⟩
    simp only [ofRes, if_true]
    go_wp2_with fail
    go_ret
    rw [hr.out]
    exact ⟨rfl, FsIs.post ⟨mb, rs, H.out⟩ (alloc3 _ _ _ _).1⟩
  | false =>
    rw [hd] at HOF hr0
    rw [if_neg (by simp)] at hr0
    cases hf : findL slt rs n with
    | none =>
      rw [hf] at HOF hr0
      have hr : Hid (F.append n ys = (F, 2)) := Lib.hid hr0
      clear h ho hd hf hr0
      go_enter Try.func32, Try.ntmps32
      go_wp2_with fail
      refine (HOF.out _ (alloc2 _ _ _).1).mono ?_
      rintro e w' ⟨rfl, rfl⟩
      simp only [ofRes, Bool.false_eq_true, if_false]
      go_wp2_with fail
      go_ret
      rw [hr.out]
      exact ⟨rfl, FsIs.post ⟨mb, rs, H.out⟩ (alloc3 _ _ _ _).1⟩
    | some p =>
      rw [hf] at HOF hr0
      have HF := Lib.hid hf
      have HLEN := Lib.hid (ho.len (h.at_file hf).2)
      have y0 := ho.room0
      have y1 := ho.room1
      have y2 := ho.used0
      have y3 := ho.fits
      have y4 : (ys.length : Int) ≤ 9223372036854775807 := by omega
      have hr : Hid (F.append n ys = if F.room - F.used < (ys.length : Int) then (F, 4) else F.write fun G => { G.set n ⟨p.fl.data ++ ys, p.fl.synced⟩ with used := G.used + ys.length }) := Lib.hid hr0
      clear h ho hd hf hr0
      go_enter Try.func32, Try.ntmps32
      go_wp2_with fail
      refine (HOF.out _ (alloc2 _ _ _).1).mono ?_
      rintro e w' ⟨rfl, rfl⟩
      simp only [ofRes, Bool.false_eq_true, if_false]
      go_wp2_with fail
      obtain ⟨hkx, hbf, hbb, hbx, hsz⟩ := alloc3 w (.cells #[.pointer (some ⟨fb, 0, none⟩)] 25) (.cells #[.slice ua ys.length ucap] 28) (.cells #[.pointer (some ⟨p.g, 0, none⟩)] 70)
      generalize ((w.alloc (.cells #[.pointer (some ⟨fb, 0, none⟩)] 25)).alloc (.cells #[.slice ua ys.length ucap] 28)).alloc (.cells #[.pointer (some ⟨p.g, 0, none⟩)] 70) = W1 at hkx hbf hbb hbx hsz ⊢
      have c0 : W1.cell? ⟨w.heap.size, 0, none⟩ = some (.pointer (some ⟨fb, 0, none⟩)) := blk_cell hbf 0
      have c1 : W1.cell? ⟨w.heap.size + 1, 0, none⟩ = some (.slice ua ys.length ucap) := blk_cell hbb 0
      have H1 := Lib.hid (H.out.below hkx)
      have d0 : W1.cell? ⟨fb, 0, none⟩ = some (.int .i64 F.room) := blk_cell H1.out.blk 0
      have d1 : W1.cell? ⟨fb, 1, none⟩ = some (.int .i64 F.used) := blk_cell H1.out.blk 1
      have HB := Lib.hid (And.intro hkx (And.intro hbf (And.intro hbb hbx)))
      clear hkx hbf hbb hbx hsz
      by_cases hle : F.room - F.used < (ys.length : Int)
      · go_quiet (fail)
        go_wp2_with fail
        go_ret
        rw [hr.out, if_pos hle]
        exact ⟨rfl, FsIs.post ⟨mb, rs, H.out⟩ (HB.out.1.trans (below_drewN _ _ _))⟩
      · go_quiet (fail)
        have hW : Below W1.heap.size W1 (W1.drewN nq) := below_drewN _ _ _
        have c0 : (W1.drewN nq).cell? ⟨w.heap.size, 0, none⟩ = some (.pointer (some ⟨fb, 0, none⟩)) := c0
        have hbx : IsBlk (W1.drewN nq) (w.heap.size + 1 + 1) #[.pointer (some ⟨p.g, 0, none⟩)] 70 := HB.out.2.2.2
        have hbb : IsBlk (W1.drewN nq) (w.heap.size + 1) #[.slice ua ys.length ucap] 28 := HB.out.2.2.1
        have hbf : IsBlk (W1.drewN nq) w.heap.size #[.pointer (some ⟨fb, 0, none⟩)] 25 := HB.out.2.1
        generalize W1.drewN nq = W2 at hW c0 hbx hbb hbf ⊢
        have HB2 := Lib.hid (And.intro hbf (And.intro hbb hbx))
        have H2 := Lib.hid (H1.out.below hW)
        have HW := Lib.hid (HB.out.1.trans (hW.mono HB.out.1.size))
        clear hbx hbb hbf hW c1 d0 d1
        go_wp2_with fail
        refine (f_write H2.out 58 #[.pointer (some ⟨w.heap.size + 1 + 1, 0, none⟩), .pointer (some ⟨w.heap.size + 1, 0, none⟩), .pointer (some ⟨w.heap.size, 0, none⟩)] eg (fun G => { G.set n ⟨p.fl.data ++ ys, p.fl.synced⟩ with used := G.used + ys.length }) HO.out.armed1 ?_ ?_).mono ?_
        · intro w1 a h1 hk1 hz1
          exact f_append1 h1 HF.out (H2.out.unkept hk1 HB2.out.2.2 (by decide)) (H2.out.unkept hk1 HB2.out.2.1 (by decide)) (H2.out.unkept hk1 HB2.out.1 (by decide))
            ((HU.out.below HW.out).keeps' hk1 (bytes_not_fs (HU.out.below HW.out) H2.out)) (by have := HLEN.out; omega) y2 (by show F.used ≤ _; omega)
        · intro a
          have := HO.out.steps0
          have := HO.out.steps1
          show 0 ≤ F.steps ∧ F.steps < 1000000000
          omega
        · rintro e w2 ⟨rfl, hp⟩
          have HP := Lib.hid (FsPost.trans_keeps HW.out H.out.lt hp)
          clear hp
          go_wp2_with fail
          go_ret
          rw [hr.out, if_neg (by omega)]
          exact ⟨rfl, HP.out⟩

theorem SlAt.cut {α : Type} {ek : ElKind α} {e : TypeId} {g off cap : Nat} {xs : List α} (h : SlAt ek e w (.slice (some ⟨g, off, none⟩) xs.length cap) xs) {k : Nat} (hk : k ≤ xs.length) : SlAt ek e w (.slice (some ⟨g, off, none⟩) k k) (xs.take k) := by
  have hl : (xs.take k).length = k := by rw [List.length_take]; omega
  rcases h with ⟨e1, _⟩ | ⟨g', off', cap', cur, e1, hb, hc, hm, hs, hr⟩
  · simp at e1
  · injection e1 with e2 _ e3
    injection e2 with e2
    injection e2 with e4 e5 _
    subst e3 e4 e5
    have h1 : k * ek.size ≤ xs.length * ek.size := Nat.mul_le_mul_right _ hk
    have h2 : k * ek.size ≤ cap * ek.size := Nat.mul_le_mul_right _ (by omega)
    refine .inr ⟨g, off, k, cur, by rw [hl], hb, by omega, by omega, by omega, fun i hi => ?_⟩
    rw [hl] at hi
    rw [hr i (by omega)]
    conv => lhs; rw [← List.take_append_drop k xs]
    rw [List.flatMap_append, List.getElem?_append_left (by rw [flat_len ek.len, hl]; exact hi)]
set_option maxRecDepth 100000 in
set_option maxHeartbeats 2000000 in
theorem f_cut (h : FsAt w fb F S mb rs) {n : ByteArray} {p : Pl} (hf : findL slt rs n = some p) {k : Nat} (hk : k ≤ p.fl.data.length) (hm : p.fl.data.length ≤ 1000000000) (hsy : p.fl.synced ≤ p.fl.data.length) (hF0 : 0 ≤ F.used) (hF1 : F.used ≤ 1000000000) :
    Calls Try.prog 46 #[.pointer (some ⟨fb, 0, none⟩), .pointer (some ⟨p.g, 0, none⟩), .int .i64 (k : Int)] w fun e w' => e = .returned (.tuple #[]) ∧ ∃ q, q.g = p.g ∧ q.fl = ⟨p.fl.data.take k, min p.fl.synced k⟩ ∧ FsAt w' fb (F.cut n p.fl k) (New w w' S) mb (putL slt rs n q) ∧ Keeps S w w' := by
  have hp := (h.at_file hf).1
  obtain ⟨v2, a, a2, cap, cap2, hv, hv2, hsl, how, hcase⟩ : ∃ (v2 : Value) (a a2 : Option Addr) (cap cap2 : Nat), p.v = .slice a p.fl.data.length cap ∧ v2 = .slice a2 k cap2 ∧ SlAt byteKind 5 w v2 (p.fl.data.take k) ∧ v2.ownBlock = p.v.ownBlock ∧
      ((a = none ∧ a2 = none ∧ cap = 0 ∧ cap2 = 0 ∧ k = 0 ∧ p.fl.data.length = 0) ∨ ∃ g off, a = some ⟨g, off, none⟩ ∧ a2 = a ∧ cap2 = k ∧ p.fl.data.length ≤ cap ∧ cap ≤ maxLen) := by
    rcases hp.bytes with ⟨e1, e2⟩ | ⟨g, off, cap, cur, e1, hb, hc, hmx, hs, hr⟩
    · have hk0 : k = 0 := by rw [e2] at hk; simpa using hk
      subst hk0
      exact ⟨.slice none 0 0, none, none, 0, 0, by rw [e1, e2]; rfl, rfl, by simp; exact SlAt.nil, by rw [e1], .inl ⟨rfl, rfl, rfl, rfl, rfl, by rw [e2]; rfl⟩⟩
    · have hb2 := hp.bytes
      rw [e1] at hb2
      exact ⟨.slice (some ⟨g, off, none⟩) k k, _, _, cap, k, e1, rfl, hb2.cut hk, by rw [e1]; rfl, .inr ⟨g, off, rfl, rfl, rfl, hc, hmx⟩⟩
  have d0 : w.cell? ⟨p.g, 0, none⟩ = some (.slice a p.fl.data.length cap) := by rw [← hv]; exact blk_cell hp.blk 0
  have u1 : w.cell? ⟨fb, 1, none⟩ = some (.int .i64 F.used) := blk_cell h.blk 1
  have uz : w.frozen? ⟨fb, 1, none⟩ = false := blk_free h.blk 1
  have h1 := h.setCell (F' := { F with used := F.used - (p.fl.data.length - k) }) (i := 1) (u := .int .i64 (F.used - (p.fl.data.length - k))) rfl rfl
  have k1 : Keeps (Only fb) w (w.setCell ⟨fb, 1, none⟩ (.int .i64 (F.used - (p.fl.data.length - k)))) := keeps_set _ _ _ _
  have HW1 : Hid (∃ W1, W1 = w.setCell ⟨fb, 1, none⟩ (.int .i64 (F.used - (p.fl.data.length - k)))) := Lib.hid ⟨_, rfl⟩
  obtain ⟨W1, hW1⟩ := HW1.out
  rw [← hW1] at h1 k1
  have hp1 := (h1.at_file hf).1
  have e0 : W1.cell? ⟨p.g, 0, none⟩ = some (.slice a p.fl.data.length cap) := by rw [← hv]; exact blk_cell hp1.blk 0
  have z0 : W1.frozen? ⟨p.g, 0, none⟩ = false := blk_free hp1.blk 0
  have b2 : IsBlk (W1.setCell ⟨p.g, 0, none⟩ v2) p.g #[v2, .int .i64 (p.fl.synced : Int)] 75 := blk_set hp1.blk 0 v2
  have e1 : (W1.setCell ⟨p.g, 0, none⟩ v2).cell? ⟨p.g, 1, none⟩ = some (.int .i64 (p.fl.synced : Int)) := blk_cell b2 1
  have z1 : (W1.setCell ⟨p.g, 0, none⟩ v2).frozen? ⟨p.g, 1, none⟩ = false := blk_free b2 1
  have hmin : (min (p.fl.synced : Int) (k : Int)) = ((min p.fl.synced k : Nat) : Int) := by omega
  have HFIN : Hid (∃ q, q.g = p.g ∧ q.fl = ⟨p.fl.data.take k, min p.fl.synced k⟩ ∧ FsAt ((W1.setCell ⟨p.g, 0, none⟩ v2).setCell ⟨p.g, 1, none⟩ (.int .i64 ((min p.fl.synced k : Nat) : Int))) fb (F.cut n p.fl k) (New w ((W1.setCell ⟨p.g, 0, none⟩ v2).setCell ⟨p.g, 1, none⟩ (.int .i64 ((min p.fl.synced k : Nat) : Int))) S) mb (putL slt rs n q) ∧
      Keeps S w ((W1.setCell ⟨p.g, 0, none⟩ v2).setCell ⟨p.g, 1, none⟩ (.int .i64 ((min p.fl.synced k : Nat) : Int)))) := Lib.hid (by
    have hkp : Keeps (Only p.g) W1 ((W1.setCell ⟨p.g, 0, none⟩ v2).setCell ⟨p.g, 1, none⟩ (.int .i64 ((min p.fl.synced k : Nat) : Int))) := (keeps_set _ _ _ _).trans' (keeps_set _ _ _ _)
    have hq : PlAt ((W1.setCell ⟨p.g, 0, none⟩ v2).setCell ⟨p.g, 1, none⟩ (.int .i64 ((min p.fl.synced k : Nat) : Int))) ⟨p.g, v2, ⟨p.fl.data.take k, min p.fl.synced k⟩⟩ := by
      refine ⟨blk_set b2 1 _, ?_⟩
      have s1 : SlAt byteKind 5 W1 v2 (p.fl.data.take k) := hsl.keeps k1 (fun g hg e => by
        rw [how] at hg
        obtain ⟨cur, hc⟩ := hp.bytes.own g hg
        exact blk_ne_type hc h.blk (by decide) e)
      exact s1.keeps hkp (fun g hg e => by
        rw [how] at hg
        obtain ⟨cur, hc⟩ := hp1.bytes.own g hg
        exact blk_ne_type hc hp1.blk (by decide) e)
    have := h1.setFile hf (q := ⟨p.g, v2, ⟨p.fl.data.take k, min p.fl.synced k⟩⟩) rfl (hkp.mono (fun _ _ e => .inl e)) hq (fun k hk => .inl (by rw [← how]; exact hk))
    refine ⟨⟨p.g, v2, ⟨p.fl.data.take k, min p.fl.synced k⟩⟩, rfl, rfl, this.1.mono ?_ ?_, ?_⟩
    · rintro i (e | e)
      · exact .inl e
      · exact .inr ⟨by have := k1.size; omega, e.2⟩
    · exact new_lt h.lt (Nat.le_trans k1.size this.2.size)
    · exact (k1.mono (fun i _ e => by have : i = fb := e; rw [this]; exact h.sfb)).trans' this.2)
  have hk' : (k : Int) ≤ (p.fl.data.length : Int) := by omega
  have hm' : (p.fl.data.length : Int) ≤ 1000000000 := by omega
  clear h h1 k1 hp hp1 hv hsl how b2
  rw [hv2] at e1 z1 HFIN
  clear hv2
  have HMIN := Lib.hid hmin
  clear hmin HW1
  subst hW1
  have fin : ∀ X : World, Below ((((w.setCell ⟨fb, 1, none⟩ (.int .i64 (F.used - (p.fl.data.length - k)))).setCell ⟨p.g, 0, none⟩ (.slice a2 k cap2)).setCell ⟨p.g, 1, none⟩ (.int .i64 ((min p.fl.synced k : Nat) : Int)))).heap.size
      ((((w.setCell ⟨fb, 1, none⟩ (.int .i64 (F.used - (p.fl.data.length - k)))).setCell ⟨p.g, 0, none⟩ (.slice a2 k cap2)).setCell ⟨p.g, 1, none⟩ (.int .i64 ((min p.fl.synced k : Nat) : Int)))) X →
      ∃ q, q.g = p.g ∧ q.fl = ⟨p.fl.data.take k, min p.fl.synced k⟩ ∧ FsAt X fb (F.cut n p.fl k) (New w X S) mb (putL slt rs n q) ∧ Keeps S w X := by
    intro X hX
    obtain ⟨q, h1, h2, h3, h4⟩ := HFIN.out
    refine ⟨q, h1, h2, (h3.below hX).mono ?_ ?_, h4.trans' ((Keeps.of_below hX).mono fun _ _ e => e.elim)⟩
    · rintro i (e | e)
      · exact .inl e
      · exact .inr ⟨e.1, Nat.lt_of_lt_of_le e.2 hX.size⟩
    · rintro i (e | e)
      · exact Nat.lt_of_lt_of_le (h3.lt i (.inl e)) hX.size
      · exact e.2
  have FIN := Lib.hid fin
  clear fin HFIN
  rcases hcase with ⟨rfl, rfl, rfl, rfl, rfl, hz⟩ | ⟨g, off, rfl, rfl, rfl, hc1, hc2⟩
  · have fin := FIN.out
    have hmn := HMIN.out
    clear FIN HMIN
    simp only [Int.natCast_zero, Int.sub_zero] at fin hmn u1 uz e0 z0 e1 z1 hk'
    have FIN := Lib.hid fin
    have HMIN := Lib.hid hmn
    have HZ := Lib.hid hz
    have hl0 : (0 : Int) ≤ (p.fl.data.length : Int) := by omega
    clear fin hmn hz hk
    go_enter Try.func46, Try.ntmps46
    go_wp2_with (fail)
    refine wp_region_still_tail 14 (by kernel_rfl) (by kernel_rfl) ?_
    simp only [List.take_succ_cons, List.take_zero, List.drop_succ_cons, List.drop_zero]
    repeat still_step
    refine wpStill_nil ?_
    go_wp2_with (fail)
    go_end0
    rw [HMIN.out]
    exact ⟨rfl, FIN.out _ (Below.refl _ _).drew⟩
  · have hc1' : (p.fl.data.length : Int) ≤ (cap : Int) := by omega
    unfold maxLen at hc2
    have hc2' : (cap : Int) ≤ 9223372036854775807 := by omega
    clear hc2 hc1
    go_enter Try.func46, Try.ntmps46
    go_wp2_with (fail)
    refine wp_region_still_tail 14 (by kernel_rfl) (by kernel_rfl) ?_
    simp only [List.take_succ_cons, List.take_zero, List.drop_succ_cons, List.drop_zero]
    repeat still_step
    refine wpStill_nil ?_
    go_wp2_with (fail)
    go_end0
    rw [HMIN.out]
    exact ⟨rfl, FIN.out _ (Below.refl _ _).drew⟩
end
end Go.Proofs.Ytmfiibehclbnjaa
