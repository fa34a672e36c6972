/- The walks of the file system's writes: Truncate, Remove. -/
import Derived.Test.YtmfiibehclbnjaaFsD
namespace Go.Proofs.Ytmfiibehclbnjaa
open Go.RowKit Go.Shelf

section
variable {w : World} {fb mb : Nat} {F : FsS} {S : Nat → Prop} {rs : List (ByteArray × Pl)}
set_option maxRecDepth 100000 in
set_option maxHeartbeats 1000000 in
theorem f_truncate1 (h : FsAt w fb F S mb rs) {n : ByteArray} {p : Pl} (hf : findL slt rs n = some p) {bf bx bn k : Nat} (hbf : IsBlk w bf #[.pointer (some ⟨fb, 0, none⟩)] 25) (hbx : IsBlk w bx #[.pointer (some ⟨p.g, 0, none⟩)] 70) (hbn : IsBlk w bn #[.int .i64 (k : Int)] 3)
    (hk : k ≤ p.fl.data.length) (hm : p.fl.data.length ≤ 1000000000) (hsy : p.fl.synced ≤ p.fl.data.length) (hF0 : 0 ≤ F.used) (hF1 : F.used ≤ 1000000000) :
    Calls Try.prog 50 #[.pointer (some ⟨bf, 0, none⟩), .pointer (some ⟨bx, 0, none⟩), .pointer (some ⟨bn, 0, none⟩)] w fun e w' => e = .returned (.tuple #[]) ∧ FsPost w fb (F.cut n p.fl k) S w' := by
  have HC := Lib.hid (f_cut h hf hk hm hsy hF0 hF1)
  have c0 : w.cell? ⟨bf, 0, none⟩ = some (.pointer (some ⟨fb, 0, none⟩)) := blk_cell hbf 0
  have c1 : w.cell? ⟨bx, 0, none⟩ = some (.pointer (some ⟨p.g, 0, none⟩)) := blk_cell hbx 0
  have c2 : w.cell? ⟨bn, 0, none⟩ = some (.int .i64 (k : Int)) := blk_cell hbn 0
  clear h hf hbf hbx hbn hk hm hsy hF0 hF1
  go_enter Try.func50, Try.ntmps50
  go_wp2_with fail
  refine HC.out.mono ?_
  rintro e w' ⟨rfl, q, _, _, h3, h4⟩
  have H3 := Lib.hid h3
  have H4 := Lib.hid h4
  clear h3 h4
  go_wp2_with fail
  go_end0
  exact ⟨rfl, ⟨_, _, H3.out⟩, H4.out⟩

set_option maxRecDepth 100000 in
set_option maxHeartbeats 2000000 in
theorem f_truncate (h : FsAt w fb F S mb rs) {k : Nat} (ho : FsOk F k) (hk : k < 1000000) (n : ByteArray) (m : Int) :
    Calls Try.prog 17 #[.pointer (some ⟨fb, 0, none⟩), .string n, .int .i64 m] w fun e w' => e = .returned (.int .i64 (F.truncate n m).2) ∧ FsPost w fb (F.truncate n m).1 S w' := by
  have HOF := f_ofH h n
  have H := Lib.hid h
  have HO := Lib.hid ho
  have eg := enters_of Try.func50 (P := Try.prog) (by kernel_rfl) rfl
  have hr0 : F.truncate n m = _ := fs_on h n fun x => if m < 0 ∨ (x.data.length : Int) < m then (F, 6) else F.write fun G => G.cut n x m.toNat
  cases hd : F.down with
  | true =>
    have hr : Hid (F.truncate n m = (F, 5)) := Lib.hid (by rw [hd, if_pos rfl] at hr0; exact hr0)
    rw [hd] at HOF
    clear h ho hd hr0
    go_enter Try.func17, Try.ntmps17
    go_wp2_with fail
    refine (HOF.out _ (alloc2 _ _ _).1).mono ?_
    rintro e w' ⟨rfl, rfl⟩
    simp only [ofRes, if_true]
    go_wp2_with fail
    go_ret
    rw [hr.out]
    exact ⟨rfl, FsIs.post ⟨mb, rs, H.out⟩ (alloc3 _ _ _ _).1⟩
  | false =>
    rw [hd] at HOF hr0
    rw [if_neg (by simp)] at hr0
    cases hf : findL slt rs n with
    | none =>
      rw [hf] at HOF hr0
      have hr : Hid (F.truncate n m = (F, 2)) := Lib.hid hr0
      clear h ho hd hf hr0
      go_enter Try.func17, Try.ntmps17
      go_wp2_with fail
      refine (HOF.out _ (alloc2 _ _ _).1).mono ?_
      rintro e w' ⟨rfl, rfl⟩
      simp only [ofRes, Bool.false_eq_true, if_false]
      go_wp2_with fail
      go_ret
      rw [hr.out]
      exact ⟨rfl, FsIs.post ⟨mb, rs, H.out⟩ (alloc3 _ _ _ _).1⟩
    | some p =>
      rw [hf] at HOF hr0
      have HF := Lib.hid hf
      have HLEN := Lib.hid (ho.len (h.at_file hf).2)
      have hr : Hid (F.truncate n m = if m < 0 ∨ (p.fl.data.length : Int) < m then (F, 6) else F.write fun G => G.cut n p.fl m.toNat) := Lib.hid hr0
      obtain ⟨a, cap, hv⟩ := (h.at_file hf).1.bytes.shape
      have HV := Lib.hid hv
      have HU : Hid (0 ≤ F.used ∧ F.used ≤ 1000000000) := Lib.hid (by have := ho.used0; have := ho.fits; have := ho.room1; omega)
      clear h ho hd hf hr0 hv
      go_enter Try.func17, Try.ntmps17
      go_wp2_with fail
      refine (HOF.out _ (alloc2 _ _ _).1).mono ?_
      rintro e w' ⟨rfl, rfl⟩
      simp only [ofRes, Bool.false_eq_true, if_false]
      go_wp2_with fail
      obtain ⟨hkx, hbf, hbn, hbx, hsz⟩ := alloc3 w (.cells #[.pointer (some ⟨fb, 0, none⟩)] 25) (.cells #[.int .i64 m] 3) (.cells #[.pointer (some ⟨p.g, 0, none⟩)] 70)
      generalize ((w.alloc (.cells #[.pointer (some ⟨fb, 0, none⟩)] 25)).alloc (.cells #[.int .i64 m] 3)).alloc (.cells #[.pointer (some ⟨p.g, 0, none⟩)] 70) = W1 at hkx hbf hbn hbx hsz ⊢
      have c0 : W1.cell? ⟨w.heap.size, 0, none⟩ = some (.pointer (some ⟨fb, 0, none⟩)) := blk_cell hbf 0
      have c1 : W1.cell? ⟨w.heap.size + 1, 0, none⟩ = some (.int .i64 m) := blk_cell hbn 0
      have c2 : W1.cell? ⟨w.heap.size + 1 + 1, 0, none⟩ = some (.pointer (some ⟨p.g, 0, none⟩)) := blk_cell hbx 0
      have H1 := Lib.hid (H.out.below hkx)
      have d0 : W1.cell? ⟨p.g, 0, none⟩ = some (.slice a p.fl.data.length cap) := by rw [← HV.out]; exact blk_cell (H1.out.at_file HF.out).1.blk 0
      have HB := Lib.hid (And.intro hkx (And.intro hbf (And.intro hbn hbx)))
      clear hkx hbf hbn hbx hsz
      by_cases hneg : m < 0
      · go_quiet (fail)
        go_wp2_with fail
        go_ret
        rw [hr.out, if_pos (.inl hneg)]
        exact ⟨rfl, FsIs.post ⟨mb, rs, H.out⟩ (HB.out.1.trans (below_drewN _ _ _))⟩
      · have hneg2 : decide (m < 0) = false := by simpa using hneg
        by_cases hgt : (p.fl.data.length : Int) < m
        · go_quiet (fail)
          go_wp2_with fail
          go_ret
          rw [hr.out, if_pos (.inr (by omega))]
          exact ⟨rfl, FsIs.post ⟨mb, rs, H.out⟩ (HB.out.1.trans (below_drewN _ _ _))⟩
        · go_quiet (fail)
          have hW : Below W1.heap.size W1 (W1.drewN nq) := below_drewN _ _ _
          have c0 : (W1.drewN nq).cell? ⟨w.heap.size, 0, none⟩ = some (.pointer (some ⟨fb, 0, none⟩)) := c0
          have hbx : IsBlk (W1.drewN nq) (w.heap.size + 1 + 1) #[.pointer (some ⟨p.g, 0, none⟩)] 70 := HB.out.2.2.2
          have hbn : IsBlk (W1.drewN nq) (w.heap.size + 1) #[.int .i64 m] 3 := HB.out.2.2.1
          have hbf : IsBlk (W1.drewN nq) w.heap.size #[.pointer (some ⟨fb, 0, none⟩)] 25 := HB.out.2.1
          generalize W1.drewN nq = W2 at hW c0 hbx hbn hbf ⊢
          have HB2 := Lib.hid (And.intro hbf (And.intro hbn hbx))
          have H2 := Lib.hid (H1.out.below hW)
          have HW := Lib.hid (HB.out.1.trans (hW.mono HB.out.1.size))
          have HM : Hid (m = (m.toNat : Int) ∧ m.toNat ≤ p.fl.data.length) := Lib.hid (by omega)
          have HCOND : Hid (¬ (m < 0 ∨ (p.fl.data.length : Int) < m)) := Lib.hid (by omega)
          clear hbx hbn hbf hW c1 c2 d0 hneg hneg2 hgt
          go_wp2_with fail
          refine (f_write H2.out 50 #[.pointer (some ⟨w.heap.size, 0, none⟩), .pointer (some ⟨w.heap.size + 1 + 1, 0, none⟩), .pointer (some ⟨w.heap.size + 1, 0, none⟩)] eg (fun G => G.cut n p.fl m.toNat) HO.out.armed1 ?_ ?_).mono ?_
          · intro w1 a h1 hk1 hz1
            refine f_truncate1 h1 HF.out (H2.out.unkept hk1 HB2.out.1 (by decide)) (H2.out.unkept hk1 HB2.out.2.2 (by decide)) (by rw [← HM.out.1]; exact H2.out.unkept hk1 HB2.out.2.1 (by decide)) HM.out.2 (by have := HLEN.out; omega) HLEN.out.2.1 HU.out.1 HU.out.2
          · intro a
            have := HO.out.steps0
            have := HO.out.steps1
            show 0 ≤ F.steps ∧ F.steps < 1000000000
            omega
          · rintro e w2 ⟨rfl, hp⟩
            have HP := Lib.hid (FsPost.trans_keeps HW.out H.out.lt hp)
            clear hp
            go_wp2_with fail
            go_ret
            rw [hr.out, if_neg HCOND.out]
            exact ⟨rfl, HP.out⟩

theorem dropL_sub {K V : Type} {lt : K → K → Bool} (m : List (K × V)) (k : K) : (dropL lt m k).Sublist m := List.filter_sublist
/-- A file is taken out of the map. -/
theorem FsAt.dropFile (h : FsAt w fb F S mb rs) {w' : World} {n : ByteArray} (hm : MapAt strKind evP w' mb (dropL slt rs n)) (hk : Keeps (fun i => i = mb) w w') : FsAt w' fb { F with files := dropL slt F.files n } S mb (dropL slt rs n) := by
  have hs := dropL_sub (lt := slt) rs n
  refine ⟨hk.obj h.blk (fun e => h.map.not_blk h.blk e), hm, ?_, fun x hx => (h.pl x (hs.subset hx)).keeps hk ?_, h.apart.sublist hs, h.sfb, h.smb, fun x hx => h.sp x (hs.subset hx), fun k hk1 => Nat.lt_of_lt_of_le (h.lt k hk1) hk.size⟩
  · show dropL slt F.files n = _
    rw [h.files]; exact (dropL_map (fun q : Pl => q.fl) rs n).symm
  · rintro k (rfl | e) rfl
    · exact h.map.not_blk (h.pl x (hs.subset hx)).blk rfl
    · obtain ⟨cur, hc⟩ := (h.pl x (hs.subset hx)).bytes.own _ e
      exact h.map.not_blk hc rfl
set_option maxRecDepth 100000 in
set_option maxHeartbeats 1000000 in
theorem f_remove1 (h : FsAt w fb F S mb rs) {n : ByteArray} {p : Pl} (hf : findL slt rs n = some p) {bf bx bn : Nat} (hbf : IsBlk w bf #[.pointer (some ⟨fb, 0, none⟩)] 25) (hbx : IsBlk w bx #[.pointer (some ⟨p.g, 0, none⟩)] 70) (hbn : IsBlk w bn #[.string n] 9)
    (hm : p.fl.data.length ≤ 1000000000) (hF0 : 0 ≤ F.used) (hF1 : F.used ≤ 1000000000) :
    Calls Try.prog 56 #[.pointer (some ⟨bf, 0, none⟩), .pointer (some ⟨bx, 0, none⟩), .pointer (some ⟨bn, 0, none⟩)] w fun e w' => e = .returned (.tuple #[]) ∧ FsPost w fb { F with used := F.used - p.fl.data.length, files := dropL slt F.files n } S w' := by
  have hp := (h.at_file hf).1
  obtain ⟨a, cap, hv⟩ := hp.bytes.shape
  have c0 : w.cell? ⟨bf, 0, none⟩ = some (.pointer (some ⟨fb, 0, none⟩)) := blk_cell hbf 0
  have c1 : w.cell? ⟨bx, 0, none⟩ = some (.pointer (some ⟨p.g, 0, none⟩)) := blk_cell hbx 0
  have d0 : w.cell? ⟨p.g, 0, none⟩ = some (.slice a p.fl.data.length cap) := by rw [← hv]; exact blk_cell hp.blk 0
  have u1 : w.cell? ⟨fb, 1, none⟩ = some (.int .i64 F.used) := blk_cell h.blk 1
  have uz : w.frozen? ⟨fb, 1, none⟩ = false := blk_free h.blk 1
  have k1 : Keeps (Only fb) w (w.setCell ⟨fb, 1, none⟩ (.int .i64 (F.used - p.fl.data.length))) := keeps_set _ _ _ _
  have h1 := h.setCell (F' := { F with used := F.used - p.fl.data.length }) (i := 1) (u := .int .i64 (F.used - p.fl.data.length)) rfl rfl
  have e0 : (w.setCell ⟨fb, 1, none⟩ (.int .i64 (F.used - p.fl.data.length))).cell? ⟨bf, 0, none⟩ = some (.pointer (some ⟨fb, 0, none⟩)) := blk_cell (h.unkept k1 hbf (by decide)) 0
  have e1 : (w.setCell ⟨fb, 1, none⟩ (.int .i64 (F.used - p.fl.data.length))).cell? ⟨bn, 0, none⟩ = some (.string n) := blk_cell (h.unkept k1 hbn (by decide)) 0
  have e2 : (w.setCell ⟨fb, 1, none⟩ (.int .i64 (F.used - p.fl.data.length))).cell? ⟨fb, 2, none⟩ = some (.map (some mb)) := blk_cell h1.blk 2
  have hm' : (p.fl.data.length : Int) ≤ 1000000000 := by omega
  have HW1 : ∃ W1, W1 = (w.setCell ⟨fb, 1, none⟩ (.int .i64 (F.used - p.fl.data.length))).drew := ⟨_, rfl⟩
  obtain ⟨W1, hW1⟩ := HW1
  have h2 : FsAt W1 fb { F with used := F.used - p.fl.data.length } S mb rs := by rw [hW1]; exact h1.below (Below.refl _ _).drew
  have k2 : Keeps S w W1 := by rw [hW1]; exact (k1.mono (fun i _ e => by have : i = fb := e; rw [this]; exact h.sfb)).drew
  have hdrop : ∀ W2, FsAt W2 fb { F with used := F.used - p.fl.data.length } S mb rs → Keeps S w W2 → ∃ w', (Builtin.delete_ #[71, 9] 0 #[.map (some mb), .string n]).run Try.prog W2 = .ok (.tuple #[]) w' ∧ FsPost w fb { F with used := F.used - p.fl.data.length, files := dropL slt F.files n } S w' := by
    intro W2 hW2 hkW
    obtain ⟨w', hrun, hm2, hk2, hz2⟩ := hW2.map.drop (P := Try.prog) (t := 71) Try.underlying71 Try.underlying9 n 0
    have h3 := hW2.dropFile hm2 hk2
    refine ⟨w', hrun, ⟨mb, _, h3.mono (fun _ e => .inl e) (new_lt h.lt (by have := hkW.size; omega))⟩, hkW.trans' (hk2.mono (fun i _ e => by rw [e]; exact hW2.smb))⟩
  have HD := Lib.hid hdrop
  have H2 := Lib.hid h2
  have K2 := Lib.hid k2
  have HW1 := Lib.hid hW1
  clear hW1 hdrop h hf hbf hbx hbn hp hv h1 k1 h2 k2 hm
  go_enter Try.func56, Try.ntmps56
  go_wp2_with (fail)
  refine wp_region_still_tail 12 (by kernel_rfl) (by kernel_rfl) ?_
  simp only [List.take_succ_cons, List.take_zero, List.drop_succ_cons, List.drop_zero]
  repeat still_step
  refine wpStill_nil ?_
  go_wp2_with (fail)
  have a0 : W1.cell? ⟨bf, 0, none⟩ = some (.pointer (some ⟨fb, 0, none⟩)) := by rw [HW1.out]; exact e0
  have a1 : W1.cell? ⟨bn, 0, none⟩ = some (.string n) := by rw [HW1.out]; exact e1
  have a2 : W1.cell? ⟨fb, 2, none⟩ = some (.map (some mb)) := by rw [HW1.out]; exact e2
  rw [← HW1.out]
  clear HW1 c0 c1 d0 u1 uz e0 e1 e2
  refine wp_region_still_tail 5 (by kernel_rfl) (by kernel_rfl) ?_
  simp only [List.take_succ_cons, List.take_zero, List.drop_succ_cons, List.drop_zero]
  repeat still_step
  refine wpStill_nil ?_
  obtain ⟨w', hrun, hp⟩ := HD.out W1.drew (H2.out.below (Below.refl _ _).drew) K2.out.drew
  have HP := Lib.hid hp
  clear hp
  refine wpList_delete_run rfl (.tmp 18) (.tmp 19) 71 9 rfl _ _ rfl rfl _ _ hrun ?_
  clear hrun
  go_wp2
  go_end0
  exact ⟨rfl, HP.out⟩
set_option maxRecDepth 100000 in
set_option maxHeartbeats 2000000 in
theorem f_remove (h : FsAt w fb F S mb rs) {k : Nat} (ho : FsOk F k) (hk : k < 1000000) (n : ByteArray) :
    Calls Try.prog 30 #[.pointer (some ⟨fb, 0, none⟩), .string n] w fun e w' => e = .returned (.int .i64 (F.remove n).2) ∧ FsPost w fb (F.remove n).1 S w' := by
  have HOF := f_ofH h n
  have H := Lib.hid h
  have HO := Lib.hid ho
  have eg := enters_of Try.func56 (P := Try.prog) (by kernel_rfl) rfl
  have hr0 : F.remove n = _ := fs_on h n fun x => F.write fun G => { G with used := G.used - x.data.length, files := dropL slt G.files n }
  cases hd : F.down with
  | true =>
    have hr : Hid (F.remove n = (F, 5)) := Lib.hid (by rw [hd, if_pos rfl] at hr0; exact hr0)
    rw [hd] at HOF
    clear h ho hd hr0
    go_enter Try.func30, Try.ntmps30
    go_wp2_with fail
    refine (HOF.out _ (alloc2 _ _ _).1).mono ?_
    rintro e w' ⟨rfl, rfl⟩
    simp only [ofRes, if_true]
    go_wp2_with fail
    go_ret
    rw [hr.out]
    exact ⟨rfl, FsIs.post ⟨mb, rs, H.out⟩ (alloc3 _ _ _ _).1⟩
  | false =>
    rw [hd] at HOF hr0
    rw [if_neg (by simp)] at hr0
    cases hf : findL slt rs n with
    | none =>
      rw [hf] at HOF hr0
      have hr : Hid (F.remove n = (F, 2)) := Lib.hid hr0
      clear h ho hd hf hr0
      go_enter Try.func30, Try.ntmps30
      go_wp2_with fail
      refine (HOF.out _ (alloc2 _ _ _).1).mono ?_
      rintro e w' ⟨rfl, rfl⟩
      simp only [ofRes, Bool.false_eq_true, if_false]
      go_wp2_with fail
      go_ret
      rw [hr.out]
      exact ⟨rfl, FsIs.post ⟨mb, rs, H.out⟩ (alloc3 _ _ _ _).1⟩
    | some p =>
      rw [hf] at HOF hr0
      have HF := Lib.hid hf
      have HLEN := Lib.hid (ho.len (h.at_file hf).2)
      have hr : Hid (F.remove n = F.write fun G => { G with used := G.used - p.fl.data.length, files := dropL slt G.files n }) := Lib.hid hr0
      have HU : Hid (0 ≤ F.used ∧ F.used ≤ 1000000000) := Lib.hid (by have := ho.used0; have := ho.fits; have := ho.room1; omega)
      clear h ho hd hf hr0
      go_enter Try.func30, Try.ntmps30
      go_wp2_with fail
      refine (HOF.out _ (alloc2 _ _ _).1).mono ?_
      rintro e w' ⟨rfl, rfl⟩
      simp only [ofRes, Bool.false_eq_true, if_false]
      go_wp2_with fail
      obtain ⟨hkx, hbf, hbn, hbx, hsz⟩ := alloc3 w (.cells #[.pointer (some ⟨fb, 0, none⟩)] 25) (.cells #[.string n] 9) (.cells #[.pointer (some ⟨p.g, 0, none⟩)] 70)
      generalize ((w.alloc (.cells #[.pointer (some ⟨fb, 0, none⟩)] 25)).alloc (.cells #[.string n] 9)).alloc (.cells #[.pointer (some ⟨p.g, 0, none⟩)] 70) = W2 at hkx hbf hbn hbx hsz ⊢
      have H2 := Lib.hid (H.out.below hkx)
      have HB2 := Lib.hid (And.intro hbf (And.intro hbn hbx))
      have HW := Lib.hid hkx
      clear hkx hbf hbn hbx hsz
      refine (f_write H2.out 56 #[.pointer (some ⟨w.heap.size, 0, none⟩), .pointer (some ⟨w.heap.size + 1 + 1, 0, none⟩), .pointer (some ⟨w.heap.size + 1, 0, none⟩)] eg (fun G => { G with used := G.used - p.fl.data.length, files := dropL slt G.files n }) HO.out.armed1 ?_ ?_).mono ?_
      · intro w1 a h1 hk1 hz1
        exact f_remove1 h1 HF.out (H2.out.unkept hk1 HB2.out.1 (by decide)) (H2.out.unkept hk1 HB2.out.2.2 (by decide)) (H2.out.unkept hk1 HB2.out.2.1 (by decide)) (by have := HLEN.out; omega) HU.out.1 HU.out.2
      · intro a
        have := HO.out.steps0
        have := HO.out.steps1
        show 0 ≤ F.steps ∧ F.steps < 1000000000
        omega
      · rintro e w2 ⟨rfl, hp⟩
        have HP := Lib.hid (FsPost.trans_keeps HW.out H.out.lt hp)
        clear hp
        go_wp2_with fail
        go_ret
        rw [hr.out]
        exact ⟨rfl, HP.out⟩
end
end Go.Proofs.Ytmfiibehclbnjaa
