/- The walks of the file system's writes: Sync, Append. -/
import Derived.Test.YtmfiibehclbnjaaFsA
import Derived.Test.YtmfiibehclbnjaaFsP
namespace Go.Proofs.Ytmfiibehclbnjaa
open Go.RowKit Go.Shelf

section
variable {w : World} {fb mb : Nat} {F : FsS} {S : Nat → Prop} {rs : List (ByteArray × Pl)}
theorem FsAt.at_file (h : FsAt w fb F S mb rs) {n : ByteArray} {p : Pl} (hf : findL slt rs n = some p) : PlAt w p ∧ F.find n = some p.fl := ⟨h.pl _ (findL_mem slt_ord hf), by rw [h.find, hf]; rfl⟩
set_option maxRecDepth 100000 in
set_option maxHeartbeats 400000 in
theorem f_sync1 (h : FsAt w fb F S mb rs) {n : ByteArray} {p : Pl} (hf : findL slt rs n = some p) {bx : Nat} (hb : IsBlk w bx #[.pointer (some ⟨p.g, 0, none⟩)] 70) (hm : (p.fl.data.length : Int) ≤ 1000000000) :
    Calls Try.prog 59 #[.pointer (some ⟨bx, 0, none⟩)] w fun e w' => e = .returned (.tuple #[]) ∧ FsPost w fb (F.set n ⟨p.fl.data, p.fl.data.length⟩) S w' := by
  have hp := (h.at_file hf).1
  obtain ⟨a, cap, hv⟩ := hp.bytes.shape
  have c0 : w.cell? ⟨bx, 0, none⟩ = some (.pointer (some ⟨p.g, 0, none⟩)) := blk_cell hb 0
  have d0 : w.cell? ⟨p.g, 0, none⟩ = some (.slice a p.fl.data.length cap) := by rw [← hv]; exact blk_cell hp.blk 0
  have d1 : w.cell? ⟨p.g, 1, none⟩ = some (.int .i64 (p.fl.synced : Int)) := blk_cell hp.blk 1
  have z1 : w.frozen? ⟨p.g, 1, none⟩ = false := blk_free hp.blk 1
  have hfin : FsPost w fb (F.set n ⟨p.fl.data, p.fl.data.length⟩) S (w.drew.setCell ⟨p.g, 1, none⟩ (.int .i64 (p.fl.data.length : Int))) := by
    have hk : Keeps (blocksOf p) w (w.drew.setCell ⟨p.g, 1, none⟩ (.int .i64 (p.fl.data.length : Int))) := ((Keeps.refl (blocksOf p) w).drew).setCell (p := ⟨p.g, 1, none⟩) (fun _ => .inl rfl) _
    have hq : PlAt (w.drew.setCell ⟨p.g, 1, none⟩ (.int .i64 (p.fl.data.length : Int))) { p with fl := ⟨p.fl.data, p.fl.data.length⟩ } :=
      ⟨blk_set (w := w.drew) hp.blk 1 _, hp.bytes.keeps (((Keeps.refl (Only p.g) w).drew).setCell (p := ⟨p.g, 1, none⟩) (fun _ => rfl) _) (fun g hg e => by
        obtain ⟨cur, hc⟩ := hp.bytes.own g hg
        exact blk_ne_type hc hp.blk (by decide) e)⟩
    have := h.setFile hf (q := { p with fl := ⟨p.fl.data, p.fl.data.length⟩ }) rfl hk hq (fun k hk => .inl hk)
    exact ⟨⟨_, _, this.1⟩, this.2⟩
  have HF := Lib.hid hfin
  clear hfin h hf hb hp hv
  go_enter Try.func59, Try.ntmps59
  refine wp_region_still_tail 8 (by kernel_rfl) (by kernel_rfl) ?_
  simp only [List.take_succ_cons, List.take_zero, List.drop_succ_cons, List.drop_zero]
  repeat still_step
  refine wpStill_nil ?_
  go_wp2
  go_end0
  exact ⟨rfl, HF.out⟩

set_option maxRecDepth 100000 in
set_option maxHeartbeats 1000000 in
theorem f_sync (h : FsAt w fb F S mb rs) {k : Nat} (ho : FsOk F k) (hk : k < 1000000) (n : ByteArray) :
    Calls Try.prog 33 #[.pointer (some ⟨fb, 0, none⟩), .string n] w fun e w' => e = .returned (.int .i64 (F.sync n).2) ∧ FsPost w fb (F.sync n).1 S w' := by
  have HOF := Lib.hid (f_of h n)
  have H := Lib.hid h
  have HO := Lib.hid ho
  have eg := enters_of Try.func59 (P := Try.prog) (by kernel_rfl) rfl
  cases hd : F.down with
  | true =>
    have hr : Hid (F.sync n = (F, 5)) := Lib.hid (by unfold FsS.sync FsS.on; rw [if_pos hd])
    rw [hd] at HOF
    clear h ho hd
    go_enter Try.func33, Try.ntmps33
    go_wp2_with fail
    refine HOF.out.mono ?_
    rintro e w' ⟨rfl, rfl⟩
    simp only [ofRes, if_true]
    go_wp2_with fail
    go_ret
    rw [hr.out]
    exact ⟨rfl, FsIs.post ⟨mb, rs, H.out⟩ ((Below.refl _ _).alloc (Nat.le_refl _) _)⟩
  | false =>
    rw [hd] at HOF
    cases hf : findL slt rs n with
    | none =>
      have hr : Hid (F.sync n = (F, 2)) := Lib.hid (by unfold FsS.sync FsS.on; rw [if_neg (by simp [hd]), h.find, hf]; rfl)
      rw [hf] at HOF
      clear h ho hd hf
      go_enter Try.func33, Try.ntmps33
      go_wp2_with fail
      refine HOF.out.mono ?_
      rintro e w' ⟨rfl, rfl⟩
      simp only [ofRes, Bool.false_eq_true, if_false]
      go_wp2_with fail
      go_ret
      rw [hr.out]
      exact ⟨rfl, FsIs.post ⟨mb, rs, H.out⟩ ((Below.refl _ _).alloc (Nat.le_refl _) _)⟩
    | some p =>
      have hx := (h.at_file hf).2
      have hr : Hid (F.sync n = F.write fun G => G.set n ⟨p.fl.data, p.fl.data.length⟩) := Lib.hid (by unfold FsS.sync FsS.on; rw [if_neg (by simp [hd]), hx])
      have HF := Lib.hid hf
      have HLEN := Lib.hid (ho.len hx)
      rw [hf] at HOF
      clear hx h ho hd hf
      go_enter Try.func33, Try.ntmps33
      go_wp2_with fail
      refine HOF.out.mono ?_
      rintro e w' ⟨rfl, rfl⟩
      simp only [ofRes, Bool.false_eq_true, if_false]
      go_wp2_with fail
      have hbx := blk_new w (.cells #[.pointer (some ⟨p.g, 0, none⟩)] 70)
      have hkx : Below w.heap.size w (w.alloc (.cells #[.pointer (some ⟨p.g, 0, none⟩)] 70)) := (Below.refl _ _).alloc (Nat.le_refl _) _
      generalize w.alloc (.cells #[.pointer (some ⟨p.g, 0, none⟩)] 70) = W1 at hbx hkx ⊢
      refine (f_write (H.out.below hkx) 59 #[.pointer (some ⟨w.heap.size, 0, none⟩)] eg (fun G => G.set n ⟨p.fl.data, p.fl.data.length⟩) HO.out.armed1 ?_ ?_).mono ?_
      · intro w1 a h1 hk1 _
        have hb1 : IsBlk w1 w.heap.size #[.pointer (some ⟨p.g, 0, none⟩)] 70 := hk1.obj hbx (fun e => by have : w.heap.size = fb := e; have := lt_of_block H.out.blk; omega)
        exact f_sync1 h1 HF.out hb1 (by have := HLEN.out; omega)
      · intro a
        have := HO.out.steps0
        have := HO.out.steps1
        show 0 ≤ F.steps ∧ F.steps < 1000000000
        omega
      · rintro e w2 ⟨rfl, hp⟩
        have HP := Lib.hid (FsPost.trans_keeps hkx H.out.lt hp)
        clear hp hbx hkx
        go_wp2_with fail
        go_ret
        rw [hr.out]
        exact ⟨rfl, HP.out⟩
end
end Go.Proofs.Ytmfiibehclbnjaa
