/- The walks of the file system's writes: Rename. -/
import Derived.Test.YtmfiibehclbnjaaFsG
namespace Go.Proofs.Ytmfiibehclbnjaa
open Go.RowKit Go.Shelf

section
variable {w : World} {fb mb : Nat} {F : FsS} {S : Nat → Prop} {rs : List (ByteArray × Pl)}
theorem FsAt.unmap {W w1 : World} (hk : Keeps (fun k => k = mb) W w1) (h : FsAt W fb F S mb rs) {b : Nat} {cs : Array Value} {T : TypeId} (hb : IsBlk W b cs T) : IsBlk w1 b cs T :=
  hk.obj hb fun e => h.map.not_blk hb e
/-- A file's other name: what the map's two changes come to. -/
theorem rename_tail {V : World} {G : FsS} (h : FsAt V fb G S mb rs) {a b : ByteArray} {p : Pl} (hf : findL slt rs a = some p) (hne : a ≠ b) : ∃ W3 W4, (Instr.mapUpdate 71 (.map (some mb)) (.string b) (.pointer (some ⟨p.g, 0, none⟩))).run Try.prog V.drew = .ok () W3 ∧ Keeps (fun k => k = mb) V W3 ∧
    (Builtin.delete_ #[71, 9] 0 #[.map (some mb), .string a]).run Try.prog W3.drew = .ok (.tuple #[]) W4 ∧ FsAt W4 fb { G with files := dropL slt (putL slt G.files b p.fl) a } S mb (dropL slt (putL slt rs b p) a) ∧ Keeps (fun k => k = mb) V W4 := by
  have h1 := h.below (Below.refl _ _).drew
  obtain ⟨W3, hrun, hm, hk, hz⟩ := h1.map.update (P := Try.prog) (t := 71) Try.underlying71 Try.underlying9 b p
  have hm1 : MapAt strKind evP W3.drew mb (putL slt rs b p) := hm.keeps (Keeps.of_below (Below.refl _ _).drew) (fun e => e.elim)
  obtain ⟨W4, hrun2, hm2, hk2, hz2⟩ := hm1.drop (P := Try.prog) (t := 71) Try.underlying71 Try.underlying9 a 0
  have k3 : Keeps (fun k => k = mb) V W3 := ((Keeps.refl _ V).drew).trans' hk
  have k4 : Keeps (fun k => k = mb) V W4 := k3.drew.trans' hk2
  exact ⟨W3, W4, hrun, k3, hrun2, h.moved hf hne hm2 k4, k4⟩
set_option maxRecDepth 100000 in
set_option maxHeartbeats 2000000 in
theorem f_rename1 (h : FsAt w fb F S mb rs) {a b : ByteArray} {p : Pl} (hf : findL slt rs a = some p) {ba bb bf bx : Nat} (hba : IsBlk w ba #[.string a] 9) (hbb : IsBlk w bb #[.string b] 9) (hbf : IsBlk w bf #[.pointer (some ⟨fb, 0, none⟩)] 25) (hbx : IsBlk w bx #[.pointer (some ⟨p.g, 0, none⟩)] 70)
    (hl : ∀ x ∈ rs, x.2.fl.data.length ≤ 1000000000) (hF0 : 0 ≤ F.used) (hF1 : F.used ≤ 1000000000) :
    Calls Try.prog 51 #[.pointer (some ⟨ba, 0, none⟩), .pointer (some ⟨bb, 0, none⟩), .pointer (some ⟨bf, 0, none⟩), .pointer (some ⟨bx, 0, none⟩)] w fun e w' => e = .returned (.tuple #[]) ∧ FsPost w fb (F.moved a b p.fl) S w' := by
  have c0 : w.cell? ⟨ba, 0, none⟩ = some (.string a) := blk_cell hba 0
  have c1 : w.cell? ⟨bb, 0, none⟩ = some (.string b) := blk_cell hbb 0
  by_cases hne : a = b
  · subst hne
    have HF : Hid (FsPost w fb (F.moved a a p.fl) S w) := Lib.hid (by unfold FsS.moved; rw [if_pos rfl]; exact FsIs.post ⟨mb, rs, h⟩ (Below.refl _ _))
    have e : (a.toList == a.toList) = true := by simp
    clear h hf hba hbb hbf hbx hl hF0 hF1
    go_enter Try.func51, Try.ntmps51
    go_wp2_with fail
    refine bodyPost_ret (results_none rfl _ _ _) rfl ?_
    exact ⟨rfl, HF.out⟩
  · have hne2 : (a.toList == b.toList) = false := by
      rw [Lib.toList_data, Lib.toList_data, beq_eq_false_iff_ne]
      intro e
      exact hne (by cases a; cases b; simp at e ⊢; exact e)
    have c2 : w.cell? ⟨bf, 0, none⟩ = some (.pointer (some ⟨fb, 0, none⟩)) := blk_cell hbf 0
    have c4 : w.cell? ⟨fb, 2, none⟩ = some (.map (some mb)) := blk_cell h.blk 2
    have hlo := fs_look (h.below (Below.refl _ _).drew) b
    have HL := Lib.hid h.lt
    have HF := Lib.hid hf
    cases hb : findL slt rs b with
    | none =>
      rw [hb] at hlo
      replace hlo : (Instr.lookup 71 (.map (some mb)) (.string b) false).run Try.prog w.drew = .ok (.pointer none) w.drew := hlo
      have HM : Hid (F.moved a b p.fl = { F with files := dropL slt (putL slt F.files b p.fl) a }) := Lib.hid (by unfold FsS.moved; rw [if_neg hne, h.find, hb]; simp)
      have hW : Below w.heap.size w w.drew := (Below.refl _ _).drew
      have HB : Hid (IsBlk w.drew ba #[.string a] 9 ∧ IsBlk w.drew bb #[.string b] 9 ∧ IsBlk w.drew bf #[.pointer (some ⟨fb, 0, none⟩)] 25 ∧ IsBlk w.drew bx #[.pointer (some ⟨p.g, 0, none⟩)] 70) := Lib.hid ⟨hba, hbb, hbf, hbx⟩
      have HV := Lib.hid (h.below hW)
      have KV : Hid (Keeps S w w.drew) := Lib.hid ((Keeps.refl S w).drew)
      clear h hf hba hbb hbf hbx hl hF0 hF1 hb hW
      go_enter Try.func51, Try.ntmps51
      go_wp2_with fail
      refine wp_region_still_tail 5 (by kernel_rfl) (by kernel_rfl) ?_
      simp only [List.take_succ_cons, List.take_zero, List.drop_succ_cons, List.drop_zero]
      repeat still_step
      refine wpStill_nil ?_
      go_wp2_with fail
      clear hlo c0 c1 c2 c4
      generalize w.drew = V at HB HV KV ⊢
      have a0 : V.cell? ⟨ba, 0, none⟩ = some (.string a) := blk_cell HB.out.1 0
      have a1 : V.cell? ⟨bb, 0, none⟩ = some (.string b) := blk_cell HB.out.2.1 0
      have a2 : V.cell? ⟨bf, 0, none⟩ = some (.pointer (some ⟨fb, 0, none⟩)) := blk_cell HB.out.2.2.1 0
      have a3 : V.cell? ⟨bx, 0, none⟩ = some (.pointer (some ⟨p.g, 0, none⟩)) := blk_cell HB.out.2.2.2 0
      have a4 : V.cell? ⟨fb, 2, none⟩ = some (.map (some mb)) := blk_cell HV.out.blk 2
      go_wp2_with (fail)
      refine wp_region_still_tail 6 (by kernel_rfl) (by kernel_rfl) ?_
      simp only [List.take_succ_cons, List.take_zero, List.drop_succ_cons, List.drop_zero]
      repeat still_step
      refine wpStill_nil ?_
      obtain ⟨W3, W4, hrun, k3, hrun2, h4, k4⟩ := rename_tail HV.out HF.out hne
      refine wpList_mapUpdate_run rfl (.tmp 31) (.tmp 32) (.tmp 33) 71 rfl _ _ _ rfl rfl rfl _ hrun ?_
      have d0 : W3.cell? ⟨ba, 0, none⟩ = some (.string a) := blk_cell (HV.out.unmap k3 HB.out.1) 0
      have d2 : W3.cell? ⟨bf, 0, none⟩ = some (.pointer (some ⟨fb, 0, none⟩)) := blk_cell (HV.out.unmap k3 HB.out.2.2.1) 0
      have d4 : W3.cell? ⟨fb, 2, none⟩ = some (.map (some mb)) := blk_cell (HV.out.unmap k3 HV.out.blk) 2
      have H4 := Lib.hid h4
      have K4 := Lib.hid k4
      clear hrun k3 h4 k4 a0 a1 a2 a3 a4
      go_wp2_with (fail)
      refine wp_region_still_tail 5 (by kernel_rfl) (by kernel_rfl) ?_
      simp only [List.take_succ_cons, List.take_zero, List.drop_succ_cons, List.drop_zero]
      repeat still_step
      refine wpStill_nil ?_
      refine wpList_delete_run rfl (.tmp 37) (.tmp 38) 71 9 rfl _ _ rfl rfl _ _ hrun2 ?_
      clear hrun2
      go_wp2
      go_end0
      refine ⟨rfl, ⟨mb, dropL slt (putL slt rs b p) a, ?_⟩, KV.out.trans' (K4.out.mono (fun i _ e => by rw [e]; exact HV.out.smb))⟩
      rw [HM.out]
      exact H4.out.mono (fun _ e => .inl e) (new_lt HL.out (Nat.le_trans KV.out.size K4.out.size))
    | some q =>
      rw [hb] at hlo
      replace hlo : (Instr.lookup 71 (.map (some mb)) (.string b) false).run Try.prog w.drew = .ok (.pointer (some ⟨q.g, 0, none⟩)) w.drew := hlo
      have HM : Hid (F.moved a b p.fl = { ({ F with used := F.used - q.fl.data.length } : FsS) with files := dropL slt (putL slt F.files b p.fl) a }) := Lib.hid (by unfold FsS.moved; rw [if_neg hne, h.find, hb]; simp)
      have hW : Below w.heap.size w w.drew := (Below.refl _ _).drew
      have HB : Hid (IsBlk w.drew ba #[.string a] 9 ∧ IsBlk w.drew bb #[.string b] 9 ∧ IsBlk w.drew bf #[.pointer (some ⟨fb, 0, none⟩)] 25 ∧ IsBlk w.drew bx #[.pointer (some ⟨p.g, 0, none⟩)] 70) := Lib.hid ⟨hba, hbb, hbf, hbx⟩
      have HV := Lib.hid (h.below hW)
      have KV : Hid (Keeps S w w.drew) := Lib.hid ((Keeps.refl S w).drew)
      have HQ := Lib.hid hb
      have hqm : q.fl.data.length ≤ 1000000000 := hl _ (findL_mem slt_ord hb)
      have HU : Hid ((q.fl.data.length : Int) ≤ 1000000000) := Lib.hid (by omega)
      clear h hf hba hbb hbf hbx hl hb hW hqm
      go_enter Try.func51, Try.ntmps51
      go_wp2_with fail
      refine wp_region_still_tail 5 (by kernel_rfl) (by kernel_rfl) ?_
      simp only [List.take_succ_cons, List.take_zero, List.drop_succ_cons, List.drop_zero]
      repeat still_step
      refine wpStill_nil ?_
      go_wp2_with fail
      clear hlo c0 c1 c2 c4
      generalize w.drew = V at HB HV KV ⊢
      have a2 : V.cell? ⟨bf, 0, none⟩ = some (.pointer (some ⟨fb, 0, none⟩)) := blk_cell HB.out.2.2.1 0
      have u1 : V.cell? ⟨fb, 1, none⟩ = some (.int .i64 F.used) := blk_cell HV.out.blk 1
      have uz : V.frozen? ⟨fb, 1, none⟩ = false := blk_free HV.out.blk 1
      obtain ⟨va, cap, hv⟩ := (HV.out.at_file HQ.out).1.bytes.shape
      have q0 : V.cell? ⟨q.g, 0, none⟩ = some (.slice va q.fl.data.length cap) := by rw [← hv]; exact blk_cell (HV.out.at_file HQ.out).1.blk 0
      have hq1 := HU.out
      refine wp_region_still_tail 12 (by kernel_rfl) (by kernel_rfl) ?_
      simp only [List.take_succ_cons, List.take_zero, List.drop_succ_cons, List.drop_zero]
      repeat still_step
      refine wpStill_nil ?_
      go_wp2_with fail
      have HB : Hid (IsBlk (V.setCell ⟨fb, 1, none⟩ (.int .i64 (F.used - q.fl.data.length))).drew ba #[.string a] 9 ∧ IsBlk (V.setCell ⟨fb, 1, none⟩ (.int .i64 (F.used - q.fl.data.length))).drew bb #[.string b] 9 ∧ IsBlk (V.setCell ⟨fb, 1, none⟩ (.int .i64 (F.used - q.fl.data.length))).drew bf #[.pointer (some ⟨fb, 0, none⟩)] 25 ∧
          IsBlk (V.setCell ⟨fb, 1, none⟩ (.int .i64 (F.used - q.fl.data.length))).drew bx #[.pointer (some ⟨p.g, 0, none⟩)] 70) := by
        have k := keeps_set V fb 1 (.int .i64 (F.used - q.fl.data.length))
        exact Lib.hid ⟨HV.out.unkept k HB.out.1 (by decide), HV.out.unkept k HB.out.2.1 (by decide), HV.out.unkept k HB.out.2.2.1 (by decide), HV.out.unkept k HB.out.2.2.2 (by decide)⟩
      have KV : Hid (Keeps S w (V.setCell ⟨fb, 1, none⟩ (.int .i64 (F.used - q.fl.data.length))).drew) := Lib.hid ((KV.out.setCell (p := ⟨fb, 1, none⟩) (fun _ => HV.out.sfb) _).drew)
      have HV : Hid (FsAt (V.setCell ⟨fb, 1, none⟩ (.int .i64 (F.used - q.fl.data.length))).drew fb { F with used := F.used - q.fl.data.length } S mb rs) := Lib.hid ((HV.out.setCell (F' := { F with used := F.used - q.fl.data.length }) (i := 1) (u := .int .i64 (F.used - q.fl.data.length)) rfl rfl).below (Below.refl _ _).drew)
      clear a2 u1 uz q0 hq1 hv hF0 hF1 HU
      generalize (V.setCell ⟨fb, 1, none⟩ (.int .i64 (F.used - q.fl.data.length))).drew = V at HB HV KV ⊢
      have a0 : V.cell? ⟨ba, 0, none⟩ = some (.string a) := blk_cell HB.out.1 0
      have a1 : V.cell? ⟨bb, 0, none⟩ = some (.string b) := blk_cell HB.out.2.1 0
      have a2 : V.cell? ⟨bf, 0, none⟩ = some (.pointer (some ⟨fb, 0, none⟩)) := blk_cell HB.out.2.2.1 0
      have a3 : V.cell? ⟨bx, 0, none⟩ = some (.pointer (some ⟨p.g, 0, none⟩)) := blk_cell HB.out.2.2.2 0
      have a4 : V.cell? ⟨fb, 2, none⟩ = some (.map (some mb)) := blk_cell HV.out.blk 2
      go_wp2_with (fail)
      refine wp_region_still_tail 6 (by kernel_rfl) (by kernel_rfl) ?_
      simp only [List.take_succ_cons, List.take_zero, List.drop_succ_cons, List.drop_zero]
      repeat still_step
      refine wpStill_nil ?_
      obtain ⟨W3, W4, hrun, k3, hrun2, h4, k4⟩ := rename_tail HV.out HF.out hne
      refine wpList_mapUpdate_run rfl (.tmp 31) (.tmp 32) (.tmp 33) 71 rfl _ _ _ rfl rfl rfl _ hrun ?_
      have d0 : W3.cell? ⟨ba, 0, none⟩ = some (.string a) := blk_cell (HV.out.unmap k3 HB.out.1) 0
      have d2 : W3.cell? ⟨bf, 0, none⟩ = some (.pointer (some ⟨fb, 0, none⟩)) := blk_cell (HV.out.unmap k3 HB.out.2.2.1) 0
      have d4 : W3.cell? ⟨fb, 2, none⟩ = some (.map (some mb)) := blk_cell (HV.out.unmap k3 HV.out.blk) 2
      have H4 := Lib.hid h4
      have K4 := Lib.hid k4
      clear hrun k3 h4 k4 a0 a1 a2 a3 a4
      go_wp2_with (fail)
      refine wp_region_still_tail 5 (by kernel_rfl) (by kernel_rfl) ?_
      simp only [List.take_succ_cons, List.take_zero, List.drop_succ_cons, List.drop_zero]
      repeat still_step
      refine wpStill_nil ?_
      refine wpList_delete_run rfl (.tmp 37) (.tmp 38) 71 9 rfl _ _ rfl rfl _ _ hrun2 ?_
      clear hrun2
      go_wp2
      go_end0
      refine ⟨rfl, ⟨mb, dropL slt (putL slt rs b p) a, ?_⟩, KV.out.trans' (K4.out.mono (fun i _ e => by rw [e]; exact HV.out.smb))⟩
      rw [HM.out]
      exact H4.out.mono (fun _ e => .inl e) (new_lt HL.out (Nat.le_trans KV.out.size K4.out.size))
set_option maxRecDepth 100000 in
set_option maxHeartbeats 2000000 in
theorem f_rename (h : FsAt w fb F S mb rs) {k : Nat} (ho : FsOk F k) (hk : k < 1000000) (n n2 : ByteArray) :
    Calls Try.prog 22 #[.pointer (some ⟨fb, 0, none⟩), .string n, .string n2] w fun e w' => e = .returned (.int .i64 (F.rename n n2).2) ∧ FsPost w fb (F.rename n n2).1 S w' := by
  have HOF := f_ofH h n
  have H := Lib.hid h
  have HO := Lib.hid ho
  have eg := enters_of Try.func51 (P := Try.prog) (by kernel_rfl) rfl
  have hr0 : F.rename n n2 = _ := fs_on h n fun x => if okName n2 = false then (F, 1) else F.write fun G => G.moved n n2 x
  cases hd : F.down with
  | true =>
    have hr : Hid (F.rename n n2 = (F, 5)) := Lib.hid (by rw [hd, if_pos rfl] at hr0; exact hr0)
    rw [hd] at HOF
    clear h ho hd hr0
    go_enter Try.func22, Try.ntmps22
    go_wp2_with fail
    refine (HOF.out _ (alloc3 _ _ _ _).1).mono ?_
    rintro e w' ⟨rfl, rfl⟩
    simp only [ofRes, if_true]
    go_wp2_with fail
    go_ret
    rw [hr.out]
    exact ⟨rfl, FsIs.post ⟨mb, rs, H.out⟩ (alloc4 _ _ _ _ _).1⟩
  | false =>
    rw [hd] at HOF hr0
    rw [if_neg (by simp)] at hr0
    cases hf : findL slt rs n with
    | none =>
      rw [hf] at HOF hr0
      have hr : Hid (F.rename n n2 = (F, 2)) := Lib.hid hr0
      clear h ho hd hf hr0
      go_enter Try.func22, Try.ntmps22
      go_wp2_with fail
      refine (HOF.out _ (alloc3 _ _ _ _).1).mono ?_
      rintro e w' ⟨rfl, rfl⟩
      simp only [ofRes, Bool.false_eq_true, if_false]
      go_wp2_with fail
      go_ret
      rw [hr.out]
      exact ⟨rfl, FsIs.post ⟨mb, rs, H.out⟩ (alloc4 _ _ _ _ _).1⟩
    | some p =>
      rw [hf] at HOF hr0
      have HF := Lib.hid hf
      have HLEN : Hid (∀ x ∈ rs, x.2.fl.data.length ≤ 1000000000) := Lib.hid (fun x hx => by
        have h1 : (x.1, x.2.fl) ∈ F.files := by rw [h.files]; exact List.mem_map_of_mem hx
        have h2 := sumLen_mem h1
        have := ho.used; have := ho.fits; have := ho.room1
        simp only at h2
        omega)
      have hr : Hid (F.rename n n2 = if okName n2 = false then (F, 1) else F.write fun G => G.moved n n2 p.fl) := Lib.hid hr0
      have HU : Hid (0 ≤ F.used ∧ F.used ≤ 1000000000) := Lib.hid (by have := ho.used0; have := ho.fits; have := ho.room1; omega)
      clear h ho hd hf hr0
      go_enter Try.func22, Try.ntmps22
      go_wp2_with fail
      refine (HOF.out _ (alloc3 _ _ _ _).1).mono ?_
      rintro e w' ⟨rfl, rfl⟩
      simp only [ofRes, Bool.false_eq_true, if_false]
      go_wp2_with fail
      obtain ⟨hkx, hbf, hba, hbb, hbx, hsz⟩ := alloc4 w (.cells #[.pointer (some ⟨fb, 0, none⟩)] 25) (.cells #[.string n] 9) (.cells #[.string n2] 9) (.cells #[.pointer (some ⟨p.g, 0, none⟩)] 70)
      refine (f_valid _ n2).mono ?_
      rintro e W ⟨rfl, hW⟩
      have HW := Lib.hid (hkx.trans (hW.mono hkx.size))
      have HB2 : Hid (IsBlk W w.heap.size #[.pointer (some ⟨fb, 0, none⟩)] 25 ∧ IsBlk W (w.heap.size + 1) #[.string n] 9 ∧ IsBlk W (w.heap.size + 1 + 1) #[.string n2] 9 ∧ IsBlk W (w.heap.size + 1 + 1 + 1) #[.pointer (some ⟨p.g, 0, none⟩)] 70) :=
        Lib.hid ⟨(Keeps.of_below hW).obj hbf (fun e => e.elim), (Keeps.of_below hW).obj hba (fun e => e.elim), (Keeps.of_below hW).obj hbb (fun e => e.elim), (Keeps.of_below hW).obj hbx (fun e => e.elim)⟩
      clear hkx hbf hba hbb hbx hsz hW
      cases hv : okName n2 with
      | false =>
        have hr := Lib.hid (show F.rename n n2 = (F, 1) by rw [hr.out, if_pos hv])
        clear hv
        go_wp2_with fail
        go_ret
        rw [hr.out]
        exact ⟨rfl, FsIs.post ⟨mb, rs, H.out⟩ HW.out⟩
      | true =>
        have hr := Lib.hid (show F.rename n n2 = F.write fun G => G.moved n n2 p.fl by rw [hr.out, if_neg (by rw [hv]; simp)])
        have c0 : W.cell? ⟨w.heap.size, 0, none⟩ = some (.pointer (some ⟨fb, 0, none⟩)) := blk_cell HB2.out.1 0
        have H2 := Lib.hid (H.out.below HW.out)
        clear hv
        go_wp2_with fail
        refine (f_write H2.out 51 #[.pointer (some ⟨w.heap.size + 1, 0, none⟩), .pointer (some ⟨w.heap.size + 1 + 1, 0, none⟩), .pointer (some ⟨w.heap.size, 0, none⟩), .pointer (some ⟨w.heap.size + 1 + 1 + 1, 0, none⟩)] eg (fun G => G.moved n n2 p.fl) HO.out.armed1 ?_ ?_).mono ?_
        · intro w1 a h1 hk1 hz1
          exact f_rename1 h1 HF.out (H2.out.unkept hk1 HB2.out.2.1 (by decide)) (H2.out.unkept hk1 HB2.out.2.2.1 (by decide)) (H2.out.unkept hk1 HB2.out.1 (by decide)) (H2.out.unkept hk1 HB2.out.2.2.2 (by decide)) HLEN.out HU.out.1 HU.out.2
        · intro a
          have := HO.out.steps0
          have := HO.out.steps1
          have : (FsS.moved { F with armed := a } n n2 p.fl).steps = F.steps := by unfold FsS.moved; split <;> rfl
          rw [this]
          omega
        · rintro e w2 ⟨rfl, hp⟩
          have HP := Lib.hid (FsPost.trans_keeps HW.out H.out.lt hp)
          clear hp
          go_wp2_with fail
          go_ret
          rw [hr.out]
          exact ⟨rfl, HP.out⟩
end
end Go.Proofs.Ytmfiibehclbnjaa
