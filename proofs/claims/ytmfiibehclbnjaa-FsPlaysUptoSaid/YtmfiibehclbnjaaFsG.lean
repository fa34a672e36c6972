/- The walks of the file system's writes: Create. -/
import Derived.Test.YtmfiibehclbnjaaFsF
namespace Go.Proofs.Ytmfiibehclbnjaa
open Go.RowKit Go.Shelf

theorem step_mapUpdate_run {P : Program} {w : World} {ops : Array Oper} {o : Oper} {a : Act} {K : Act → World → Prop} {Q : Exit → Act → World → Prop} {E : Prop} (hgd : o.guard = none) (m x v : Operand) (t : TypeId) (ho : o.op = .mapUpdate t m x v) (mv kv vv : Value) (hm : a.eval m = mv) (hx : a.eval x = kv) (hv : a.eval v = vv) (w' : World)
    (hrun : (Instr.mapUpdate t mv kv vv).run P w = .ok () w') (h : K (a.put o.dst undef) w') : if Region.wanted o (yielded ops a.tmps) = true then Oper.wp P o a w K Q else E := by
  have hw : Region.wanted o (yielded ops a.tmps) = true := by simp [Region.wanted, hgd]
  rw [if_pos hw]
  exact wp_mapUpdate_run m x v t ho mv kv vv hm hx hv w' hrun h
section
variable {w : World} {fb mb : Nat} {F : FsS} {S : Nat → Prop} {rs : List (ByteArray × Pl)}
set_option maxRecDepth 100000 in
set_option maxHeartbeats 1000000 in
theorem f_create1 (h : FsAt w fb F S mb rs) {n : ByteArray} (hf : findL slt rs n = none) {bf bn : Nat} (hbf : IsBlk w bf #[.pointer (some ⟨fb, 0, none⟩)] 25) (hbn : IsBlk w bn #[.string n] 9) :
    Calls Try.prog 57 #[.pointer (some ⟨bf, 0, none⟩), .pointer (some ⟨bn, 0, none⟩)] w fun e w' => e = .returned (.tuple #[]) ∧ FsPost w fb (F.set n ⟨[], 0⟩) S w' := by
  have c0 : w.cell? ⟨bf, 0, none⟩ = some (.pointer (some ⟨fb, 0, none⟩)) := blk_cell hbf 0
  have c1 : w.cell? ⟨bn, 0, none⟩ = some (.string n) := blk_cell hbn 0
  have c2 : w.cell? ⟨fb, 2, none⟩ = some (.map (some mb)) := blk_cell h.blk 2
  obtain ⟨W1, hW1⟩ : ∃ W1, W1 = (w.alloc (.cells #[.slice none 0 0, .int .i64 0] 75)).drew := ⟨_, rfl⟩
  have hk1 : Below w.heap.size w W1 := by rw [hW1]; exact ((Below.refl _ _).alloc (Nat.le_refl _) _).drew
  have hb1 : IsBlk W1 w.heap.size #[.slice none 0 0, .int .i64 0] 75 := by rw [hW1]; exact heap_alloc_new w _
  have h1 := h.below hk1
  have gbf := (Keeps.of_below hk1).obj hbf (fun e => e.elim)
  have gbn := (Keeps.of_below hk1).obj hbn (fun e => e.elim)
  obtain ⟨w', hrun, hm, hk, hz⟩ := h1.map.update (P := Try.prog) (t := 71) Try.underlying71 Try.underlying9 n ⟨w.heap.size, .slice none 0 0, ⟨[], 0⟩⟩
  have hpost := h.newFile (p := ⟨w.heap.size, .slice none 0 0, ⟨[], 0⟩⟩) hk1 ⟨hb1, SlAt.nil⟩ (Nat.le_refl _) rfl hm hk
  have HP := Lib.hid hpost
  have d0 : w'.cell? ⟨bf, 0, none⟩ = some (.pointer (some ⟨fb, 0, none⟩)) := blk_cell (hk.obj gbf (fun e => h1.map.not_blk gbf e)) 0
  have d1 : w'.cell? ⟨bn, 0, none⟩ = some (.string n) := blk_cell (hk.obj gbn (fun e => h1.map.not_blk gbn e)) 0
  have d2 : w'.cell? ⟨fb, 2, none⟩ = some (.map (some mb)) := blk_cell (hk.obj h1.blk (fun e => h1.map.not_blk h1.blk e)) 2
  rw [hW1] at hrun
  replace hrun : (Instr.mapUpdate 71 (.map (some mb)) (.string n) (.pointer (some ⟨w.heap.size, 0, none⟩))).run Try.prog (w.alloc (.cells #[.slice none 0 0, .int .i64 0] 75)).drew = .ok () w' := hrun
  clear h hf hbf hbn gbf gbn hk1 hb1 h1 hm hk hz hpost hW1
  go_enter Try.func57, Try.ntmps57
  go_region_held3 (fun w' => w'.cell? ⟨bf, 0, none⟩ = some (.pointer (some ⟨fb, 0, none⟩)) ∧ w'.cell? ⟨bn, 0, none⟩ = some (.string n) ∧ w'.cell? ⟨fb, 2, none⟩ = some (.map (some mb)))
    (go_keep)
    (fail)
  go_wp2
  go_end0
  exact ⟨rfl, HP.out⟩

set_option maxRecDepth 100000 in
set_option maxHeartbeats 2000000 in
theorem f_create (h : FsAt w fb F S mb rs) {k : Nat} (ho : FsOk F k) (hk : k < 1000000) (n : ByteArray) :
    Calls Try.prog 31 #[.pointer (some ⟨fb, 0, none⟩), .string n] w fun e w' => e = .returned (.int .i64 (F.create n).2) ∧ FsPost w fb (F.create n).1 S w' := by
  have H := Lib.hid h
  have HO := Lib.hid ho
  have eg := enters_of Try.func57 (P := Try.prog) (by kernel_rfl) rfl
  have hr0 : F.create n = if F.down then (F, 5) else if okName n = false then (F, 1) else if (F.find n).isSome then (F, 3) else if 400 ≤ F.files.length then (F, 4) else F.write fun G => G.set n ⟨[], 0⟩ := rfl
  obtain ⟨hkx, hbf, hbn, hsz⟩ := alloc2 w (.cells #[.pointer (some ⟨fb, 0, none⟩)] 25) (.cells #[.string n] 9)
  have h1 := h.below hkx
  have c5 : ((w.alloc (.cells #[.pointer (some ⟨fb, 0, none⟩)] 25)).alloc (.cells #[.string n] 9)).cell? ⟨fb, 5, none⟩ = some (.bool F.down) := blk_cell h1.blk 5
  have c0 : ((w.alloc (.cells #[.pointer (some ⟨fb, 0, none⟩)] 25)).alloc (.cells #[.string n] 9)).cell? ⟨w.heap.size, 0, none⟩ = some (.pointer (some ⟨fb, 0, none⟩)) := blk_cell hbf 0
  have c1 : ((w.alloc (.cells #[.pointer (some ⟨fb, 0, none⟩)] 25)).alloc (.cells #[.string n] 9)).cell? ⟨w.heap.size + 1, 0, none⟩ = some (.string n) := blk_cell hbn 0
  have HB := Lib.hid (And.intro hkx (And.intro hbf hbn))
  cases hd : F.down with
  | true =>
    rw [if_pos hd] at hr0
    rw [hd] at c5
    have hr := Lib.hid hr0
    clear h h1 ho hkx hbf hbn hsz hr0 hd
    go_enter Try.func31, Try.ntmps31
    go_wp2_with fail
    go_ret
    rw [hr.out]
    exact ⟨rfl, FsIs.post ⟨mb, rs, H.out⟩ HB.out.1⟩
  | false =>
    rw [if_neg (by rw [hd]; simp)] at hr0
    rw [hd] at c5
    have hr := Lib.hid hr0
    clear h h1 ho hkx hbf hbn hsz hr0 hd
    go_enter Try.func31, Try.ntmps31
    go_wp2_with fail
    refine (f_valid _ n).mono ?_
    rintro e W ⟨rfl, hW⟩
    have HW := Lib.hid (HB.out.1.trans (hW.mono HB.out.1.size))
    have hbf : IsBlk W w.heap.size #[.pointer (some ⟨fb, 0, none⟩)] 25 := (Keeps.of_below hW).obj HB.out.2.1 (fun e => e.elim)
    have hbn : IsBlk W (w.heap.size + 1) #[.string n] 9 := (Keeps.of_below hW).obj HB.out.2.2 (fun e => e.elim)
    clear hW c0 c1 c5 HB
    cases hv : okName n with
    | false =>
      have hr := Lib.hid (show F.create n = (F, 1) by rw [hr.out, if_pos hv])
      clear hv
      go_wp2_with fail
      go_ret
      rw [hr.out]
      exact ⟨rfl, FsIs.post ⟨mb, rs, H.out⟩ HW.out⟩
    | true =>
      have h2 := H.out.below HW.out
      have h3 := h2.below (Below.refl _ _).drew
      have hl := fs_look h3 n
      have c0 : W.cell? ⟨w.heap.size, 0, none⟩ = some (.pointer (some ⟨fb, 0, none⟩)) := blk_cell hbf 0
      have c1 : W.cell? ⟨w.heap.size + 1, 0, none⟩ = some (.string n) := blk_cell hbn 0
      have c2 : W.cell? ⟨fb, 2, none⟩ = some (.map (some mb)) := blk_cell h2.blk 2
      have hfl : F.files.length = rs.length := by rw [H.out.files]; simp
      cases hf : findL slt rs n with
      | some p =>
        have hr := Lib.hid (show F.create n = (F, 3) by rw [hr.out, if_neg (by rw [hv]; simp), if_pos (by rw [H.out.find, hf]; rfl)])
        rw [hf] at hl
        replace hl : (Instr.lookup 71 (.map (some mb)) (.string n) false).run Try.prog W.drew = .ok (.pointer (some ⟨p.g, 0, none⟩)) W.drew := hl
        clear hv hf h2 h3 hbf hbn
        go_wp2_with fail
        refine wp_region_still_tail 5 (by kernel_rfl) (by kernel_rfl) ?_
        simp only [List.take_succ_cons, List.take_zero, List.drop_succ_cons, List.drop_zero]
        repeat still_step
        refine wpStill_nil ?_
        go_wp2_with fail
        go_ret
        rw [hr.out]
        exact ⟨rfl, FsIs.post ⟨mb, rs, H.out⟩ HW.out.drew⟩
      | none =>
        rw [hf] at hl
        replace hl : (Instr.lookup 71 (.map (some mb)) (.string n) false).run Try.prog W.drew = .ok (.pointer none) W.drew := hl
        have hlen := h3.map.len (P := Try.prog) (t := 71) Try.underlying71 3
        have hr := Lib.hid (show F.create n = if 400 ≤ rs.length then (F, 4) else F.write fun G => G.set n ⟨[], 0⟩ by rw [hr.out, if_neg (by rw [hv]; simp), if_neg (by rw [H.out.find, hf]; simp), hfl])
        have HF := Lib.hid hf
        have HB2 := Lib.hid (And.intro hbf hbn)
        have h400 : (rs.length : Int) ≤ 1000000 := by have := HO.out.few; omega
        by_cases hfull : 400 ≤ rs.length
        · have hfull2 : (400 : Int) ≤ rs.length := by omega
          clear hv hf h2 h3 hbf hbn hfl
          go_wp2_with fail
          refine wp_region_still_tail 5 (by kernel_rfl) (by kernel_rfl) ?_
          simp only [List.take_succ_cons, List.take_zero, List.drop_succ_cons, List.drop_zero]
          repeat still_step
          refine wpStill_nil ?_
          go_wp2_with fail
          go_ret
          rw [hr.out, if_pos hfull]
          exact ⟨rfl, FsIs.post ⟨mb, rs, H.out⟩ HW.out.drew⟩
        · have hfull2 : ¬ (400 : Int) ≤ rs.length := by omega
          clear hv hf h2 h3 hbf hbn hfl
          go_wp2_with fail
          refine wp_region_still_tail 5 (by kernel_rfl) (by kernel_rfl) ?_
          simp only [List.take_succ_cons, List.take_zero, List.drop_succ_cons, List.drop_zero]
          repeat still_step
          refine wpStill_nil ?_
          go_wp2_with fail
          have HD := H.out.below HW.out.drew
          refine (f_write HD 57 #[.pointer (some ⟨w.heap.size, 0, none⟩), .pointer (some ⟨w.heap.size + 1, 0, none⟩)] eg (fun G => G.set n ⟨[], 0⟩) HO.out.armed1 ?_ ?_).mono ?_
          · intro w1 a h1 hk1 hz1
            exact f_create1 h1 HF.out (HD.unkept hk1 HB2.out.1 (by decide)) (HD.unkept hk1 HB2.out.2 (by decide))
          · intro a
            have := HO.out.steps0
            have := HO.out.steps1
            show 0 ≤ F.steps ∧ F.steps < 1000000000
            omega
          · rintro e w2 ⟨rfl, hp⟩
            have HP := Lib.hid (FsPost.trans_keeps HW.out.drew H.out.lt hp)
            clear hp HD
            go_wp2_with fail
            go_ret
            rw [hr.out, if_neg hfull]
            exact ⟨rfl, HP.out⟩
end
end Go.Proofs.Ytmfiibehclbnjaa
