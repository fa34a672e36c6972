/- The walks of the file system's writes: Append. -/
import Derived.Test.YtmfiibehclbnjaaFsB
import Derived.Deep.RegionLaw
namespace Go.Proofs.Ytmfiibehclbnjaa
open Go.RowKit Go.Shelf

theorem infoU8 : (Try.prog.info? 5).map (fun i => (i.zero, i.size, i.bytes)) = some (some (.int .u8 0), 1, 1) := by kernel_rfl
/-- append of bytes onto bytes of the program's own. -/
theorem append_bytes {w : World} {v u : Value} {xs ys : List UInt8} (hv : SlAt byteKind 5 w v xs) (hu : RdAt byteKind w u ys) (hn : xs.length + ys.length ≤ 140737488355328) (ty : TypeId) :
    ∃ v' w', (Builtin.append_ #[28, 28] ty #[v, u]).run Try.prog w = .ok v' w' ∧ SlAt byteKind 5 w' v' (xs ++ ys) ∧ Keeps (fun k => v.ownBlock = some k) w w' ∧
      (∀ k, v'.ownBlock = some k → v.ownBlock = some k ∨ w.heap.size ≤ k) ∧ (v' = .slice none 0 0 ↔ v = .slice none 0 0 ∧ ys = []) := by
  obtain ⟨i0, hi, hz0, hz1, hz2⟩ := info_parts infoU8
  exact run_append_sl (ek := byteKind) 28 ty i0 _ 1 Try.underlying28 hi hz0 hz1 hz2 rfl hv hu (by unfold maxLen; omega) (by omega)

section
variable {w : World} {fb mb : Nat} {F : FsS} {S : Nat → Prop} {rs : List (ByteArray × Pl)}
set_option maxRecDepth 100000 in
set_option maxHeartbeats 1000000 in
theorem f_append1 (h : FsAt w fb F S mb rs) {n : ByteArray} {p : Pl} (hf : findL slt rs n = some p) {bx bb bf : Nat} {u : Value} {ys : List UInt8} (hb : IsBlk w bx #[.pointer (some ⟨p.g, 0, none⟩)] 70) (hbb : IsBlk w bb #[u] 28) (hbf : IsBlk w bf #[.pointer (some ⟨fb, 0, none⟩)] 25)
    (hu : RdAt byteKind w u ys) (hn : (p.fl.data.length : Int) + ys.length ≤ 1000000000) (hF0 : 0 ≤ F.used) (hF1 : F.used ≤ 1000000000) :
    Calls Try.prog 58 #[.pointer (some ⟨bx, 0, none⟩), .pointer (some ⟨bb, 0, none⟩), .pointer (some ⟨bf, 0, none⟩)] w fun e w' => e = .returned (.tuple #[]) ∧ FsPost w fb { F.set n ⟨p.fl.data ++ ys, p.fl.synced⟩ with used := F.used + ys.length } S w' := by
  have hp := (h.at_file hf).1
  obtain ⟨a, cap, hv⟩ := hp.bytes.shape
  have hu0 := hu
  obtain ⟨ua, ucap, rfl, _⟩ := hu0
  obtain ⟨v', w2, hrun, hs2, hk2, ho2, _⟩ := append_bytes (w := w.drew) (v := p.v) (u := .slice ua ys.length ucap) (hp.bytes.below (Below.refl _ _).drew) (hu.below (Below.refl _ _).drew) (by omega) 28
  rw [hv] at hrun
  have c0 : w.cell? ⟨bx, 0, none⟩ = some (.pointer (some ⟨p.g, 0, none⟩)) := blk_cell hb 0
  have c1 : w.cell? ⟨bb, 0, none⟩ = some (.slice ua ys.length ucap) := blk_cell hbb 0
  have d0 : w.cell? ⟨p.g, 0, none⟩ = some (.slice a p.fl.data.length cap) := by rw [← hv]; exact blk_cell hp.blk 0
  have ne : ∀ {b : Nat} {cs : Array Value} {T : TypeId}, IsBlk w b cs T → T ≠ 5 → ¬ (p.v.ownBlock = some b) := fun hb hT e => by
    obtain ⟨cur, hc⟩ := hp.bytes.own _ e
    exact blk_ne_type hb hc hT rfl
  have e0 : IsBlk w2 bx #[.pointer (some ⟨p.g, 0, none⟩)] 70 := hk2.obj (w := w.drew) hb (ne hb (by decide))
  have e1 : IsBlk w2 bb #[.slice ua ys.length ucap] 28 := hk2.obj (w := w.drew) hbb (ne hbb (by decide))
  have e2 : IsBlk w2 bf #[.pointer (some ⟨fb, 0, none⟩)] 25 := hk2.obj (w := w.drew) hbf (ne hbf (by decide))
  have e3 : IsBlk w2 p.g #[p.v, .int .i64 (p.fl.synced : Int)] 75 := hk2.obj (w := w.drew) hp.blk (ne hp.blk (by decide))
  have f0 : w2.cell? ⟨bx, 0, none⟩ = some (.pointer (some ⟨p.g, 0, none⟩)) := blk_cell e0 0
  have f1 : w2.cell? ⟨bb, 0, none⟩ = some (.slice ua ys.length ucap) := blk_cell e1 0
  have g0 : w2.cell? ⟨p.g, 0, none⟩ = some (.slice a p.fl.data.length cap) := by rw [← hv]; exact blk_cell e3 0
  have z0 : w2.frozen? ⟨p.g, 0, none⟩ = false := blk_free e3 0
  obtain ⟨va, vcap, hv'⟩ := hs2.shape
  rw [List.length_append] at hv'
  rw [hv'] at hrun
  have H3 : FsAt (w2.setCell ⟨p.g, 0, none⟩ (.slice va (p.fl.data.length + ys.length) vcap)) fb (F.set n ⟨p.fl.data ++ ys, p.fl.synced⟩) (New w (w2.setCell ⟨p.g, 0, none⟩ (.slice va (p.fl.data.length + ys.length) vcap)) S) mb (putL slt rs n { p with v := v', fl := ⟨p.fl.data ++ ys, p.fl.synced⟩ }) ∧ Keeps S w (w2.setCell ⟨p.g, 0, none⟩ (.slice va (p.fl.data.length + ys.length) vcap)) := by
    have hk : Keeps (blocksOf p) w (w2.setCell ⟨p.g, 0, none⟩ (.slice va (p.fl.data.length + ys.length) vcap)) :=
      (((Keeps.refl (blocksOf p) w).drew).trans' (hk2.mono (fun k _ e => .inr e))).setCell (p := ⟨p.g, 0, none⟩) (fun _ => .inl rfl) _
    have hb2 : ∀ k, v'.ownBlock = some k → k ≠ p.g := fun k e e2 => by
      obtain ⟨cur, hc⟩ := hs2.own k e
      exact blk_ne_type hc e3 (by decide) e2
    have hq : PlAt (w2.setCell ⟨p.g, 0, none⟩ (.slice va (p.fl.data.length + ys.length) vcap)) { p with v := v', fl := ⟨p.fl.data ++ ys, p.fl.synced⟩ } :=
      ⟨by have := blk_set e3 0 v'; rw [hv'] at this ⊢; exact this, hs2.keeps (keeps_set w2 p.g 0 _) (fun g hg e => hb2 g hg e)⟩
    exact h.setFile hf (q := { p with v := v', fl := ⟨p.fl.data ++ ys, p.fl.synced⟩ }) rfl hk hq ho2
  have k3 : Keeps (Only p.g) w2 (w2.setCell ⟨p.g, 0, none⟩ (.slice va (p.fl.data.length + ys.length) vcap)) := keeps_set _ _ _ _
  have m1 := k3.obj e1 (fun e => blk_ne_type e1 e3 (by decide) e)
  have m2 := k3.obj e2 (fun e => blk_ne_type e2 e3 (by decide) e)
  have HH := Lib.hid h
  have H3 := Lib.hid H3
  have M1 := Lib.hid m1
  have M2 := Lib.hid m2
  clear h hp hv hv' hs2 hk2 ho2 hu ne e0 e1 e2 e3 hb hbb hbf k3 m1 m2
  go_enter Try.func58, Try.ntmps58
  go_wp2_with (fail)
  have b0 : (w2.setCell ⟨p.g, 0, none⟩ (.slice va (p.fl.data.length + ys.length) vcap)).cell? ⟨fb, 1, none⟩ = some (.int .i64 F.used) := blk_cell H3.out.1.blk 1
  have b1 : (w2.setCell ⟨p.g, 0, none⟩ (.slice va (p.fl.data.length + ys.length) vcap)).frozen? ⟨fb, 1, none⟩ = false := blk_free H3.out.1.blk 1
  have b2 : (w2.setCell ⟨p.g, 0, none⟩ (.slice va (p.fl.data.length + ys.length) vcap)).cell? ⟨bb, 0, none⟩ = some (.slice ua ys.length ucap) := blk_cell M1.out 0
  have b3 : (w2.setCell ⟨p.g, 0, none⟩ (.slice va (p.fl.data.length + ys.length) vcap)).cell? ⟨bf, 0, none⟩ = some (.pointer (some ⟨fb, 0, none⟩)) := blk_cell M2.out 0
  have hsz : w.heap.size ≤ (w2.setCell ⟨p.g, 0, none⟩ (.slice va (p.fl.data.length + ys.length) vcap)).heap.size := H3.out.2.size
  have HFIN : Hid (FsPost w fb { F.set n ⟨p.fl.data ++ ys, p.fl.synced⟩ with used := F.used + ys.length } S ((w2.setCell ⟨p.g, 0, none⟩ (.slice va (p.fl.data.length + ys.length) vcap)).drew.setCell ⟨fb, 1, none⟩ (.int .i64 (F.used + ys.length)))) := Lib.hid (by
    have h4 := (H3.out.1.below (Below.refl _ _).drew).setCell (F' := { F.set n ⟨p.fl.data ++ ys, p.fl.synced⟩ with used := F.used + ys.length }) (i := 1) (u := .int .i64 (F.used + ys.length)) rfl rfl
    refine ⟨⟨_, _, h4.mono (T := New w _ S) ?_ ?_⟩, ?_⟩
    · rintro k (e | e)
      · exact .inl e
      · exact .inr ⟨e.1, by simpa using e.2⟩
    · exact new_lt HH.out.lt (by simpa using hsz)
    · exact (H3.out.2.drew).setCell (p := ⟨fb, 1, none⟩) (fun _ => HH.out.sfb) _)
  have HW := Lib.hid (show True from trivial)
  generalize hW3 : w2.setCell ⟨p.g, 0, none⟩ (.slice va (p.fl.data.length + ys.length) vcap) = W3 at b0 b1 b2 b3 HFIN
  have HW3 := Lib.hid hW3
  clear hW3 H3 M1 M2 HH hsz HW
  go_region_law ((refine step_append_run (by rfl) (.tmp 7) (.tmp 8) 28 (by rfl) _ _ (by rfl) (by rfl) _ _ hrun ?_))
  all_goals
    rw [HW3.out]
    clear HW3 hrun c0 c1 d0 f0 f1 g0 z0
    go_wp2_with (fail)
    refine wp_region_still_tail 9 (by kernel_rfl) (by kernel_rfl) ?_
    simp only [List.take_succ_cons, List.take_zero, List.drop_succ_cons, List.drop_zero]
    repeat still_step
    refine wpStill_nil ?_
    go_wp2
    go_end0
    exact ⟨rfl, HFIN.out⟩
end
end Go.Proofs.Ytmfiibehclbnjaa
