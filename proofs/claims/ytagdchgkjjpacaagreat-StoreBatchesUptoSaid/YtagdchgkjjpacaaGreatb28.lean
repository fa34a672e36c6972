/- The walks of Append. -/
import Derived.Test.YtagdchgkjjpacaaGreatb27
set_option maxRecDepth 100000
open Go.Lib (hid)
namespace Go.Proofs.YtagdchgkjjpacaaGreat
open Go.RowKit Go.Shelf
section
variable {w0 w w' W W1 W2 W3 : World} {fb k k' lb : Nat} {F G : FsS} {S : Nat → Prop} {L : LogS}
theorem Lg.mono {T : Nat → Prop} (h : Lg w0 w fb F k S lb L) (hs : ∀ i, S i → T i) (hl : ∀ i, T i → i < w.heap.size) (hlow : ∀ i, T i → w0.heap.size ≤ i) (ho : ¬ T lb) : Lg w0 w fb F k T lb L :=
 ⟨⟨h.hd.fs.mono hs hl, hlow, h.hd.below, h.hd.ok⟩, ⟨h.log.blk, ho, h.log.low⟩⟩
theorem Lg.flat {a b c : World} (h : Lg w0 c fb F k (New b c (New a b S)) lb L) (h0 : Lg w0 a fb G k' S lb L) (hk : a.heap.size ≤ b.heap.size) (hc : b.heap.size ≤ c.heap.size) : Lg w0 c fb F k (New a c S) lb L :=
 h.mono (new_trans hk hc) (new_lt h0.hd.fs.lt (Nat.le_trans hk hc)) (fun i e => by
  rcases e with e | e
  ·exact h0.hd.low i e
  ·have := h0.hd.below.size; omega) (fun e => by
  rcases e with e | e
  ·exact h0.log.out e
  ·have := h0.lt; omega)
def twoRes (a b : FsS × Int) : FsS × Int := if a.2 = 0 then b else a
theorem does_two (h : Lg w0 w fb F k S lb L) (hb : Below w.heap.size w W) {ab : Nat} {f1 f2 : FnV} (hab : IsBlk W ab #[f1.val, f2.val] 55) (hout : ¬ S ab)
 (eg1 : ∀ args w, (callFunc f1.g args).run Tryz.prog w = .ok (.enter f1.g args) w) (eg2 : ∀ args w, (callFunc f2.g args).run Tryz.prog w = .ok (.enter f2.g args) w) (r1 r2 : FsS × Int)
 (hcall1 : Calls Tryz.prog f1.g f1.lb W fun e W' => e = .returned (.int .i64 r1.2) ∧ Lg w0 W' fb r1.1 (k + 1) (New W W' S) lb L ∧ Keeps S W W')
 (hcall2 : ∀ W', r1.2 = 0 → Lg w0 W' fb r1.1 (k + 1) (New W W' S) lb L → Keeps S W W' → Calls Tryz.prog f2.g f2.lb W' fun e W2 => e = .returned (.int .i64 r2.2) ∧ Lg w0 W2 fb r2.1 (k + 1 + 1) (New W' W2 (New W W' S)) lb L ∧ Keeps (New W W' S) W' W2) :
 Calls Tryz.prog 110 #[.pointer (some ⟨lb, 0, none⟩), .slice (some ⟨ab, 0, none⟩) 2 2] W fun e w' => e = .returned (.int .i64 (twoRes r1 r2).2) ∧ LPost w0 w fb S lb (twoRes r1 r2).1 (k + 1 + 1) (L.after (twoRes r1 r2).2) w' := by
 refine (w_does ab lb [f1, f2] (by simp) (fun j W' => (j = 0 ∧ W' = W) ∨ (j = 1 ∧ r1.2 = 0 ∧ Lg w0 W' fb r1.1 (k + 1) (New W W' S) lb L ∧ Keeps S W W') ∨ (j = 2 ∧ r1.2 = 0 ∧ r2.2 = 0 ∧ Lg w0 W' fb r2.1 (k + 1 + 1) (New W W' S) lb L ∧ Keeps S W W'))
   (fun r sb W' => sb = L.stuck ∧ Keeps S W W' ∧ r = (twoRes r1 r2).2 ∧ Lg w0 W' fb (twoRes r1 r2).1 (k + 1 + 1) (New W W' S) lb L) (.inl ⟨rfl, rfl⟩) ?_ ?_ ?_).mono ?_
 ·rintro j W' g (⟨rfl, rfl⟩ | ⟨rfl, _, _, hk⟩ | ⟨rfl, _⟩) hg
  ·simp only [List.getElem?_cons_zero, Option.some.injEq] at hg
   subst hg; exact blk_cell hab 0
  ·simp only [List.getElem?_cons_succ, List.getElem?_cons_zero, Option.some.injEq] at hg
   subst hg; exact blk_cell (hk.obj hab hout) 1
  ·simp at hg
 ·intro g hg
  simp only [List.mem_cons, List.not_mem_nil, or_false] at hg
  rcases hg with rfl | rfl
  ·exact eg1
  ·exact eg2
 ·rintro j W' g (⟨rfl, rfl⟩ | ⟨rfl, h0, h1, hk⟩ | ⟨rfl, _⟩) hg
  ·simp only [List.getElem?_cons_zero, Option.some.injEq] at hg
   subst hg
   refine hcall1.mono fun e W2 ⟨he, h1, h2⟩ => ?_
   by_cases hr : r1.2 = 0
   ·exact .inl ⟨by rw [he, hr], .inr (.inl ⟨rfl, hr, h1, h2⟩)⟩
   ·refine .inr ⟨r1.2, L.stuck, he, hr, ⟨rfl, h2, by unfold twoRes; rw [if_neg hr], ?_⟩, h1.cells.c6, h1.free 6⟩
    unfold twoRes; rw [if_neg hr]
    exact ⟨⟨h1.hd.fs, h1.hd.low, h1.hd.below, h1.hd.ok.mono (by omega)⟩, h1.log⟩
  ·simp only [List.getElem?_cons_succ, List.getElem?_cons_zero, Option.some.injEq] at hg
   subst hg
   refine (hcall2 W' h0 h1 hk).mono fun e W2 ⟨he, h3, h4⟩ => ?_
   have h5 := h3.flat (h.below hb) hk.size h4.size
   have h6 := keeps_new hk h4
   by_cases hr : r2.2 = 0
   ·exact .inl ⟨by rw [he, hr], .inr (.inr ⟨rfl, h0, hr, h5, h6⟩)⟩
   ·refine .inr ⟨r2.2, L.stuck, he, hr, ⟨rfl, h6, by unfold twoRes; rw [if_pos h0], ?_⟩, h5.cells.c6, h5.free 6⟩
    unfold twoRes; rw [if_pos h0]; exact h5
  ·simp at hg
 ·rintro e w' (⟨rfl, hp⟩ | ⟨r, sb, W2, rfl, hr, ⟨rfl, h2, rfl, h1⟩, rfl⟩)
  ·rcases hp with ⟨h0, _⟩ | ⟨h0, _⟩ | ⟨_, h0, h3, h1, h2⟩
   ·cases h0
   ·cases h0
   ·have e1 : twoRes r1 r2 = r2 := by unfold twoRes; rw [if_pos h0]
    rw [e1]
    refine ⟨by rw [h3], ?_⟩
    have := LPost.of_ok h1 h2 h hb
    unfold LogS.after
    rwa [if_pos h3]
  ·exact ⟨rfl, LPost.of_set h1 h2 h hb hr⟩
set_option maxHeartbeats 2000000 in
theorem q_append1 (h : Lg w0 W fb F k S lb L) (hk : k < 1000000) {bl bn bp : Nat} {nm : ByteArray} {a : Option Addr} {cap : Nat} {p : List UInt8} (hbl : BoxAt S W bl (.pointer (some ⟨lb, 0, none⟩)) 112) (hbn : BoxAt S W bn (.string nm) 9) (hbp : BoxAt S W bp (.slice a p.length cap) 23)
 (hu : RdAt byteKind W (.slice a p.length cap) p) (hp : p.length ≤ 10000000) :
 Calls Tryz.prog 113 #[.pointer (some ⟨bl, 0, none⟩), .pointer (some ⟨bn, 0, none⟩), .pointer (some ⟨bp, 0, none⟩)] W fun e W' => e = .returned (.int .i64 (F.append nm (frameOf p)).2) ∧ Lg w0 W' fb (F.append nm (frameOf p)).1 (k + 1) (New W W' S) lb L ∧ Keeps S W W' := by
 have HFR : Hid (∀ W1, Below W.heap.size W W1 → Calls Tryz.prog 85 #[.slice a p.length cap] W1 fun e w2 => ∃ v, e = .returned v ∧
     (w2.cell? ⟨bl, 0, none⟩ = some (.pointer (some ⟨lb, 0, none⟩)) ∧ w2.cell? ⟨lb, 0, none⟩ = some (.pointer (some ⟨fb, 0, none⟩)) ∧ w2.cell? ⟨bn, 0, none⟩ = some (.string nm) ∧ w2.cell? ⟨bp, 0, none⟩ = some (.slice a p.length cap)) ∧ Hid (Below W.heap.size W w2 ∧ RdAt byteKind w2 v (frameOf p))) := hid fun W1 hW1 =>
   (w_frame (hu.below hW1) (by omega)).mono fun e w2 ⟨v, he, hf⟩ => by
     have hb3 : Below W.heap.size W w2 := hW1.trans (hf.below.mono hW1.size)
     have hc := (h.below hb3).cells
     exact ⟨v, he, ⟨blk_cell (hbl.below hb3).blk 0, hc.c0, blk_cell (hbn.below hb3).blk 0, blk_cell (hbp.below hb3).blk 0⟩, hid ⟨hb3, hf.sl.rd⟩⟩
 have HAP : Hid (∀ W1 W2 v, Below W.heap.size W W1 → RdAt byteKind W1 v (frameOf p) → Below W1.heap.size W1 W2 → Calls Tryz.prog 23 #[.pointer (some ⟨fb, 0, none⟩), .string nm, v] W2 fun e w2 => e = .returned (.int .i64 (F.append nm (frameOf p)).2) ∧
     (w2.cell? ⟨bl, 0, none⟩ = some (.pointer (some ⟨lb, 0, none⟩)) ∧ w2.cell? ⟨lb, 0, none⟩ = some (.pointer (some ⟨fb, 0, none⟩)) ∧ w2.cell? ⟨bn, 0, none⟩ = some (.string nm) ∧ w2.cell? ⟨bp, 0, none⟩ = some (.slice a p.length cap)) ∧
     Hid (Lg w0 w2 fb (F.append nm (frameOf p)).1 (k + 1) (New W w2 S) lb L ∧ Keeps S W w2)) := hid fun W1 W2 v hW1 hr hW2 => by
   have hW : Below W.heap.size W W2 := hW1.trans (hW2.mono hW1.size)
   obtain ⟨mb, rs, h1⟩ := h.hd.fs.below hW
   refine (f_append h1 h.hd.ok hk nm (hr.below hW2) (by rw [frameOf_len]; omega)).mono fun e w2 ⟨he, hp⟩ => ?_
   have hs := h.step hW hp (h.hd.ok.append _ _)
   have hc := hs.1.cells
   exact ⟨he, ⟨blk_cell (hbl.keep hs.2) 0, hc.c0, blk_cell (hbn.keep hs.2) 0, blk_cell (hbp.keep hs.2) 0⟩, hid hs⟩
 have c0 := h.cells.c0
 have cl : W.cell? ⟨bl, 0, none⟩ = some (.pointer (some ⟨lb, 0, none⟩)) := blk_cell hbl.blk 0
 have cn : W.cell? ⟨bn, 0, none⟩ = some (.string nm) := blk_cell hbn.blk 0
 have cp : W.cell? ⟨bp, 0, none⟩ = some (.slice a p.length cap) := blk_cell hbp.blk 0
 have hb0 : Below W.heap.size W W.drew := (Below.refl _ _).drew
 clear h hbl hbn hbp hu hp
 go_enter Tryz.func113, Tryz.ntmps113
 go_wp2_with (fail)
 go_region_held3 (fun w' => w'.cell? ⟨bl, 0, none⟩ = some (.pointer (some ⟨lb, 0, none⟩)) ∧ w'.cell? ⟨lb, 0, none⟩ = some (.pointer (some ⟨fb, 0, none⟩)) ∧ w'.cell? ⟨bn, 0, none⟩ = some (.string nm) ∧ w'.cell? ⟨bp, 0, none⟩ = some (.slice a p.length cap))
   (first
     | go_keep
     | exact s2
     | exact s1)
   (first
     | (go_at_call 85; (with_reducible refine (HFR.out _ ?_).mono ?_); exact hb0; rintro e w2 ⟨v, rfl, s1, HC⟩)
     | (go_at_call 23; (with_reducible refine (HAP.out _ _ _ HC.out.1 HC.out.2 (Below.refl _ _)).mono ?_); rintro e w2 ⟨rfl, s2, HD⟩))
 go_wp2_with (fail)
 go_ret
 exact ⟨rfl, HD.out.1, HD.out.2⟩
set_option maxHeartbeats 2000000 in
theorem q_append2 (h : Lg w0 W fb F k S lb L) (hk : k < 1000000) {bl bn : Nat} {nm : ByteArray} (hbl : BoxAt S W bl (.pointer (some ⟨lb, 0, none⟩)) 112) (hbn : BoxAt S W bn (.string nm) 9) :
 Calls Tryz.prog 114 #[.pointer (some ⟨bl, 0, none⟩), .pointer (some ⟨bn, 0, none⟩)] W fun e W' => e = .returned (.int .i64 (F.sync nm).2) ∧ Lg w0 W' fb (F.sync nm).1 (k + 1) (New W W' S) lb L ∧ Keeps S W W' := by
 have HAP : Hid (∀ W2, Below W.heap.size W W2 → Calls Tryz.prog 115 #[.pointer (some ⟨fb, 0, none⟩), .string nm] W2 fun e w2 => e = .returned (.int .i64 (F.sync nm).2) ∧
     (w2.cell? ⟨bl, 0, none⟩ = some (.pointer (some ⟨lb, 0, none⟩)) ∧ w2.cell? ⟨lb, 0, none⟩ = some (.pointer (some ⟨fb, 0, none⟩)) ∧ w2.cell? ⟨bn, 0, none⟩ = some (.string nm)) ∧
     Hid (Lg w0 w2 fb (F.sync nm).1 (k + 1) (New W w2 S) lb L ∧ Keeps S W w2)) := hid fun W2 hW => by
   obtain ⟨mb, rs, h1⟩ := h.hd.fs.below hW
   refine (f_sync h1 h.hd.ok hk nm).mono fun e w2 ⟨he, hp⟩ => ?_
   have hs := h.step hW hp (h.hd.ok.sync _)
   have hc := hs.1.cells
   exact ⟨he, ⟨blk_cell (hbl.keep hs.2) 0, hc.c0, blk_cell (hbn.keep hs.2) 0⟩, hid hs⟩
 have c0 := h.cells.c0
 have cl : W.cell? ⟨bl, 0, none⟩ = some (.pointer (some ⟨lb, 0, none⟩)) := blk_cell hbl.blk 0
 have cn : W.cell? ⟨bn, 0, none⟩ = some (.string nm) := blk_cell hbn.blk 0
 have hb0 : Below W.heap.size W W.drew := (Below.refl _ _).drew
 clear h hbl hbn
 go_enter Tryz.func114, Tryz.ntmps114
 go_wp2_with (fail)
 go_region_held3 (fun w' => w'.cell? ⟨bl, 0, none⟩ = some (.pointer (some ⟨lb, 0, none⟩)) ∧ w'.cell? ⟨lb, 0, none⟩ = some (.pointer (some ⟨fb, 0, none⟩)) ∧ w'.cell? ⟨bn, 0, none⟩ = some (.string nm))
   (first
     | go_keep
     | exact s2)
   (first
     | (go_at_call 115; (with_reducible refine (HAP.out _ ?_).mono ?_); exact hb0; rintro e w2 ⟨rfl, s2, HD⟩))
 go_wp2_with (fail)
 go_ret
 exact ⟨rfl, HD.out.1, HD.out.2⟩
end
end Go.Proofs.YtagdchgkjjpacaaGreat
