/- What the statements' Does leaves: what its file system and its reference come to. -/
import Derived.Test.YtmfiibehclbnjaaRfO
import Derived.Test.YtmfiibehclbnjaaRfH
import Derived.Test.YtmfiibehclbnjaaRf2
namespace Go.Proofs.Ytmfiibehclbnjaa
open Go.RowKit Go.Shelf

section
variable {w0 w w' : World} {fb rb ob k k' : Nat} {F G : FsS} {S R T : Nat → Prop}
/-- The file system has gone on, its reference has not yet. -/
def HalfF (w0 w : World) (fb rb : Nat) (F G : FsS) (k : Nat) (S R : Nat → Prop) (ob : Nat) (cs : Array Value) (W : World) : Prop :=
  ∃ S', Mid w0 W fb rb F G k S' R ∧ Free W ob cs 55 S' R ∧ Keeps (fun i => S i ∨ R i) w W ∧ (∀ i, S' i → S i ∨ w.heap.size ≤ i)
theorem half_step {W W' : World} {cs : Array Value} (hm : Mid w0 W fb rb F F k S R) (hf : Free W ob cs 55 S R) (hb : Below w.heap.size w W) (hd : Hd w0 W' fb G k' (New W W' S)) (hk : Keeps S W W') : HalfF w0 w fb rb F G k' S R ob cs W' :=
  ⟨_, hm.stepF hd hk, hf.keepF hk, (((Keeps.of_below hb).mono fun _ _ e => e.elim).trans' (hk.mono fun _ _ e => e)).mono fun _ _ e => .inl e, fun i e => by
    rcases e with e | e
    · exact .inl e
    · have := hb.size; exact .inr (by omega)⟩
theorem both_step {W W' : World} {cs : Array Value} (h : HalfF w0 w fb rb F G k S R ob cs W) (hp : RefPost W rb G R W') : MidPost w0 w fb rb G k S R W' ∧ IsBlk W' ob cs 55 := by
  obtain ⟨S', hm, hf, hk, hs⟩ := h
  obtain ⟨lv, rs, h1, h2⟩ := hp
  exact ⟨⟨S', _, hm.stepR ⟨lv, rs, h1, h2⟩, hk.trans h2 (fun _ _ e => .inr e), hs, fun i e => by
    rcases e with e | e
    · exact .inl e
    · have := hk.size; exact .inr (by omega)⟩, h2.obj hf.blk hf.r⟩
/-- The two calls of a pair, behind the box of the operation. -/
theorem does_pre (h : Mid w0 w fb rb F F k S R) (cs : Array Value) {fF gF : Nat} {aF aG : Array Value} {c : Int}
    (hF : ∀ W, Mid w0 W fb rb F F k S R → Below w0.heap.size w0 W → Calls Try.prog fF aF W fun e W' => e = .returned (.int .i64 c) ∧ Hd w0 W' fb G k' (New W W' S) ∧ Keeps S W W')
    (hG : ∀ W lv rs, RefAt W rb F R lv rs → Below w0.heap.size w0 W → Calls Try.prog gF aG W fun e W' => e = .returned (.int .i64 c) ∧ RefPost W rb G R W') :
    IsBlk (w.alloc (.cells cs 55)) w.heap.size cs 55 ∧
    Hid (∀ W, Below (w.alloc (.cells cs 55)).heap.size (w.alloc (.cells cs 55)) W → Calls Try.prog fF aF W fun e W' => e = .returned (.int .i64 c) ∧ IsBlk W' w.heap.size cs 55 ∧ Hid (HalfF w0 w fb rb F G k' S R w.heap.size cs W')) ∧
    Hid (∀ W, HalfF w0 w fb rb F G k' S R w.heap.size cs W → Calls Try.prog gF aG W fun e W' => e = .returned (.int .i64 c) ∧ IsBlk W' w.heap.size cs 55 ∧ Hid (MidPost w0 w fb rb G k' S R W')) := by
  have hal : Below w.heap.size w (w.alloc (.cells cs 55)) := (Below.refl _ _).alloc (Nat.le_refl _) _
  have hbx : IsBlk (w.alloc (.cells cs 55)) w.heap.size cs 55 := blk_new w _
  have hfr : Free (w.alloc (.cells cs 55)) w.heap.size cs 55 S R := ⟨hbx, fun e => by have := h.fs.fs.lt _ e; omega, fun e => by have := h.rlt _ e; omega⟩
  refine ⟨hbx, Lib.hid fun W hW => ?_, Lib.hid fun W hW => ?_⟩
  · have hB : Below w.heap.size w W := hal.trans (hW.mono hal.size)
    have hm := h.read hB
    refine (hF W hm hm.fs.below).mono ?_
    rintro e W' ⟨he, hd, hk⟩
    have hh := half_step hm (hfr.read hW) hB hd hk
    exact ⟨he, (hfr.read hW).keepF hk |>.blk, Lib.hid hh⟩
  · have hW0 := hW
    obtain ⟨S', hm, hf, hk, hs⟩ := hW0
    obtain ⟨lv, rs, hr⟩ := hm.ref
    refine (hG W lv rs hr hm.fs.below).mono ?_
    rintro e W' ⟨he, hp⟩
    obtain ⟨h1, h2⟩ := both_step hW hp
    exact ⟨he, h2, Lib.hid h1⟩
set_option maxRecDepth 100000 in
set_option maxHeartbeats 4000000 in
theorem x_does0 (h : Mid w0 w fb rb F F k S R) (hk : k < 1000000) (nn : Int) (h0 : -9223372036854775808 ≤ nn) (h1 : nn ≤ 9223372036854775807) (nm to : ByteArray) (b : List UInt8) (u : Value) (hn : nm.size ≤ 9223372036854775807) (ht : to.size ≤ 9223372036854775807) :
    Calls Try.prog 43 #[.pointer (some ⟨fb, 0, none⟩), .pointer (some ⟨rb, 0, none⟩), opAgg ⟨0, nn, nm, to, b⟩ u] w fun e w' => e = .returned (.bool true) ∧ MidPost w0 w fb rb (F.create nm).1 (k + 1) S R w' := by
  obtain ⟨hbx, HA, HB⟩ := does_pre h (opCells ⟨0, nn, nm, to, b⟩ u) (fF := 31) (gF := 61) (aF := #[.pointer (some ⟨fb, 0, none⟩), .string nm]) (aG := #[.pointer (some ⟨rb, 0, none⟩), .string nm]) (fun W hm _ => d_create hm.fs hk nm) (fun W lv rs hr _ => g_create hr h.fs.ok hk nm hn)
  have hb1 : Below (w.alloc (.cells (opCells ⟨0, nn, nm, to, b⟩ u) 55)).heap.size (w.alloc (.cells (opCells ⟨0, nn, nm, to, b⟩ u) 55)) (w.alloc (.cells (opCells ⟨0, nn, nm, to, b⟩ u) 55)).drew := (Below.refl _ _).drew
  have c2 : (w.alloc (.cells (opCells ⟨0, nn, nm, to, b⟩ u) 55)).cell? ⟨w.heap.size, 2, none⟩ = some (.string nm) := blk_cell hbx 2
  clear h hbx
  go_enter Try.func43, Try.ntmps43
  go_wp2_with (fail)
  generalize w.alloc (.cells (opCells ⟨0, nn, nm, to, b⟩ u) 55) = W at *
  go_region_held3 (fun w' => w'.cell? ⟨w.heap.size, 2, none⟩ = some (.string nm))
    (first
      | go_keep
      | exact s2
      | exact s1)
    (first
      | (go_at_call 31; (with_reducible refine (HA.out _ ?_).mono ?_); exact hb1; rintro e w2 ⟨rfl, s1, HC⟩; replace s1 : (fun w' => w'.cell? ⟨w.heap.size, 2, none⟩ = some (.string nm)) w2 := blk_cell s1 2)
      | (go_at_call 18; (with_reducible refine (r_numE _ _).mono ?_); rintro e w2 ⟨rfl, rfl⟩)
      | (go_at_call 61; (with_reducible refine (HB.out _ HC.out).mono ?_); rintro e w2 ⟨rfl, s2, HD⟩; replace s2 : (fun w' => w'.cell? ⟨w.heap.size, 2, none⟩ = some (.string nm)) w2 := blk_cell s2 2))
  go_wp2_with (fail)
  go_ret
  exact ⟨by simp, HD.out⟩
set_option maxRecDepth 100000 in
set_option maxHeartbeats 4000000 in
theorem x_does2 (h : Mid w0 w fb rb F F k S R) (hk : k < 1000000) (nn : Int) (h0 : -9223372036854775808 ≤ nn) (h1 : nn ≤ 9223372036854775807) (nm to : ByteArray) (b : List UInt8) (u : Value) (hn : nm.size ≤ 9223372036854775807) (ht : to.size ≤ 9223372036854775807) :
    Calls Try.prog 43 #[.pointer (some ⟨fb, 0, none⟩), .pointer (some ⟨rb, 0, none⟩), opAgg ⟨2, nn, nm, to, b⟩ u] w fun e w' => e = .returned (.bool true) ∧ MidPost w0 w fb rb (F.sync nm).1 (k + 1) S R w' := by
  obtain ⟨hbx, HA, HB⟩ := does_pre h (opCells ⟨2, nn, nm, to, b⟩ u) (fF := 33) (gF := 65) (aF := #[.pointer (some ⟨fb, 0, none⟩), .string nm]) (aG := #[.pointer (some ⟨rb, 0, none⟩), .string nm]) (fun W hm _ => d_sync hm.fs hk nm) (fun W lv rs hr _ => g_sync hr h.fs.ok hk nm)
  have hb1 : Below (w.alloc (.cells (opCells ⟨2, nn, nm, to, b⟩ u) 55)).heap.size (w.alloc (.cells (opCells ⟨2, nn, nm, to, b⟩ u) 55)) (w.alloc (.cells (opCells ⟨2, nn, nm, to, b⟩ u) 55)).drew := (Below.refl _ _).drew
  have c2 : (w.alloc (.cells (opCells ⟨2, nn, nm, to, b⟩ u) 55)).cell? ⟨w.heap.size, 2, none⟩ = some (.string nm) := blk_cell hbx 2
  clear h hbx
  go_enter Try.func43, Try.ntmps43
  go_wp2_with (fail)
  generalize w.alloc (.cells (opCells ⟨2, nn, nm, to, b⟩ u) 55) = W at *
  go_region_held3 (fun w' => w'.cell? ⟨w.heap.size, 2, none⟩ = some (.string nm))
    (first
      | go_keep
      | exact s2
      | exact s1)
    (first
      | (go_at_call 33; (with_reducible refine (HA.out _ ?_).mono ?_); exact hb1; rintro e w2 ⟨rfl, s1, HC⟩; replace s1 : (fun w' => w'.cell? ⟨w.heap.size, 2, none⟩ = some (.string nm)) w2 := blk_cell s1 2)
      | (go_at_call 18; (with_reducible refine (r_numE _ _).mono ?_); rintro e w2 ⟨rfl, rfl⟩)
      | (go_at_call 65; (with_reducible refine (HB.out _ HC.out).mono ?_); rintro e w2 ⟨rfl, s2, HD⟩; replace s2 : (fun w' => w'.cell? ⟨w.heap.size, 2, none⟩ = some (.string nm)) w2 := blk_cell s2 2))
  go_wp2_with (fail)
  go_ret
  exact ⟨by simp, HD.out⟩
set_option maxRecDepth 100000 in
set_option maxHeartbeats 4000000 in
theorem x_does3 (h : Mid w0 w fb rb F F k S R) (hk : k < 1000000) (nn : Int) (h0 : -9223372036854775808 ≤ nn) (h1 : nn ≤ 9223372036854775807) (nm to : ByteArray) (b : List UInt8) (u : Value) (hn : nm.size ≤ 9223372036854775807) (ht : to.size ≤ 9223372036854775807) :
    Calls Try.prog 43 #[.pointer (some ⟨fb, 0, none⟩), .pointer (some ⟨rb, 0, none⟩), opAgg ⟨3, nn, nm, to, b⟩ u] w fun e w' => e = .returned (.bool true) ∧ MidPost w0 w fb rb (F.truncate nm nn).1 (k + 1) S R w' := by
  obtain ⟨hbx, HA, HB⟩ := does_pre h (opCells ⟨3, nn, nm, to, b⟩ u) (fF := 17) (gF := 66) (aF := #[.pointer (some ⟨fb, 0, none⟩), .string nm, .int .i64 nn]) (aG := #[.pointer (some ⟨rb, 0, none⟩), .string nm, .int .i64 nn]) (fun W hm _ => d_truncate hm.fs hk nm nn) (fun W lv rs hr _ => g_truncate hr h.fs.ok hk nm nn h0 h1)
  have hb1 : Below (w.alloc (.cells (opCells ⟨3, nn, nm, to, b⟩ u) 55)).heap.size (w.alloc (.cells (opCells ⟨3, nn, nm, to, b⟩ u) 55)) (w.alloc (.cells (opCells ⟨3, nn, nm, to, b⟩ u) 55)).drew := (Below.refl _ _).drew
  have c2 : (w.alloc (.cells (opCells ⟨3, nn, nm, to, b⟩ u) 55)).cell? ⟨w.heap.size, 2, none⟩ = some (.string nm) := blk_cell hbx 2
  have c1 : (w.alloc (.cells (opCells ⟨3, nn, nm, to, b⟩ u) 55)).cell? ⟨w.heap.size, 1, none⟩ = some (.int .i64 nn) := blk_cell hbx 1
  clear h hbx
  go_enter Try.func43, Try.ntmps43
  go_wp2_with (fail)
  generalize w.alloc (.cells (opCells ⟨3, nn, nm, to, b⟩ u) 55) = W at *
  go_region_held3 (fun w' => w'.cell? ⟨w.heap.size, 2, none⟩ = some (.string nm) ∧ w'.cell? ⟨w.heap.size, 1, none⟩ = some (.int .i64 nn))
    (first
      | go_keep
      | exact s2
      | exact s1)
    (first
      | (go_at_call 17; (with_reducible refine (HA.out _ ?_).mono ?_); exact hb1; rintro e w2 ⟨rfl, s1, HC⟩; replace s1 : (fun w' => w'.cell? ⟨w.heap.size, 2, none⟩ = some (.string nm) ∧ w'.cell? ⟨w.heap.size, 1, none⟩ = some (.int .i64 nn)) w2 := ⟨blk_cell s1 2, blk_cell s1 1⟩)
      | (go_at_call 18; (with_reducible refine (r_numE _ _).mono ?_); rintro e w2 ⟨rfl, rfl⟩)
      | (go_at_call 66; (with_reducible refine (HB.out _ HC.out).mono ?_); rintro e w2 ⟨rfl, s2, HD⟩; replace s2 : (fun w' => w'.cell? ⟨w.heap.size, 2, none⟩ = some (.string nm) ∧ w'.cell? ⟨w.heap.size, 1, none⟩ = some (.int .i64 nn)) w2 := ⟨blk_cell s2 2, blk_cell s2 1⟩))
  go_wp2_with (fail)
  go_ret
  exact ⟨by simp, HD.out⟩
set_option maxRecDepth 100000 in
set_option maxHeartbeats 4000000 in
theorem x_does4 (h : Mid w0 w fb rb F F k S R) (hk : k < 1000000) (nn : Int) (h0 : -9223372036854775808 ≤ nn) (h1 : nn ≤ 9223372036854775807) (nm to : ByteArray) (b : List UInt8) (u : Value) (hn : nm.size ≤ 9223372036854775807) (ht : to.size ≤ 9223372036854775807) :
    Calls Try.prog 43 #[.pointer (some ⟨fb, 0, none⟩), .pointer (some ⟨rb, 0, none⟩), opAgg ⟨4, nn, nm, to, b⟩ u] w fun e w' => e = .returned (.bool true) ∧ MidPost w0 w fb rb (F.rename nm to).1 (k + 1) S R w' := by
  obtain ⟨hbx, HA, HB⟩ := does_pre h (opCells ⟨4, nn, nm, to, b⟩ u) (fF := 22) (gF := 67) (aF := #[.pointer (some ⟨fb, 0, none⟩), .string nm, .string to]) (aG := #[.pointer (some ⟨rb, 0, none⟩), .string nm, .string to]) (fun W hm _ => d_rename hm.fs hk nm to) (fun W lv rs hr _ => g_rename hr h.fs.ok hk nm to ht)
  have hb1 : Below (w.alloc (.cells (opCells ⟨4, nn, nm, to, b⟩ u) 55)).heap.size (w.alloc (.cells (opCells ⟨4, nn, nm, to, b⟩ u) 55)) (w.alloc (.cells (opCells ⟨4, nn, nm, to, b⟩ u) 55)).drew := (Below.refl _ _).drew
  have c2 : (w.alloc (.cells (opCells ⟨4, nn, nm, to, b⟩ u) 55)).cell? ⟨w.heap.size, 2, none⟩ = some (.string nm) := blk_cell hbx 2
  have c3 : (w.alloc (.cells (opCells ⟨4, nn, nm, to, b⟩ u) 55)).cell? ⟨w.heap.size, 3, none⟩ = some (.string to) := blk_cell hbx 3
  clear h hbx
  go_enter Try.func43, Try.ntmps43
  go_wp2_with (fail)
  generalize w.alloc (.cells (opCells ⟨4, nn, nm, to, b⟩ u) 55) = W at *
  go_region_held3 (fun w' => w'.cell? ⟨w.heap.size, 2, none⟩ = some (.string nm) ∧ w'.cell? ⟨w.heap.size, 3, none⟩ = some (.string to))
    (first
      | go_keep
      | exact s2
      | exact s1)
    (first
      | (go_at_call 22; (with_reducible refine (HA.out _ ?_).mono ?_); exact hb1; rintro e w2 ⟨rfl, s1, HC⟩; replace s1 : (fun w' => w'.cell? ⟨w.heap.size, 2, none⟩ = some (.string nm) ∧ w'.cell? ⟨w.heap.size, 3, none⟩ = some (.string to)) w2 := ⟨blk_cell s1 2, blk_cell s1 3⟩)
      | (go_at_call 18; (with_reducible refine (r_numE _ _).mono ?_); rintro e w2 ⟨rfl, rfl⟩)
      | (go_at_call 67; (with_reducible refine (HB.out _ HC.out).mono ?_); rintro e w2 ⟨rfl, s2, HD⟩; replace s2 : (fun w' => w'.cell? ⟨w.heap.size, 2, none⟩ = some (.string nm) ∧ w'.cell? ⟨w.heap.size, 3, none⟩ = some (.string to)) w2 := ⟨blk_cell s2 2, blk_cell s2 3⟩))
  go_wp2_with (fail)
  go_ret
  exact ⟨by simp, HD.out⟩
set_option maxRecDepth 100000 in
set_option maxHeartbeats 4000000 in
theorem x_does5 (h : Mid w0 w fb rb F F k S R) (hk : k < 1000000) (nn : Int) (h0 : -9223372036854775808 ≤ nn) (h1 : nn ≤ 9223372036854775807) (nm to : ByteArray) (b : List UInt8) (u : Value) (hn : nm.size ≤ 9223372036854775807) (ht : to.size ≤ 9223372036854775807) :
    Calls Try.prog 43 #[.pointer (some ⟨fb, 0, none⟩), .pointer (some ⟨rb, 0, none⟩), opAgg ⟨5, nn, nm, to, b⟩ u] w fun e w' => e = .returned (.bool true) ∧ MidPost w0 w fb rb (F.remove nm).1 (k + 1) S R w' := by
  obtain ⟨hbx, HA, HB⟩ := does_pre h (opCells ⟨5, nn, nm, to, b⟩ u) (fF := 30) (gF := 68) (aF := #[.pointer (some ⟨fb, 0, none⟩), .string nm]) (aG := #[.pointer (some ⟨rb, 0, none⟩), .string nm]) (fun W hm _ => d_remove hm.fs hk nm) (fun W lv rs hr _ => g_remove hr h.fs.ok hk nm)
  have hb1 : Below (w.alloc (.cells (opCells ⟨5, nn, nm, to, b⟩ u) 55)).heap.size (w.alloc (.cells (opCells ⟨5, nn, nm, to, b⟩ u) 55)) (w.alloc (.cells (opCells ⟨5, nn, nm, to, b⟩ u) 55)).drew := (Below.refl _ _).drew
  have c2 : (w.alloc (.cells (opCells ⟨5, nn, nm, to, b⟩ u) 55)).cell? ⟨w.heap.size, 2, none⟩ = some (.string nm) := blk_cell hbx 2
  clear h hbx
  go_enter Try.func43, Try.ntmps43
  go_wp2_with (fail)
  generalize w.alloc (.cells (opCells ⟨5, nn, nm, to, b⟩ u) 55) = W at *
  go_region_held3 (fun w' => w'.cell? ⟨w.heap.size, 2, none⟩ = some (.string nm))
    (first
      | go_keep
      | exact s2
      | exact s1)
    (first
      | (go_at_call 30; (with_reducible refine (HA.out _ ?_).mono ?_); exact hb1; rintro e w2 ⟨rfl, s1, HC⟩; replace s1 : (fun w' => w'.cell? ⟨w.heap.size, 2, none⟩ = some (.string nm)) w2 := blk_cell s1 2)
      | (go_at_call 18; (with_reducible refine (r_numE _ _).mono ?_); rintro e w2 ⟨rfl, rfl⟩)
      | (go_at_call 68; (with_reducible refine (HB.out _ HC.out).mono ?_); rintro e w2 ⟨rfl, s2, HD⟩; replace s2 : (fun w' => w'.cell? ⟨w.heap.size, 2, none⟩ = some (.string nm)) w2 := blk_cell s2 2))
  go_wp2_with (fail)
  go_ret
  exact ⟨by simp, HD.out⟩
end
end Go.Proofs.Ytmfiibehclbnjaa
