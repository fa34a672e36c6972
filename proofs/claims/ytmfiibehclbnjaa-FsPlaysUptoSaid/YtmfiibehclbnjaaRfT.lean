/- What the statements' Does leaves: what reads. -/
import Derived.Test.YtmfiibehclbnjaaRf4
namespace Go.Proofs.Ytmfiibehclbnjaa
open Go.RowKit Go.Shelf

section
variable {w0 w w' : World} {fb rb ob k k' : Nat} {F G : FsS} {S R T : Nat → Prop}
theorem Mid.postRead (h : Mid w0 w fb rb F F k S R) (hb : Below w.heap.size w w') : MidPost w0 w fb rb F k S R w' :=
  ⟨S, R, h.read hb, (Keeps.of_below hb).mono fun _ _ e => e.elim, fun _ e => .inl e, fun _ e => .inl e⟩
/-- The two calls of Valid. -/
theorem does_valid {W : World} {cs : Array Value} (hb : IsBlk W ob cs 55) (nm : ByteArray) (hn : nm.size ≤ 9223372036854775807) :
    Hid (∀ W', Below W.heap.size W W' → Calls Try.prog 23 #[.string nm] W' fun e w' => e = .returned (.bool (okName nm)) ∧ IsBlk w' ob cs 55 ∧ Hid (Below W.heap.size W w')) ∧ Hid (∀ W', Calls Try.prog 71 #[.string nm] W' fun e w' => e = .returned (.bool (okName nm)) ∧ W' = w') :=
  ⟨Lib.hid fun W' hW => (f_valid W' nm).mono fun e w' ⟨he, hbv⟩ => by
    have hB := hW.trans (hbv.mono hW.size)
    exact ⟨he, (hB.block _ (lt_of_block hb)).trans hb, Lib.hid hB⟩, Lib.hid fun W' => g_valid W' nm hn⟩
set_option maxRecDepth 100000 in
set_option maxHeartbeats 4000000 in
theorem x_does9_none (h : Mid w0 w fb rb F F k S R) {kd : Int} (k0 : (kd == 0) = false) (k1 : (kd == 1) = false) (k2 : (kd == 2) = false) (k3 : (kd == 3) = false) (k4 : (kd == 4) = false) (k5 : (kd == 5) = false) (k6 : (kd == 6) = false) (k7 : (kd == 7) = false) (nn : Int) (nm to : ByteArray) (b : List UInt8) (u : Value) (hn : nm.size ≤ 9223372036854775807) (hx : F.find nm = none) :
    Calls Try.prog 43 #[.pointer (some ⟨fb, 0, none⟩), .pointer (some ⟨rb, 0, none⟩), opAgg ⟨kd, nn, nm, to, b⟩ u] w fun e w' => e = .returned (.bool true) ∧ MidPost w0 w fb rb F k S R w' := by
  have hal : Below w.heap.size w (w.alloc (.cells (opCells ⟨kd, nn, nm, to, b⟩ u) 55)) := (Below.refl _ _).alloc (Nat.le_refl _) _
  have hbx : IsBlk (w.alloc (.cells (opCells ⟨kd, nn, nm, to, b⟩ u) 55)) w.heap.size (opCells ⟨kd, nn, nm, to, b⟩ u) 55 := blk_new w _
  have hm := h.read hal
  have HR := Lib.hid (d_read_none hm.fs hx)
  have HS := Lib.hid (d_size hm.fs nm)
  rw [hx] at HS
  obtain ⟨lv, rs, hr⟩ := hm.ref
  have HAT := Lib.hid (g_at_none hr h.fs.ok.few (find_none_all h.fs.ok hx))
  obtain ⟨HV, HG⟩ := does_valid hbx nm hn
  have HFIN : Hid (∀ W', Below (w.alloc (.cells (opCells ⟨kd, nn, nm, to, b⟩ u) 55)).heap.size (w.alloc (.cells (opCells ⟨kd, nn, nm, to, b⟩ u) 55)) W' → MidPost w0 w fb rb F k S R W') := Lib.hid fun W' hW => h.postRead (hal.trans (hW.mono hal.size))
  have c2 : (w.alloc (.cells (opCells ⟨kd, nn, nm, to, b⟩ u) 55)).cell? ⟨w.heap.size, 2, none⟩ = some (.string nm) := blk_cell hbx 2
  clear h hal hbx hm hr
  go_enter Try.func43, Try.ntmps43
  go_wp2_with (fail)
  generalize w.alloc (.cells (opCells ⟨kd, nn, nm, to, b⟩ u) 55) = W at *
  refine HR.out.mono ?_
  rintro e w1 ⟨rfl, rfl⟩
  go_wp2_with (fail)
  refine HS.out.mono ?_
  rintro e w1 ⟨rfl, rfl⟩
  unfold sizeRes
  go_wp2_with (fail)
  refine HAT.out.mono ?_
  rintro e w1 ⟨rfl, rfl⟩
  have hb1 : Below W.heap.size W W.drew := (Below.refl _ _).drew
  clear HR HS HAT
  go_wp2_with (first | (go_at_call 18; refine (r_numE _ _).mono ?_; rintro e w' ⟨rfl, rfl⟩))
  go_loopw [18] (fun i wr => i = .int .i64 0 ∧ wr = W) (fun _ _ => 0)
  case atStart => exact ⟨rfl, rfl⟩
  case round =>
    obtain ⟨rfl, rfl⟩ := hrel
    go_wp2_with (fail)
    go_region_held3 (fun w' => w'.cell? ⟨w.heap.size, 2, none⟩ = some (.string nm))
      (first
        | go_keep
        | exact s1)
      (first
        | (go_at_call 23; (with_reducible refine (HV.out _ ?_).mono ?_); exact hb1; rintro e w2 ⟨rfl, s1, HC⟩; replace s1 := blk_cell s1 2)
        | (go_at_call 71; (with_reducible refine (HG.out _).mono ?_); rintro e w3 ⟨rfl, rfl⟩))
    go_wp2_with (fail)
    go_ret
    exact ⟨by simp, HFIN.out _ HC.out⟩
end
end Go.Proofs.Ytmfiibehclbnjaa
