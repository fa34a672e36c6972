/- The walks of the table's methods that lock: New, Put, Delete, Snapshot, and what stands on Snapshot. -/
import Derived.Test.YtndaacojbbmcnaaT4
import Derived.Test.YtndaacojbbmcnaaLocks
import Derived.Conc.RwLoneW
namespace Go.Proofs.Ytndaacojbbmcnaa
open Go.RowKit Go.RwLone

/-- A table's cells: its lock's state and readers' count, its root, its version. -/
abbrev tabCells (s r : Int) (root : Option Addr) (ver : Int) : Array Value :=
  #[.int .i32 s, .int .u32 0, .int .u32 0, .int .u32 0, .int .i32 r, .int .i32 0, .pointer root, .int .i64 ver]
abbrev Only (b : Nat) : Nat → Prop := fun k => k = b
theorem keeps_set (w : World) (b i : Nat) (u : Value) : Keeps (Only b) w (w.setCell ⟨b, i, none⟩ u) := (Keeps.refl (Only b) w).setCell (p := ⟨b, i, none⟩) (fun _ => rfl) u
theorem w32_up : wrap32 (0 + 1) = 1 := by unfold wrap32; decide
theorem w32_down : wrap32 (1 + -1) = 0 := by unfold wrap32; decide

theorem t_lock {T : TypeId} (w : World) (tb : Nat) (root : Option Addr) (ver : Int) (h : IsBlk w tb (tabCells 0 0 root ver) T) :
    Calls Try.prog 33 #[.pointer (some ⟨tb, 0, none⟩)] w fun e w' => e = .returned (.tuple #[]) ∧ IsBlk w' tb (tabCells 1 (-1073741824) root ver) T ∧ Keeps (Only tb) w w' ∧ w'.heap.size = w.heap.size :=
  (wlock_free Try.rwWLib tb 0 (.int .u32 0) (.int .u32 0) w (blk_cell h 0) (blk_cell h 2) (blk_cell h 3) (blk_cell h 4) (blk_free h 0) (blk_free h 4)).mono
    (fun e w' ⟨he, hw⟩ => ⟨he, hw ▸ blk_set (blk_set h 0 _) 4 _, hw ▸ (keeps_set w tb _ _).trans' (keeps_set _ tb _ _), by rw [hw]; simp⟩)
theorem t_unlockD {T : TypeId} (w : World) (tb : Nat) (u : FrameMode) (root : Option Addr) (ver : Int) (h : IsBlk w tb (tabCells 1 (-1073741824) root ver) T) :
    CallsD Try.prog 34 #[.pointer (some ⟨tb, 0, none⟩)] u w fun e u' w' => u' = u ∧ e = .returned (.tuple #[]) ∧ IsBlk w' tb (tabCells 0 0 root ver) T ∧ Keeps (Only tb) w w' ∧ w'.heap.size = w.heap.size :=
  (wunlock_deferred Try.rwWLib tb 0 (.int .u32 0) (.int .u32 0) u w (blk_cell h 0) (blk_cell h 2) (blk_cell h 3) (blk_cell h 4) (blk_free h 0) (blk_free h 4)).mono
    (fun e u' w' ⟨hu, he, hw⟩ => ⟨hu, he, hw ▸ blk_set (blk_set h 4 _) 0 _, hw ▸ (keeps_set w tb _ _).trans' (keeps_set _ tb _ _), by rw [hw]; simp⟩)
theorem t_rlock {T : TypeId} (w : World) (tb : Nat) (root : Option Addr) (ver : Int) (h : IsBlk w tb (tabCells 0 0 root ver) T) :
    Calls Try.prog 46 #[.pointer (some ⟨tb, 0, none⟩)] w fun e w' => e = .returned (.tuple #[]) ∧ IsBlk w' tb (tabCells 0 1 root ver) T ∧ Keeps (Only tb) w w' ∧ w'.heap.size = w.heap.size :=
  (rlock_open Try.rwRLib tb 0 0 (.int .i32 0) (.int .u32 0) w (blk_cell h 0) (blk_cell h 3) (blk_cell h 4) (blk_free h 4) (by rw [w32_up]; decide)).mono
    (fun e w' ⟨he, hw⟩ => by rw [w32_up] at hw; exact ⟨he, hw ▸ blk_set h 4 _, hw ▸ keeps_set w tb 4 _, by rw [hw]; simp⟩)
theorem t_runlockD {T : TypeId} (w : World) (tb : Nat) (u : FrameMode) (root : Option Addr) (ver : Int) (h : IsBlk w tb (tabCells 0 1 root ver) T) :
    CallsD Try.prog 47 #[.pointer (some ⟨tb, 0, none⟩)] u w fun e u' w' => u' = u ∧ e = .returned (.tuple #[]) ∧ IsBlk w' tb (tabCells 0 0 root ver) T ∧ Keeps (Only tb) w w' ∧ w'.heap.size = w.heap.size :=
  (runlock_deferred Try.rwRLib tb 0 1 (.int .i32 0) (.int .u32 0) u w (blk_cell h 0) (blk_cell h 2) (blk_cell h 4) (blk_free h 4) (by rw [w32_down]; decide)).mono
    (fun e u' w' ⟨hu, he, hw⟩ => by rw [w32_down] at hw; exact ⟨hu, he, hw ▸ blk_set h 4 _, hw ▸ keeps_set w tb 4 _, by rw [hw]; simp⟩)

set_option maxHeartbeats 400000 in
theorem t_add {T : TypeId} (w : World) (tb : Nat) (s r : Int) (root : Option Addr) (ver : Int) (h : IsBlk w tb (tabCells s r root ver) T) (h0 : 0 ≤ ver) (h1 : ver < 1000000) :
    Calls Try.prog 35 #[.pointer (some ⟨tb, 7, none⟩), .int .i64 1] w fun e w' => (∃ v, e = .returned v) ∧ IsBlk w' tb (tabCells s r root (ver + 1)) T ∧ Keeps (Only tb) w w' ∧ w'.heap.size = w.heap.size := by
  have hc : w.cell? ⟨tb, 7, none⟩ = some (.int .i64 ver) := blk_cell h 7
  have hz : w.frozen? ⟨tb, 7, none⟩ = false := blk_free h 7
  have hadd := run_call_add (P := Try.prog) Try.func68 (by kernel_rfl) (by kernel_rfl) (by kernel_rfl) .i64 (by kernel_rfl) (y := 1) (s := ver + 1) hc hz (by simp [go_sem, IntWalk.i64_in (ver + 1) (by omega)])
  have H := Lib.hid h
  clear h
  go_enter Try.func35, Try.ntmps35
  go_wp2
  go_ret
  exact ⟨⟨_, rfl⟩, blk_set H.out 7 _, keeps_set w tb 7 _, by simp⟩
set_option maxHeartbeats 400000 in
theorem t_load {T : TypeId} (w : World) (tb : Nat) (s r : Int) (root : Option Addr) (ver : Int) (h : IsBlk w tb (tabCells s r root ver) T) :
    Calls Try.prog 48 #[.pointer (some ⟨tb, 7, none⟩)] w fun e w' => e = .returned (.int .i64 ver) ∧ w = w' := by
  have hc : w.cell? ⟨tb, 7, none⟩ = some (.int .i64 ver) := blk_cell h 7
  have hl := run_call_load (P := Try.prog) Try.func81 (by kernel_rfl) (by kernel_rfl) (by kernel_rfl) .i64 (by kernel_rfl) hc
  clear h
  go_enter Try.func48, Try.ntmps48
  go_wp2
  go_ret
  exact ⟨rfl, rfl⟩
set_option maxHeartbeats 400000 in
theorem t_version {T : TypeId} (w : World) (tb : Nat) (s r : Int) (root : Option Addr) (ver : Int) (h : IsBlk w tb (tabCells s r root ver) T) :
    Calls Try.prog 26 #[.pointer (some ⟨tb, 0, none⟩)] w fun e w' => e = .returned (.int .i64 ver) ∧ w = w' := by
  go_enter Try.func26, Try.ntmps26
  go_wp2_with (go_at_call 48; refine (t_load _ tb s r root ver h).mono ?_; rintro e w' ⟨rfl, rfl⟩)
  go_ret
  exact ⟨rfl, rfl⟩

/-- A table of these pairs at block tb. -/
structure STab (w : World) (tb : Nat) (t : Tr ByteArray Int) (ver : Int) : Prop where
  ex : ∃ root, IsBlk w tb (tabCells 0 0 root ver) 80 ∧ STree w t root

theorem ne_of_type {w : World} {b c : Nat} {cs ds : Array Value} {T U : TypeId} (h : IsBlk w b cs T) (k : IsBlk w c ds U) (hne : T ≠ U) : b ≠ c := by
  rintro rfl
  have : some (Obj.cells cs T (0, 0)) = some (Obj.cells ds U (0, 0)) := h.symm.trans k
  simp only [Option.some.injEq, Obj.cells.injEq] at this
  exact hne this.2.1

set_option maxHeartbeats 400000 in
theorem t_new (w : World) : Calls Try.prog 9 #[] w fun e w' => ∃ tb, e = .returned (.pointer (some ⟨tb, 0, none⟩)) ∧ STab w' tb .leaf 0 ∧ w.heap.size ≤ tb ∧ tb < w'.heap.size ∧ Below w.heap.size w w' := by
  go_enter Try.func9, Try.ntmps9
  go_wp2
  go_ret
  exact ⟨w.heap.size, rfl, ⟨none, blk_new w _, rfl⟩, Nat.le_refl _, by simp, (Below.refl _ _).alloc (Nat.le_refl _) _⟩

theorem kept_T {T U : TypeId} {w w' : World} {tb : Nat} {cs : Array Value} (hb : IsBlk w tb cs U) (hne : T ≠ U) (h : Keeps (Only tb) w w') : KeepT T w w' :=
  KeepT.of_keeps h (fun _ _ hi e => ne_of_type hi hb hne e)

set_option maxRecDepth 100000 in
set_option maxHeartbeats 2000000 in
theorem t_put (w : World) (tb : Nat) (t : Tr ByteArray Int) (ver : Int) (k : ByteArray) (v : Int) (h : STab w tb t ver) (h0 : 0 ≤ ver) (h1 : ver < 1000000) (hs : t.size < 900000) :
    Calls Try.prog 10 #[.pointer (some ⟨tb, 0, none⟩), .string k, .int .i64 v] w fun e w' => e = .returned (.tuple #[]) ∧ STab w' tb (t.put slt k v) (ver + 1) ∧ Keeps (Only tb) w w' := by
  obtain ⟨root, hb, ht⟩ := h.ex
  have H := Lib.hid h
  have HT := Lib.hid ht
  have HS := Lib.hid hs
  clear h ht hs
  go_enter_defers Try.func10, Try.ntmps10
  go_wp2_with fail
  refine (t_lock w tb root ver hb).mono ?_
  rintro e w1 ⟨rfl, hb1, hk1, hz1⟩
  have HB := Lib.hid hb
  have HK1 := Lib.hid hk1
  have HZ1 := Lib.hid hz1
  clear hb hk1 hz1
  go_wp2_with fail
  refine (t_add w1 tb _ _ root ver hb1 h0 h1).mono ?_
  rintro e w2 ⟨⟨v2, rfl⟩, hb2, hk2, hz2⟩
  have HK2 := Lib.hid (HK1.out.trans' hk2)
  have ht2 := HT.out.keepT (kept_T HB.out (by decide) HK2.out)
  have hc : w2.cell? ⟨tb, 6, none⟩ = some (.pointer root) := blk_cell hb2 6
  have HP := Lib.hid (s_put k v t root w2 ht2 HS.out)
  have HB2 := Lib.hid hb2
  clear hb1 hk2 hz2 ht2 hb2
  go_wp2_with fail
  refine HP.out.mono ?_
  rintro e w3 ⟨q, rfl, ht3, hg3⟩
  have hb3 : IsBlk w3 tb (tabCells 1 (-1073741824) root (ver + 1)) 80 := (hg3.block tb (lt_of_block HB2.out)).trans HB2.out
  have hc3 : w3.cell? ⟨tb, 6, none⟩ = some (.pointer root) := blk_cell hb3 6
  have hz3 : w3.frozen? ⟨tb, 6, none⟩ = false := blk_free hb3 6
  have HB3 := Lib.hid hb3
  have HG3 := Lib.hid hg3
  have HT3 := Lib.hid ht3
  clear hc hb3 hg3 ht3
  go_wp2_with fail
  refine leaves_cons (f := 34) (args := #[.pointer (some ⟨tb, 0, none⟩)]) (by simp) (by simp [go_sem]) ?_
  have hb4 := blk_set HB3.out 6 (.pointer (some q))
  refine (t_unlockD _ tb .returning (some q) (ver + 1) hb4).mono ?_
  rintro e u' w5 ⟨rfl, rfl, hb5, hk5, _⟩
  have hk4 : Keeps (Only tb) w3 (w3.setCell ⟨tb, 6, none⟩ (.pointer (some q))) := keeps_set _ _ _ _
  refine ⟨_, results_none rfl _ _ _, rfl, ⟨some q, hb5, ?_⟩, ?_⟩
  · exact HT3.out.keepT (kept_T HB3.out (by decide) (hk4.trans' hk5))
  · exact ((HK2.out.trans' ((Keeps.of_below HG3.out).mono (fun _ _ h => h.elim))).trans' hk4).trans' hk5
end Go.Proofs.Ytndaacojbbmcnaa
