/- The walks of the table's functions at keys that are strings and values of another type (printed by mk_tab.py out of those at strings and ints). -/
import Derived.Test.YtkbdofbjfcajbaaGreatRows
import Derived.Test.YtkbdofbjfcajbaaGreatKeys
import Derived.Test.YtkbdofbjfcajbaaGreatLocks
import Derived.WalkSpells
import Derived.WalkLawsBesides
import Derived.Deep.RegionHeld3
import Derived.Deep.LoopGhost
import Derived.Lib.MinMax
import Derived.Lib.Hide
import Derived.Conc.RwLoneW
import Derived.Deep.CutBlock
import Derived.Laws.ResultCell
import Derived.Deep.DeepCutAuto
namespace Go.Proofs.YtkbdofbjfcajbaaGreat
open Go.RowKit Go.RwLone
section
variable {K V : Type} {lt : K → K → Bool}
theorem size_put (t : Tr K V) (k : K) (v : V) : (t.put lt k v).size ≤ t.size + 1 := by
  induction t with
  | leaf => simp [Tr.put, Tr.size]
  | node k' v' l r hl hr => unfold Tr.put; split <;> (try split) <;> simp only [Tr.size_even, Tr.size] <;> omega
end
theorem slt_gt {a b : ByteArray} (h1 : slt a b = false) (h2 : slt b a = true) : (a.toList == b.toList) = false := by
  cases h : a.toList == b.toList with
  | false => rfl
  | true =>
    have e := str_inj (by simpa using h : a.toList = b.toList)
    subst e; rw [slt_ord.irr] at h2; cases h2
/-- A table's cells: its lock's state and readers' count, its root, its version. -/
abbrev tabCells (s r : Int) (root : Option Addr) (ver : Int) : Array Value :=
  #[.int .i32 s, .int .u32 0, .int .u32 0, .int .u32 0, .int .i32 r, .int .i32 0, .pointer root, .int .i64 ver]
abbrev Only (b : Nat) : Nat → Prop := fun k => k = b
theorem keeps_set (w : World) (b i : Nat) (u : Value) : Keeps (Only b) w (w.setCell ⟨b, i, none⟩ u) := (Keeps.refl (Only b) w).setCell (p := ⟨b, i, none⟩) (fun _ => rfl) u
theorem w32_up : wrap32 (0 + 1) = 1 := by unfold wrap32; decide
theorem w32_down : wrap32 (1 + -1) = 0 := by unfold wrap32; decide
theorem t_lock {T : TypeId} (w : World) (tb : Nat) (root : Option Addr) (ver : Int) (h : IsBlk w tb (tabCells 0 0 root ver) T) :
    Calls Tryz.prog 56 #[.pointer (some ⟨tb, 0, none⟩)] w fun e w' => e = .returned (.tuple #[]) ∧ IsBlk w' tb (tabCells 1 (-1073741824) root ver) T ∧ Keeps (Only tb) w w' ∧ w'.heap.size = w.heap.size :=
  (wlock_free Tryz.rwWLib tb 0 (.int .u32 0) (.int .u32 0) w (blk_cell h 0) (blk_cell h 2) (blk_cell h 3) (blk_cell h 4) (blk_free h 0) (blk_free h 4)).mono
    (fun e w' ⟨he, hw⟩ => ⟨he, hw ▸ blk_set (blk_set h 0 _) 4 _, hw ▸ (keeps_set w tb _ _).trans' (keeps_set _ tb _ _), by rw [hw]; simp⟩)
theorem t_unlockD {T : TypeId} (w : World) (tb : Nat) (u : FrameMode) (root : Option Addr) (ver : Int) (h : IsBlk w tb (tabCells 1 (-1073741824) root ver) T) :
    CallsD Tryz.prog 57 #[.pointer (some ⟨tb, 0, none⟩)] u w fun e u' w' => u' = u ∧ e = .returned (.tuple #[]) ∧ IsBlk w' tb (tabCells 0 0 root ver) T ∧ Keeps (Only tb) w w' ∧ w'.heap.size = w.heap.size :=
  (wunlock_deferred Tryz.rwWLib tb 0 (.int .u32 0) (.int .u32 0) u w (blk_cell h 0) (blk_cell h 2) (blk_cell h 3) (blk_cell h 4) (blk_free h 0) (blk_free h 4)).mono
    (fun e u' w' ⟨hu, he, hw⟩ => ⟨hu, he, hw ▸ blk_set (blk_set h 4 _) 0 _, hw ▸ (keeps_set w tb _ _).trans' (keeps_set _ tb _ _), by rw [hw]; simp⟩)
theorem t_rlock {T : TypeId} (w : World) (tb : Nat) (root : Option Addr) (ver : Int) (h : IsBlk w tb (tabCells 0 0 root ver) T) :
    Calls Tryz.prog 81 #[.pointer (some ⟨tb, 0, none⟩)] w fun e w' => e = .returned (.tuple #[]) ∧ IsBlk w' tb (tabCells 0 1 root ver) T ∧ Keeps (Only tb) w w' ∧ w'.heap.size = w.heap.size :=
  (rlock_open Tryz.rwRLib tb 0 0 (.int .i32 0) (.int .u32 0) w (blk_cell h 0) (blk_cell h 3) (blk_cell h 4) (blk_free h 4) (by rw [w32_up]; decide)).mono
    (fun e w' ⟨he, hw⟩ => by rw [w32_up] at hw; exact ⟨he, hw ▸ blk_set h 4 _, hw ▸ keeps_set w tb 4 _, by rw [hw]; simp⟩)
theorem t_runlockD {T : TypeId} (w : World) (tb : Nat) (u : FrameMode) (root : Option Addr) (ver : Int) (h : IsBlk w tb (tabCells 0 1 root ver) T) :
    CallsD Tryz.prog 82 #[.pointer (some ⟨tb, 0, none⟩)] u w fun e u' w' => u' = u ∧ e = .returned (.tuple #[]) ∧ IsBlk w' tb (tabCells 0 0 root ver) T ∧ Keeps (Only tb) w w' ∧ w'.heap.size = w.heap.size :=
  (runlock_deferred Tryz.rwRLib tb 0 1 (.int .i32 0) (.int .u32 0) u w (blk_cell h 0) (blk_cell h 2) (blk_cell h 4) (blk_free h 4) (by rw [w32_down]; decide)).mono
    (fun e u' w' ⟨hu, he, hw⟩ => by rw [w32_down] at hw; exact ⟨hu, he, hw ▸ blk_set h 4 _, hw ▸ keeps_set w tb 4 _, by rw [hw]; simp⟩)
set_option maxHeartbeats 400000 in
theorem t_add {T : TypeId} (w : World) (tb : Nat) (s r : Int) (root : Option Addr) (ver : Int) (h : IsBlk w tb (tabCells s r root ver) T) (h0 : 0 ≤ ver) (h1 : ver < 1000000) :
    Calls Tryz.prog 25 #[.pointer (some ⟨tb, 7, none⟩), .int .i64 1] w fun e w' => (∃ v, e = .returned v) ∧ IsBlk w' tb (tabCells s r root (ver + 1)) T ∧ Keeps (Only tb) w w' ∧ w'.heap.size = w.heap.size := by
  have hc : w.cell? ⟨tb, 7, none⟩ = some (.int .i64 ver) := blk_cell h 7
  have hz : w.frozen? ⟨tb, 7, none⟩ = false := blk_free h 7
  have hadd := run_call_add (P := Tryz.prog) Tryz.func54 (by kernel_rfl) (by kernel_rfl) (by kernel_rfl) .i64 (by kernel_rfl) (y := 1) (s := ver + 1) hc hz (by simp [go_sem, IntWalk.i64_in (ver + 1) (by omega)])
  have H := Lib.hid h
  clear h
  go_enter Tryz.func25, Tryz.ntmps25
  go_wp2
  go_ret
  exact ⟨⟨_, rfl⟩, blk_set H.out 7 _, keeps_set w tb 7 _, by simp⟩
set_option maxHeartbeats 400000 in
theorem t_load {T : TypeId} (w : World) (tb : Nat) (s r : Int) (root : Option Addr) (ver : Int) (h : IsBlk w tb (tabCells s r root ver) T) :
    Calls Tryz.prog 44 #[.pointer (some ⟨tb, 7, none⟩)] w fun e w' => e = .returned (.int .i64 ver) ∧ w = w' := by
  have hc : w.cell? ⟨tb, 7, none⟩ = some (.int .i64 ver) := blk_cell h 7
  have hl := run_call_load (P := Tryz.prog) Tryz.func70 (by kernel_rfl) (by kernel_rfl) (by kernel_rfl) .i64 (by kernel_rfl) hc
  clear h
  go_enter Tryz.func44, Tryz.ntmps44
  go_wp2
  go_ret
  exact ⟨rfl, rfl⟩
theorem ne_of_type {w : World} {b c : Nat} {cs ds : Array Value} {T U : TypeId} (h : IsBlk w b cs T) (k : IsBlk w c ds U) (hne : T ≠ U) : b ≠ c := by
  rintro rfl
  have : some (Obj.cells cs T (0, 0)) = some (Obj.cells ds U (0, 0)) := h.symm.trans k
  simp only [Option.some.injEq, Obj.cells.injEq] at this
  exact hne this.2.1
theorem kept_T {T U : TypeId} {w w' : World} {tb : Nat} {cs : Array Value} (hb : IsBlk w tb cs U) (hne : T ≠ U) (h : Keeps (Only tb) w w') : KeepT T w w' :=
  KeepT.of_keeps h (fun _ _ hi e => ne_of_type hi hb hne e)
theorem Keeps.back {b : Nat} {w w' : World} {o : Obj} (h : Keeps (Only b) w w') (h0 : w.heap[b]? = some o) (h1 : w'.heap[b]? = some o) : Below w.heap.size w w' :=
  ⟨h.os, h.tape, h.output, h.size, fun k hk => by
    by_cases e : k = b
    · subst e; rw [h0, h1]
    · exact h.block k hk e⟩
structure Ev where
  key : ByteArray
  acct : ByteArray
  mtr : ByteArray
  qty : Int
  at_ : Int
instance : DecidableEq Ev := fun a b => if h : a.key = b.key ∧ a.acct = b.acct ∧ a.mtr = b.mtr ∧ a.qty = b.qty ∧ a.at_ = b.at_ then isTrue (by cases a; cases b; simp_all) else isFalse (fun e => h (by subst e; exact ⟨rfl, rfl, rfl, rfl, rfl⟩))
def Ev.zero : Ev := ⟨⟨#[]⟩, ⟨#[]⟩, ⟨#[]⟩, 0, 0⟩
abbrev Ev.val (v : Ev) : Value := .agg #[.string v.key, .string v.acct, .string v.mtr, .int .i64 v.qty, .int .i64 v.at_]

namespace Ev

def STree (w : World) : Tr ByteArray Ev → Option Addr → Prop
  | .leaf, p => p = none
  | .node k v l r, p => ∃ (b : Nat) (pl pr : Option Addr), p = some ⟨b, 0, none⟩ ∧
      IsBlk w b #[.string k, .string v.key, .string v.acct, .string v.mtr, .int .i64 v.qty, .int .i64 v.at_, .pointer pl, .pointer pr, .int .i64 ((1 + max l.tall r.tall : Nat) : Int), .int .i64 ((1 + l.size + r.size : Nat) : Int)] 143 ∧ STree w l pl ∧ STree w r pr
theorem STree.keepT {w w' : World} (h : KeepT 143 w w') : ∀ {t : Tr ByteArray Ev} {p : Option Addr}, STree w t p → STree w' t p
  | .leaf, _, ht => ht
  | .node _ _ _ _, _, ⟨b, pl, pr, e, hb, hl, hr⟩ => ⟨b, pl, pr, e, h b _ hb, STree.keepT h hl, STree.keepT h hr⟩
theorem STree.keeps {S : Nat → Prop} {w w' : World} (h : Keeps S w w') (hs : ∀ b cs, IsBlk w b cs 143 → ¬ S b) {t : Tr ByteArray Ev} {p : Option Addr} (ht : STree w t p) : STree w' t p := ht.keepT (KeepT.of_keeps h hs)
theorem STree.below {w w' : World} (h : Below w.heap.size w w') {t : Tr ByteArray Ev} {p : Option Addr} (ht : STree w t p) : STree w' t p := ht.keeps (Keeps.of_below h) (fun _ _ _ h => h)
theorem STree.alloc {w : World} (o : Obj) {t : Tr ByteArray Ev} {p : Option Addr} (ht : STree w t p) : STree (w.alloc o) t p := ht.keeps ((Keeps.refl (fun _ => False) w).alloc o) (fun _ _ _ h => h)
set_option maxHeartbeats 400000 in
theorem s_tall (w : World) (t : Tr ByteArray Ev) (p : Option Addr) (h : STree w t p) : Calls Tryz.prog 119 #[.pointer p] w fun e w' => e = .returned (.int .i64 (t.tall : Int)) ∧ w = w' := by
  cases t with
  | leaf =>
    obtain rfl : p = none := h
    go_enter Tryz.func119, Tryz.ntmps119
    go_wp2
    go_ret
    exact ⟨rfl, rfl⟩
  | node k v l r =>
    obtain ⟨b, pl, pr, rfl, hb, _, _⟩ := h
    have hc : w.cell? ⟨b, 8, none⟩ = some (.int .i64 ((1 + max l.tall r.tall : Nat) : Int)) := blk_cell hb 8
    clear hb
    go_enter Tryz.func119, Tryz.ntmps119
    go_wp2
    go_ret
    exact ⟨rfl, rfl⟩
set_option maxHeartbeats 400000 in
theorem s_many (w : World) (t : Tr ByteArray Ev) (p : Option Addr) (h : STree w t p) : Calls Tryz.prog 84 #[.pointer p] w fun e w' => e = .returned (.int .i64 (t.size : Int)) ∧ w = w' := by
  cases t with
  | leaf =>
    obtain rfl : p = none := h
    go_enter Tryz.func84, Tryz.ntmps84
    go_wp2
    go_ret
    exact ⟨rfl, rfl⟩
  | node k v l r =>
    obtain ⟨b, pl, pr, rfl, hb, _, _⟩ := h
    have hc : w.cell? ⟨b, 9, none⟩ = some (.int .i64 ((1 + l.size + r.size : Nat) : Int)) := blk_cell hb 9
    clear hb
    go_enter Tryz.func84, Tryz.ntmps84
    go_wp2
    go_ret
    exact ⟨rfl, rfl⟩
theorem s_tallI {w : World} {t : Tr ByteArray Ev} {p : Option Addr} (h : STree w t p) (hn : t.size < 1000000) : ∃ a : Int, Hid (a = (t.tall : Int)) ∧ 0 ≤ a ∧ a < 1000000 ∧
    Hid (∀ w', Below w.heap.size w w' → Calls Tryz.prog 119 #[.pointer p] w' fun e w'' => e = .returned (.int .i64 a) ∧ w' = w'') :=
  ⟨(t.tall : Int), rfl, by omega, by have := t.tall_le; omega, Lib.hid (fun w' hb => s_tall w' t p (h.below hb))⟩
/-- The box of a pair's value. -/
def BoxAtE (w : World) (bx : Nat) (v : Ev) : Prop := IsBlk w bx #[.string v.key, .string v.acct, .string v.mtr, .int .i64 v.qty, .int .i64 v.at_] 32
theorem boxE_new (w : World) (v : Ev) : ∃ w1, w.alloc (.cells #[.string v.key, .string v.acct, .string v.mtr, .int .i64 v.qty, .int .i64 v.at_] 32) = w1 ∧ Hid (Below w.heap.size w w1 ∧ BoxAtE w1 w.heap.size v) := ⟨_, rfl, Lib.hid ⟨(Below.refl _ _).alloc (Nat.le_refl _) _, blk_new w _⟩⟩
theorem s_manyI {w : World} {t : Tr ByteArray Ev} {p : Option Addr} (h : STree w t p) : Hid (∀ w', Below w.heap.size w w' → Calls Tryz.prog 84 #[.pointer p] w' fun e w'' => e = .returned (.int .i64 (t.size : Int)) ∧ w' = w'') := Lib.hid fun w' hb => s_many w' t p (h.below hb)
set_option maxRecDepth 100000 in
set_option maxHeartbeats 2000000 in
theorem s_made (w : World) (k : ByteArray) (v : Ev) (l r : Tr ByteArray Ev) (pl pr : Option Addr) (hl : STree w l pl) (hr : STree w r pr) (hn : l.size + r.size < 1000000) :
    Calls Tryz.prog 91 #[.string k, .agg #[.string v.key, .string v.acct, .string v.mtr, .int .i64 v.qty, .int .i64 v.at_], .pointer pl, .pointer pr] w fun e w' => ∃ p, e = .returned (.pointer (some p)) ∧ STree w' (.node k v l r) (some p) ∧ Below w.heap.size w w' := by
  have b3 : ((l.size : Nat) : Int) + (r.size : Nat) < 1000000 := by omega
  obtain ⟨w1, hw1, HBX⟩ := boxE_new w v
  have HL := Lib.hid (hl.below HBX.out.1)
  have HR := Lib.hid (hr.below HBX.out.1)
  obtain ⟨a, ea, a0, a1, HA⟩ := s_tallI HL.out (by omega)
  obtain ⟨b, eb, b0, b1, HB⟩ := s_tallI HR.out (by omega)
  have HC := s_manyI HL.out
  have HD := s_manyI HR.out
  obtain ⟨bx, hbx⟩ : ∃ bx, bx = w.heap.size := ⟨_, rfl⟩
  rw [← hbx] at HBX
  have x0 : w1.cell? ⟨bx, 0, none⟩ = some (.string v.key) := blk_cell HBX.out.2 0
  have x1 : w1.cell? ⟨bx, 1, none⟩ = some (.string v.acct) := blk_cell HBX.out.2 1
  have x2 : w1.cell? ⟨bx, 2, none⟩ = some (.string v.mtr) := blk_cell HBX.out.2 2
  have x3 : w1.cell? ⟨bx, 3, none⟩ = some (.int .i64 v.qty) := blk_cell HBX.out.2 3
  have x4 : w1.cell? ⟨bx, 4, none⟩ = some (.int .i64 v.at_) := blk_cell HBX.out.2 4
  have hbd : Below w1.heap.size w1 w1.drew := (Below.refl _ _).drew
  have HWB : Hid (Below w.heap.size w w1) := Lib.hid (by rw [← hbx]; exact HBX.out.1)
  have HW1 := Lib.hid hw1
  have HBE := Lib.hid hbx
  clear hl hr hn hw1 hbx
  go_enter Tryz.func91, Tryz.ntmps91
  go_upto_region 1 with fail
  rw [HW1.out, ← HBE.out]
  clear HW1
  have E1 : Hid (IntKind.i64.wrap (1 + max a b) = ((1 + max l.tall r.tall : Nat) : Int)) := Lib.hid (by rw [IntWalk.i64_in _ (by omega)]; have := ea.out; have := eb.out; omega)
  have E2 : Hid (IntKind.i64.wrap (IntKind.i64.wrap (1 + (l.size : Int)) + (r.size : Int)) = ((1 + l.size + r.size : Nat) : Int)) := Lib.hid (by rw [IntWalk.i64_in (1 + (l.size : Int)) (by omega), IntWalk.i64_in _ (by omega)]; omega)
  have HBL : Hid (∀ o : Obj, Below w1.heap.size w1 (w1.alloc o).drew) := Lib.hid fun o => ((Below.refl _ _).alloc (Nat.le_refl _) o).drew
  go_region_held3 (fun w' => w'.cell? ⟨bx, 0, none⟩ = some (.string v.key) ∧ w'.cell? ⟨bx, 1, none⟩ = some (.string v.acct) ∧ w'.cell? ⟨bx, 2, none⟩ = some (.string v.mtr) ∧ w'.cell? ⟨bx, 3, none⟩ = some (.int .i64 v.qty) ∧ w'.cell? ⟨bx, 4, none⟩ = some (.int .i64 v.at_))
    (first
      | go_keep)
    (first
      | (go_at_call 119; (with_reducible refine (HA.out _ ?_).mono ?_); exact hbd; rintro e w2 ⟨rfl, rfl⟩)
      | (go_at_call 119; (with_reducible refine (HB.out _ ?_).mono ?_); exact hbd; rintro e w2 ⟨rfl, rfl⟩)
      | (go_at_call 84; (with_reducible refine (HC.out _ ?_).mono ?_); exact hbd; rintro e w2 ⟨rfl, rfl⟩)
      | (go_at_call 84; (with_reducible refine (HD.out _ ?_).mono ?_); exact hbd; rintro e w2 ⟨rfl, rfl⟩))
  all_goals
    go_wp2
    go_ret
    refine ⟨_, rfl, ⟨_, pl, pr, rfl, ?_, HL.out.below (HBL.out _), HR.out.below (HBL.out _)⟩, HWB.out.trans ((HBL.out _).mono HWB.out.size)⟩
    exact (blk_new w1 _).trans (by rw [E1.out, E2.out])
/-- What get hands back. -/
def getRes (o : Option Ev) : Value := .tuple #[.agg #[.string (o.getD Ev.zero).key, .string (o.getD Ev.zero).acct, .string (o.getD Ev.zero).mtr, .int .i64 (o.getD Ev.zero).qty, .int .i64 (o.getD Ev.zero).at_], .bool o.isSome]
/-- A struct is stored over another one. -/
theorem boxE_cells {w : World} {bx : Nat} {v : Ev} (h : BoxAtE w bx v) : (w.cell? ⟨bx, 0, none⟩ = some (.string v.key) ∧ w.cell? ⟨bx, 1, none⟩ = some (.string v.acct) ∧ w.cell? ⟨bx, 2, none⟩ = some (.string v.mtr) ∧ w.cell? ⟨bx, 3, none⟩ = some (.int .i64 v.qty) ∧ w.cell? ⟨bx, 4, none⟩ = some (.int .i64 v.at_)) ∧
    (w.frozen? ⟨bx, 0, none⟩ = false ∧ w.frozen? ⟨bx, 1, none⟩ = false ∧ w.frozen? ⟨bx, 2, none⟩ = false ∧ w.frozen? ⟨bx, 3, none⟩ = false ∧ w.frozen? ⟨bx, 4, none⟩ = false) :=
  ⟨⟨blk_cell h 0, blk_cell h 1, blk_cell h 2, blk_cell h 3, blk_cell h 4⟩, blk_free h 0, blk_free h 1, blk_free h 2, blk_free h 3, blk_free h 4⟩
theorem boxE_below {w w' : World} {bx : Nat} {v : Ev} (h : BoxAtE w bx v) (hb : Below w.heap.size w w') : BoxAtE w' bx v := (hb.block _ (lt_of_block h)).trans h
theorem boxE_sets {w0 w : World} {bx : Nat} (hb : Below w0.heap.size w0 w) (hx : w0.heap.size ≤ bx) (a b c d e : Value) : Below w0.heap.size w0 (((((w.setCell ⟨bx, 0, none⟩ a).setCell ⟨bx, 1, none⟩ b).setCell ⟨bx, 2, none⟩ c).setCell ⟨bx, 3, none⟩ d).setCell ⟨bx, 4, none⟩ e) :=
  ((((hb.setCell (p := ⟨bx, 0, none⟩) hx _).setCell (p := ⟨bx, 1, none⟩) hx _).setCell (p := ⟨bx, 2, none⟩) hx _).setCell (p := ⟨bx, 3, none⟩) hx _).setCell (p := ⟨bx, 4, none⟩) hx _
theorem boxE_set {w : World} {bx : Nat} {u : Ev} (h : BoxAtE w bx u) (v : Ev) : BoxAtE (((((w.setCell ⟨bx, 0, none⟩ (.string v.key)).setCell ⟨bx, 1, none⟩ (.string v.acct)).setCell ⟨bx, 2, none⟩ (.string v.mtr)).setCell ⟨bx, 3, none⟩ (.int .i64 v.qty)).setCell ⟨bx, 4, none⟩ (.int .i64 v.at_)) bx v := by
  have h5 := blk_set (blk_set (blk_set (blk_set (blk_set h 0 (.string v.key)) 1 (.string v.acct)) 2 (.string v.mtr)) 3 (.int .i64 v.qty)) 4 (.int .i64 v.at_)
  exact h5
set_option maxRecDepth 100000 in
theorem res_get {fn : Func} (hf : fn.results = #[.cell 4 32, .tmp 5]) {w : World} {bx : Nat} {v : Ev} (h : BoxAtE w bx v) (tmps : Array Value) (b : Bool) (h4 : tmps.getD 4 undef = .pointer (some ⟨bx, 0, none⟩)) (h5 : tmps.getD 5 undef = .bool b) :
    (results fn tmps).run Tryz.prog w = .ok (.tuple #[.agg #[.string v.key, .string v.acct, .string v.mtr, .int .i64 v.qty, .int .i64 v.at_], .bool b]) w := by
  obtain ⟨⟨c0, c1, c2, c3, c4⟩, -⟩ := boxE_cells h
  rw [results_cell_tmp hf, h4, h5]
  go_simp
set_option maxRecDepth 100000 in
set_option maxHeartbeats 2000000 in
theorem s_get (k : ByteArray) (t : Tr ByteArray Ev) (p : Option Addr) (w : World) (h : STree w t p) :
    Calls Tryz.prog 83 #[.pointer p, .string k] w fun e w' => e = .returned (getRes (t.get slt k)) ∧ Below w.heap.size w w' := by
  obtain ⟨w0, hw0, HB0⟩ := boxE_new w Ev.zero
  obtain ⟨bx, hbx⟩ : ∃ bx, bx = w.heap.size := ⟨_, rfl⟩
  have HT0 := Lib.hid (h.below HB0.out.1)
  have HW0 := Lib.hid hw0
  have HBE := Lib.hid hbx
  clear h hw0 hbx
  go_enter Tryz.func83, Tryz.ntmps83
  go_wp2
  rw [show w.alloc (.cells #[.string ⟨#[]⟩, .string ⟨#[]⟩, .string ⟨#[]⟩, .int .i64 0, .int .i64 0] 32) = w0 from HW0.out, ← HBE.out]
  have HX0 : Hid (BoxAtE w0 bx Ev.zero) := Lib.hid (by rw [HBE.out]; exact HB0.out.2)
  go_loopg [0] (t.size + 1) (fun g s wr => ∃ (x : Tr ByteArray Ev) (q : Option Addr), g = x.size + 1 ∧ s = .pointer q ∧ w0 = wr ∧ Hid (STree w0 x q) ∧ Hid (x.get slt k = t.get slt k))
  case atStart => exact ⟨t, p, rfl, rfl, rfl, HT0, rfl⟩
  case round =>
    obtain ⟨x, q, rfl, rfl, rfl, hx, he⟩ := hrel
    cases x with
    | leaf =>
      obtain rfl : q = none := hx.out
      go_upto_region 8 with fail
      obtain ⟨w5, hw5, HB5⟩ := boxE_new w0 Ev.zero
      rw [show w0.alloc (.cells #[.string ⟨#[]⟩, .string ⟨#[]⟩, .string ⟨#[]⟩, .int .i64 0, .int .i64 0] 32) = w5 from hw5]
      obtain ⟨by_, hby⟩ : ∃ by_, by_ = w0.heap.size := ⟨_, rfl⟩
      rw [← hby] at HB5 ⊢
      have HBY := Lib.hid hby
      obtain ⟨⟨c0, c1, c2, c3, c4⟩, -⟩ := boxE_cells HB5.out.2
      obtain ⟨⟨d0, d1, d2, d3, d4⟩, z0, z1, z2, z3, z4⟩ := boxE_cells (boxE_below HX0.out (by rw [← hby]; exact HB5.out.1))
      have HBF : Hid (Below w.heap.size w w5) := Lib.hid (HB0.out.1.trans ((by have := HB5.out.1; rwa [hby] at this : Below w0.heap.size w0 w5).mono HB0.out.1.size))
      clear hw5 hby
      go_wp2
      have HN := boxE_set (boxE_below HX0.out (by rw [← HBY.out]; exact HB5.out.1)) Ev.zero
      refine bodyPost_ret (res_get rfl HN _ false rfl rfl) rfl ⟨?_, boxE_sets HBF.out (by rw [HBE.out]; exact Nat.le_refl _) _ _ _ _ _⟩
      rw [← he.out]
      rfl
    | node k' v' l r =>
      obtain ⟨b, pl, pr, rfl, hb, hl, hr⟩ := hx.out
      have k0 : w0.cell? ⟨b, 0, none⟩ = some (.string k') := blk_cell hb 0
      have k2 : w0.cell? ⟨b, 6, none⟩ = some (.pointer pl) := blk_cell hb 6
      have k3 : w0.cell? ⟨b, 7, none⟩ = some (.pointer pr) := blk_cell hb 7
      have HL := Lib.hid hl
      have HR := Lib.hid hr
      cases c1 : slt k k' with
      | true =>
        have h2 : Hid (l.get slt k = t.get slt k) := Lib.hid (by rw [← he.out]; exact (if_pos c1).symm)
        have q1 : Op.bytesLess k.toList k'.toList = true := c1
        clear c1 hb hl hr
        go_wp2
        go_roundg (l.size + 1)
        case measure => simp [Tr.size]; omega
        case rel => exact ⟨l, pl, rfl, rfl, rfl, HL, h2⟩
      | false =>
        cases c2 : slt k' k with
        | true =>
          have h2 : Hid (r.get slt k = t.get slt k) := Lib.hid (by rw [← he.out]; exact ((if_neg (by simp [c1])).trans (if_pos c2)).symm)
          have q1 : Op.bytesLess k.toList k'.toList = false := c1
          have q2 : (k.toList == k'.toList) = false := slt_gt c1 c2
          clear c1 c2 hb hl hr
          go_wp2
          go_roundg (r.size + 1)
          case measure => simp [Tr.size]; omega
          case rel => exact ⟨r, pr, rfl, rfl, rfl, HR, h2⟩
        | false =>
          obtain rfl := slt_ord.eq _ _ c1 c2
          have h2 : Hid (some v' = t.get slt k) := Lib.hid (by rw [← he.out]; exact ((if_neg (by simp [c1])).trans (if_neg (by simp [c1]))).symm)
          have q1 : Op.bytesLess k.toList k.toList = false := c1
          have e1 : w0.cell? ⟨b, 1, none⟩ = some (.string v'.key) := blk_cell hb 1
          have e2 : w0.cell? ⟨b, 2, none⟩ = some (.string v'.acct) := blk_cell hb 2
          have e3 : w0.cell? ⟨b, 3, none⟩ = some (.string v'.mtr) := blk_cell hb 3
          have e4 : w0.cell? ⟨b, 4, none⟩ = some (.int .i64 v'.qty) := blk_cell hb 4
          have e5 : w0.cell? ⟨b, 5, none⟩ = some (.int .i64 v'.at_) := blk_cell hb 5
          obtain ⟨⟨d0, d1, d2, d3, d4⟩, z0, z1, z2, z3, z4⟩ := boxE_cells HX0.out
          clear c1 c2 hb hl hr k2 k3
          go_wp2
          have HN := boxE_set HX0.out v'
          refine bodyPost_ret (res_get rfl HN _ true rfl rfl) rfl ⟨?_, boxE_sets HB0.out.1 (by rw [HBE.out]; exact Nat.le_refl _) _ _ _ _ _⟩
          rw [← h2.out]
          rfl

set_option maxRecDepth 100000 in
set_option maxHeartbeats 400000 in
/-- even, where no side is too tall. -/
theorem s_even0 (w : World) (k : ByteArray) (v : Ev) (l r : Tr ByteArray Ev) (pl pr : Option Addr) (hl : STree w l pl) (hr : STree w r pr) (hn : l.size + r.size < 1000000)
    (h1 : l.tall ≤ r.tall + 1) (h2 : r.tall ≤ l.tall + 1) :
    Calls Tryz.prog 92 #[.string k, .agg #[.string v.key, .string v.acct, .string v.mtr, .int .i64 v.qty, .int .i64 v.at_], .pointer pl, .pointer pr] w fun e w' => ∃ p, e = .returned (.pointer (some p)) ∧ STree w' (.node k v l r) (some p) ∧ Below w.heap.size w w' := by
  obtain ⟨wb, hwb, HBX⟩ := boxE_new w v
  obtain ⟨bx, hbx⟩ : ∃ bx, bx = w.heap.size := ⟨_, rfl⟩
  have HW1 := Lib.hid hwb
  have HBE := Lib.hid hbx
  have HWB : Hid (Below w.heap.size w wb) := Lib.hid HBX.out.1
  replace hl := hl.below HWB.out
  replace hr := hr.below HWB.out
  have HBW : Hid (BoxAtE wb bx v) := Lib.hid (by rw [hbx]; exact HBX.out.2)
  have hltx := lt_of_block HBW.out
  have x0 : wb.cell? ⟨bx, 0, none⟩ = some (.string v.key) := blk_cell HBW.out 0
  have x1 : wb.cell? ⟨bx, 1, none⟩ = some (.string v.acct) := blk_cell HBW.out 1
  have x2 : wb.cell? ⟨bx, 2, none⟩ = some (.string v.mtr) := blk_cell HBW.out 2
  have x3 : wb.cell? ⟨bx, 3, none⟩ = some (.int .i64 v.qty) := blk_cell HBW.out 3
  have x4 : wb.cell? ⟨bx, 4, none⟩ = some (.int .i64 v.at_) := blk_cell HBW.out 4
  clear hwb hbx HBX
  go_enter Tryz.func92, Tryz.ntmps92
  go_upto_region 1 with fail
  rw [HW1.out, ← HBE.out]
  clear HW1 HBE
  obtain ⟨a, ea, a0, a1, HA⟩ := s_tallI hl (by omega)
  obtain ⟨b, eb, b0, b1, HB⟩ := s_tallI hr (by omega)
  have c1 : a ≤ b + 1 := by rw [ea.out, eb.out]; omega
  have c2 : b ≤ a + 1 := by rw [ea.out, eb.out]; omega
  have HD := Lib.hid (s_made wb k v l r pl pr hl hr hn)
  clear hn h1 h2 hl hr
  go_wp2_with fail
  refine (HA.out _ (Below.refl _ _)).mono ?_
  rintro e w' ⟨rfl, rfl⟩
  go_wp2_with fail
  refine (HB.out _ (Below.refl _ _)).mono ?_
  rintro e w' ⟨rfl, rfl⟩
  go_wp2_with fail
  refine (HB.out _ (Below.refl _ _)).mono ?_
  rintro e w' ⟨rfl, rfl⟩
  go_wp2_with fail
  refine (HA.out _ (Below.refl _ _)).mono ?_
  rintro e w' ⟨rfl, rfl⟩
  go_wp2_with fail
  refine HD.out.mono ?_
  rintro e w' ⟨p, rfl, h3, h4⟩
  go_wp2
  go_ret
  exact ⟨p, rfl, h3, HWB.out.trans (h4.mono HWB.out.size)⟩
/-- made, in every later world. -/
theorem s_madeH {w : World} (k : ByteArray) (v : Ev) {l r : Tr ByteArray Ev} {pl pr : Option Addr} (hl : STree w l pl) (hr : STree w r pr) (hn : l.size + r.size < 1000000) :
    Hid (∀ w1, Below w.heap.size w w1 → Calls Tryz.prog 91 #[.string k, .agg #[.string v.key, .string v.acct, .string v.mtr, .int .i64 v.qty, .int .i64 v.at_], .pointer pl, .pointer pr] w1 fun e w' => ∃ p, e = .returned (.pointer (some p)) ∧ STree w' (.node k v l r) (some p) ∧ Below w.heap.size w w' ∧ Below w1.heap.size w1 w') :=
  Lib.hid (fun w1 hb => (s_made w1 k v l r pl pr (hl.below hb) (hr.below hb) hn).mono (fun _ _ ⟨p, he, ht, hb1⟩ => ⟨p, he, ht, hb.trans (hb1.mono hb.size), hb1⟩))
set_option maxRecDepth 100000 in
set_option maxHeartbeats 1000000 in
theorem s_evenL1 (w : World) (k : ByteArray) (v : Ev) (lk : ByteArray) (lv : Ev) (ll lr r : Tr ByteArray Ev) (pl pr : Option Addr) (hl : STree w (.node lk lv ll lr) pl) (hr : STree w r pr)
    (hn : (Tr.node lk lv ll lr).size + r.size < 1000000) (h1 : r.tall + 1 < (Tr.node lk lv ll lr).tall) (h2 : lr.tall ≤ ll.tall) :
    Calls Tryz.prog 92 #[.string k, .agg #[.string v.key, .string v.acct, .string v.mtr, .int .i64 v.qty, .int .i64 v.at_], .pointer pl, .pointer pr] w fun e w' => ∃ p, e = .returned (.pointer (some p)) ∧ STree w' (.node lk lv ll (.node k v lr r)) (some p) ∧ Below w.heap.size w w' := by
  obtain ⟨wb, hwb, HBX⟩ := boxE_new w v
  obtain ⟨bx, hbx⟩ : ∃ bx, bx = w.heap.size := ⟨_, rfl⟩
  have HW1 := Lib.hid hwb
  have HBE := Lib.hid hbx
  have HWB : Hid (Below w.heap.size w wb) := Lib.hid HBX.out.1
  replace hl := hl.below HWB.out
  replace hr := hr.below HWB.out
  have HBW : Hid (BoxAtE wb bx v) := Lib.hid (by rw [hbx]; exact HBX.out.2)
  have hltx := lt_of_block HBW.out
  have x0 : wb.cell? ⟨bx, 0, none⟩ = some (.string v.key) := blk_cell HBW.out 0
  have x1 : wb.cell? ⟨bx, 1, none⟩ = some (.string v.acct) := blk_cell HBW.out 1
  have x2 : wb.cell? ⟨bx, 2, none⟩ = some (.string v.mtr) := blk_cell HBW.out 2
  have x3 : wb.cell? ⟨bx, 3, none⟩ = some (.int .i64 v.qty) := blk_cell HBW.out 3
  have x4 : wb.cell? ⟨bx, 4, none⟩ = some (.int .i64 v.at_) := blk_cell HBW.out 4
  clear hwb hbx HBX
  go_enter Tryz.func92, Tryz.ntmps92
  go_upto_region 1 with fail
  rw [HW1.out, ← HBE.out]
  clear HW1 HBE
  obtain ⟨a, ea, a0, a1, HA⟩ := s_tallI hl (by omega)
  obtain ⟨b, eb, b0, b1, HB⟩ := s_tallI hr (by omega)
  obtain ⟨bl, pll, plr, rfl, hbl, hll, hlr⟩ := hl
  have hs : (Tr.node lk lv ll lr).size = 1 + ll.size + lr.size := rfl
  obtain ⟨c, ec, c0, c1, HC⟩ := s_tallI hll (by omega)
  obtain ⟨d, ed, d0, d1, HE⟩ := s_tallI hlr (by omega)
  have t1 : b + 1 < a := by rw [ea.out, eb.out]; omega
  have t2 : d ≤ c := by rw [ec.out, ed.out]; omega
  have HM := s_madeH k v hlr hr (by omega)
  have HL := Lib.hid (show Below wb.heap.size wb wb from Below.refl _ _)
  have hlt := lt_of_block hbl
  have k0 : wb.cell? ⟨bl, 0, none⟩ = some (.string lk) := blk_cell hbl 0
  have k1x : wb.cell? ⟨bl, 1, none⟩ = some (.string lv.key) := blk_cell hbl 1
  have k1y : wb.cell? ⟨bl, 2, none⟩ = some (.string lv.acct) := blk_cell hbl 2
  have k1z : wb.cell? ⟨bl, 3, none⟩ = some (.string lv.mtr) := blk_cell hbl 3
  have k1u : wb.cell? ⟨bl, 4, none⟩ = some (.int .i64 lv.qty) := blk_cell hbl 4
  have k1v : wb.cell? ⟨bl, 5, none⟩ = some (.int .i64 lv.at_) := blk_cell hbl 5
  have k2 : wb.cell? ⟨bl, 6, none⟩ = some (.pointer pll) := blk_cell hbl 6
  have k3 : wb.cell? ⟨bl, 7, none⟩ = some (.pointer plr) := blk_cell hbl 7
  have HLL := Lib.hid hll
  have HN : Hid (ll.size + (Tr.node k v lr r).size < 1000000) := Lib.hid (by simp only [Tr.size]; omega)
  clear hn h1 h2 hs hbl hll hlr hr
  go_wp2_with fail
  refine (HA.out _ (Below.refl _ _)).mono ?_
  rintro e w' ⟨rfl, rfl⟩
  go_wp2_with fail
  refine (HB.out _ (Below.refl _ _)).mono ?_
  rintro e w' ⟨rfl, rfl⟩
  go_wp2_with fail
  go_quiet ((go_at_call 119; first | (with_reducible exact quiet_hid HC) | (with_reducible exact quiet_hid HE)))
  go_wp2_with fail
  have hq : Below wb.heap.size wb (wb.drewN nq) := ⟨rfl, rfl, rfl, Nat.le_refl _, fun _ _ => rfl⟩
  go_region_held3 (fun w' => w'.cell? ⟨bx, 0, none⟩ = some (.string v.key) ∧ w'.cell? ⟨bx, 1, none⟩ = some (.string v.acct) ∧ w'.cell? ⟨bx, 2, none⟩ = some (.string v.mtr) ∧ w'.cell? ⟨bx, 3, none⟩ = some (.int .i64 v.qty) ∧ w'.cell? ⟨bx, 4, none⟩ = some (.int .i64 v.at_) ∧ w'.cell? ⟨bl, 0, none⟩ = some (.string lk) ∧ w'.cell? ⟨bl, 1, none⟩ = some (.string lv.key) ∧ w'.cell? ⟨bl, 2, none⟩ = some (.string lv.acct) ∧ w'.cell? ⟨bl, 3, none⟩ = some (.string lv.mtr) ∧ w'.cell? ⟨bl, 4, none⟩ = some (.int .i64 lv.qty) ∧ w'.cell? ⟨bl, 5, none⟩ = some (.int .i64 lv.at_) ∧ w'.cell? ⟨bl, 6, none⟩ = some (.pointer pll) ∧ w'.cell? ⟨bl, 7, none⟩ = some (.pointer plr))
    (first
      | go_keep
      | exact ⟨(g2.cell (p := ⟨bx, 0, none⟩) hltx).trans x0, (g2.cell (p := ⟨bx, 1, none⟩) hltx).trans x1, (g2.cell (p := ⟨bx, 2, none⟩) hltx).trans x2, (g2.cell (p := ⟨bx, 3, none⟩) hltx).trans x3, (g2.cell (p := ⟨bx, 4, none⟩) hltx).trans x4, (g2.cell (p := ⟨bl, 0, none⟩) hlt).trans k0, (g2.cell (p := ⟨bl, 1, none⟩) hlt).trans k1x, (g2.cell (p := ⟨bl, 2, none⟩) hlt).trans k1y, (g2.cell (p := ⟨bl, 3, none⟩) hlt).trans k1z, (g2.cell (p := ⟨bl, 4, none⟩) hlt).trans k1u, (g2.cell (p := ⟨bl, 5, none⟩) hlt).trans k1v, (g2.cell (p := ⟨bl, 6, none⟩) hlt).trans k2, (g2.cell (p := ⟨bl, 7, none⟩) hlt).trans k3⟩
      | exact ⟨(g1.cell (p := ⟨bx, 0, none⟩) hltx).trans x0, (g1.cell (p := ⟨bx, 1, none⟩) hltx).trans x1, (g1.cell (p := ⟨bx, 2, none⟩) hltx).trans x2, (g1.cell (p := ⟨bx, 3, none⟩) hltx).trans x3, (g1.cell (p := ⟨bx, 4, none⟩) hltx).trans x4, (g1.cell (p := ⟨bl, 0, none⟩) hlt).trans k0, (g1.cell (p := ⟨bl, 1, none⟩) hlt).trans k1x, (g1.cell (p := ⟨bl, 2, none⟩) hlt).trans k1y, (g1.cell (p := ⟨bl, 3, none⟩) hlt).trans k1z, (g1.cell (p := ⟨bl, 4, none⟩) hlt).trans k1u, (g1.cell (p := ⟨bl, 5, none⟩) hlt).trans k1v, (g1.cell (p := ⟨bl, 6, none⟩) hlt).trans k2, (g1.cell (p := ⟨bl, 7, none⟩) hlt).trans k3⟩)
    (first
      | (go_at_call 91; (with_reducible refine (HM.out _ ?_).mono ?_); exact hq.drew; rintro e w1 ⟨p1, rfl, t1, g1, _⟩)
      | (go_at_call 91; (with_reducible refine (s_made _ lk lv ll (.node k v lr r) pll (some p1) ?_ t1 ?_).mono ?_); exact (HLL.out).below g1; exact HN.out; rintro e w2 ⟨p2, rfl, t2, g2'⟩; have g2 := g1.trans (g2'.mono g1.size)))
  go_wp2
  go_ret
  exact ⟨p2, rfl, t2, HWB.out.trans (g2.mono HWB.out.size)⟩
set_option maxRecDepth 100000 in
set_option maxHeartbeats 2000000 in
theorem s_evenL2 (w : World) (k : ByteArray) (v : Ev) (lk : ByteArray) (lv : Ev) (ll : Tr ByteArray Ev) (mk : ByteArray) (mv : Ev) (ml mr r : Tr ByteArray Ev) (pl pr : Option Addr) (hl : STree w (Tr.node lk lv ll (Tr.node mk mv ml mr)) pl) (hr : STree w r pr)
    (hn : (Tr.node lk lv ll (Tr.node mk mv ml mr)).size + r.size < 1000000) (h1 : r.tall + 1 < (Tr.node lk lv ll (Tr.node mk mv ml mr)).tall) (h2 : ll.tall < (Tr.node mk mv ml mr).tall) :
    Calls Tryz.prog 92 #[.string k, .agg #[.string v.key, .string v.acct, .string v.mtr, .int .i64 v.qty, .int .i64 v.at_], .pointer pl, .pointer pr] w fun e w' => ∃ p, e = .returned (.pointer (some p)) ∧ STree w' (.node mk mv (.node lk lv ll ml) (.node k v mr r)) (some p) ∧ Below w.heap.size w w' := by
  obtain ⟨wb, hwb, HBX⟩ := boxE_new w v
  obtain ⟨bx, hbx⟩ : ∃ bx, bx = w.heap.size := ⟨_, rfl⟩
  have HW1 := Lib.hid hwb
  have HBE := Lib.hid hbx
  have HWB : Hid (Below w.heap.size w wb) := Lib.hid HBX.out.1
  replace hl := hl.below HWB.out
  replace hr := hr.below HWB.out
  have HBW : Hid (BoxAtE wb bx v) := Lib.hid (by rw [hbx]; exact HBX.out.2)
  have hltx := lt_of_block HBW.out
  have x0 : wb.cell? ⟨bx, 0, none⟩ = some (.string v.key) := blk_cell HBW.out 0
  have x1 : wb.cell? ⟨bx, 1, none⟩ = some (.string v.acct) := blk_cell HBW.out 1
  have x2 : wb.cell? ⟨bx, 2, none⟩ = some (.string v.mtr) := blk_cell HBW.out 2
  have x3 : wb.cell? ⟨bx, 3, none⟩ = some (.int .i64 v.qty) := blk_cell HBW.out 3
  have x4 : wb.cell? ⟨bx, 4, none⟩ = some (.int .i64 v.at_) := blk_cell HBW.out 4
  clear hwb hbx HBX
  go_enter Tryz.func92, Tryz.ntmps92
  go_upto_region 1 with fail
  rw [HW1.out, ← HBE.out]
  clear HW1 HBE
  obtain ⟨a, ea, a0, a1, HA⟩ := s_tallI hl (by omega)
  obtain ⟨b, eb, b0, b1, HB⟩ := s_tallI hr (by omega)
  obtain ⟨bl, pll, plr, rfl, hbl, hll, hlr⟩ := hl
  obtain ⟨c, ec, c0, c1, HC⟩ := s_tallI hll (by simp only [Tr.size] at hn; omega)
  obtain ⟨d, ed, d0, d1, HE⟩ := s_tallI hlr (by simp only [Tr.size] at hn ⊢; omega)
  have t1 : b + 1 < a := by rw [ea.out, eb.out]; omega
  have t2 : c < d := by rw [ec.out, ed.out]; exact_mod_cast h2
  have HN : Hid ((Tr.node lk lv ll ml).size + (Tr.node k v mr r).size < 1000000) := Lib.hid (by simp only [Tr.size] at hn ⊢; omega)
  obtain ⟨bm, pml, pmr, e9, hbm, hml, hmr⟩ := hlr
  subst e9
  have HM1 := s_madeH lk lv hll hml (by simp only [Tr.size] at hn; omega)
  have HM2 := s_madeH k v hmr hr (by simp only [Tr.size] at hn; omega)
  have hltbl := lt_of_block hbl
  have hltbm := lt_of_block hbm
  have k0 : wb.cell? ⟨bl, 0, none⟩ = some (.string lk) := blk_cell hbl 0
  have k1x : wb.cell? ⟨bl, 1, none⟩ = some (.string lv.key) := blk_cell hbl 1
  have k1y : wb.cell? ⟨bl, 2, none⟩ = some (.string lv.acct) := blk_cell hbl 2
  have k1z : wb.cell? ⟨bl, 3, none⟩ = some (.string lv.mtr) := blk_cell hbl 3
  have k1u : wb.cell? ⟨bl, 4, none⟩ = some (.int .i64 lv.qty) := blk_cell hbl 4
  have k1v : wb.cell? ⟨bl, 5, none⟩ = some (.int .i64 lv.at_) := blk_cell hbl 5
  have k2 : wb.cell? ⟨bl, 6, none⟩ = some (.pointer pll) := blk_cell hbl 6
  have k3 : wb.cell? ⟨bl, 7, none⟩ = some (.pointer (some ⟨bm, 0, none⟩)) := blk_cell hbl 7
  have k4 : wb.cell? ⟨bm, 0, none⟩ = some (.string mk) := blk_cell hbm 0
  have k5x : wb.cell? ⟨bm, 1, none⟩ = some (.string mv.key) := blk_cell hbm 1
  have k5y : wb.cell? ⟨bm, 2, none⟩ = some (.string mv.acct) := blk_cell hbm 2
  have k5z : wb.cell? ⟨bm, 3, none⟩ = some (.string mv.mtr) := blk_cell hbm 3
  have k5u : wb.cell? ⟨bm, 4, none⟩ = some (.int .i64 mv.qty) := blk_cell hbm 4
  have k5v : wb.cell? ⟨bm, 5, none⟩ = some (.int .i64 mv.at_) := blk_cell hbm 5
  have k6 : wb.cell? ⟨bm, 6, none⟩ = some (.pointer pml) := blk_cell hbm 6
  have k7 : wb.cell? ⟨bm, 7, none⟩ = some (.pointer pmr) := blk_cell hbm 7
  clear hn h1 h2 hbl hbm hll hml hmr hr
  go_wp2_with fail
  refine (HA.out _ (Below.refl _ _)).mono ?_
  rintro e w' ⟨rfl, rfl⟩
  go_wp2_with fail
  refine (HB.out _ (Below.refl _ _)).mono ?_
  rintro e w' ⟨rfl, rfl⟩
  go_wp2_with fail
  go_quiet ((go_at_call 119; first | (with_reducible exact quiet_hid HC) | (with_reducible exact quiet_hid HE)))
  go_wp2_with fail
  have hq : Below wb.heap.size wb (wb.drewN nq) := ⟨rfl, rfl, rfl, Nat.le_refl _, fun _ _ => rfl⟩
  go_region_held3 (fun w' => w'.cell? ⟨bx, 0, none⟩ = some (.string v.key) ∧ w'.cell? ⟨bx, 1, none⟩ = some (.string v.acct) ∧ w'.cell? ⟨bx, 2, none⟩ = some (.string v.mtr) ∧ w'.cell? ⟨bx, 3, none⟩ = some (.int .i64 v.qty) ∧ w'.cell? ⟨bx, 4, none⟩ = some (.int .i64 v.at_) ∧ w'.cell? ⟨bl, 0, none⟩ = some (.string lk) ∧ w'.cell? ⟨bl, 1, none⟩ = some (.string lv.key) ∧ w'.cell? ⟨bl, 2, none⟩ = some (.string lv.acct) ∧ w'.cell? ⟨bl, 3, none⟩ = some (.string lv.mtr) ∧ w'.cell? ⟨bl, 4, none⟩ = some (.int .i64 lv.qty) ∧ w'.cell? ⟨bl, 5, none⟩ = some (.int .i64 lv.at_) ∧ w'.cell? ⟨bl, 6, none⟩ = some (.pointer pll) ∧ w'.cell? ⟨bm, 0, none⟩ = some (.string mk) ∧ w'.cell? ⟨bm, 1, none⟩ = some (.string mv.key) ∧ w'.cell? ⟨bm, 2, none⟩ = some (.string mv.acct) ∧ w'.cell? ⟨bm, 3, none⟩ = some (.string mv.mtr) ∧ w'.cell? ⟨bm, 4, none⟩ = some (.int .i64 mv.qty) ∧ w'.cell? ⟨bm, 5, none⟩ = some (.int .i64 mv.at_) ∧ w'.cell? ⟨bm, 6, none⟩ = some (.pointer pml) ∧ w'.cell? ⟨bm, 7, none⟩ = some (.pointer pmr))
    (first
      | go_keep
      | exact ⟨(g3.cell (p := ⟨bx, 0, none⟩) hltx).trans x0, (g3.cell (p := ⟨bx, 1, none⟩) hltx).trans x1, (g3.cell (p := ⟨bx, 2, none⟩) hltx).trans x2, (g3.cell (p := ⟨bx, 3, none⟩) hltx).trans x3, (g3.cell (p := ⟨bx, 4, none⟩) hltx).trans x4, (g3.cell (p := ⟨bl, 0, none⟩) hltbl).trans k0, (g3.cell (p := ⟨bl, 1, none⟩) hltbl).trans k1x, (g3.cell (p := ⟨bl, 2, none⟩) hltbl).trans k1y, (g3.cell (p := ⟨bl, 3, none⟩) hltbl).trans k1z, (g3.cell (p := ⟨bl, 4, none⟩) hltbl).trans k1u, (g3.cell (p := ⟨bl, 5, none⟩) hltbl).trans k1v, (g3.cell (p := ⟨bl, 6, none⟩) hltbl).trans k2, (g3.cell (p := ⟨bm, 0, none⟩) hltbm).trans k4, (g3.cell (p := ⟨bm, 1, none⟩) hltbm).trans k5x, (g3.cell (p := ⟨bm, 2, none⟩) hltbm).trans k5y, (g3.cell (p := ⟨bm, 3, none⟩) hltbm).trans k5z, (g3.cell (p := ⟨bm, 4, none⟩) hltbm).trans k5u, (g3.cell (p := ⟨bm, 5, none⟩) hltbm).trans k5v, (g3.cell (p := ⟨bm, 6, none⟩) hltbm).trans k6, (g3.cell (p := ⟨bm, 7, none⟩) hltbm).trans k7⟩
      | exact ⟨(g2.cell (p := ⟨bx, 0, none⟩) hltx).trans x0, (g2.cell (p := ⟨bx, 1, none⟩) hltx).trans x1, (g2.cell (p := ⟨bx, 2, none⟩) hltx).trans x2, (g2.cell (p := ⟨bx, 3, none⟩) hltx).trans x3, (g2.cell (p := ⟨bx, 4, none⟩) hltx).trans x4, (g2.cell (p := ⟨bl, 0, none⟩) hltbl).trans k0, (g2.cell (p := ⟨bl, 1, none⟩) hltbl).trans k1x, (g2.cell (p := ⟨bl, 2, none⟩) hltbl).trans k1y, (g2.cell (p := ⟨bl, 3, none⟩) hltbl).trans k1z, (g2.cell (p := ⟨bl, 4, none⟩) hltbl).trans k1u, (g2.cell (p := ⟨bl, 5, none⟩) hltbl).trans k1v, (g2.cell (p := ⟨bl, 6, none⟩) hltbl).trans k2, (g2.cell (p := ⟨bm, 0, none⟩) hltbm).trans k4, (g2.cell (p := ⟨bm, 1, none⟩) hltbm).trans k5x, (g2.cell (p := ⟨bm, 2, none⟩) hltbm).trans k5y, (g2.cell (p := ⟨bm, 3, none⟩) hltbm).trans k5z, (g2.cell (p := ⟨bm, 4, none⟩) hltbm).trans k5u, (g2.cell (p := ⟨bm, 5, none⟩) hltbm).trans k5v, (g2.cell (p := ⟨bm, 6, none⟩) hltbm).trans k6, (g2.cell (p := ⟨bm, 7, none⟩) hltbm).trans k7⟩
      | exact ⟨(g1.cell (p := ⟨bx, 0, none⟩) hltx).trans x0, (g1.cell (p := ⟨bx, 1, none⟩) hltx).trans x1, (g1.cell (p := ⟨bx, 2, none⟩) hltx).trans x2, (g1.cell (p := ⟨bx, 3, none⟩) hltx).trans x3, (g1.cell (p := ⟨bx, 4, none⟩) hltx).trans x4, (g1.cell (p := ⟨bl, 0, none⟩) hltbl).trans k0, (g1.cell (p := ⟨bl, 1, none⟩) hltbl).trans k1x, (g1.cell (p := ⟨bl, 2, none⟩) hltbl).trans k1y, (g1.cell (p := ⟨bl, 3, none⟩) hltbl).trans k1z, (g1.cell (p := ⟨bl, 4, none⟩) hltbl).trans k1u, (g1.cell (p := ⟨bl, 5, none⟩) hltbl).trans k1v, (g1.cell (p := ⟨bl, 6, none⟩) hltbl).trans k2, (g1.cell (p := ⟨bm, 0, none⟩) hltbm).trans k4, (g1.cell (p := ⟨bm, 1, none⟩) hltbm).trans k5x, (g1.cell (p := ⟨bm, 2, none⟩) hltbm).trans k5y, (g1.cell (p := ⟨bm, 3, none⟩) hltbm).trans k5z, (g1.cell (p := ⟨bm, 4, none⟩) hltbm).trans k5u, (g1.cell (p := ⟨bm, 5, none⟩) hltbm).trans k5v, (g1.cell (p := ⟨bm, 6, none⟩) hltbm).trans k6, (g1.cell (p := ⟨bm, 7, none⟩) hltbm).trans k7⟩)
    (first
      | (go_at_call 91; (with_reducible refine (HM1.out _ ?_).mono ?_); exact hq.drew; rintro e w1 ⟨p1, rfl, t1, g1, _⟩)
      | (go_at_call 91; (with_reducible refine (HM2.out _ ?_).mono ?_); exact g1; rintro e w2 ⟨p2, rfl, t2, g2, g2'⟩)
      | (go_at_call 91; (with_reducible refine (s_made _ mk mv (.node lk lv ll ml) (.node k v mr r) (some p1) (some p2) ?_ t2 ?_).mono ?_); exact STree.below g2' t1; exact HN.out; rintro e w3 ⟨p3, rfl, t3, g3'⟩; have g3 := g2.trans (g3'.mono g2.size)))
  go_wp2
  go_ret
  exact ⟨p3, rfl, t3, HWB.out.trans (g3.mono HWB.out.size)⟩
set_option maxRecDepth 100000 in
set_option maxHeartbeats 2000000 in
theorem s_evenR1 (w : World) (k : ByteArray) (v : Ev) (rk : ByteArray) (rv : Ev) (l rl rr : Tr ByteArray Ev) (pl pr : Option Addr) (hl : STree w l pl) (hr : STree w (.node rk rv rl rr) pr)
    (hn : l.size + (Tr.node rk rv rl rr).size < 1000000) (h1 : l.tall + 1 < (Tr.node rk rv rl rr).tall) (h2 : rl.tall ≤ rr.tall) :
    Calls Tryz.prog 92 #[.string k, .agg #[.string v.key, .string v.acct, .string v.mtr, .int .i64 v.qty, .int .i64 v.at_], .pointer pl, .pointer pr] w fun e w' => ∃ p, e = .returned (.pointer (some p)) ∧ STree w' (.node rk rv (.node k v l rl) rr) (some p) ∧ Below w.heap.size w w' := by
  obtain ⟨wb, hwb, HBX⟩ := boxE_new w v
  obtain ⟨bx, hbx⟩ : ∃ bx, bx = w.heap.size := ⟨_, rfl⟩
  have HW1 := Lib.hid hwb
  have HBE := Lib.hid hbx
  have HWB : Hid (Below w.heap.size w wb) := Lib.hid HBX.out.1
  replace hl := hl.below HWB.out
  replace hr := hr.below HWB.out
  have HBW : Hid (BoxAtE wb bx v) := Lib.hid (by rw [hbx]; exact HBX.out.2)
  have hltx := lt_of_block HBW.out
  have x0 : wb.cell? ⟨bx, 0, none⟩ = some (.string v.key) := blk_cell HBW.out 0
  have x1 : wb.cell? ⟨bx, 1, none⟩ = some (.string v.acct) := blk_cell HBW.out 1
  have x2 : wb.cell? ⟨bx, 2, none⟩ = some (.string v.mtr) := blk_cell HBW.out 2
  have x3 : wb.cell? ⟨bx, 3, none⟩ = some (.int .i64 v.qty) := blk_cell HBW.out 3
  have x4 : wb.cell? ⟨bx, 4, none⟩ = some (.int .i64 v.at_) := blk_cell HBW.out 4
  clear hwb hbx HBX
  go_enter Tryz.func92, Tryz.ntmps92
  go_upto_region 1 with fail
  rw [HW1.out, ← HBE.out]
  clear HW1 HBE
  obtain ⟨a, ea, a0, a1, HA⟩ := s_tallI hl (by omega)
  obtain ⟨b, eb, b0, b1, HB⟩ := s_tallI hr (by omega)
  obtain ⟨bl, pll, plr, rfl, hbl, hll, hlr⟩ := hr
  obtain ⟨c, ec, c0, c1, HC⟩ := s_tallI hlr (by simp only [Tr.size] at hn; omega)
  obtain ⟨d, ed, d0, d1, HE⟩ := s_tallI hll (by simp only [Tr.size] at hn; omega)
  have t1 : a + 1 < b := by rw [ea.out, eb.out]; omega
  have t3 : a ≤ b + 1 := by omega
  have t2 : d ≤ c := by rw [ec.out, ed.out]; exact_mod_cast h2
  have HM := s_madeH k v hl hll (by simp only [Tr.size] at hn; omega)
  have HN : Hid ((Tr.node k v l rl).size + rr.size < 1000000) := Lib.hid (by simp only [Tr.size] at hn ⊢; omega)
  have HLL := Lib.hid hlr
  have hltbl := lt_of_block hbl
  have k0 : wb.cell? ⟨bl, 0, none⟩ = some (.string rk) := blk_cell hbl 0
  have k1x : wb.cell? ⟨bl, 1, none⟩ = some (.string rv.key) := blk_cell hbl 1
  have k1y : wb.cell? ⟨bl, 2, none⟩ = some (.string rv.acct) := blk_cell hbl 2
  have k1z : wb.cell? ⟨bl, 3, none⟩ = some (.string rv.mtr) := blk_cell hbl 3
  have k1u : wb.cell? ⟨bl, 4, none⟩ = some (.int .i64 rv.qty) := blk_cell hbl 4
  have k1v : wb.cell? ⟨bl, 5, none⟩ = some (.int .i64 rv.at_) := blk_cell hbl 5
  have k2 : wb.cell? ⟨bl, 6, none⟩ = some (.pointer pll) := blk_cell hbl 6
  have k3 : wb.cell? ⟨bl, 7, none⟩ = some (.pointer plr) := blk_cell hbl 7
  clear hn h1 h2 hbl hll hlr hl
  go_wp2_with fail
  refine (HA.out _ (Below.refl _ _)).mono ?_
  rintro e w' ⟨rfl, rfl⟩
  go_wp2_with fail
  refine (HB.out _ (Below.refl _ _)).mono ?_
  rintro e w' ⟨rfl, rfl⟩
  go_wp2_with fail
  refine (HB.out _ (Below.refl _ _)).mono ?_
  rintro e w' ⟨rfl, rfl⟩
  go_wp2_with fail
  refine (HA.out _ (Below.refl _ _)).mono ?_
  rintro e w' ⟨rfl, rfl⟩
  go_wp2_with fail
  go_quiet ((go_at_call 119; first | (with_reducible exact quiet_hid HC) | (with_reducible exact quiet_hid HE)))
  go_wp2_with fail
  have hq : Below wb.heap.size wb (wb.drewN nq) := ⟨rfl, rfl, rfl, Nat.le_refl _, fun _ _ => rfl⟩
  go_region_held3 (fun w' => w'.cell? ⟨bx, 0, none⟩ = some (.string v.key) ∧ w'.cell? ⟨bx, 1, none⟩ = some (.string v.acct) ∧ w'.cell? ⟨bx, 2, none⟩ = some (.string v.mtr) ∧ w'.cell? ⟨bx, 3, none⟩ = some (.int .i64 v.qty) ∧ w'.cell? ⟨bx, 4, none⟩ = some (.int .i64 v.at_) ∧ w'.cell? ⟨bl, 0, none⟩ = some (.string rk) ∧ w'.cell? ⟨bl, 1, none⟩ = some (.string rv.key) ∧ w'.cell? ⟨bl, 2, none⟩ = some (.string rv.acct) ∧ w'.cell? ⟨bl, 3, none⟩ = some (.string rv.mtr) ∧ w'.cell? ⟨bl, 4, none⟩ = some (.int .i64 rv.qty) ∧ w'.cell? ⟨bl, 5, none⟩ = some (.int .i64 rv.at_) ∧ w'.cell? ⟨bl, 6, none⟩ = some (.pointer pll) ∧ w'.cell? ⟨bl, 7, none⟩ = some (.pointer plr))
    (first
      | go_keep
      | exact ⟨(g2.cell (p := ⟨bx, 0, none⟩) hltx).trans x0, (g2.cell (p := ⟨bx, 1, none⟩) hltx).trans x1, (g2.cell (p := ⟨bx, 2, none⟩) hltx).trans x2, (g2.cell (p := ⟨bx, 3, none⟩) hltx).trans x3, (g2.cell (p := ⟨bx, 4, none⟩) hltx).trans x4, (g2.cell (p := ⟨bl, 0, none⟩) hltbl).trans k0, (g2.cell (p := ⟨bl, 1, none⟩) hltbl).trans k1x, (g2.cell (p := ⟨bl, 2, none⟩) hltbl).trans k1y, (g2.cell (p := ⟨bl, 3, none⟩) hltbl).trans k1z, (g2.cell (p := ⟨bl, 4, none⟩) hltbl).trans k1u, (g2.cell (p := ⟨bl, 5, none⟩) hltbl).trans k1v, (g2.cell (p := ⟨bl, 6, none⟩) hltbl).trans k2, (g2.cell (p := ⟨bl, 7, none⟩) hltbl).trans k3⟩
      | exact ⟨(g1.cell (p := ⟨bx, 0, none⟩) hltx).trans x0, (g1.cell (p := ⟨bx, 1, none⟩) hltx).trans x1, (g1.cell (p := ⟨bx, 2, none⟩) hltx).trans x2, (g1.cell (p := ⟨bx, 3, none⟩) hltx).trans x3, (g1.cell (p := ⟨bx, 4, none⟩) hltx).trans x4, (g1.cell (p := ⟨bl, 0, none⟩) hltbl).trans k0, (g1.cell (p := ⟨bl, 1, none⟩) hltbl).trans k1x, (g1.cell (p := ⟨bl, 2, none⟩) hltbl).trans k1y, (g1.cell (p := ⟨bl, 3, none⟩) hltbl).trans k1z, (g1.cell (p := ⟨bl, 4, none⟩) hltbl).trans k1u, (g1.cell (p := ⟨bl, 5, none⟩) hltbl).trans k1v, (g1.cell (p := ⟨bl, 6, none⟩) hltbl).trans k2, (g1.cell (p := ⟨bl, 7, none⟩) hltbl).trans k3⟩)
    (first
      | (go_at_call 91; (with_reducible refine (HM.out _ ?_).mono ?_); exact hq.drew; rintro e w1 ⟨p1, rfl, t1, g1, _⟩)
      | (go_at_call 91; (with_reducible refine (s_made _ rk rv (.node k v l rl) rr (some p1) plr t1 ?_ ?_).mono ?_); exact (HLL.out).below g1; exact HN.out; rintro e w2 ⟨p2, rfl, t2, g2'⟩; have g2 := g1.trans (g2'.mono g1.size)))
  go_wp2
  go_ret
  exact ⟨p2, rfl, t2, HWB.out.trans (g2.mono HWB.out.size)⟩
set_option maxRecDepth 100000 in
set_option maxHeartbeats 2000000 in
theorem s_evenR2 (w : World) (k : ByteArray) (v : Ev) (rk : ByteArray) (rv : Ev) (l : Tr ByteArray Ev) (mk : ByteArray) (mv : Ev) (ml mr rr : Tr ByteArray Ev) (pl pr : Option Addr) (hl : STree w l pl) (hr : STree w (Tr.node rk rv (Tr.node mk mv ml mr) rr) pr)
    (hn : l.size + (Tr.node rk rv (Tr.node mk mv ml mr) rr).size < 1000000) (h1 : l.tall + 1 < (Tr.node rk rv (Tr.node mk mv ml mr) rr).tall) (h2 : rr.tall < (Tr.node mk mv ml mr).tall) :
    Calls Tryz.prog 92 #[.string k, .agg #[.string v.key, .string v.acct, .string v.mtr, .int .i64 v.qty, .int .i64 v.at_], .pointer pl, .pointer pr] w fun e w' => ∃ p, e = .returned (.pointer (some p)) ∧ STree w' (.node mk mv (.node k v l ml) (.node rk rv mr rr)) (some p) ∧ Below w.heap.size w w' := by
  obtain ⟨wb, hwb, HBX⟩ := boxE_new w v
  obtain ⟨bx, hbx⟩ : ∃ bx, bx = w.heap.size := ⟨_, rfl⟩
  have HW1 := Lib.hid hwb
  have HBE := Lib.hid hbx
  have HWB : Hid (Below w.heap.size w wb) := Lib.hid HBX.out.1
  replace hl := hl.below HWB.out
  replace hr := hr.below HWB.out
  have HBW : Hid (BoxAtE wb bx v) := Lib.hid (by rw [hbx]; exact HBX.out.2)
  have hltx := lt_of_block HBW.out
  have x0 : wb.cell? ⟨bx, 0, none⟩ = some (.string v.key) := blk_cell HBW.out 0
  have x1 : wb.cell? ⟨bx, 1, none⟩ = some (.string v.acct) := blk_cell HBW.out 1
  have x2 : wb.cell? ⟨bx, 2, none⟩ = some (.string v.mtr) := blk_cell HBW.out 2
  have x3 : wb.cell? ⟨bx, 3, none⟩ = some (.int .i64 v.qty) := blk_cell HBW.out 3
  have x4 : wb.cell? ⟨bx, 4, none⟩ = some (.int .i64 v.at_) := blk_cell HBW.out 4
  clear hwb hbx HBX
  go_enter Tryz.func92, Tryz.ntmps92
  go_upto_region 1 with fail
  rw [HW1.out, ← HBE.out]
  clear HW1 HBE
  obtain ⟨a, ea, a0, a1, HA⟩ := s_tallI hl (by omega)
  obtain ⟨b, eb, b0, b1, HB⟩ := s_tallI hr (by omega)
  obtain ⟨bl, pll, plr, rfl, hbl, hll, hlr⟩ := hr
  obtain ⟨c, ec, c0, c1, HC⟩ := s_tallI hlr (by simp only [Tr.size] at hn; omega)
  obtain ⟨d, ed, d0, d1, HE⟩ := s_tallI hll (by simp only [Tr.size] at hn ⊢; omega)
  have t1 : a + 1 < b := by rw [ea.out, eb.out]; omega
  have t3 : a ≤ b + 1 := by omega
  have t2 : c < d := by rw [ec.out, ed.out]; exact_mod_cast h2
  have HN : Hid ((Tr.node k v l ml).size + (Tr.node rk rv mr rr).size < 1000000) := Lib.hid (by simp only [Tr.size] at hn ⊢; omega)
  obtain ⟨bm, pml, pmr, e9, hbm, hml, hmr⟩ := hll
  subst e9
  have HM1 := s_madeH k v hl hml (by simp only [Tr.size] at hn; omega)
  have HM2 := s_madeH rk rv hmr hlr (by simp only [Tr.size] at hn; omega)
  have hltbl := lt_of_block hbl
  have hltbm := lt_of_block hbm
  have k0 : wb.cell? ⟨bl, 0, none⟩ = some (.string rk) := blk_cell hbl 0
  have k1x : wb.cell? ⟨bl, 1, none⟩ = some (.string rv.key) := blk_cell hbl 1
  have k1y : wb.cell? ⟨bl, 2, none⟩ = some (.string rv.acct) := blk_cell hbl 2
  have k1z : wb.cell? ⟨bl, 3, none⟩ = some (.string rv.mtr) := blk_cell hbl 3
  have k1u : wb.cell? ⟨bl, 4, none⟩ = some (.int .i64 rv.qty) := blk_cell hbl 4
  have k1v : wb.cell? ⟨bl, 5, none⟩ = some (.int .i64 rv.at_) := blk_cell hbl 5
  have k2 : wb.cell? ⟨bl, 6, none⟩ = some (.pointer (some ⟨bm, 0, none⟩)) := blk_cell hbl 6
  have k3 : wb.cell? ⟨bl, 7, none⟩ = some (.pointer plr) := blk_cell hbl 7
  have k4 : wb.cell? ⟨bm, 0, none⟩ = some (.string mk) := blk_cell hbm 0
  have k5x : wb.cell? ⟨bm, 1, none⟩ = some (.string mv.key) := blk_cell hbm 1
  have k5y : wb.cell? ⟨bm, 2, none⟩ = some (.string mv.acct) := blk_cell hbm 2
  have k5z : wb.cell? ⟨bm, 3, none⟩ = some (.string mv.mtr) := blk_cell hbm 3
  have k5u : wb.cell? ⟨bm, 4, none⟩ = some (.int .i64 mv.qty) := blk_cell hbm 4
  have k5v : wb.cell? ⟨bm, 5, none⟩ = some (.int .i64 mv.at_) := blk_cell hbm 5
  have k6 : wb.cell? ⟨bm, 6, none⟩ = some (.pointer pml) := blk_cell hbm 6
  have k7 : wb.cell? ⟨bm, 7, none⟩ = some (.pointer pmr) := blk_cell hbm 7
  clear hn h1 h2 hbl hbm hlr hml hmr hl
  go_wp2_with fail
  refine (HA.out _ (Below.refl _ _)).mono ?_
  rintro e w' ⟨rfl, rfl⟩
  go_wp2_with fail
  refine (HB.out _ (Below.refl _ _)).mono ?_
  rintro e w' ⟨rfl, rfl⟩
  go_wp2_with fail
  refine (HB.out _ (Below.refl _ _)).mono ?_
  rintro e w' ⟨rfl, rfl⟩
  go_wp2_with fail
  refine (HA.out _ (Below.refl _ _)).mono ?_
  rintro e w' ⟨rfl, rfl⟩
  go_wp2_with fail
  go_quiet ((go_at_call 119; first | (with_reducible exact quiet_hid HC) | (with_reducible exact quiet_hid HE)))
  go_wp2_with fail
  have hq : Below wb.heap.size wb (wb.drewN nq) := ⟨rfl, rfl, rfl, Nat.le_refl _, fun _ _ => rfl⟩
  go_region_held3 (fun w' => w'.cell? ⟨bx, 0, none⟩ = some (.string v.key) ∧ w'.cell? ⟨bx, 1, none⟩ = some (.string v.acct) ∧ w'.cell? ⟨bx, 2, none⟩ = some (.string v.mtr) ∧ w'.cell? ⟨bx, 3, none⟩ = some (.int .i64 v.qty) ∧ w'.cell? ⟨bx, 4, none⟩ = some (.int .i64 v.at_) ∧ w'.cell? ⟨bl, 0, none⟩ = some (.string rk) ∧ w'.cell? ⟨bl, 1, none⟩ = some (.string rv.key) ∧ w'.cell? ⟨bl, 2, none⟩ = some (.string rv.acct) ∧ w'.cell? ⟨bl, 3, none⟩ = some (.string rv.mtr) ∧ w'.cell? ⟨bl, 4, none⟩ = some (.int .i64 rv.qty) ∧ w'.cell? ⟨bl, 5, none⟩ = some (.int .i64 rv.at_) ∧ w'.cell? ⟨bl, 7, none⟩ = some (.pointer plr) ∧ w'.cell? ⟨bm, 0, none⟩ = some (.string mk) ∧ w'.cell? ⟨bm, 1, none⟩ = some (.string mv.key) ∧ w'.cell? ⟨bm, 2, none⟩ = some (.string mv.acct) ∧ w'.cell? ⟨bm, 3, none⟩ = some (.string mv.mtr) ∧ w'.cell? ⟨bm, 4, none⟩ = some (.int .i64 mv.qty) ∧ w'.cell? ⟨bm, 5, none⟩ = some (.int .i64 mv.at_) ∧ w'.cell? ⟨bm, 6, none⟩ = some (.pointer pml) ∧ w'.cell? ⟨bm, 7, none⟩ = some (.pointer pmr))
    (first
      | go_keep
      | exact ⟨(g3.cell (p := ⟨bx, 0, none⟩) hltx).trans x0, (g3.cell (p := ⟨bx, 1, none⟩) hltx).trans x1, (g3.cell (p := ⟨bx, 2, none⟩) hltx).trans x2, (g3.cell (p := ⟨bx, 3, none⟩) hltx).trans x3, (g3.cell (p := ⟨bx, 4, none⟩) hltx).trans x4, (g3.cell (p := ⟨bl, 0, none⟩) hltbl).trans k0, (g3.cell (p := ⟨bl, 1, none⟩) hltbl).trans k1x, (g3.cell (p := ⟨bl, 2, none⟩) hltbl).trans k1y, (g3.cell (p := ⟨bl, 3, none⟩) hltbl).trans k1z, (g3.cell (p := ⟨bl, 4, none⟩) hltbl).trans k1u, (g3.cell (p := ⟨bl, 5, none⟩) hltbl).trans k1v, (g3.cell (p := ⟨bl, 7, none⟩) hltbl).trans k3, (g3.cell (p := ⟨bm, 0, none⟩) hltbm).trans k4, (g3.cell (p := ⟨bm, 1, none⟩) hltbm).trans k5x, (g3.cell (p := ⟨bm, 2, none⟩) hltbm).trans k5y, (g3.cell (p := ⟨bm, 3, none⟩) hltbm).trans k5z, (g3.cell (p := ⟨bm, 4, none⟩) hltbm).trans k5u, (g3.cell (p := ⟨bm, 5, none⟩) hltbm).trans k5v, (g3.cell (p := ⟨bm, 6, none⟩) hltbm).trans k6, (g3.cell (p := ⟨bm, 7, none⟩) hltbm).trans k7⟩
      | exact ⟨(g2.cell (p := ⟨bx, 0, none⟩) hltx).trans x0, (g2.cell (p := ⟨bx, 1, none⟩) hltx).trans x1, (g2.cell (p := ⟨bx, 2, none⟩) hltx).trans x2, (g2.cell (p := ⟨bx, 3, none⟩) hltx).trans x3, (g2.cell (p := ⟨bx, 4, none⟩) hltx).trans x4, (g2.cell (p := ⟨bl, 0, none⟩) hltbl).trans k0, (g2.cell (p := ⟨bl, 1, none⟩) hltbl).trans k1x, (g2.cell (p := ⟨bl, 2, none⟩) hltbl).trans k1y, (g2.cell (p := ⟨bl, 3, none⟩) hltbl).trans k1z, (g2.cell (p := ⟨bl, 4, none⟩) hltbl).trans k1u, (g2.cell (p := ⟨bl, 5, none⟩) hltbl).trans k1v, (g2.cell (p := ⟨bl, 7, none⟩) hltbl).trans k3, (g2.cell (p := ⟨bm, 0, none⟩) hltbm).trans k4, (g2.cell (p := ⟨bm, 1, none⟩) hltbm).trans k5x, (g2.cell (p := ⟨bm, 2, none⟩) hltbm).trans k5y, (g2.cell (p := ⟨bm, 3, none⟩) hltbm).trans k5z, (g2.cell (p := ⟨bm, 4, none⟩) hltbm).trans k5u, (g2.cell (p := ⟨bm, 5, none⟩) hltbm).trans k5v, (g2.cell (p := ⟨bm, 6, none⟩) hltbm).trans k6, (g2.cell (p := ⟨bm, 7, none⟩) hltbm).trans k7⟩
      | exact ⟨(g1.cell (p := ⟨bx, 0, none⟩) hltx).trans x0, (g1.cell (p := ⟨bx, 1, none⟩) hltx).trans x1, (g1.cell (p := ⟨bx, 2, none⟩) hltx).trans x2, (g1.cell (p := ⟨bx, 3, none⟩) hltx).trans x3, (g1.cell (p := ⟨bx, 4, none⟩) hltx).trans x4, (g1.cell (p := ⟨bl, 0, none⟩) hltbl).trans k0, (g1.cell (p := ⟨bl, 1, none⟩) hltbl).trans k1x, (g1.cell (p := ⟨bl, 2, none⟩) hltbl).trans k1y, (g1.cell (p := ⟨bl, 3, none⟩) hltbl).trans k1z, (g1.cell (p := ⟨bl, 4, none⟩) hltbl).trans k1u, (g1.cell (p := ⟨bl, 5, none⟩) hltbl).trans k1v, (g1.cell (p := ⟨bl, 7, none⟩) hltbl).trans k3, (g1.cell (p := ⟨bm, 0, none⟩) hltbm).trans k4, (g1.cell (p := ⟨bm, 1, none⟩) hltbm).trans k5x, (g1.cell (p := ⟨bm, 2, none⟩) hltbm).trans k5y, (g1.cell (p := ⟨bm, 3, none⟩) hltbm).trans k5z, (g1.cell (p := ⟨bm, 4, none⟩) hltbm).trans k5u, (g1.cell (p := ⟨bm, 5, none⟩) hltbm).trans k5v, (g1.cell (p := ⟨bm, 6, none⟩) hltbm).trans k6, (g1.cell (p := ⟨bm, 7, none⟩) hltbm).trans k7⟩)
    (first
      | (go_at_call 91; (with_reducible refine (HM1.out _ ?_).mono ?_); exact hq.drew; rintro e w1 ⟨p1, rfl, t1, g1, _⟩)
      | (go_at_call 91; (with_reducible refine (HM2.out _ ?_).mono ?_); exact g1; rintro e w2 ⟨p2, rfl, t2, g2, g2'⟩)
      | (go_at_call 91; (with_reducible refine (s_made _ mk mv (.node k v l ml) (.node rk rv mr rr) (some p1) (some p2) ?_ t2 ?_).mono ?_); exact STree.below g2' t1; exact HN.out; rintro e w3 ⟨p3, rfl, t3, g3'⟩; have g3 := g2.trans (g3'.mono g2.size)))
  go_wp2
  go_ret
  exact ⟨p3, rfl, t3, HWB.out.trans (g3.mono HWB.out.size)⟩
/-- even, whatever the sides. -/
theorem s_even (w : World) (k : ByteArray) (v : Ev) (l r : Tr ByteArray Ev) (pl pr : Option Addr) (hl : STree w l pl) (hr : STree w r pr) (hn : l.size + r.size < 1000000) :
    Calls Tryz.prog 92 #[.string k, .agg #[.string v.key, .string v.acct, .string v.mtr, .int .i64 v.qty, .int .i64 v.at_], .pointer pl, .pointer pr] w fun e w' => ∃ p, e = .returned (.pointer (some p)) ∧ STree w' (Tr.even k v l r) (some p) ∧ Below w.heap.size w w' := by
  by_cases c1 : r.tall + 1 < l.tall
  · cases l with
    | leaf => simp [Tr.tall] at c1
    | node lk lv ll lr =>
      by_cases c2 : lr.tall ≤ ll.tall
      · have e : Tr.even k v (.node lk lv ll lr) r = .node lk lv ll (.node k v lr r) := by unfold Tr.even; rw [if_pos c1]; simp only; rw [if_pos c2]
        rw [e]; exact s_evenL1 w k v lk lv ll lr r pl pr hl hr hn c1 c2
      · cases lr with
        | leaf => simp [Tr.tall] at c2
        | node mk mv ml mr =>
          have e : Tr.even k v (.node lk lv ll (.node mk mv ml mr)) r = .node mk mv (.node lk lv ll ml) (.node k v mr r) := by unfold Tr.even; rw [if_pos c1]; simp only; rw [if_neg c2]
          rw [e]; exact s_evenL2 w k v lk lv ll mk mv ml mr r pl pr hl hr hn c1 (by omega)
  · by_cases c3 : l.tall + 1 < r.tall
    · cases r with
      | leaf => simp [Tr.tall] at c3
      | node rk rv rl rr =>
        by_cases c2 : rl.tall ≤ rr.tall
        · have e : Tr.even k v l (.node rk rv rl rr) = .node rk rv (.node k v l rl) rr := by unfold Tr.even; rw [if_neg c1, if_pos c3]; simp only; rw [if_pos c2]
          rw [e]; exact s_evenR1 w k v rk rv l rl rr pl pr hl hr hn c3 c2
        · cases rl with
          | leaf => simp [Tr.tall] at c2
          | node mk mv ml mr =>
            have e : Tr.even k v l (.node rk rv (.node mk mv ml mr) rr) = .node mk mv (.node k v l ml) (.node rk rv mr rr) := by unfold Tr.even; rw [if_neg c1, if_pos c3]; simp only; rw [if_neg c2]
            rw [e]; exact s_evenR2 w k v rk rv l mk mv ml mr rr pl pr hl hr hn c3 (by omega)
    · have e : Tr.even k v l r = .node k v l r := by unfold Tr.even; rw [if_neg c1, if_neg c3]
      rw [e]; exact s_even0 w k v l r pl pr hl hr hn (by omega) (by omega)
theorem s_evenH {w : World} (k : ByteArray) (v : Ev) {l r : Tr ByteArray Ev} {pl pr : Option Addr} (hl : STree w l pl) (hr : STree w r pr) (hn : l.size + r.size < 1000000) :
    Hid (∀ w1, Below w.heap.size w w1 → Calls Tryz.prog 92 #[.string k, .agg #[.string v.key, .string v.acct, .string v.mtr, .int .i64 v.qty, .int .i64 v.at_], .pointer pl, .pointer pr] w1 fun e w' => ∃ p, e = .returned (.pointer (some p)) ∧ STree w' (Tr.even k v l r) (some p) ∧ Below w.heap.size w w' ∧ Below w1.heap.size w1 w') :=
  Lib.hid (fun w1 hb => (s_even w1 k v l r pl pr (hl.below hb) (hr.below hb) hn).mono (fun _ _ ⟨p, he, ht, hb1⟩ => ⟨p, he, ht, hb.trans (hb1.mono hb.size), hb1⟩))
theorem s_later {w : World} {f : FuncId} {args : Array Value} {t : Tr ByteArray Ev}
    (h : ∀ w1, Below w.heap.size w w1 → Calls Tryz.prog f args w1 fun e w' => ∃ q, e = .returned (.pointer (some q)) ∧ STree w' t (some q) ∧ Below w1.heap.size w1 w') :
    Hid (∀ w1, Below w.heap.size w w1 → Calls Tryz.prog f args w1 fun e w' => ∃ q, e = .returned (.pointer (some q)) ∧ STree w' t (some q) ∧ Below w.heap.size w w') :=
  Lib.hid (fun w1 hb => (h w1 hb).mono (fun _ _ ⟨q, he, ht, hb1⟩ => ⟨q, he, ht, hb.trans (hb1.mono hb.size)⟩))
set_option maxRecDepth 100000 in
set_option maxHeartbeats 2000000 in
theorem s_put (k : ByteArray) (v : Ev) : ∀ (t : Tr ByteArray Ev) (p : Option Addr) (w : World), STree w t p → t.size < 900000 →
    Calls Tryz.prog 58 #[.pointer p, .string k, .agg #[.string v.key, .string v.acct, .string v.mtr, .int .i64 v.qty, .int .i64 v.at_]] w fun e w' => ∃ q, e = .returned (.pointer (some q)) ∧ STree w' (t.put slt k v) (some q) ∧ Below w.heap.size w w' := by
  intro t
  induction t with
  | leaf =>
    rintro p w rfl hn
    obtain ⟨wb, hwb, HBX⟩ := boxE_new w v
    obtain ⟨bx, hbx⟩ : ∃ bx, bx = w.heap.size := ⟨_, rfl⟩
    have HW1 := Lib.hid hwb
    have HBE := Lib.hid hbx
    have HWB : Hid (Below w.heap.size w wb) := Lib.hid HBX.out.1
    have HBW : Hid (BoxAtE wb bx v) := Lib.hid (by rw [hbx]; exact HBX.out.2)
    have hltx := lt_of_block HBW.out
    have x0 : wb.cell? ⟨bx, 0, none⟩ = some (.string v.key) := blk_cell HBW.out 0
    have x1 : wb.cell? ⟨bx, 1, none⟩ = some (.string v.acct) := blk_cell HBW.out 1
    have x2 : wb.cell? ⟨bx, 2, none⟩ = some (.string v.mtr) := blk_cell HBW.out 2
    have x3 : wb.cell? ⟨bx, 3, none⟩ = some (.int .i64 v.qty) := blk_cell HBW.out 3
    have x4 : wb.cell? ⟨bx, 4, none⟩ = some (.int .i64 v.at_) := blk_cell HBW.out 4
    clear hwb hbx HBX
    go_enter Tryz.func58, Tryz.ntmps58
    go_upto_region 1 with fail
    rw [HW1.out, ← HBE.out]
    clear HW1 HBE
    have HM := s_madeH (w := wb) k v (l := .leaf) (r := .leaf) (pl := none) (pr := none) rfl rfl (by simp [Tr.size])
    go_wp2_with fail
    refine (HM.out _ (Below.refl _ _)).mono ?_
    rintro e w1 ⟨p1, rfl, t1, g1, _⟩
    go_wp2
    go_ret
    exact ⟨p1, rfl, t1, HWB.out.trans (g1.mono HWB.out.size)⟩
  | node k' v' l r ihl ihr =>
    rintro p w ⟨b, pl, pr, rfl, hb, hl, hr⟩ hn
    obtain ⟨wb, hwb, HBX⟩ := boxE_new w v
    obtain ⟨bx, hbx⟩ : ∃ bx, bx = w.heap.size := ⟨_, rfl⟩
    have HW1 := Lib.hid hwb
    have HBE := Lib.hid hbx
    have HWB : Hid (Below w.heap.size w wb) := Lib.hid HBX.out.1
    replace hb := (HWB.out.block _ (lt_of_block hb)).trans hb
    replace hl := hl.below HWB.out
    replace hr := hr.below HWB.out
    have HBW : Hid (BoxAtE wb bx v) := Lib.hid (by rw [hbx]; exact HBX.out.2)
    have hltx := lt_of_block HBW.out
    have x0 : wb.cell? ⟨bx, 0, none⟩ = some (.string v.key) := blk_cell HBW.out 0
    have x1 : wb.cell? ⟨bx, 1, none⟩ = some (.string v.acct) := blk_cell HBW.out 1
    have x2 : wb.cell? ⟨bx, 2, none⟩ = some (.string v.mtr) := blk_cell HBW.out 2
    have x3 : wb.cell? ⟨bx, 3, none⟩ = some (.int .i64 v.qty) := blk_cell HBW.out 3
    have x4 : wb.cell? ⟨bx, 4, none⟩ = some (.int .i64 v.at_) := blk_cell HBW.out 4
    clear hwb hbx HBX
    go_enter Tryz.func58, Tryz.ntmps58
    go_upto_region 1 with fail
    rw [HW1.out, ← HBE.out]
    clear HW1 HBE
    have hs : (Tr.node k' v' l r).size = 1 + l.size + r.size := rfl
    have sl := size_put (lt := slt) l k v
    have sr := size_put (lt := slt) r k v
    have hlt := lt_of_block hb
    have k0 : wb.cell? ⟨b, 0, none⟩ = some (.string k') := blk_cell hb 0
    have k1x : wb.cell? ⟨b, 1, none⟩ = some (.string v'.key) := blk_cell hb 1
    have k1y : wb.cell? ⟨b, 2, none⟩ = some (.string v'.acct) := blk_cell hb 2
    have k1z : wb.cell? ⟨b, 3, none⟩ = some (.string v'.mtr) := blk_cell hb 3
    have k1u : wb.cell? ⟨b, 4, none⟩ = some (.int .i64 v'.qty) := blk_cell hb 4
    have k1v : wb.cell? ⟨b, 5, none⟩ = some (.int .i64 v'.at_) := blk_cell hb 5
    have k2 : wb.cell? ⟨b, 6, none⟩ = some (.pointer pl) := blk_cell hb 6
    have k3 : wb.cell? ⟨b, 7, none⟩ = some (.pointer pr) := blk_cell hb 7
    have IHL := s_later (fun w1 (hb1 : Below wb.heap.size wb w1) => ihl pl w1 (hl.below hb1) (by omega))
    have IHR := s_later (fun w1 (hb1 : Below wb.heap.size wb w1) => ihr pr w1 (hr.below hb1) (by omega))
    have HL := Lib.hid hl
    have HR := Lib.hid hr
    have HN1 := Lib.hid (show (l.put slt k v).size + r.size < 1000000 by omega)
    have HN2 := Lib.hid (show l.size + (r.put slt k v).size < 1000000 by omega)
    have HM := s_madeH k v hl hr (by omega)
    clear ihl ihr hs sl sr hn hb hl hr
    cases c1 : slt k k' with
    | true =>
      have hp : Hid (Tr.put slt (.node k' v' l r) k v = Tr.even k' v' (l.put slt k v) r) := Lib.hid (by show Tr.put slt _ k v = _; rw [Tr.put]; rw [if_pos c1])
      have q1 : Op.bytesLess k.toList k'.toList = true := c1
      clear c1
      go_wp2_with fail
      go_region_held3 (fun w' => w'.cell? ⟨bx, 0, none⟩ = some (.string v.key) ∧ w'.cell? ⟨bx, 1, none⟩ = some (.string v.acct) ∧ w'.cell? ⟨bx, 2, none⟩ = some (.string v.mtr) ∧ w'.cell? ⟨bx, 3, none⟩ = some (.int .i64 v.qty) ∧ w'.cell? ⟨bx, 4, none⟩ = some (.int .i64 v.at_) ∧ w'.cell? ⟨b, 0, none⟩ = some (.string k') ∧ w'.cell? ⟨b, 1, none⟩ = some (.string v'.key) ∧ w'.cell? ⟨b, 2, none⟩ = some (.string v'.acct) ∧ w'.cell? ⟨b, 3, none⟩ = some (.string v'.mtr) ∧ w'.cell? ⟨b, 4, none⟩ = some (.int .i64 v'.qty) ∧ w'.cell? ⟨b, 5, none⟩ = some (.int .i64 v'.at_) ∧ w'.cell? ⟨b, 6, none⟩ = some (.pointer pl) ∧ w'.cell? ⟨b, 7, none⟩ = some (.pointer pr))
        (first
          | go_keep
          | exact ⟨(g2.cell (p := ⟨bx, 0, none⟩) hltx).trans x0, (g2.cell (p := ⟨bx, 1, none⟩) hltx).trans x1, (g2.cell (p := ⟨bx, 2, none⟩) hltx).trans x2, (g2.cell (p := ⟨bx, 3, none⟩) hltx).trans x3, (g2.cell (p := ⟨bx, 4, none⟩) hltx).trans x4, (g2.cell (p := ⟨b, 0, none⟩) hlt).trans k0, (g2.cell (p := ⟨b, 1, none⟩) hlt).trans k1x, (g2.cell (p := ⟨b, 2, none⟩) hlt).trans k1y, (g2.cell (p := ⟨b, 3, none⟩) hlt).trans k1z, (g2.cell (p := ⟨b, 4, none⟩) hlt).trans k1u, (g2.cell (p := ⟨b, 5, none⟩) hlt).trans k1v, (g2.cell (p := ⟨b, 6, none⟩) hlt).trans k2, (g2.cell (p := ⟨b, 7, none⟩) hlt).trans k3⟩
          | exact ⟨(g1.cell (p := ⟨bx, 0, none⟩) hltx).trans x0, (g1.cell (p := ⟨bx, 1, none⟩) hltx).trans x1, (g1.cell (p := ⟨bx, 2, none⟩) hltx).trans x2, (g1.cell (p := ⟨bx, 3, none⟩) hltx).trans x3, (g1.cell (p := ⟨bx, 4, none⟩) hltx).trans x4, (g1.cell (p := ⟨b, 0, none⟩) hlt).trans k0, (g1.cell (p := ⟨b, 1, none⟩) hlt).trans k1x, (g1.cell (p := ⟨b, 2, none⟩) hlt).trans k1y, (g1.cell (p := ⟨b, 3, none⟩) hlt).trans k1z, (g1.cell (p := ⟨b, 4, none⟩) hlt).trans k1u, (g1.cell (p := ⟨b, 5, none⟩) hlt).trans k1v, (g1.cell (p := ⟨b, 6, none⟩) hlt).trans k2, (g1.cell (p := ⟨b, 7, none⟩) hlt).trans k3⟩)
        (first
          | (go_at_call 58; (with_reducible refine (IHL.out _ ?_).mono ?_); exact (Below.refl _ _).drew; rintro e w1 ⟨p1, rfl, t1, g1⟩)
          | (go_at_call 92; (with_reducible refine (s_even _ k' v' (l.put slt k v) r (some p1) pr t1 ?_ ?_).mono ?_); exact (HR.out).below g1; exact HN1.out; rintro e w2 ⟨p2, rfl, t2, g2'⟩; have g2 := g1.trans (g2'.mono g1.size)))
      go_wp2
      go_ret
      rw [hp.out]
      exact ⟨p2, rfl, t2, HWB.out.trans (g2.mono HWB.out.size)⟩
    | false =>
      cases c2 : slt k' k with
      | true =>
        have hp : Hid (Tr.put slt (.node k' v' l r) k v = Tr.even k' v' l (r.put slt k v)) := Lib.hid (by show Tr.put slt _ k v = _; rw [Tr.put]; rw [if_neg (by simp [c1]), if_pos c2])
        have q1 : Op.bytesLess k.toList k'.toList = false := c1
        have q2 : (k.toList == k'.toList) = false := slt_gt c1 c2
        clear c1 c2
        go_wp2_with fail
        go_region_held3 (fun w' => w'.cell? ⟨bx, 0, none⟩ = some (.string v.key) ∧ w'.cell? ⟨bx, 1, none⟩ = some (.string v.acct) ∧ w'.cell? ⟨bx, 2, none⟩ = some (.string v.mtr) ∧ w'.cell? ⟨bx, 3, none⟩ = some (.int .i64 v.qty) ∧ w'.cell? ⟨bx, 4, none⟩ = some (.int .i64 v.at_) ∧ w'.cell? ⟨b, 0, none⟩ = some (.string k') ∧ w'.cell? ⟨b, 1, none⟩ = some (.string v'.key) ∧ w'.cell? ⟨b, 2, none⟩ = some (.string v'.acct) ∧ w'.cell? ⟨b, 3, none⟩ = some (.string v'.mtr) ∧ w'.cell? ⟨b, 4, none⟩ = some (.int .i64 v'.qty) ∧ w'.cell? ⟨b, 5, none⟩ = some (.int .i64 v'.at_) ∧ w'.cell? ⟨b, 6, none⟩ = some (.pointer pl) ∧ w'.cell? ⟨b, 7, none⟩ = some (.pointer pr))
          (first
            | go_keep
            | exact ⟨(g2.cell (p := ⟨bx, 0, none⟩) hltx).trans x0, (g2.cell (p := ⟨bx, 1, none⟩) hltx).trans x1, (g2.cell (p := ⟨bx, 2, none⟩) hltx).trans x2, (g2.cell (p := ⟨bx, 3, none⟩) hltx).trans x3, (g2.cell (p := ⟨bx, 4, none⟩) hltx).trans x4, (g2.cell (p := ⟨b, 0, none⟩) hlt).trans k0, (g2.cell (p := ⟨b, 1, none⟩) hlt).trans k1x, (g2.cell (p := ⟨b, 2, none⟩) hlt).trans k1y, (g2.cell (p := ⟨b, 3, none⟩) hlt).trans k1z, (g2.cell (p := ⟨b, 4, none⟩) hlt).trans k1u, (g2.cell (p := ⟨b, 5, none⟩) hlt).trans k1v, (g2.cell (p := ⟨b, 6, none⟩) hlt).trans k2, (g2.cell (p := ⟨b, 7, none⟩) hlt).trans k3⟩
            | exact ⟨(g1.cell (p := ⟨bx, 0, none⟩) hltx).trans x0, (g1.cell (p := ⟨bx, 1, none⟩) hltx).trans x1, (g1.cell (p := ⟨bx, 2, none⟩) hltx).trans x2, (g1.cell (p := ⟨bx, 3, none⟩) hltx).trans x3, (g1.cell (p := ⟨bx, 4, none⟩) hltx).trans x4, (g1.cell (p := ⟨b, 0, none⟩) hlt).trans k0, (g1.cell (p := ⟨b, 1, none⟩) hlt).trans k1x, (g1.cell (p := ⟨b, 2, none⟩) hlt).trans k1y, (g1.cell (p := ⟨b, 3, none⟩) hlt).trans k1z, (g1.cell (p := ⟨b, 4, none⟩) hlt).trans k1u, (g1.cell (p := ⟨b, 5, none⟩) hlt).trans k1v, (g1.cell (p := ⟨b, 6, none⟩) hlt).trans k2, (g1.cell (p := ⟨b, 7, none⟩) hlt).trans k3⟩)
          (first
            | (go_at_call 58; (with_reducible refine (IHR.out _ ?_).mono ?_); exact (Below.refl _ _).drew; rintro e w1 ⟨p1, rfl, t1, g1⟩)
            | (go_at_call 92; (with_reducible refine (s_even _ k' v' l (r.put slt k v) pl (some p1) ?_ t1 ?_).mono ?_); exact (HL.out).below g1; exact HN2.out; rintro e w2 ⟨p2, rfl, t2, g2'⟩; have g2 := g1.trans (g2'.mono g1.size)))
        go_wp2
        go_ret
        rw [hp.out]
        exact ⟨p2, rfl, t2, HWB.out.trans (g2.mono HWB.out.size)⟩
      | false =>
        obtain rfl := slt_ord.eq _ _ c1 c2
        have hp : Hid (Tr.put slt (.node k v' l r) k v = Tr.node k v l r) := Lib.hid (by show Tr.put slt _ k v = _; rw [Tr.put]; rw [if_neg (by simp [c1]), if_neg (by simp [c1])])
        have q1 : Op.bytesLess k.toList k.toList = false := c1
        clear c1 c2
        go_wp2_with fail
        go_region_held3 (fun w' => w'.cell? ⟨bx, 0, none⟩ = some (.string v.key) ∧ w'.cell? ⟨bx, 1, none⟩ = some (.string v.acct) ∧ w'.cell? ⟨bx, 2, none⟩ = some (.string v.mtr) ∧ w'.cell? ⟨bx, 3, none⟩ = some (.int .i64 v.qty) ∧ w'.cell? ⟨bx, 4, none⟩ = some (.int .i64 v.at_) ∧ w'.cell? ⟨b, 6, none⟩ = some (.pointer pl) ∧ w'.cell? ⟨b, 7, none⟩ = some (.pointer pr))
          (first
            | go_keep
            | exact ⟨(g1.cell (p := ⟨bx, 0, none⟩) hltx).trans x0, (g1.cell (p := ⟨bx, 1, none⟩) hltx).trans x1, (g1.cell (p := ⟨bx, 2, none⟩) hltx).trans x2, (g1.cell (p := ⟨bx, 3, none⟩) hltx).trans x3, (g1.cell (p := ⟨bx, 4, none⟩) hltx).trans x4, (g1.cell (p := ⟨b, 6, none⟩) hlt).trans k2, (g1.cell (p := ⟨b, 7, none⟩) hlt).trans k3⟩)
          (first
            | (go_at_call 91; (with_reducible refine (HM.out _ ?_).mono ?_); exact (Below.refl _ _).drew; rintro e w1 ⟨p1, rfl, t1, g1, _⟩))
        go_wp2
        go_ret
        rw [hp.out]
        exact ⟨p1, rfl, t1, HWB.out.trans (g1.mono HWB.out.size)⟩
end Ev
end Go.Proofs.YtkbdofbjfcajbaaGreat
