/- The meter: its lock, New, Len, Repeats, Find. -/
import Derived.Test.YtkbdofbjfcajbaaGreatE2
import Derived.Test.YtkbdofbjfcajbaaGreatE5
import Derived.Conc.MuLone
namespace Go.Proofs.YtkbdofbjfcajbaaGreat
open Go.RowKit Go.Shelf

/-- A meter's cells: its lock, its table, its repeats. -/
abbrev mtrCells (s : Int) (tb : Nat) (n : Int) : Array Value := #[.int .i32 s, .int .u32 0, .pointer (some ⟨tb, 0, none⟩), .int .i64 n]
structure MSt where
  t : Tr ByteArray Ev
  n : Int
  ver : Int
structure MtrIn (w : World) (mb tb : Nat) (s : MSt) : Prop where
  blk : IsBlk w mb (mtrCells 0 tb s.n) 70
  tab : Ev.STab w tb s.t s.ver
theorem MtrIn.below {w w' : World} {mb tb : Nat} {s : MSt} (h : MtrIn w mb tb s) (hk : Below w.heap.size w w') : MtrIn w' mb tb s := ⟨(hk.block _ (lt_of_block h.blk)).trans h.blk, h.tab.below hk⟩
theorem MtrIn.lt {w : World} {mb tb : Nat} {s : MSt} (h : MtrIn w mb tb s) : mb < w.heap.size := lt_of_block h.blk
theorem mu_lock {tb : Nat} {n : Int} (w : World) (mb : Nat) (h : IsBlk w mb (mtrCells 0 tb n) 70) :
    Calls Tryz.prog 22 #[.pointer (some ⟨mb, 0, none⟩)] w fun e w' => e = .returned (.tuple #[]) ∧ IsBlk w' mb (mtrCells 1 tb n) 70 ∧ Keeps (Only mb) w w' ∧ w'.heap.size = w.heap.size :=
  (Go.MuLone.lock_free Tryz.muLib ⟨mb, 0, none⟩ w (blk_cell h 0) (blk_free h 0)).mono
    (fun e w' ⟨he, hw⟩ => ⟨he, hw ▸ blk_set h 0 _, hw ▸ keeps_set w mb _ _, by rw [hw]; simp⟩)
theorem mu_unlockD {tb : Nat} {n : Int} (w : World) (mb : Nat) (u : FrameMode) (h : IsBlk w mb (mtrCells 1 tb n) 70) :
    CallsD Tryz.prog 23 #[.pointer (some ⟨mb, 0, none⟩)] u w fun e u' w' => u' = u ∧ e = .returned (.tuple #[]) ∧ IsBlk w' mb (mtrCells 0 tb n) 70 ∧ Keeps (Only mb) w w' ∧ w'.heap.size = w.heap.size :=
  (Go.MuLone.unlock_deferred Tryz.muLib ⟨mb, 0, none⟩ u w (blk_cell h 0) (blk_free h 0)).mono
    (fun e u' w' ⟨hu, he, hw⟩ => ⟨hu, he, hw ▸ blk_set h 0 _, hw ▸ keeps_set w mb _ _, by rw [hw]; simp⟩)
set_option maxHeartbeats 400000 in
theorem m_add {T : TypeId} (w : World) (mb tb : Nat) (s n : Int) (h : IsBlk w mb (mtrCells s tb n) T) (h0 : 0 ≤ n) (h1 : n < 1000000) :
    Calls Tryz.prog 25 #[.pointer (some ⟨mb, 3, none⟩), .int .i64 1] w fun e w' => (∃ v, e = .returned v) ∧ IsBlk w' mb (mtrCells s tb (n + 1)) T ∧ Keeps (Only mb) w w' ∧ w'.heap.size = w.heap.size := by
  have hc : w.cell? ⟨mb, 3, none⟩ = some (.int .i64 n) := blk_cell h 3
  have hz : w.frozen? ⟨mb, 3, none⟩ = false := blk_free h 3
  have hadd := run_call_add (P := Tryz.prog) Tryz.func54 (by kernel_rfl) (by kernel_rfl) (by kernel_rfl) .i64 (by kernel_rfl) (y := 1) (s := n + 1) hc hz (by simp [go_sem, IntWalk.i64_in (n + 1) (by omega)])
  have H := Lib.hid h
  clear h
  go_enter Tryz.func25, Tryz.ntmps25
  go_wp2
  go_ret
  exact ⟨⟨_, rfl⟩, blk_set H.out 3 _, keeps_set w mb 3 _, by simp⟩
set_option maxHeartbeats 400000 in
theorem m_load {T : TypeId} (w : World) (mb tb : Nat) (s n : Int) (h : IsBlk w mb (mtrCells s tb n) T) :
    Calls Tryz.prog 44 #[.pointer (some ⟨mb, 3, none⟩)] w fun e w' => e = .returned (.int .i64 n) ∧ w = w' := by
  have hc : w.cell? ⟨mb, 3, none⟩ = some (.int .i64 n) := blk_cell h 3
  have hl := run_call_load (P := Tryz.prog) Tryz.func70 (by kernel_rfl) (by kernel_rfl) (by kernel_rfl) .i64 (by kernel_rfl) hc
  clear h
  go_enter Tryz.func44, Tryz.ntmps44
  go_wp2
  go_ret
  exact ⟨rfl, rfl⟩
set_option maxHeartbeats 400000 in
theorem m_new (w : World) : Calls Tryz.prog 8 #[] w fun e w' => ∃ mb tb, e = .returned (.pointer (some ⟨mb, 0, none⟩)) ∧ MtrIn w' mb tb ⟨.leaf, 0, 0⟩ ∧ w.heap.size ≤ mb ∧ w.heap.size ≤ tb ∧ Below w.heap.size w w' := by
  have HN := Lib.hid (Ev.t_new w)
  go_enter Tryz.func8, Tryz.ntmps8
  go_wp2_with fail
  refine HN.out.mono ?_
  rintro e w1 ⟨tb, rfl, hT, hl, hlt, hb⟩
  have HT := Lib.hid hT
  have HB := Lib.hid hb
  have HL := Lib.hid hl
  clear hT hb hl hlt
  go_wp2_with fail
  go_ret
  refine ⟨w1.heap.size, tb, rfl, ⟨blk_new w1 _, HT.out.below ((Below.refl _ _).alloc (Nat.le_refl _) _)⟩, HB.out.size, HL.out, HB.out.alloc HB.out.size _⟩
set_option maxHeartbeats 400000 in
theorem m_len (w : World) (mb tb : Nat) (s : MSt) (h : MtrIn w mb tb s) :
    Calls Tryz.prog 14 #[.pointer (some ⟨mb, 0, none⟩)] w fun e w' => e = .returned (.int .i64 (s.t.size : Int)) ∧ Below w.heap.size w w' := by
  have HG := Lib.hid (Ev.t_len w tb s.t s.ver h.tab)
  have hc : w.cell? ⟨mb, 2, none⟩ = some (.pointer (some ⟨tb, 0, none⟩)) := blk_cell h.blk 2
  clear h
  go_enter Tryz.func14, Tryz.ntmps14
  go_wp2_with fail
  refine HG.out.mono ?_
  rintro e w1 ⟨rfl, hb1⟩
  have HB := Lib.hid hb1
  clear hb1
  go_wp2
  go_ret
  exact ⟨rfl, HB.out⟩
set_option maxHeartbeats 400000 in
theorem m_repeats (w : World) (mb tb : Nat) (s : MSt) (h : MtrIn w mb tb s) (h0 : 0 ≤ s.n) (h1 : s.n < 1000000) :
    Calls Tryz.prog 19 #[.pointer (some ⟨mb, 0, none⟩)] w fun e w' => e = .returned (.int .i64 s.n) ∧ w = w' := by
  have HG := Lib.hid (m_load w mb tb 0 s.n h.blk)
  clear h
  go_enter Tryz.func19, Tryz.ntmps19
  go_wp2_with fail
  refine HG.out.mono ?_
  rintro e w1 ⟨rfl, rfl⟩
  go_wp2
  go_ret
  exact ⟨rfl, rfl⟩
set_option maxRecDepth 100000 in
set_option maxHeartbeats 2000000 in
theorem m_find (w : World) (mb tb : Nat) (s : MSt) (k : ByteArray) (h : MtrIn w mb tb s) :
    Calls Tryz.prog 47 #[.pointer (some ⟨mb, 0, none⟩), .string k] w fun e w' => e = .returned (Ev.getRes (s.t.get slt k)) ∧ Below w.heap.size w w' := by
  obtain ⟨w0, hw0, HB0⟩ := Ev.boxE_new w Ev.zero
  obtain ⟨bx, hbx⟩ : ∃ bx, bx = w.heap.size := ⟨_, rfl⟩
  have HW0 := Lib.hid hw0
  have HBE := Lib.hid hbx
  have h := h.below HB0.out.1
  have HX0 : Hid (Ev.BoxAtE w0 bx Ev.zero) := Lib.hid (by rw [HBE.out]; exact HB0.out.2)
  have hc : w0.cell? ⟨mb, 2, none⟩ = some (.pointer (some ⟨tb, 0, none⟩)) := blk_cell h.blk 2
  have HG := Lib.hid (Ev.t_get w0 tb s.t s.ver k h.tab)
  clear h hw0 hbx
  go_enter Tryz.func47, Tryz.ntmps47
  go_upto_region 1 with fail
  rw [show w.alloc (.cells #[.string ⟨#[]⟩, .string ⟨#[]⟩, .string ⟨#[]⟩, .int .i64 0, .int .i64 0] 32) = w0 from HW0.out, ← HBE.out]
  go_wp2_with fail
  refine HG.out.mono ?_
  rintro e w9 ⟨rfl, hb9⟩
  obtain ⟨o, ho⟩ : ∃ o, o = s.t.get slt k := ⟨_, rfl⟩
  rw [← ho]
  have HX1 : Hid (Ev.BoxAtE w9 bx Ev.zero) := Lib.hid (Ev.boxE_below HX0.out hb9)
  have HBF : Hid (Below w.heap.size w w9) := Lib.hid (HB0.out.1.trans (hb9.mono HB0.out.1.size))
  have HO := Lib.hid ho
  obtain ⟨⟨d0, d1, d2, d3, d4⟩, z0, z1, z2, z3, z4⟩ := Ev.boxE_cells HX1.out
  obtain ⟨v, hv⟩ : ∃ v, v = o.getD Ev.zero := ⟨_, rfl⟩
  obtain ⟨q, hq⟩ : ∃ q, q = o.isSome := ⟨_, rfl⟩
  have HGR : Hid (Ev.getRes o = .tuple #[.agg #[.string v.key, .string v.acct, .string v.mtr, .int .i64 v.qty, .int .i64 v.at_], .bool q]) := Lib.hid (by rw [hv, hq]; rfl)
  rw [HGR.out]
  clear hb9 ho hv hq
  go_wp2
  have HN := Ev.boxE_set HX1.out v
  refine bodyPost_ret (Ev.res_get rfl HN _ q rfl rfl) rfl ⟨?_, Ev.boxE_sets HBF.out (by rw [HBE.out]; exact Nat.le_refl _) _ _ _ _ _⟩
  rw [← HO.out, HGR.out]
end Go.Proofs.YtkbdofbjfcajbaaGreat
