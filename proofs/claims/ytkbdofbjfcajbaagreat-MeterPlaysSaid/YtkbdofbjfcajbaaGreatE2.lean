/- The walks of the table's methods at values of five cells (began as mk_tab.py's print). -/
import Derived.Test.YtkbdofbjfcajbaaGreatE1
namespace Go.Proofs.YtkbdofbjfcajbaaGreat
open Go.RowKit Go.RwLone
namespace Ev
/-- A table of these pairs at block tb. -/
structure STab (w : World) (tb : Nat) (t : Tr ByteArray Ev) (ver : Int) : Prop where
  ex : ∃ root, IsBlk w tb (tabCells 0 0 root ver) 110 ∧ STree w t root
set_option maxHeartbeats 400000 in
theorem t_new (w : World) : Calls Tryz.prog 21 #[] w fun e w' => ∃ tb, e = .returned (.pointer (some ⟨tb, 0, none⟩)) ∧ STab w' tb .leaf 0 ∧ w.heap.size ≤ tb ∧ tb < w'.heap.size ∧ Below w.heap.size w w' := by
  go_enter Tryz.func21, Tryz.ntmps21
  go_wp2
  go_ret
  exact ⟨w.heap.size, rfl, ⟨none, blk_new w _, rfl⟩, Nat.le_refl _, by simp, (Below.refl _ _).alloc (Nat.le_refl _) _⟩
set_option maxRecDepth 100000 in
set_option maxHeartbeats 2000000 in
theorem t_put (w : World) (tb : Nat) (t : Tr ByteArray Ev) (ver : Int) (k : ByteArray) (v : Ev) (h : STab w tb t ver) (h0 : 0 ≤ ver) (h1 : ver < 1000000) (hs : t.size < 900000) :
    Calls Tryz.prog 27 #[.pointer (some ⟨tb, 0, none⟩), .string k, .agg #[.string v.key, .string v.acct, .string v.mtr, .int .i64 v.qty, .int .i64 v.at_]] w fun e w' => e = .returned (.tuple #[]) ∧ STab w' tb (t.put slt k v) (ver + 1) ∧ Keeps (Only tb) w w' := by
  obtain ⟨wb, hwb, HBX⟩ := boxE_new w v
  obtain ⟨bx, hbx⟩ : ∃ bx, bx = w.heap.size := ⟨_, rfl⟩
  have HW1 := Lib.hid hwb
  have HBE := Lib.hid hbx
  have HWB : Hid (Below w.heap.size w wb) := Lib.hid HBX.out.1
  obtain ⟨root, hb, ht⟩ := h.ex
  replace hb := (HWB.out.block _ (lt_of_block hb)).trans hb
  replace ht := ht.below HWB.out
  have HBW : Hid (BoxAtE wb bx v) := Lib.hid (by rw [hbx]; exact HBX.out.2)
  have HT := Lib.hid ht
  have HS := Lib.hid hs
  have hnt : bx ≠ tb := ne_of_type HBW.out hb (by decide)
  have HNT := Lib.hid hnt
  clear h ht hs hwb hbx HBX hnt
  go_enter_defers Tryz.func27, Tryz.ntmps27
  go_upto_region 1 with fail
  rw [HW1.out, ← HBE.out]
  clear HW1 HBE
  go_wp2_with fail
  refine (t_lock wb tb root ver hb).mono ?_
  rintro e w1 ⟨rfl, hb1, hk1, hz1⟩
  have HB := Lib.hid hb
  have HK1 := Lib.hid hk1
  clear hb hk1 hz1
  go_wp2_with fail
  refine (t_add w1 tb _ _ root ver hb1 h0 h1).mono ?_
  rintro e w2 ⟨⟨v2, rfl⟩, hb2, hk2, hz2⟩
  have HK2 := Lib.hid (HK1.out.trans' hk2)
  have ht2 := HT.out.keepT (kept_T HB.out (by decide) HK2.out)
  have hc : w2.cell? ⟨tb, 6, none⟩ = some (.pointer root) := blk_cell hb2 6
  have hx2 : BoxAtE w2 bx v := HK2.out.obj HBW.out (fun e => HNT.out e)
  have HP := Lib.hid (fun W (hW : Below w2.heap.size w2 W) => s_put k v t root W (ht2.below hW) HS.out)
  have HB2 := Lib.hid hb2
  have hltt := lt_of_block hb2
  have hltx := lt_of_block hx2
  obtain ⟨⟨x0, x1, x2, x3, x4⟩, -⟩ := boxE_cells hx2
  clear hb1 hk2 hz2 ht2 hb2 hx2
  go_wp2_with fail
  have hbd : Below w2.heap.size w2 w2.drew := (Below.refl _ _).drew
  refine wp_region_noPanic ?_
  refine wp_region_held_drew (S := fun w' => w'.cell? ⟨bx, 0, none⟩ = some (.string v.key) ∧ w'.cell? ⟨bx, 1, none⟩ = some (.string v.acct) ∧ w'.cell? ⟨bx, 2, none⟩ = some (.string v.mtr) ∧ w'.cell? ⟨bx, 3, none⟩ = some (.int .i64 v.qty) ∧ w'.cell? ⟨bx, 4, none⟩ = some (.int .i64 v.at_)) (by kernel_rfl) ?_ (fun hHeld => ?_)
  · exact ⟨x0, x1, x2, x3, x4⟩
  refine wpAnyH_take (i := 0) (oi := { dst := some 17, op := Op.move (Operand.tmp 0), type := 56, pos := "table.go:184", after := #[], guard := none }) (v := ?vv0) rfl (by kernel_rfl) (by kernel_rfl) (by kernel_rfl) (fun _ _ _ h => h) (Or.inl ⟨by rfl, ?hy0⟩) (by assumption) ?rs0
  case hy0 => (intro w hSw; (try dsimp only at hSw); go_simp) <;> with_reducible rfl
  try simp only [Act.put, List.setIfInBounds_toArray, List.set_cons_zero, List.set_cons_succ]
  refine wpAnyH_take (i := 1) (oi := { dst := some 18, op := Op.move (Operand.tmp 0), type := 56, pos := "table.go:184", after := #[], guard := none }) (v := ?vv1) rfl (by kernel_rfl) (by kernel_rfl) (by kernel_rfl) (fun _ _ _ h => h) (Or.inl ⟨by rfl, ?hy1⟩) (by assumption) ?rs1
  case hy1 => (intro w hSw; (try dsimp only at hSw); go_simp) <;> with_reducible rfl
  try simp only [Act.put, List.setIfInBounds_toArray, List.set_cons_zero, List.set_cons_succ]
  refine wpAnyH_take (i := 2) (oi := { dst := some 19, op := Op.nilCheck (Operand.tmp 18), type := 0, pos := "table.go:184", after := #[{ on := 1, ground := Ground.data }], guard := none }) (v := ?vv2) rfl (by kernel_rfl) (by kernel_rfl) (by kernel_rfl) (fun _ _ _ h => h) (Or.inl ⟨by rfl, ?hy2⟩) (by assumption) ?rs2
  case hy2 => (intro w hSw; (try dsimp only at hSw); go_simp) <;> with_reducible rfl
  try simp only [Act.put, List.setIfInBounds_toArray, List.set_cons_zero, List.set_cons_succ]
  refine wpAnyH_take (i := 3) (oi := { dst := some 20, op := Op.fieldAddr 110 (Operand.tmp 19) 1, type := 0, pos := "table.go:184", after := #[{ on := 2, ground := Ground.data }], guard := none }) (v := ?vv3) rfl (by kernel_rfl) (by kernel_rfl) (by kernel_rfl) (fun _ _ _ h => h) (Or.inl ⟨by rfl, ?hy3⟩) (by assumption) ?rs3
  case hy3 => (intro w hSw; (try dsimp only at hSw); go_simp) <;> with_reducible rfl
  try simp only [Act.put, List.setIfInBounds_toArray, List.set_cons_zero, List.set_cons_succ]
  refine wpAnyH_take (i := 5) (oi := { dst := some 22, op := Op.move (Operand.tmp 1), type := 9, pos := "table.go:184", after := #[], guard := none }) (v := ?vv5) rfl (by kernel_rfl) (by kernel_rfl) (by kernel_rfl) (fun _ _ _ h => h) (Or.inl ⟨by rfl, ?hy5⟩) (by assumption) ?rs5
  case hy5 => (intro w hSw; (try dsimp only at hSw); go_simp) <;> with_reducible rfl
  try simp only [Act.put, List.setIfInBounds_toArray, List.set_cons_zero, List.set_cons_succ]
  refine wpAnyH_take (i := 6) (oi := { dst := some 23, op := Op.load 32 (Operand.tmp 5), type := 32, pos := "table.go:184", after := #[], guard := none }) (v := ?vv6) rfl (by kernel_rfl) (by kernel_rfl) (by kernel_rfl) (fun _ _ _ h => h) (Or.inl ⟨by rfl, ?hy6⟩) (by assumption) ?rs6
  case hy6 => (intro w hSw; (try dsimp only at hSw); go_simp) <;> with_reducible rfl
  try simp only [Act.put, List.setIfInBounds_toArray, List.set_cons_zero, List.set_cons_succ]
  refine wpAnyH_ready (rs := [4]) (by kernel_rfl) (by simp) ?_
  refine AllReadyH.cons (o := { dst := some 21, op := Op.load 108 (Operand.tmp 20), type := 108, pos := "table.go:184", after := #[{ on := 3, ground := Ground.data }], guard := none }) rfl (fun K hK => ?_) AllReadyH.nil
  go_simp
  refine hK.out _ _ ?_ (fun hHeld => ?_)
  · exact hHeld
  clear hK K
  try simp only [Act.put, List.setIfInBounds_toArray, List.set_cons_zero, List.set_cons_succ]
  refine wpAnyH_ready (rs := [7]) (by kernel_rfl) (by simp) ?_
  refine AllReadyH.cons (o := { dst := some 24, op := Op.call { callee := Callee.value (Operand.func 58), args := #[Operand.tmp 21, Operand.tmp 22, Operand.tmp 23], argTypes := #[108, 9, 32] }, type := 108, pos := "table.go:184", after := #[{ on := 4, ground := Ground.data }, { on := 5, ground := Ground.data }, { on := 6, ground := Ground.data }], guard := none }) rfl (fun K hK => ?_) AllReadyH.nil
  go_simp
  go_at_call 58; (with_reducible refine (HP.out _ ?_).mono ?_); exact hbd; rintro e w3 ⟨q, rfl, ht3, hg3'⟩
  have hg3 : Below w2.heap.size w2 w3 := hbd.trans hg3'
  have hb3 : IsBlk w3 tb (tabCells 1 (-1073741824) root (ver + 1)) 110 := (hg3.block tb (lt_of_block HB2.out)).trans HB2.out
  have hc3 : w3.cell? ⟨tb, 6, none⟩ = some (.pointer root) := blk_cell hb3 6
  have hz3 : w3.frozen? ⟨tb, 6, none⟩ = false := blk_free hb3 6
  have HB3 := Lib.hid hb3
  have HG3 := Lib.hid hg3
  have HT3 := Lib.hid ht3
  clear hc hb3 hg3 hg3' ht3
  go_wp2_with fail
  refine hK.out _ _ ?_ (fun hHeld => ?_)
  · exact ⟨(HG3.out.cell (p := ⟨bx, 0, none⟩) hltx).trans x0, (HG3.out.cell (p := ⟨bx, 1, none⟩) hltx).trans x1, (HG3.out.cell (p := ⟨bx, 2, none⟩) hltx).trans x2, (HG3.out.cell (p := ⟨bx, 3, none⟩) hltx).trans x3, (HG3.out.cell (p := ⟨bx, 4, none⟩) hltx).trans x4⟩
  clear hK K
  try simp only [Act.put, List.setIfInBounds_toArray, List.set_cons_zero, List.set_cons_succ]
  refine wpAnyH_take (i := 8) (oi := { dst := some 25, op := Op.nilCheck (Operand.tmp 17), type := 0, pos := "table.go:184", after := #[{ on := 0, ground := Ground.data }, { on := 0, ground := Ground.phase }, { on := 1, ground := Ground.phase }, { on := 2, ground := Ground.phase }, { on := 3, ground := Ground.phase }, { on := 4, ground := Ground.phase }, { on := 5, ground := Ground.phase }, { on := 6, ground := Ground.phase }, { on := 7, ground := Ground.phase }], guard := none }) (v := ?vv8) rfl (by kernel_rfl) (by kernel_rfl) (by kernel_rfl) (fun _ _ _ h => h) (Or.inl ⟨by rfl, ?hy8⟩) (by assumption) ?rs8
  case hy8 => (intro w hSw; (try dsimp only at hSw); go_simp) <;> with_reducible rfl
  try simp only [Act.put, List.setIfInBounds_toArray, List.set_cons_zero, List.set_cons_succ]
  refine wpAnyH_take (i := 9) (oi := { dst := some 26, op := Op.fieldAddr 110 (Operand.tmp 25) 1, type := 0, pos := "table.go:184", after := #[{ on := 8, ground := Ground.data }, { on := 0, ground := Ground.phase }, { on := 1, ground := Ground.phase }, { on := 2, ground := Ground.phase }, { on := 3, ground := Ground.phase }, { on := 4, ground := Ground.phase }, { on := 5, ground := Ground.phase }, { on := 6, ground := Ground.phase }, { on := 7, ground := Ground.phase }], guard := none }) (v := ?vv9) rfl (by kernel_rfl) (by kernel_rfl) (by kernel_rfl) (fun _ _ _ h => h) (Or.inl ⟨by rfl, ?hy9⟩) (by assumption) ?rs9
  case hy9 => (intro w hSw; (try dsimp only at hSw); go_simp) <;> with_reducible rfl
  try simp only [Act.put, List.setIfInBounds_toArray, List.set_cons_zero, List.set_cons_succ]
  refine wpAnyH_ready (rs := [10]) (by kernel_rfl) (by simp) ?_
  refine AllReadyH.cons (o := { dst := none, op := Op.store 108 (Operand.tmp 26) (Operand.tmp 24), type := 0, pos := "table.go:184", after := #[{ on := 9, ground := Ground.data }, { on := 7, ground := Ground.data }, { on := 7, ground := Ground.chain }, { on := 0, ground := Ground.phase }, { on := 1, ground := Ground.phase }, { on := 2, ground := Ground.phase }, { on := 3, ground := Ground.phase }, { on := 4, ground := Ground.phase }, { on := 5, ground := Ground.phase }, { on := 6, ground := Ground.phase }, { on := 7, ground := Ground.phase }], guard := none }) rfl (fun K hK => ?_) AllReadyH.nil
  go_simp
  refine hK.out _ _ ?_ (fun hHeld => ?_)
  · obtain ⟨s0, s1, s2, s3, s4⟩ := hHeld
    have hq : ∀ i, (⟨tb, 6, none⟩ : Addr) ≠ ⟨bx, i, none⟩ := fun i e => HNT.out (by injection e with e; exact e.symm)
    exact ⟨(World.cell?_setCell_other _ _ _ _ (hq 0)).trans s0, (World.cell?_setCell_other _ _ _ _ (hq 1)).trans s1, (World.cell?_setCell_other _ _ _ _ (hq 2)).trans s2, (World.cell?_setCell_other _ _ _ _ (hq 3)).trans s3, (World.cell?_setCell_other _ _ _ _ (hq 4)).trans s4⟩
  clear hK K
  try simp only [Act.put, List.setIfInBounds_toArray, List.set_cons_zero, List.set_cons_succ]
  refine wpAnyH_done (by kernel_rfl) ?_ _
  simp only [NoPanic]
  go_wp2_with fail
  refine leaves_cons (f := 57) (args := #[.pointer (some ⟨tb, 0, none⟩)]) (by simp) (by simp [go_sem]) ?_
  have hb4 := blk_set HB3.out 6 (.pointer (some q))
  refine (t_unlockD _ tb .returning (some q) (ver + 1) hb4).mono ?_
  rintro e u' w5 ⟨rfl, rfl, hb5, hk5, _⟩
  have hk4 : Keeps (Only tb) w3 (w3.setCell ⟨tb, 6, none⟩ (.pointer (some q))) := keeps_set _ _ _ _
  refine ⟨_, results_none rfl _ _ _, rfl, ⟨some q, hb5, ?_⟩, ?_⟩
  · exact HT3.out.keepT (kept_T HB3.out (by decide) (hk4.trans' hk5))
  · exact (((((Keeps.of_below HWB.out).mono (fun _ _ h => h.elim)).trans' HK2.out).trans' ((Keeps.of_below HG3.out).mono (fun _ _ h => h.elim))).trans' hk4).trans' hk5
/-- A snapshot of these pairs at block sb. -/
structure SSnap (w : World) (sb : Nat) (t : Tr ByteArray Ev) (ver : Int) : Prop where
  ex : ∃ root, IsBlk w sb #[.pointer root, .int .i64 ver] 135 ∧ STree w t root
theorem SSnap.keeps {S : Nat → Prop} {w w' : World} {sb : Nat} {t : Tr ByteArray Ev} {ver : Int} (h : SSnap w sb t ver) (hk : Keeps S w w') (h1 : ¬ S sb) (h2 : ∀ b cs, IsBlk w b cs 143 → ¬ S b) : SSnap w' sb t ver := by
  obtain ⟨root, hb, ht⟩ := h.ex
  exact ⟨root, hk.obj hb h1, ht.keeps hk h2⟩
theorem STab.keeps {S : Nat → Prop} {w w' : World} {tb : Nat} {t : Tr ByteArray Ev} {ver : Int} (h : STab w tb t ver) (hk : Keeps S w w') (h1 : ¬ S tb) (h2 : ∀ b cs, IsBlk w b cs 143 → ¬ S b) : STab w' tb t ver := by
  obtain ⟨root, hb, ht⟩ := h.ex
  exact ⟨root, hk.obj hb h1, ht.keeps hk h2⟩
theorem SSnap.below {w w' : World} {sb : Nat} {t : Tr ByteArray Ev} {ver : Int} (h : SSnap w sb t ver) (hk : Below w.heap.size w w') : SSnap w' sb t ver :=
  h.keeps (Keeps.of_below hk) (fun h => h) (fun _ _ _ h => h)
theorem STab.below {w w' : World} {tb : Nat} {t : Tr ByteArray Ev} {ver : Int} (h : STab w tb t ver) (hk : Below w.heap.size w w') : STab w' tb t ver :=
  h.keeps (Keeps.of_below hk) (fun h => h) (fun _ _ _ h => h)
theorem STab.lt {w : World} {tb : Nat} {t : Tr ByteArray Ev} {ver : Int} (h : STab w tb t ver) : tb < w.heap.size := by obtain ⟨_, hb, _⟩ := h.ex; exact lt_of_block hb
theorem SSnap.lt {w : World} {tb : Nat} {t : Tr ByteArray Ev} {ver : Int} (h : SSnap w tb t ver) : tb < w.heap.size := by obtain ⟨_, hb, _⟩ := h.ex; exact lt_of_block hb
set_option maxRecDepth 100000 in
set_option maxHeartbeats 2000000 in
theorem t_snapshot (w : World) (tb : Nat) (t : Tr ByteArray Ev) (ver : Int) (h : STab w tb t ver) :
    Calls Tryz.prog 52 #[.pointer (some ⟨tb, 0, none⟩)] w fun e w' => ∃ sb, e = .returned (.pointer (some ⟨sb, 0, none⟩)) ∧ SSnap w' sb t ver ∧ w.heap.size ≤ sb ∧ Below w.heap.size w w' := by
  obtain ⟨root, hb, ht⟩ := h.ex
  have HT := Lib.hid ht
  clear h ht
  go_enter_defers Tryz.func52, Tryz.ntmps52
  go_wp2_with fail
  refine (t_rlock w tb root ver hb).mono ?_
  rintro e w1 ⟨rfl, hb1, hk1, hz1⟩
  have HB := Lib.hid hb
  have HK1 := Lib.hid hk1
  have HB1 := Lib.hid hb1
  have HZ := Lib.hid hz1
  have hc : w1.cell? ⟨tb, 6, none⟩ = some (.pointer root) := blk_cell hb1 6
  have HL : Hid (∀ w2, Below w1.heap.size w1 w2 → Calls Tryz.prog 44 #[.pointer (some ⟨tb, 7, none⟩)] w2 fun e w' => e = .returned (.int .i64 ver) ∧ w2 = w') :=
    Lib.hid (fun w2 hb2 => t_load w2 tb _ _ root ver ((hb2.block tb (lt_of_block HB1.out)).trans HB1.out))
  clear hb hk1 hb1 hz1
  go_wp2_with fail
  go_region_held3 (fun w' => w'.cell? ⟨tb, 6, none⟩ = some (.pointer root))
    (first | go_keep)
    (first
      | (go_at_call 44; (with_reducible refine (HL.out _ ?_).mono ?_); exact (Below.refl _ _).drew; rintro e w2 ⟨rfl, rfl⟩))
  go_wp2_with fail
  refine leaves_cons (f := 82) (args := #[.pointer (some ⟨tb, 0, none⟩)]) (by simp) (by simp [go_sem]) ?_
  have hA : Below w1.heap.size w1 (w1.alloc (.cells #[.pointer root, .int .i64 ver] 135)).drew := ((Below.refl _ _).alloc (Nat.le_refl _) _).drew
  have hb3 : IsBlk (w1.alloc (.cells #[.pointer root, .int .i64 ver] 135)).drew tb (tabCells 0 1 root ver) 110 := (hA.block tb (lt_of_block HB1.out)).trans HB1.out
  have hs3 : IsBlk (w1.alloc (.cells #[.pointer root, .int .i64 ver] 135)).drew w1.heap.size #[.pointer root, .int .i64 ver] 135 := blk_new w1 _
  refine (t_runlockD _ tb .returning root ver hb3).mono ?_
  rintro e u' w5 ⟨rfl, rfl, hb5, hk5, _⟩
  have ht1 := HT.out.keepT (kept_T HB.out (by decide) HK1.out)
  have ht3 := ht1.below hA
  have ht5 := ht3.keepT (kept_T hb3 (by decide) hk5)
  have hne : w1.heap.size ≠ tb := fun e => by have := lt_of_block HB1.out; omega
  exact ⟨_, results_tmp rfl _ _ _, w1.heap.size, rfl, ⟨root, hk5.obj hs3 hne, ht5⟩, by rw [HZ.out]; exact Nat.le_refl _, ((HK1.out.below (hA.mono (by rw [HZ.out]; exact Nat.le_refl _))).trans' hk5).back HB.out hb5⟩
set_option maxRecDepth 100000 in
set_option maxHeartbeats 2000000 in
theorem t_sget (w : World) (sb : Nat) (t : Tr ByteArray Ev) (ver : Int) (k : ByteArray) (h : SSnap w sb t ver) :
    Calls Tryz.prog 53 #[.pointer (some ⟨sb, 0, none⟩), .string k] w fun e w' => e = .returned (getRes (t.get slt k)) ∧ Below w.heap.size w w' := by
  obtain ⟨w0, hw0, HB0⟩ := boxE_new w Ev.zero
  obtain ⟨bx, hbx⟩ : ∃ bx, bx = w.heap.size := ⟨_, rfl⟩
  have HW0 := Lib.hid hw0
  have HBE := Lib.hid hbx
  have h := h.below HB0.out.1
  have HX0 : Hid (BoxAtE w0 bx Ev.zero) := Lib.hid (by rw [HBE.out]; exact HB0.out.2)
  obtain ⟨root, hb, ht⟩ := h.ex
  have hc : w0.cell? ⟨sb, 0, none⟩ = some (.pointer root) := blk_cell hb 0
  have HG := Lib.hid (s_get k t root w0 ht)
  clear hb ht
  clear h hw0 hbx
  go_enter Tryz.func53, Tryz.ntmps53
  go_upto_region 1 with fail
  rw [show w.alloc (.cells #[.string ⟨#[]⟩, .string ⟨#[]⟩, .string ⟨#[]⟩, .int .i64 0, .int .i64 0] 32) = w0 from HW0.out, ← HBE.out]
  go_wp2_with fail
  refine HG.out.mono ?_
  rintro e w9 ⟨rfl, hb9⟩
  obtain ⟨o, ho⟩ : ∃ o, o = t.get slt k := ⟨_, rfl⟩
  rw [← ho]
  have HX1 : Hid (BoxAtE w9 bx Ev.zero) := Lib.hid (boxE_below HX0.out hb9)
  have HBF : Hid (Below w.heap.size w w9) := Lib.hid (HB0.out.1.trans (hb9.mono HB0.out.1.size))
  have HO := Lib.hid ho
  obtain ⟨⟨d0, d1, d2, d3, d4⟩, z0, z1, z2, z3, z4⟩ := boxE_cells HX1.out
  obtain ⟨v, hv⟩ : ∃ v, v = o.getD Ev.zero := ⟨_, rfl⟩
  obtain ⟨q, hq⟩ : ∃ q, q = o.isSome := ⟨_, rfl⟩
  have HGR : Hid (getRes o = .tuple #[.agg #[.string v.key, .string v.acct, .string v.mtr, .int .i64 v.qty, .int .i64 v.at_], .bool q]) := Lib.hid (by rw [hv, hq]; rfl)
  rw [HGR.out]
  clear hb9 ho hv hq
  go_wp2
  have HN := boxE_set HX1.out v
  refine bodyPost_ret (res_get rfl HN _ q rfl rfl) rfl ⟨?_, boxE_sets HBF.out (by rw [HBE.out]; exact Nat.le_refl _) _ _ _ _ _⟩
  rw [← HO.out, HGR.out]
set_option maxHeartbeats 400000 in
theorem t_slen (w : World) (sb : Nat) (t : Tr ByteArray Ev) (ver : Int) (h : SSnap w sb t ver) :
    Calls Tryz.prog 55 #[.pointer (some ⟨sb, 0, none⟩)] w fun e w' => e = .returned (.int .i64 (t.size : Int)) ∧ w = w' := by
  obtain ⟨root, hb, ht⟩ := h.ex
  have hc : w.cell? ⟨sb, 0, none⟩ = some (.pointer root) := blk_cell hb 0
  have HG := Lib.hid (s_many w t root ht)
  clear h hb ht
  go_enter Tryz.func55, Tryz.ntmps55
  go_wp2_with fail
  refine HG.out.mono ?_
  rintro e w' ⟨rfl, rfl⟩
  go_wp2
  go_ret
  exact ⟨rfl, rfl⟩
set_option maxRecDepth 100000 in
set_option maxHeartbeats 2000000 in
theorem t_get (w : World) (tb : Nat) (t : Tr ByteArray Ev) (ver : Int) (k : ByteArray) (h : STab w tb t ver) :
    Calls Tryz.prog 24 #[.pointer (some ⟨tb, 0, none⟩), .string k] w fun e w' => e = .returned (getRes (t.get slt k)) ∧ Below w.heap.size w w' := by
  obtain ⟨w0, hw0, HB0⟩ := boxE_new w Ev.zero
  obtain ⟨bx, hbx⟩ : ∃ bx, bx = w.heap.size := ⟨_, rfl⟩
  have HW0 := Lib.hid hw0
  have HBE := Lib.hid hbx
  have h := h.below HB0.out.1
  have HX0 : Hid (BoxAtE w0 bx Ev.zero) := Lib.hid (by rw [HBE.out]; exact HB0.out.2)
  have HS := Lib.hid (t_snapshot w0 tb t ver h)
  clear h hw0 hbx
  go_enter Tryz.func24, Tryz.ntmps24
  go_upto_region 1 with fail
  rw [show w.alloc (.cells #[.string ⟨#[]⟩, .string ⟨#[]⟩, .string ⟨#[]⟩, .int .i64 0, .int .i64 0] 32) = w0 from HW0.out, ← HBE.out]
  go_wp2_with fail
  refine HS.out.mono ?_
  rintro e w8 ⟨sb, rfl, hs, _, hk⟩
  have HG := Lib.hid (t_sget w8 sb t ver k hs)
  have HK := Lib.hid hk
  clear hs hk
  go_wp2_with fail
  refine HG.out.mono ?_
  rintro e w9 ⟨rfl, hb9'⟩
  have hb9 : Below w0.heap.size w0 w9 := HK.out.trans (hb9'.mono HK.out.size)
  clear hb9'
  obtain ⟨o, ho⟩ : ∃ o, o = t.get slt k := ⟨_, rfl⟩
  rw [← ho]
  have HX1 : Hid (BoxAtE w9 bx Ev.zero) := Lib.hid (boxE_below HX0.out hb9)
  have HBF : Hid (Below w.heap.size w w9) := Lib.hid (HB0.out.1.trans (hb9.mono HB0.out.1.size))
  have HO := Lib.hid ho
  obtain ⟨⟨d0, d1, d2, d3, d4⟩, z0, z1, z2, z3, z4⟩ := boxE_cells HX1.out
  obtain ⟨v, hv⟩ : ∃ v, v = o.getD Ev.zero := ⟨_, rfl⟩
  obtain ⟨q, hq⟩ : ∃ q, q = o.isSome := ⟨_, rfl⟩
  have HGR : Hid (getRes o = .tuple #[.agg #[.string v.key, .string v.acct, .string v.mtr, .int .i64 v.qty, .int .i64 v.at_], .bool q]) := Lib.hid (by rw [hv, hq]; rfl)
  rw [HGR.out]
  clear hb9 ho hv hq
  go_wp2
  have HN := boxE_set HX1.out v
  refine bodyPost_ret (res_get rfl HN _ q rfl rfl) rfl ⟨?_, boxE_sets HBF.out (by rw [HBE.out]; exact Nat.le_refl _) _ _ _ _ _⟩
  rw [← HO.out, HGR.out]
theorem t_len (w : World) (tb : Nat) (t : Tr ByteArray Ev) (ver : Int) (h : STab w tb t ver) :
    Calls Tryz.prog 26 #[.pointer (some ⟨tb, 0, none⟩)] w fun e w' => e = .returned (.int .i64 (t.size : Int)) ∧ Below w.heap.size w w' := by
  have HS := Lib.hid (t_snapshot w tb t ver h)
  clear h
  go_enter Tryz.func26, Tryz.ntmps26
  go_wp2_with fail
  refine HS.out.mono ?_
  rintro e w1 ⟨sb, rfl, hs, _, hk⟩
  have HG := Lib.hid (t_slen w1 sb t ver hs)
  have HK := Lib.hid hk
  clear hs hk
  go_wp2_with fail
  refine HG.out.mono ?_
  rintro e w' ⟨rfl, rfl⟩
  go_wp2
  go_ret
  exact ⟨rfl, HK.out⟩
end Ev
end Go.Proofs.YtkbdofbjfcajbaaGreat
