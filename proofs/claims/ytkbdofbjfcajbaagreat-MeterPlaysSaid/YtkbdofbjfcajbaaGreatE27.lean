/- Of the document's answer of chapter 13: Ingest. -/
import Derived.Test.YtkbdofbjfcajbaaGreatE26
import Derived.Deep.CutBlock
import Derived.Deep.DeepCutAuto
import Derived.Deep.RegionHeld3
namespace Go.Proofs.YtkbdofbjfcajbaaGreat
open Go.RowKit Go.Shelf Go.Sort

theorem infoHEv : (Tryz.prog.info? 50).map (fun i => (i.zero, i.size, i.bytes)) = some (some (.agg #[.string ⟨#[]⟩, .string ⟨#[]⟩, .string ⟨#[]⟩, .int .i64 0, .int .i64 0]), 5, 64) := by kernel_rfl
theorem append_hev {w : World} {v u : Value} {xs ys : List Ev} (hv : SlAt evKind 50 w v xs) (hu : RdAt evKind w u ys) (hn : xs.length + ys.length ≤ 1000000) (ty : TypeId) :
    ∃ v' w', (Builtin.append_ #[45, 45] ty #[v, u]).run Tryz.prog w = .ok v' w' ∧ SlAt evKind 50 w' v' (xs ++ ys) ∧ Keeps (fun k => v.ownBlock = some k) w w' ∧
      (∀ k, v'.ownBlock = some k → v.ownBlock = some k ∨ w.heap.size ≤ k) := by
  obtain ⟨i, hi, hz, hs, hb⟩ := info_parts infoHEv
  obtain ⟨v', w', h1, h2, h3, h4, _⟩ := run_append_sl (ek := evKind) (P := Tryz.prog) 45 ty i _ 64 Tryz.underlying45 hi hz hs hb rfl hv hu (by unfold maxLen; omega) (by omega)
  exact ⟨v', w', h1, h2, h3, h4⟩
theorem one_hev (w : World) (x : Ev) : RdAt evKind (w.alloc (.cells (evCells x).toArray 50)) (.slice (some ⟨w.heap.size, 0, none⟩) 1 1) [x] := by
  refine ⟨_, _, rfl, fun j y hy => ?_⟩
  obtain ⟨rfl, rfl⟩ : j = 0 ∧ y = x := by
    cases j with
    | zero => simp at hy; exact ⟨rfl, hy.symm⟩
    | succ j => simp at hy
  refine ⟨_, _, rfl, fun i hi => ?_⟩
  rw [show 0 + 0 * evKind.size + i = i from by omega, blk_cell (blk_new w _), List.getElem?_toArray]
  rfl
theorem none_hev (w : World) : SlAt evKind 50 (w.alloc (.cells #[] 50)) (.slice (some ⟨w.heap.size, 0, none⟩) 0 0) ([] : List Ev) :=
  .inr ⟨_, 0, 0, _, rfl, blk_new w _, Nat.le_refl _, by decide, by simp, fun i hi => by simp at hi⟩
theorem alloc_step {W W' : World} {o : Obj} (h : W' = W.alloc o) : Below W.heap.size W W' := by rw [h]; exact (Below.refl _ _).alloc (Nat.le_refl _) _
theorem cell_far {w : World} {g k : Nat} (h : g ≠ k) (v : Value) (o : Nat) : (w.setCell ⟨g, 0, none⟩ v).cell? ⟨k, o, none⟩ = w.cell? ⟨k, o, none⟩ := World.cell?_setCell_far w ⟨g, 0, none⟩ ⟨k, o, none⟩ v h
set_option maxRecDepth 100000 in
set_option maxHeartbeats 8000000 in
theorem hm_ingest (w : World) (hb : Nat) (v : Value) (l : List Ev) (x : Ev) (h : DocIn w hb v l) (hx : EvFit x) (hl : l.length ≤ 100000) :
    Calls Tryz.prog 15 #[.pointer (some ⟨hb, 0, none⟩), .agg #[.string x.key, .string x.acct, .string x.mtr, .int .i64 x.qty, .int .i64 x.at_]] w fun e w' => e = .returned (.tuple #[.bool (hR l x).1, .int .i64 (hR l x).2]) ∧ (∃ v', DocIn w' hb v' (hS l x)) ∧ Keeps (Only hb) w w' := by
  obtain ⟨wb, hwb, HBX⟩ := hbox_new w x
  obtain ⟨bx, hbx⟩ : ∃ bx, bx = w.heap.size := ⟨_, rfl⟩
  obtain ⟨a, cap, rfl⟩ := h.sl.shape
  have HW1 := Lib.hid hwb
  have HBE := Lib.hid hbx
  have HWB : Hid (Below w.heap.size w wb) := Lib.hid HBX.out.1
  have HBW : Hid (HBox wb bx x) := Lib.hid (by rw [hbx]; exact HBX.out.2)
  have HD := Lib.hid (h.below HBX.out.1)
  have HC := Lib.hid (hm_check wb x hx)
  have HL := Lib.hid hl
  have hli : (l.length : Int) ≤ 100000 := by omega
  have HKW : Hid (∀ W, Below wb.heap.size wb W → Keeps (Only hb) w W) := Lib.hid fun W hW => (Keeps.of_below (HWB.out.trans (hW.mono HWB.out.size))).mono fun _ _ h => h.elim
  clear hwb hbx HBX hx h hl
  go_enter Tryz.func15, Tryz.ntmps15
  go_upto_region 1 with fail
  rw [HW1.out, ← HBE.out]
  clear HW1 HBE
  obtain ⟨⟨x0, x1, x2, x3, x4⟩, -⟩ := hbox_cells HBW.out
  go_wp2_with (fail)
  refine HC.out.mono ?_
  rintro e w1 ⟨rfl, hb1⟩
  have HB1 := Lib.hid hb1
  obtain ⟨c, hc⟩ : ∃ c, c = checkE x := ⟨_, rfl⟩
  rw [← hc]
  clear x0 x1 x2 x3 x4 hb1
  by_cases hbad : c = 0
  · have HCK : Hid (checkE x = 0) := Lib.hid (by rw [← hc, hbad])
    clear hc
    subst hbad
    have HBW1 : Hid (HBox w1 bx x) := Lib.hid (hbox_below HBW.out HB1.out)
    have HD1 := Lib.hid (HD.out.below HB1.out)
    obtain ⟨⟨x0, x1, x2, x3, x4⟩, -⟩ := hbox_cells HBW1.out
    have HFI := Lib.hid (hm_find w1 hb _ l HD1.out (by have := HL.out; omega) x.key)
    obtain ⟨o, ho⟩ : ∃ o, o = hFind l x.key := ⟨_, rfl⟩
    obtain ⟨u, hu⟩ : ∃ v, v = o.getD Ev.zero := ⟨_, rfl⟩
    obtain ⟨q, hq⟩ : ∃ q, q = o.isSome := ⟨_, rfl⟩
    have HGR : Hid (Ev.getRes (hFind l x.key) = .tuple #[.agg #[.string u.key, .string u.acct, .string u.mtr, .int .i64 u.qty, .int .i64 u.at_], .bool q]) := Lib.hid (by rw [hu, hq, ho]; rfl)
    have HUQ := Lib.hid (And.intro ho (And.intro hu hq))
    rw [HGR.out] at HFI
    clear ho hu hq HGR
    go_wp2_with (fail)
    refine HFI.out.mono ?_
    rintro e w2 ⟨rfl, hb2⟩
    have HB2 := Lib.hid hb2
    have HBW2 : Hid (HBox w2 bx x) := Lib.hid (hbox_below HBW1.out hb2)
    have HD2 := Lib.hid (HD1.out.below hb2)
    have HK2 : Hid (∀ W, Below w2.heap.size w2 W → Keeps (Only hb) w W) := Lib.hid fun W hW => HKW.out W (HB1.out.trans ((hb2.trans (hW.mono hb2.size)).mono HB1.out.size))
    clear hb2 x0 x1 x2 x3 x4
    obtain ⟨⟨x0, x1, x2, x3, x4⟩, -⟩ := hbox_cells HBW2.out
    have hlx : bx < w2.heap.size := lt_of_block HBW2.out
    have hlh : hb < w2.heap.size := lt_of_block HD2.out.blk
    cases q with
    | true =>
      have HO : Hid (hFind l x.key = some u) := Lib.hid (by
        have h1 := HUQ.out.1; have h2 := HUQ.out.2.1; have h3 := HUQ.out.2.2
        rw [← h1]; cases o with
        | none => cases h3
        | some y => rw [h2]; rfl)
      have HRS : Hid ((u = x → hR l x = (true, 0)) ∧ (u ≠ x → hR l x = (false, 24)) ∧ hS l x = l) := Lib.hid (by
        unfold hR hS; rw [if_pos HCK.out, if_pos HCK.out, HO.out]
        exact ⟨fun e => if_pos e, fun e => if_neg e, rfl⟩)
      clear HUQ
      obtain ⟨w3, hw3⟩ : ∃ w3, w3 = w2.alloc (.cells #[.string u.key, .string u.acct, .string u.mtr, .int .i64 u.qty, .int .i64 u.at_] 50) := ⟨_, rfl⟩
      have HW3 := Lib.hid hw3
      have HB3 : Hid (Below w2.heap.size w2 w3) := Lib.hid (alloc_step hw3)
      have HX3 := Lib.hid (hbox_below HBW2.out HB3.out)
      have HY3 : Hid (HBox w3 w2.heap.size u) := Lib.hid (by rw [hw3]; exact blk_new w2 _)
      clear hw3
      go_upto_region 6 with (fail)
      rw [← HW3.out]
      clear x0 x1 x2 x3 x4
      obtain ⟨⟨x0, x1, x2, x3, x4⟩, -⟩ := hbox_cells HX3.out
      obtain ⟨⟨y0, y1, y2, y3, y4⟩, -⟩ := hbox_cells HY3.out
      go_cut [24] from 9 to 42 (fun b wx => wx = w3 ∧ b = .bool (decide (u ≠ x)))
      case first =>
        go_wp2_with (fail)
        all_goals
          go_meet
          refine ⟨rfl, ?_⟩
        all_goals first
          | (have hne : u ≠ x := by rintro rfl; contradiction
             rw [decide_eq_true hne])
          | (have hne : u = x := by apply ev_eq <;> assumption
             rw [decide_eq_false (by simp [hne])])
      case rest =>
        obtain ⟨rfl, rfl⟩ := hcut
        by_cases huv : u = x
        · have HU := Lib.hid huv
          rw [decide_eq_false (by simp [huv])]
          clear huv
          go_wp2_with (fail)
          go_ret2
          rw [HRS.out.1 HU.out, HRS.out.2.2]
          exact ⟨rfl, ⟨_, HD2.out.below HB3.out⟩, HK2.out _ HB3.out⟩
        · have HU := Lib.hid huv
          rw [decide_eq_true huv]
          clear huv
          go_wp2_with (fail)
          go_ret2
          rw [HRS.out.2.1 HU.out, HRS.out.2.2]
          exact ⟨rfl, ⟨_, HD2.out.below HB3.out⟩, HK2.out _ HB3.out⟩
    | false =>
      have HO : Hid (hFind l x.key = none) := Lib.hid (by
        have h1 := HUQ.out.1; have h3 := HUQ.out.2.2
        rw [← h1]; cases o with
        | none => rfl
        | some y => cases h3)
      clear HUQ
      have hc2 : w2.cell? ⟨hb, 0, none⟩ = some (.slice a l.length cap) := blk_cell HD2.out.blk 0
      by_cases hfull : (5000 : Int) ≤ (l.length : Int)
      · have HRS : Hid (hR l x = (false, 9) ∧ hS l x = l) := Lib.hid (by
          unfold hR hS; rw [if_pos HCK.out, if_pos HCK.out, HO.out]
          simp only
          rw [if_pos (by omega), if_pos (by omega)]
          exact ⟨rfl, rfl⟩)
        go_wp2_with (fail)
        go_ret2
        rw [HRS.out.1, HRS.out.2]
        have hbz : Below w2.heap.size w2 (w2.alloc (.cells #[.string u.key, .string u.acct, .string u.mtr, .int .i64 u.qty, .int .i64 u.at_] 50)) := (Below.refl _ _).alloc (Nat.le_refl _) _
        exact ⟨rfl, ⟨_, HD2.out.below hbz⟩, HK2.out _ hbz⟩
      · have HRS : Hid (hR l x = (false, 0) ∧ hS l x = l ++ [x]) := Lib.hid (by
          unfold hR hS; rw [if_pos HCK.out, if_pos HCK.out, HO.out]
          simp only
          rw [if_neg (by omega), if_neg (by omega)]
          exact ⟨rfl, rfl⟩)
        obtain ⟨w3, hw3⟩ : ∃ w3, w3 = w2.alloc (.cells #[.string u.key, .string u.acct, .string u.mtr, .int .i64 u.qty, .int .i64 u.at_] 50) := ⟨_, rfl⟩
        have HW3 := Lib.hid hw3
        have HB3 : Hid (Below w2.heap.size w2 w3) := Lib.hid (by rw [hw3]; exact (Below.refl _ _).alloc (Nat.le_refl _) _)
        have HD3 := Lib.hid (HD2.out.below HB3.out)
        have HX3 := Lib.hid (hbox_below HBW2.out HB3.out)
        clear hw3
        have KS : Hid (∀ W, Below w3.heap.size w3 W → W.cell? ⟨bx, 0, none⟩ = some (.string x.key) ∧ W.cell? ⟨bx, 1, none⟩ = some (.string x.acct) ∧ W.cell? ⟨bx, 2, none⟩ = some (.string x.mtr) ∧ W.cell? ⟨bx, 3, none⟩ = some (.int .i64 x.qty) ∧ W.cell? ⟨bx, 4, none⟩ = some (.int .i64 x.at_)) := Lib.hid fun W hW => (hbox_cells (hbox_below HX3.out hW)).1
        have HLR : Hid (∀ W, Below w3.heap.size w3 W → RdAt evKind W (.slice a l.length cap) l) := Lib.hid fun W hW => HD3.out.sl.rd.below hW
        have HK3 : Hid (∀ W, Below w3.heap.size w3 W → Keeps (Only hb) w W) := Lib.hid fun W hW => HK2.out W (HB3.out.trans (hW.mono HB3.out.size))
        have hbx2 : hb ≠ bx := ne_of_type HD3.out.blk HX3.out (by decide)
        go_upto_region 11 with (fail)
        clear x0 x1 x2 x3 x4 hc2
        rw [← HW3.out]
        refine wp_region_noPanic ?_
        refine wp_region_held_drew (S := fun w' => w'.cell? ⟨bx, 0, none⟩ = some (.string x.key) ∧ w'.cell? ⟨bx, 1, none⟩ = some (.string x.acct) ∧ w'.cell? ⟨bx, 2, none⟩ = some (.string x.mtr) ∧ w'.cell? ⟨bx, 3, none⟩ = some (.int .i64 x.qty) ∧ w'.cell? ⟨bx, 4, none⟩ = some (.int .i64 x.at_)) (by kernel_rfl) ?_ (fun hHeld => ?_)
        · exact KS.out _ ((Below.refl _ _).drew)
        obtain ⟨wz, hwz⟩ : ∃ q, q = w3.drew := ⟨_, rfl⟩
        rw [← hwz] at hHeld ⊢
        have B : Hid (Below w3.heap.size w3 wz) := Lib.hid (by rw [hwz]; exact (Below.refl _ _).drew)
        clear hwz
        refine wpAnyH_take (i := 0) (oi := { dst := some 31, op := Op.move (Operand.tmp 0), type := 44, pos := "meter.go:199", after := #[], guard := none }) (v := ?vv1) rfl (by kernel_rfl) (by kernel_rfl) (by kernel_rfl) (fun _ _ _ h => h) (Or.inl ⟨by rfl, ?hy1⟩) (by assumption) ?rs1
        case hy1 => (intro w hSw; (try dsimp only at hSw); go_simp) <;> with_reducible rfl
        try simp only [Act.put, List.setIfInBounds_toArray, List.set_cons_zero, List.set_cons_succ]
        refine wpAnyH_take (i := 2) (oi := { dst := some 33, op := Op.move (Operand.tmp 0), type := 44, pos := "meter.go:199", after := #[], guard := none }) (v := ?vv2) rfl (by kernel_rfl) (by kernel_rfl) (by kernel_rfl) (fun _ _ _ h => h) (Or.inl ⟨by rfl, ?hy2⟩) (by assumption) ?rs2
        case hy2 => (intro w hSw; (try dsimp only at hSw); go_simp) <;> with_reducible rfl
        try simp only [Act.put, List.setIfInBounds_toArray, List.set_cons_zero, List.set_cons_succ]
        refine wpAnyH_take (i := 3) (oi := { dst := some 34, op := Op.nilCheck (Operand.tmp 33), type := 0, pos := "meter.go:199", after := #[{ on := 2, ground := Ground.data }], guard := none }) (v := ?vv3) rfl (by kernel_rfl) (by kernel_rfl) (by kernel_rfl) (fun _ _ _ h => h) (Or.inl ⟨by rfl, ?hy3⟩) (by assumption) ?rs3
        case hy3 => (intro w hSw; (try dsimp only at hSw); go_simp) <;> with_reducible rfl
        try simp only [Act.put, List.setIfInBounds_toArray, List.set_cons_zero, List.set_cons_succ]
        refine wpAnyH_take (i := 4) (oi := { dst := some 35, op := Op.fieldAddr 47 (Operand.tmp 34) 0, type := 0, pos := "meter.go:199", after := #[{ on := 3, ground := Ground.data }], guard := none }) (v := ?vv4) rfl (by kernel_rfl) (by kernel_rfl) (by kernel_rfl) (fun _ _ _ h => h) (Or.inl ⟨by rfl, ?hy4⟩) (by assumption) ?rs4
        case hy4 => (intro w hSw; (try dsimp only at hSw); go_simp) <;> with_reducible rfl
        try simp only [Act.put, List.setIfInBounds_toArray, List.set_cons_zero, List.set_cons_succ]
        refine wpAnyH_take (i := 7) (oi := { dst := some 38, op := Op.load 50 (Operand.tmp 3), type := 50, pos := "meter.go:199", after := #[], guard := none }) (v := ?vv5) rfl (by kernel_rfl) (by kernel_rfl) (by kernel_rfl) (fun _ _ _ h => h) (Or.inl ⟨by rfl, ?hy5⟩) (by assumption) ?rs5
        case hy5 => (intro w hSw; (try dsimp only at hSw); go_simp) <;> with_reducible rfl
        try simp only [Act.put, List.setIfInBounds_toArray, List.set_cons_zero, List.set_cons_succ]
        refine wpAnyH_ready (rs := [1, 5, 8]) (by kernel_rfl) (by simp) ?_
        refine AllReadyH.cons (o := { dst := some 32, op := Op.buildSlice 45 0 #[], type := 45, pos := "meter.go:199", after := #[], guard := none }) rfl (fun K hK => ?_) ?_
        · go_simp
          obtain ⟨g1, hg1⟩ : ∃ q, q = wz.heap.size := ⟨_, rfl⟩
          obtain ⟨wz, hwz⟩ : ∃ q, q = wz.alloc (.cells #[] 50) := ⟨_, rfl⟩
          rw [← hwz, ← hg1]
          have BZ := Lib.hid (alloc_step hwz)
          have N1 : Hid (SlAt evKind 50 wz (.slice (some ⟨g1, 0, none⟩) 0 0) [] ∧ w3.heap.size ≤ g1 ∧ g1 < wz.heap.size) := Lib.hid (by rw [hwz, hg1]; exact ⟨none_hev _, B.out.size, by simp⟩)
          have B := Lib.hid (B.out.trans (BZ.out.mono B.out.size))
          clear hwz hg1
          refine hK.out _ _ ?_ (fun hHeld => ?_)
          · exact KS.out _ B.out
          clear hK K
          try simp only [Act.put, List.setIfInBounds_toArray, List.set_cons_zero, List.set_cons_succ]
          refine wpAnyH_ready (rs := [5, 8]) (by kernel_rfl) (by simp) ?_
          refine AllReadyH.cons (o := { dst := some 36, op := Op.load 45 (Operand.tmp 35), type := 45, pos := "meter.go:199", after := #[{ on := 4, ground := Ground.data }], guard := none }) rfl (fun K hK => ?_) ?_
          · have c0 : wz.cell? ⟨hb, 0, none⟩ = some (.slice a l.length cap) := blk_cell (HD3.out.below B.out).blk 0
            go_simp
            clear c0
            refine hK.out _ _ ?_ (fun hHeld => ?_)
            · exact KS.out _ B.out
            clear hK K
            try simp only [Act.put, List.setIfInBounds_toArray, List.set_cons_zero, List.set_cons_succ]
            refine wpAnyH_ready (rs := [6, 8]) (by kernel_rfl) (by simp) ?_
            refine AllReadyH.cons (o := { dst := some 37, op := Op.call { callee := Callee.builtin Builtin.append, args := #[Operand.tmp 32, Operand.tmp 36], argTypes := #[45, 45] }, type := 45, pos := "meter.go:199", after := #[{ on := 1, ground := Ground.data }, { on := 5, ground := Ground.data }], guard := none }) rfl (fun K hK => ?_) ?_
            · obtain ⟨v1, wy, hrun1, hs1, hk1, ho1⟩ := append_hev N1.out.1 (HLR.out wz B.out) (by have := HL.out; simp only [List.length_nil]; omega) 45
              refine step_append_run rfl (.tmp 32) (.tmp 36) 45 rfl _ _ rfl rfl _ _ hrun1 ?_
              have A1 : Hid (SlAt evKind 50 wy v1 l ∧ ∀ g, v1.ownBlock = some g → w3.heap.size ≤ g) := Lib.hid ⟨hs1, fun g hg => by rcases ho1 g hg with e | e; (have e2 : g1 = g := by simpa [Value.ownBlock] using e); rw [← e2]; exact N1.out.2.1; exact Nat.le_trans B.out.size e⟩
              have B := Lib.hid (below_keeps B.out hk1 (fun i e => by have e2 : g1 = i := (by simpa [Value.ownBlock] using e); rw [← e2]; exact N1.out.2.1) B.out.size)
              clear hrun1 hs1 hk1 ho1
              obtain ⟨wz, rfl⟩ : ∃ q, q = wy := ⟨_, rfl⟩
              refine hK.out _ _ ?_ (fun hHeld => ?_)
              · exact KS.out _ B.out
              clear hK K
              try simp only [Act.put, List.setIfInBounds_toArray, List.set_cons_zero, List.set_cons_succ]
              refine wpAnyH_ready (rs := [8]) (by kernel_rfl) (by simp) ?_
              refine AllReadyH.cons (o := { dst := some 39, op := Op.buildSlice 45 1 #[(0, Operand.tmp 38)], type := 45, pos := "meter.go:199", after := #[{ on := 7, ground := Ground.data }], guard := none }) rfl (fun K hK => ?_) AllReadyH.nil
              go_simp
              obtain ⟨g8, hg8⟩ : ∃ q, q = wz.heap.size := ⟨_, rfl⟩
              obtain ⟨wz, hwz⟩ : ∃ q, q = wz.alloc (.cells #[.string x.key, .string x.acct, .string x.mtr, .int .i64 x.qty, .int .i64 x.at_] 50) := ⟨_, rfl⟩
              rw [← hwz, ← hg8]
              have BZ := Lib.hid (alloc_step hwz)
              have M8 : Hid (RdAt evKind wz (.slice (some ⟨g8, 0, none⟩) 1 1) [x] ∧ w3.heap.size ≤ g8 ∧ g8 < wz.heap.size) := Lib.hid (by rw [hwz, hg8]; exact ⟨one_hev _ x, B.out.size, by simp⟩)
              have A1 := Lib.hid (And.intro (A1.out.1.below BZ.out) A1.out.2)
              have B := Lib.hid (B.out.trans (BZ.out.mono B.out.size))
              clear hwz hg8
              refine hK.out _ _ ?_ (fun hHeld => ?_)
              · exact KS.out _ B.out
              clear hK K
              try simp only [Act.put, List.setIfInBounds_toArray, List.set_cons_zero, List.set_cons_succ]
              refine wpAnyH_ready (rs := [9]) (by kernel_rfl) (by simp) ?_
              refine AllReadyH.cons (o := { dst := some 40, op := Op.call { callee := Callee.builtin Builtin.append, args := #[Operand.tmp 37, Operand.tmp 39], argTypes := #[45, 45] }, type := 45, pos := "meter.go:199", after := #[{ on := 6, ground := Ground.data }, { on := 8, ground := Ground.data }, { on := 6, ground := Ground.chain }], guard := none }) rfl (fun K hK => ?_) AllReadyH.nil
              obtain ⟨v2, wy, hrun2, hs2, hk2, ho2⟩ := append_hev A1.out.1 M8.out.1 (by have := HL.out; simp only [List.length_cons, List.length_nil]; omega) 45
              obtain ⟨a2, c2, rfl⟩ := hs2.shape
              rw [show (l ++ [x]).length = l.length + 1 from by simp] at hrun2 hs2
              refine step_append_run rfl (.tmp 37) (.tmp 39) 45 rfl _ _ rfl rfl _ _ hrun2 ?_
              have A2 : Hid (SlAt evKind 50 wy (.slice a2 (l.length + 1) c2) (l ++ [x])) := Lib.hid hs2
              have B := Lib.hid (below_keeps B.out hk2 (fun i e => A1.out.2 i e) B.out.size)
              clear hrun2 hs2 hk2 ho2
              obtain ⟨wz, rfl⟩ : ∃ q, q = wy := ⟨_, rfl⟩
              refine hK.out _ _ ?_ (fun hHeld => ?_)
              · exact KS.out _ B.out
              clear hK K
              try simp only [Act.put, List.setIfInBounds_toArray, List.set_cons_zero, List.set_cons_succ]
              refine wpAnyH_take (i := 10) (oi := { dst := some 41, op := Op.nilCheck (Operand.tmp 31), type := 0, pos := "meter.go:199", after := #[{ on := 0, ground := Ground.data }, { on := 0, ground := Ground.phase }, { on := 1, ground := Ground.phase }, { on := 2, ground := Ground.phase }, { on := 3, ground := Ground.phase }, { on := 4, ground := Ground.phase }, { on := 5, ground := Ground.phase }, { on := 6, ground := Ground.phase }, { on := 7, ground := Ground.phase }, { on := 8, ground := Ground.phase }, { on := 9, ground := Ground.phase }], guard := none }) (v := ?vv6) rfl (by kernel_rfl) (by kernel_rfl) (by kernel_rfl) (fun _ _ _ h => h) (Or.inl ⟨by rfl, ?hy6⟩) (by assumption) ?rs6
              case hy6 => (intro w hSw; (try dsimp only at hSw); go_simp) <;> with_reducible rfl
              try simp only [Act.put, List.setIfInBounds_toArray, List.set_cons_zero, List.set_cons_succ]
              refine wpAnyH_take (i := 11) (oi := { dst := some 42, op := Op.fieldAddr 47 (Operand.tmp 41) 0, type := 0, pos := "meter.go:199", after := #[{ on := 10, ground := Ground.data }, { on := 0, ground := Ground.phase }, { on := 1, ground := Ground.phase }, { on := 2, ground := Ground.phase }, { on := 3, ground := Ground.phase }, { on := 4, ground := Ground.phase }, { on := 5, ground := Ground.phase }, { on := 6, ground := Ground.phase }, { on := 7, ground := Ground.phase }, { on := 8, ground := Ground.phase }, { on := 9, ground := Ground.phase }], guard := none }) (v := ?vv7) rfl (by kernel_rfl) (by kernel_rfl) (by kernel_rfl) (fun _ _ _ h => h) (Or.inl ⟨by rfl, ?hy7⟩) (by assumption) ?rs7
              case hy7 => (intro w hSw; (try dsimp only at hSw); go_simp) <;> with_reducible rfl
              try simp only [Act.put, List.setIfInBounds_toArray, List.set_cons_zero, List.set_cons_succ]
              refine wpAnyH_ready (rs := [12]) (by kernel_rfl) (by simp) ?_
              refine AllReadyH.cons (o := { dst := none, op := Op.store 45 (Operand.tmp 42) (Operand.tmp 40), type := 0, pos := "meter.go:199", after := #[{ on := 11, ground := Ground.data }, { on := 9, ground := Ground.data }, { on := 9, ground := Ground.chain }, { on := 0, ground := Ground.phase }, { on := 1, ground := Ground.phase }, { on := 2, ground := Ground.phase }, { on := 3, ground := Ground.phase }, { on := 4, ground := Ground.phase }, { on := 5, ground := Ground.phase }, { on := 6, ground := Ground.phase }, { on := 7, ground := Ground.phase }, { on := 8, ground := Ground.phase }, { on := 9, ground := Ground.phase }], guard := none }) rfl (fun K hK => ?_) AllReadyH.nil
              have DB := Lib.hid (HD3.out.below B.out).blk
              have c0 : wz.cell? ⟨hb, 0, none⟩ = some (.slice a l.length cap) := blk_cell DB.out 0
              have z0 : wz.frozen? ⟨hb, 0, none⟩ = false := blk_free DB.out 0
              go_simp
              refine hK.out _ _ ?_ (fun hHeld => ?_)
              · exact ⟨(cell_far hbx2 _ _).trans (KS.out _ B.out).1, (cell_far hbx2 _ _).trans (KS.out _ B.out).2.1, (cell_far hbx2 _ _).trans (KS.out _ B.out).2.2.1, (cell_far hbx2 _ _).trans (KS.out _ B.out).2.2.2.1, (cell_far hbx2 _ _).trans (KS.out _ B.out).2.2.2.2⟩
              clear hK K
              try simp only [Act.put, List.setIfInBounds_toArray, List.set_cons_zero, List.set_cons_succ]
              refine wpAnyH_done (by kernel_rfl) ?_ _
              simp only [NoPanic]
              have HFB : Hid (IsBlk (wz.setCell ⟨hb, 0, none⟩ (.slice a2 (l.length + 1) c2)) hb #[.slice a2 (l.length + 1) c2] 47) := Lib.hid (blk_set DB.out 0 (.slice a2 (l.length + 1) c2))
              have HFS : Hid (SlAt evKind 50 (wz.setCell ⟨hb, 0, none⟩ (.slice a2 (l.length + 1) c2)) (.slice a2 (l.length + 1) c2) (l ++ [x])) := Lib.hid (A2.out.keeps (keeps_set wz hb 0 _) (fun g hg e => by obtain ⟨cur, hcur⟩ := A2.out.own g hg; exact ne_of_type hcur DB.out (by decide) e))
              have HFK : Hid (Keeps (Only hb) w (wz.setCell ⟨hb, 0, none⟩ (.slice a2 (l.length + 1) c2))) := Lib.hid ((HK3.out _ B.out).trans' (keeps_set wz hb 0 _))
              go_wp2_with fail
              go_ret2
              rw [HRS.out.1, HRS.out.2]
              exact ⟨rfl, ⟨_, HFB.out, HFS.out⟩, HFK.out⟩
            refine AllReadyH.cons (o := { dst := some 39, op := Op.buildSlice 45 1 #[(0, Operand.tmp 38)], type := 45, pos := "meter.go:199", after := #[{ on := 7, ground := Ground.data }], guard := none }) rfl (fun K hK => ?_) AllReadyH.nil
            go_simp
            obtain ⟨g8, hg8⟩ : ∃ q, q = wz.heap.size := ⟨_, rfl⟩
            obtain ⟨wz, hwz⟩ : ∃ q, q = wz.alloc (.cells #[.string x.key, .string x.acct, .string x.mtr, .int .i64 x.qty, .int .i64 x.at_] 50) := ⟨_, rfl⟩
            rw [← hwz, ← hg8]
            have BZ := Lib.hid (alloc_step hwz)
            have M8 : Hid (RdAt evKind wz (.slice (some ⟨g8, 0, none⟩) 1 1) [x] ∧ w3.heap.size ≤ g8 ∧ g8 < wz.heap.size) := Lib.hid (by rw [hwz, hg8]; exact ⟨one_hev _ x, B.out.size, by simp⟩)
            have DD : Hid (g8 ≠ g1) := Lib.hid (by have := N1.out.2.2; rw [hg8]; omega)
            have N1 := Lib.hid (And.intro (N1.out.1.below BZ.out) (And.intro N1.out.2.1 (Nat.lt_of_lt_of_le N1.out.2.2 BZ.out.size)))
            have B := Lib.hid (B.out.trans (BZ.out.mono B.out.size))
            clear hwz hg8
            refine hK.out _ _ ?_ (fun hHeld => ?_)
            · exact KS.out _ B.out
            clear hK K
            try simp only [Act.put, List.setIfInBounds_toArray, List.set_cons_zero, List.set_cons_succ]
            refine wpAnyH_ready (rs := [6]) (by kernel_rfl) (by simp) ?_
            refine AllReadyH.cons (o := { dst := some 37, op := Op.call { callee := Callee.builtin Builtin.append, args := #[Operand.tmp 32, Operand.tmp 36], argTypes := #[45, 45] }, type := 45, pos := "meter.go:199", after := #[{ on := 1, ground := Ground.data }, { on := 5, ground := Ground.data }], guard := none }) rfl (fun K hK => ?_) AllReadyH.nil
            obtain ⟨v1, wy, hrun1, hs1, hk1, ho1⟩ := append_hev N1.out.1 (HLR.out wz B.out) (by have := HL.out; simp only [List.length_nil]; omega) 45
            refine step_append_run rfl (.tmp 32) (.tmp 36) 45 rfl _ _ rfl rfl _ _ hrun1 ?_
            have A1 : Hid (SlAt evKind 50 wy v1 l ∧ ∀ g, v1.ownBlock = some g → w3.heap.size ≤ g) := Lib.hid ⟨hs1, fun g hg => by rcases ho1 g hg with e | e; (have e2 : g1 = g := by simpa [Value.ownBlock] using e); rw [← e2]; exact N1.out.2.1; exact Nat.le_trans B.out.size e⟩
            have M8 := Lib.hid (And.intro (M8.out.1.keeps hk1 (fun g hg e => DD.out (by have e1 : g8 = g := (by simpa [Value.ownBlock] using hg); have e2 : g1 = g := (by simpa [Value.ownBlock] using e); rw [e1, e2]))) (And.intro M8.out.2.1 (Nat.lt_of_lt_of_le M8.out.2.2 hk1.size)))
            have B := Lib.hid (below_keeps B.out hk1 (fun i e => by have e2 : g1 = i := (by simpa [Value.ownBlock] using e); rw [← e2]; exact N1.out.2.1) B.out.size)
            clear hrun1 hs1 hk1 ho1
            obtain ⟨wz, rfl⟩ : ∃ q, q = wy := ⟨_, rfl⟩
            refine hK.out _ _ ?_ (fun hHeld => ?_)
            · exact KS.out _ B.out
            clear hK K
            try simp only [Act.put, List.setIfInBounds_toArray, List.set_cons_zero, List.set_cons_succ]
            refine wpAnyH_ready (rs := [9]) (by kernel_rfl) (by simp) ?_
            refine AllReadyH.cons (o := { dst := some 40, op := Op.call { callee := Callee.builtin Builtin.append, args := #[Operand.tmp 37, Operand.tmp 39], argTypes := #[45, 45] }, type := 45, pos := "meter.go:199", after := #[{ on := 6, ground := Ground.data }, { on := 8, ground := Ground.data }, { on := 6, ground := Ground.chain }], guard := none }) rfl (fun K hK => ?_) AllReadyH.nil
            obtain ⟨v2, wy, hrun2, hs2, hk2, ho2⟩ := append_hev A1.out.1 M8.out.1 (by have := HL.out; simp only [List.length_cons, List.length_nil]; omega) 45
            obtain ⟨a2, c2, rfl⟩ := hs2.shape
            rw [show (l ++ [x]).length = l.length + 1 from by simp] at hrun2 hs2
            refine step_append_run rfl (.tmp 37) (.tmp 39) 45 rfl _ _ rfl rfl _ _ hrun2 ?_
            have A2 : Hid (SlAt evKind 50 wy (.slice a2 (l.length + 1) c2) (l ++ [x])) := Lib.hid hs2
            have B := Lib.hid (below_keeps B.out hk2 (fun i e => A1.out.2 i e) B.out.size)
            clear hrun2 hs2 hk2 ho2
            obtain ⟨wz, rfl⟩ : ∃ q, q = wy := ⟨_, rfl⟩
            refine hK.out _ _ ?_ (fun hHeld => ?_)
            · exact KS.out _ B.out
            clear hK K
            try simp only [Act.put, List.setIfInBounds_toArray, List.set_cons_zero, List.set_cons_succ]
            refine wpAnyH_take (i := 10) (oi := { dst := some 41, op := Op.nilCheck (Operand.tmp 31), type := 0, pos := "meter.go:199", after := #[{ on := 0, ground := Ground.data }, { on := 0, ground := Ground.phase }, { on := 1, ground := Ground.phase }, { on := 2, ground := Ground.phase }, { on := 3, ground := Ground.phase }, { on := 4, ground := Ground.phase }, { on := 5, ground := Ground.phase }, { on := 6, ground := Ground.phase }, { on := 7, ground := Ground.phase }, { on := 8, ground := Ground.phase }, { on := 9, ground := Ground.phase }], guard := none }) (v := ?vv8) rfl (by kernel_rfl) (by kernel_rfl) (by kernel_rfl) (fun _ _ _ h => h) (Or.inl ⟨by rfl, ?hy8⟩) (by assumption) ?rs8
            case hy8 => (intro w hSw; (try dsimp only at hSw); go_simp) <;> with_reducible rfl
            try simp only [Act.put, List.setIfInBounds_toArray, List.set_cons_zero, List.set_cons_succ]
            refine wpAnyH_take (i := 11) (oi := { dst := some 42, op := Op.fieldAddr 47 (Operand.tmp 41) 0, type := 0, pos := "meter.go:199", after := #[{ on := 10, ground := Ground.data }, { on := 0, ground := Ground.phase }, { on := 1, ground := Ground.phase }, { on := 2, ground := Ground.phase }, { on := 3, ground := Ground.phase }, { on := 4, ground := Ground.phase }, { on := 5, ground := Ground.phase }, { on := 6, ground := Ground.phase }, { on := 7, ground := Ground.phase }, { on := 8, ground := Ground.phase }, { on := 9, ground := Ground.phase }], guard := none }) (v := ?vv9) rfl (by kernel_rfl) (by kernel_rfl) (by kernel_rfl) (fun _ _ _ h => h) (Or.inl ⟨by rfl, ?hy9⟩) (by assumption) ?rs9
            case hy9 => (intro w hSw; (try dsimp only at hSw); go_simp) <;> with_reducible rfl
            try simp only [Act.put, List.setIfInBounds_toArray, List.set_cons_zero, List.set_cons_succ]
            refine wpAnyH_ready (rs := [12]) (by kernel_rfl) (by simp) ?_
            refine AllReadyH.cons (o := { dst := none, op := Op.store 45 (Operand.tmp 42) (Operand.tmp 40), type := 0, pos := "meter.go:199", after := #[{ on := 11, ground := Ground.data }, { on := 9, ground := Ground.data }, { on := 9, ground := Ground.chain }, { on := 0, ground := Ground.phase }, { on := 1, ground := Ground.phase }, { on := 2, ground := Ground.phase }, { on := 3, ground := Ground.phase }, { on := 4, ground := Ground.phase }, { on := 5, ground := Ground.phase }, { on := 6, ground := Ground.phase }, { on := 7, ground := Ground.phase }, { on := 8, ground := Ground.phase }, { on := 9, ground := Ground.phase }], guard := none }) rfl (fun K hK => ?_) AllReadyH.nil
            have DB := Lib.hid (HD3.out.below B.out).blk
            have c0 : wz.cell? ⟨hb, 0, none⟩ = some (.slice a l.length cap) := blk_cell DB.out 0
            have z0 : wz.frozen? ⟨hb, 0, none⟩ = false := blk_free DB.out 0
            go_simp
            refine hK.out _ _ ?_ (fun hHeld => ?_)
            · exact ⟨(cell_far hbx2 _ _).trans (KS.out _ B.out).1, (cell_far hbx2 _ _).trans (KS.out _ B.out).2.1, (cell_far hbx2 _ _).trans (KS.out _ B.out).2.2.1, (cell_far hbx2 _ _).trans (KS.out _ B.out).2.2.2.1, (cell_far hbx2 _ _).trans (KS.out _ B.out).2.2.2.2⟩
            clear hK K
            try simp only [Act.put, List.setIfInBounds_toArray, List.set_cons_zero, List.set_cons_succ]
            refine wpAnyH_done (by kernel_rfl) ?_ _
            simp only [NoPanic]
            have HFB : Hid (IsBlk (wz.setCell ⟨hb, 0, none⟩ (.slice a2 (l.length + 1) c2)) hb #[.slice a2 (l.length + 1) c2] 47) := Lib.hid (blk_set DB.out 0 (.slice a2 (l.length + 1) c2))
            have HFS : Hid (SlAt evKind 50 (wz.setCell ⟨hb, 0, none⟩ (.slice a2 (l.length + 1) c2)) (.slice a2 (l.length + 1) c2) (l ++ [x])) := Lib.hid (A2.out.keeps (keeps_set wz hb 0 _) (fun g hg e => by obtain ⟨cur, hcur⟩ := A2.out.own g hg; exact ne_of_type hcur DB.out (by decide) e))
            have HFK : Hid (Keeps (Only hb) w (wz.setCell ⟨hb, 0, none⟩ (.slice a2 (l.length + 1) c2))) := Lib.hid ((HK3.out _ B.out).trans' (keeps_set wz hb 0 _))
            go_wp2_with fail
            go_ret2
            rw [HRS.out.1, HRS.out.2]
            exact ⟨rfl, ⟨_, HFB.out, HFS.out⟩, HFK.out⟩
          refine AllReadyH.cons (o := { dst := some 39, op := Op.buildSlice 45 1 #[(0, Operand.tmp 38)], type := 45, pos := "meter.go:199", after := #[{ on := 7, ground := Ground.data }], guard := none }) rfl (fun K hK => ?_) AllReadyH.nil
          go_simp
          obtain ⟨g8, hg8⟩ : ∃ q, q = wz.heap.size := ⟨_, rfl⟩
          obtain ⟨wz, hwz⟩ : ∃ q, q = wz.alloc (.cells #[.string x.key, .string x.acct, .string x.mtr, .int .i64 x.qty, .int .i64 x.at_] 50) := ⟨_, rfl⟩
          rw [← hwz, ← hg8]
          have BZ := Lib.hid (alloc_step hwz)
          have M8 : Hid (RdAt evKind wz (.slice (some ⟨g8, 0, none⟩) 1 1) [x] ∧ w3.heap.size ≤ g8 ∧ g8 < wz.heap.size) := Lib.hid (by rw [hwz, hg8]; exact ⟨one_hev _ x, B.out.size, by simp⟩)
          have DD : Hid (g8 ≠ g1) := Lib.hid (by have := N1.out.2.2; rw [hg8]; omega)
          have N1 := Lib.hid (And.intro (N1.out.1.below BZ.out) (And.intro N1.out.2.1 (Nat.lt_of_lt_of_le N1.out.2.2 BZ.out.size)))
          have B := Lib.hid (B.out.trans (BZ.out.mono B.out.size))
          clear hwz hg8
          refine hK.out _ _ ?_ (fun hHeld => ?_)
          · exact KS.out _ B.out
          clear hK K
          try simp only [Act.put, List.setIfInBounds_toArray, List.set_cons_zero, List.set_cons_succ]
          refine wpAnyH_ready (rs := [5]) (by kernel_rfl) (by simp) ?_
          refine AllReadyH.cons (o := { dst := some 36, op := Op.load 45 (Operand.tmp 35), type := 45, pos := "meter.go:199", after := #[{ on := 4, ground := Ground.data }], guard := none }) rfl (fun K hK => ?_) AllReadyH.nil
          have c0 : wz.cell? ⟨hb, 0, none⟩ = some (.slice a l.length cap) := blk_cell (HD3.out.below B.out).blk 0
          go_simp
          clear c0
          refine hK.out _ _ ?_ (fun hHeld => ?_)
          · exact KS.out _ B.out
          clear hK K
          try simp only [Act.put, List.setIfInBounds_toArray, List.set_cons_zero, List.set_cons_succ]
          refine wpAnyH_ready (rs := [6]) (by kernel_rfl) (by simp) ?_
          refine AllReadyH.cons (o := { dst := some 37, op := Op.call { callee := Callee.builtin Builtin.append, args := #[Operand.tmp 32, Operand.tmp 36], argTypes := #[45, 45] }, type := 45, pos := "meter.go:199", after := #[{ on := 1, ground := Ground.data }, { on := 5, ground := Ground.data }], guard := none }) rfl (fun K hK => ?_) AllReadyH.nil
          obtain ⟨v1, wy, hrun1, hs1, hk1, ho1⟩ := append_hev N1.out.1 (HLR.out wz B.out) (by have := HL.out; simp only [List.length_nil]; omega) 45
          refine step_append_run rfl (.tmp 32) (.tmp 36) 45 rfl _ _ rfl rfl _ _ hrun1 ?_
          have A1 : Hid (SlAt evKind 50 wy v1 l ∧ ∀ g, v1.ownBlock = some g → w3.heap.size ≤ g) := Lib.hid ⟨hs1, fun g hg => by rcases ho1 g hg with e | e; (have e2 : g1 = g := by simpa [Value.ownBlock] using e); rw [← e2]; exact N1.out.2.1; exact Nat.le_trans B.out.size e⟩
          have M8 := Lib.hid (And.intro (M8.out.1.keeps hk1 (fun g hg e => DD.out (by have e1 : g8 = g := (by simpa [Value.ownBlock] using hg); have e2 : g1 = g := (by simpa [Value.ownBlock] using e); rw [e1, e2]))) (And.intro M8.out.2.1 (Nat.lt_of_lt_of_le M8.out.2.2 hk1.size)))
          have B := Lib.hid (below_keeps B.out hk1 (fun i e => by have e2 : g1 = i := (by simpa [Value.ownBlock] using e); rw [← e2]; exact N1.out.2.1) B.out.size)
          clear hrun1 hs1 hk1 ho1
          obtain ⟨wz, rfl⟩ : ∃ q, q = wy := ⟨_, rfl⟩
          refine hK.out _ _ ?_ (fun hHeld => ?_)
          · exact KS.out _ B.out
          clear hK K
          try simp only [Act.put, List.setIfInBounds_toArray, List.set_cons_zero, List.set_cons_succ]
          refine wpAnyH_ready (rs := [9]) (by kernel_rfl) (by simp) ?_
          refine AllReadyH.cons (o := { dst := some 40, op := Op.call { callee := Callee.builtin Builtin.append, args := #[Operand.tmp 37, Operand.tmp 39], argTypes := #[45, 45] }, type := 45, pos := "meter.go:199", after := #[{ on := 6, ground := Ground.data }, { on := 8, ground := Ground.data }, { on := 6, ground := Ground.chain }], guard := none }) rfl (fun K hK => ?_) AllReadyH.nil
          obtain ⟨v2, wy, hrun2, hs2, hk2, ho2⟩ := append_hev A1.out.1 M8.out.1 (by have := HL.out; simp only [List.length_cons, List.length_nil]; omega) 45
          obtain ⟨a2, c2, rfl⟩ := hs2.shape
          rw [show (l ++ [x]).length = l.length + 1 from by simp] at hrun2 hs2
          refine step_append_run rfl (.tmp 37) (.tmp 39) 45 rfl _ _ rfl rfl _ _ hrun2 ?_
          have A2 : Hid (SlAt evKind 50 wy (.slice a2 (l.length + 1) c2) (l ++ [x])) := Lib.hid hs2
          have B := Lib.hid (below_keeps B.out hk2 (fun i e => A1.out.2 i e) B.out.size)
          clear hrun2 hs2 hk2 ho2
          obtain ⟨wz, rfl⟩ : ∃ q, q = wy := ⟨_, rfl⟩
          refine hK.out _ _ ?_ (fun hHeld => ?_)
          · exact KS.out _ B.out
          clear hK K
          try simp only [Act.put, List.setIfInBounds_toArray, List.set_cons_zero, List.set_cons_succ]
          refine wpAnyH_take (i := 10) (oi := { dst := some 41, op := Op.nilCheck (Operand.tmp 31), type := 0, pos := "meter.go:199", after := #[{ on := 0, ground := Ground.data }, { on := 0, ground := Ground.phase }, { on := 1, ground := Ground.phase }, { on := 2, ground := Ground.phase }, { on := 3, ground := Ground.phase }, { on := 4, ground := Ground.phase }, { on := 5, ground := Ground.phase }, { on := 6, ground := Ground.phase }, { on := 7, ground := Ground.phase }, { on := 8, ground := Ground.phase }, { on := 9, ground := Ground.phase }], guard := none }) (v := ?vv10) rfl (by kernel_rfl) (by kernel_rfl) (by kernel_rfl) (fun _ _ _ h => h) (Or.inl ⟨by rfl, ?hy10⟩) (by assumption) ?rs10
          case hy10 => (intro w hSw; (try dsimp only at hSw); go_simp) <;> with_reducible rfl
          try simp only [Act.put, List.setIfInBounds_toArray, List.set_cons_zero, List.set_cons_succ]
          refine wpAnyH_take (i := 11) (oi := { dst := some 42, op := Op.fieldAddr 47 (Operand.tmp 41) 0, type := 0, pos := "meter.go:199", after := #[{ on := 10, ground := Ground.data }, { on := 0, ground := Ground.phase }, { on := 1, ground := Ground.phase }, { on := 2, ground := Ground.phase }, { on := 3, ground := Ground.phase }, { on := 4, ground := Ground.phase }, { on := 5, ground := Ground.phase }, { on := 6, ground := Ground.phase }, { on := 7, ground := Ground.phase }, { on := 8, ground := Ground.phase }, { on := 9, ground := Ground.phase }], guard := none }) (v := ?vv11) rfl (by kernel_rfl) (by kernel_rfl) (by kernel_rfl) (fun _ _ _ h => h) (Or.inl ⟨by rfl, ?hy11⟩) (by assumption) ?rs11
          case hy11 => (intro w hSw; (try dsimp only at hSw); go_simp) <;> with_reducible rfl
          try simp only [Act.put, List.setIfInBounds_toArray, List.set_cons_zero, List.set_cons_succ]
          refine wpAnyH_ready (rs := [12]) (by kernel_rfl) (by simp) ?_
          refine AllReadyH.cons (o := { dst := none, op := Op.store 45 (Operand.tmp 42) (Operand.tmp 40), type := 0, pos := "meter.go:199", after := #[{ on := 11, ground := Ground.data }, { on := 9, ground := Ground.data }, { on := 9, ground := Ground.chain }, { on := 0, ground := Ground.phase }, { on := 1, ground := Ground.phase }, { on := 2, ground := Ground.phase }, { on := 3, ground := Ground.phase }, { on := 4, ground := Ground.phase }, { on := 5, ground := Ground.phase }, { on := 6, ground := Ground.phase }, { on := 7, ground := Ground.phase }, { on := 8, ground := Ground.phase }, { on := 9, ground := Ground.phase }], guard := none }) rfl (fun K hK => ?_) AllReadyH.nil
          have DB := Lib.hid (HD3.out.below B.out).blk
          have c0 : wz.cell? ⟨hb, 0, none⟩ = some (.slice a l.length cap) := blk_cell DB.out 0
          have z0 : wz.frozen? ⟨hb, 0, none⟩ = false := blk_free DB.out 0
          go_simp
          refine hK.out _ _ ?_ (fun hHeld => ?_)
          · exact ⟨(cell_far hbx2 _ _).trans (KS.out _ B.out).1, (cell_far hbx2 _ _).trans (KS.out _ B.out).2.1, (cell_far hbx2 _ _).trans (KS.out _ B.out).2.2.1, (cell_far hbx2 _ _).trans (KS.out _ B.out).2.2.2.1, (cell_far hbx2 _ _).trans (KS.out _ B.out).2.2.2.2⟩
          clear hK K
          try simp only [Act.put, List.setIfInBounds_toArray, List.set_cons_zero, List.set_cons_succ]
          refine wpAnyH_done (by kernel_rfl) ?_ _
          simp only [NoPanic]
          have HFB : Hid (IsBlk (wz.setCell ⟨hb, 0, none⟩ (.slice a2 (l.length + 1) c2)) hb #[.slice a2 (l.length + 1) c2] 47) := Lib.hid (blk_set DB.out 0 (.slice a2 (l.length + 1) c2))
          have HFS : Hid (SlAt evKind 50 (wz.setCell ⟨hb, 0, none⟩ (.slice a2 (l.length + 1) c2)) (.slice a2 (l.length + 1) c2) (l ++ [x])) := Lib.hid (A2.out.keeps (keeps_set wz hb 0 _) (fun g hg e => by obtain ⟨cur, hcur⟩ := A2.out.own g hg; exact ne_of_type hcur DB.out (by decide) e))
          have HFK : Hid (Keeps (Only hb) w (wz.setCell ⟨hb, 0, none⟩ (.slice a2 (l.length + 1) c2))) := Lib.hid ((HK3.out _ B.out).trans' (keeps_set wz hb 0 _))
          go_wp2_with fail
          go_ret2
          rw [HRS.out.1, HRS.out.2]
          exact ⟨rfl, ⟨_, HFB.out, HFS.out⟩, HFK.out⟩
        refine AllReadyH.cons (o := { dst := some 36, op := Op.load 45 (Operand.tmp 35), type := 45, pos := "meter.go:199", after := #[{ on := 4, ground := Ground.data }], guard := none }) rfl (fun K hK => ?_) ?_
        · have c0 : wz.cell? ⟨hb, 0, none⟩ = some (.slice a l.length cap) := blk_cell (HD3.out.below B.out).blk 0
          go_simp
          clear c0
          refine hK.out _ _ ?_ (fun hHeld => ?_)
          · exact KS.out _ B.out
          clear hK K
          try simp only [Act.put, List.setIfInBounds_toArray, List.set_cons_zero, List.set_cons_succ]
          refine wpAnyH_ready (rs := [1, 8]) (by kernel_rfl) (by simp) ?_
          refine AllReadyH.cons (o := { dst := some 32, op := Op.buildSlice 45 0 #[], type := 45, pos := "meter.go:199", after := #[], guard := none }) rfl (fun K hK => ?_) ?_
          · go_simp
            obtain ⟨g1, hg1⟩ : ∃ q, q = wz.heap.size := ⟨_, rfl⟩
            obtain ⟨wz, hwz⟩ : ∃ q, q = wz.alloc (.cells #[] 50) := ⟨_, rfl⟩
            rw [← hwz, ← hg1]
            have BZ := Lib.hid (alloc_step hwz)
            have N1 : Hid (SlAt evKind 50 wz (.slice (some ⟨g1, 0, none⟩) 0 0) [] ∧ w3.heap.size ≤ g1 ∧ g1 < wz.heap.size) := Lib.hid (by rw [hwz, hg1]; exact ⟨none_hev _, B.out.size, by simp⟩)
            have B := Lib.hid (B.out.trans (BZ.out.mono B.out.size))
            clear hwz hg1
            refine hK.out _ _ ?_ (fun hHeld => ?_)
            · exact KS.out _ B.out
            clear hK K
            try simp only [Act.put, List.setIfInBounds_toArray, List.set_cons_zero, List.set_cons_succ]
            refine wpAnyH_ready (rs := [6, 8]) (by kernel_rfl) (by simp) ?_
            refine AllReadyH.cons (o := { dst := some 37, op := Op.call { callee := Callee.builtin Builtin.append, args := #[Operand.tmp 32, Operand.tmp 36], argTypes := #[45, 45] }, type := 45, pos := "meter.go:199", after := #[{ on := 1, ground := Ground.data }, { on := 5, ground := Ground.data }], guard := none }) rfl (fun K hK => ?_) ?_
            · obtain ⟨v1, wy, hrun1, hs1, hk1, ho1⟩ := append_hev N1.out.1 (HLR.out wz B.out) (by have := HL.out; simp only [List.length_nil]; omega) 45
              refine step_append_run rfl (.tmp 32) (.tmp 36) 45 rfl _ _ rfl rfl _ _ hrun1 ?_
              have A1 : Hid (SlAt evKind 50 wy v1 l ∧ ∀ g, v1.ownBlock = some g → w3.heap.size ≤ g) := Lib.hid ⟨hs1, fun g hg => by rcases ho1 g hg with e | e; (have e2 : g1 = g := by simpa [Value.ownBlock] using e); rw [← e2]; exact N1.out.2.1; exact Nat.le_trans B.out.size e⟩
              have B := Lib.hid (below_keeps B.out hk1 (fun i e => by have e2 : g1 = i := (by simpa [Value.ownBlock] using e); rw [← e2]; exact N1.out.2.1) B.out.size)
              clear hrun1 hs1 hk1 ho1
              obtain ⟨wz, rfl⟩ : ∃ q, q = wy := ⟨_, rfl⟩
              refine hK.out _ _ ?_ (fun hHeld => ?_)
              · exact KS.out _ B.out
              clear hK K
              try simp only [Act.put, List.setIfInBounds_toArray, List.set_cons_zero, List.set_cons_succ]
              refine wpAnyH_ready (rs := [8]) (by kernel_rfl) (by simp) ?_
              refine AllReadyH.cons (o := { dst := some 39, op := Op.buildSlice 45 1 #[(0, Operand.tmp 38)], type := 45, pos := "meter.go:199", after := #[{ on := 7, ground := Ground.data }], guard := none }) rfl (fun K hK => ?_) AllReadyH.nil
              go_simp
              obtain ⟨g8, hg8⟩ : ∃ q, q = wz.heap.size := ⟨_, rfl⟩
              obtain ⟨wz, hwz⟩ : ∃ q, q = wz.alloc (.cells #[.string x.key, .string x.acct, .string x.mtr, .int .i64 x.qty, .int .i64 x.at_] 50) := ⟨_, rfl⟩
              rw [← hwz, ← hg8]
              have BZ := Lib.hid (alloc_step hwz)
              have M8 : Hid (RdAt evKind wz (.slice (some ⟨g8, 0, none⟩) 1 1) [x] ∧ w3.heap.size ≤ g8 ∧ g8 < wz.heap.size) := Lib.hid (by rw [hwz, hg8]; exact ⟨one_hev _ x, B.out.size, by simp⟩)
              have A1 := Lib.hid (And.intro (A1.out.1.below BZ.out) A1.out.2)
              have B := Lib.hid (B.out.trans (BZ.out.mono B.out.size))
              clear hwz hg8
              refine hK.out _ _ ?_ (fun hHeld => ?_)
              · exact KS.out _ B.out
              clear hK K
              try simp only [Act.put, List.setIfInBounds_toArray, List.set_cons_zero, List.set_cons_succ]
              refine wpAnyH_ready (rs := [9]) (by kernel_rfl) (by simp) ?_
              refine AllReadyH.cons (o := { dst := some 40, op := Op.call { callee := Callee.builtin Builtin.append, args := #[Operand.tmp 37, Operand.tmp 39], argTypes := #[45, 45] }, type := 45, pos := "meter.go:199", after := #[{ on := 6, ground := Ground.data }, { on := 8, ground := Ground.data }, { on := 6, ground := Ground.chain }], guard := none }) rfl (fun K hK => ?_) AllReadyH.nil
              obtain ⟨v2, wy, hrun2, hs2, hk2, ho2⟩ := append_hev A1.out.1 M8.out.1 (by have := HL.out; simp only [List.length_cons, List.length_nil]; omega) 45
              obtain ⟨a2, c2, rfl⟩ := hs2.shape
              rw [show (l ++ [x]).length = l.length + 1 from by simp] at hrun2 hs2
              refine step_append_run rfl (.tmp 37) (.tmp 39) 45 rfl _ _ rfl rfl _ _ hrun2 ?_
              have A2 : Hid (SlAt evKind 50 wy (.slice a2 (l.length + 1) c2) (l ++ [x])) := Lib.hid hs2
              have B := Lib.hid (below_keeps B.out hk2 (fun i e => A1.out.2 i e) B.out.size)
              clear hrun2 hs2 hk2 ho2
              obtain ⟨wz, rfl⟩ : ∃ q, q = wy := ⟨_, rfl⟩
              refine hK.out _ _ ?_ (fun hHeld => ?_)
              · exact KS.out _ B.out
              clear hK K
              try simp only [Act.put, List.setIfInBounds_toArray, List.set_cons_zero, List.set_cons_succ]
              refine wpAnyH_take (i := 10) (oi := { dst := some 41, op := Op.nilCheck (Operand.tmp 31), type := 0, pos := "meter.go:199", after := #[{ on := 0, ground := Ground.data }, { on := 0, ground := Ground.phase }, { on := 1, ground := Ground.phase }, { on := 2, ground := Ground.phase }, { on := 3, ground := Ground.phase }, { on := 4, ground := Ground.phase }, { on := 5, ground := Ground.phase }, { on := 6, ground := Ground.phase }, { on := 7, ground := Ground.phase }, { on := 8, ground := Ground.phase }, { on := 9, ground := Ground.phase }], guard := none }) (v := ?vv12) rfl (by kernel_rfl) (by kernel_rfl) (by kernel_rfl) (fun _ _ _ h => h) (Or.inl ⟨by rfl, ?hy12⟩) (by assumption) ?rs12
              case hy12 => (intro w hSw; (try dsimp only at hSw); go_simp) <;> with_reducible rfl
              try simp only [Act.put, List.setIfInBounds_toArray, List.set_cons_zero, List.set_cons_succ]
              refine wpAnyH_take (i := 11) (oi := { dst := some 42, op := Op.fieldAddr 47 (Operand.tmp 41) 0, type := 0, pos := "meter.go:199", after := #[{ on := 10, ground := Ground.data }, { on := 0, ground := Ground.phase }, { on := 1, ground := Ground.phase }, { on := 2, ground := Ground.phase }, { on := 3, ground := Ground.phase }, { on := 4, ground := Ground.phase }, { on := 5, ground := Ground.phase }, { on := 6, ground := Ground.phase }, { on := 7, ground := Ground.phase }, { on := 8, ground := Ground.phase }, { on := 9, ground := Ground.phase }], guard := none }) (v := ?vv13) rfl (by kernel_rfl) (by kernel_rfl) (by kernel_rfl) (fun _ _ _ h => h) (Or.inl ⟨by rfl, ?hy13⟩) (by assumption) ?rs13
              case hy13 => (intro w hSw; (try dsimp only at hSw); go_simp) <;> with_reducible rfl
              try simp only [Act.put, List.setIfInBounds_toArray, List.set_cons_zero, List.set_cons_succ]
              refine wpAnyH_ready (rs := [12]) (by kernel_rfl) (by simp) ?_
              refine AllReadyH.cons (o := { dst := none, op := Op.store 45 (Operand.tmp 42) (Operand.tmp 40), type := 0, pos := "meter.go:199", after := #[{ on := 11, ground := Ground.data }, { on := 9, ground := Ground.data }, { on := 9, ground := Ground.chain }, { on := 0, ground := Ground.phase }, { on := 1, ground := Ground.phase }, { on := 2, ground := Ground.phase }, { on := 3, ground := Ground.phase }, { on := 4, ground := Ground.phase }, { on := 5, ground := Ground.phase }, { on := 6, ground := Ground.phase }, { on := 7, ground := Ground.phase }, { on := 8, ground := Ground.phase }, { on := 9, ground := Ground.phase }], guard := none }) rfl (fun K hK => ?_) AllReadyH.nil
              have DB := Lib.hid (HD3.out.below B.out).blk
              have c0 : wz.cell? ⟨hb, 0, none⟩ = some (.slice a l.length cap) := blk_cell DB.out 0
              have z0 : wz.frozen? ⟨hb, 0, none⟩ = false := blk_free DB.out 0
              go_simp
              refine hK.out _ _ ?_ (fun hHeld => ?_)
              · exact ⟨(cell_far hbx2 _ _).trans (KS.out _ B.out).1, (cell_far hbx2 _ _).trans (KS.out _ B.out).2.1, (cell_far hbx2 _ _).trans (KS.out _ B.out).2.2.1, (cell_far hbx2 _ _).trans (KS.out _ B.out).2.2.2.1, (cell_far hbx2 _ _).trans (KS.out _ B.out).2.2.2.2⟩
              clear hK K
              try simp only [Act.put, List.setIfInBounds_toArray, List.set_cons_zero, List.set_cons_succ]
              refine wpAnyH_done (by kernel_rfl) ?_ _
              simp only [NoPanic]
              have HFB : Hid (IsBlk (wz.setCell ⟨hb, 0, none⟩ (.slice a2 (l.length + 1) c2)) hb #[.slice a2 (l.length + 1) c2] 47) := Lib.hid (blk_set DB.out 0 (.slice a2 (l.length + 1) c2))
              have HFS : Hid (SlAt evKind 50 (wz.setCell ⟨hb, 0, none⟩ (.slice a2 (l.length + 1) c2)) (.slice a2 (l.length + 1) c2) (l ++ [x])) := Lib.hid (A2.out.keeps (keeps_set wz hb 0 _) (fun g hg e => by obtain ⟨cur, hcur⟩ := A2.out.own g hg; exact ne_of_type hcur DB.out (by decide) e))
              have HFK : Hid (Keeps (Only hb) w (wz.setCell ⟨hb, 0, none⟩ (.slice a2 (l.length + 1) c2))) := Lib.hid ((HK3.out _ B.out).trans' (keeps_set wz hb 0 _))
              go_wp2_with fail
              go_ret2
              rw [HRS.out.1, HRS.out.2]
              exact ⟨rfl, ⟨_, HFB.out, HFS.out⟩, HFK.out⟩
            refine AllReadyH.cons (o := { dst := some 39, op := Op.buildSlice 45 1 #[(0, Operand.tmp 38)], type := 45, pos := "meter.go:199", after := #[{ on := 7, ground := Ground.data }], guard := none }) rfl (fun K hK => ?_) AllReadyH.nil
            go_simp
            obtain ⟨g8, hg8⟩ : ∃ q, q = wz.heap.size := ⟨_, rfl⟩
            obtain ⟨wz, hwz⟩ : ∃ q, q = wz.alloc (.cells #[.string x.key, .string x.acct, .string x.mtr, .int .i64 x.qty, .int .i64 x.at_] 50) := ⟨_, rfl⟩
            rw [← hwz, ← hg8]
            have BZ := Lib.hid (alloc_step hwz)
            have M8 : Hid (RdAt evKind wz (.slice (some ⟨g8, 0, none⟩) 1 1) [x] ∧ w3.heap.size ≤ g8 ∧ g8 < wz.heap.size) := Lib.hid (by rw [hwz, hg8]; exact ⟨one_hev _ x, B.out.size, by simp⟩)
            have DD : Hid (g8 ≠ g1) := Lib.hid (by have := N1.out.2.2; rw [hg8]; omega)
            have N1 := Lib.hid (And.intro (N1.out.1.below BZ.out) (And.intro N1.out.2.1 (Nat.lt_of_lt_of_le N1.out.2.2 BZ.out.size)))
            have B := Lib.hid (B.out.trans (BZ.out.mono B.out.size))
            clear hwz hg8
            refine hK.out _ _ ?_ (fun hHeld => ?_)
            · exact KS.out _ B.out
            clear hK K
            try simp only [Act.put, List.setIfInBounds_toArray, List.set_cons_zero, List.set_cons_succ]
            refine wpAnyH_ready (rs := [6]) (by kernel_rfl) (by simp) ?_
            refine AllReadyH.cons (o := { dst := some 37, op := Op.call { callee := Callee.builtin Builtin.append, args := #[Operand.tmp 32, Operand.tmp 36], argTypes := #[45, 45] }, type := 45, pos := "meter.go:199", after := #[{ on := 1, ground := Ground.data }, { on := 5, ground := Ground.data }], guard := none }) rfl (fun K hK => ?_) AllReadyH.nil
            obtain ⟨v1, wy, hrun1, hs1, hk1, ho1⟩ := append_hev N1.out.1 (HLR.out wz B.out) (by have := HL.out; simp only [List.length_nil]; omega) 45
            refine step_append_run rfl (.tmp 32) (.tmp 36) 45 rfl _ _ rfl rfl _ _ hrun1 ?_
            have A1 : Hid (SlAt evKind 50 wy v1 l ∧ ∀ g, v1.ownBlock = some g → w3.heap.size ≤ g) := Lib.hid ⟨hs1, fun g hg => by rcases ho1 g hg with e | e; (have e2 : g1 = g := by simpa [Value.ownBlock] using e); rw [← e2]; exact N1.out.2.1; exact Nat.le_trans B.out.size e⟩
            have M8 := Lib.hid (And.intro (M8.out.1.keeps hk1 (fun g hg e => DD.out (by have e1 : g8 = g := (by simpa [Value.ownBlock] using hg); have e2 : g1 = g := (by simpa [Value.ownBlock] using e); rw [e1, e2]))) (And.intro M8.out.2.1 (Nat.lt_of_lt_of_le M8.out.2.2 hk1.size)))
            have B := Lib.hid (below_keeps B.out hk1 (fun i e => by have e2 : g1 = i := (by simpa [Value.ownBlock] using e); rw [← e2]; exact N1.out.2.1) B.out.size)
            clear hrun1 hs1 hk1 ho1
            obtain ⟨wz, rfl⟩ : ∃ q, q = wy := ⟨_, rfl⟩
            refine hK.out _ _ ?_ (fun hHeld => ?_)
            · exact KS.out _ B.out
            clear hK K
            try simp only [Act.put, List.setIfInBounds_toArray, List.set_cons_zero, List.set_cons_succ]
            refine wpAnyH_ready (rs := [9]) (by kernel_rfl) (by simp) ?_
            refine AllReadyH.cons (o := { dst := some 40, op := Op.call { callee := Callee.builtin Builtin.append, args := #[Operand.tmp 37, Operand.tmp 39], argTypes := #[45, 45] }, type := 45, pos := "meter.go:199", after := #[{ on := 6, ground := Ground.data }, { on := 8, ground := Ground.data }, { on := 6, ground := Ground.chain }], guard := none }) rfl (fun K hK => ?_) AllReadyH.nil
            obtain ⟨v2, wy, hrun2, hs2, hk2, ho2⟩ := append_hev A1.out.1 M8.out.1 (by have := HL.out; simp only [List.length_cons, List.length_nil]; omega) 45
            obtain ⟨a2, c2, rfl⟩ := hs2.shape
            rw [show (l ++ [x]).length = l.length + 1 from by simp] at hrun2 hs2
            refine step_append_run rfl (.tmp 37) (.tmp 39) 45 rfl _ _ rfl rfl _ _ hrun2 ?_
            have A2 : Hid (SlAt evKind 50 wy (.slice a2 (l.length + 1) c2) (l ++ [x])) := Lib.hid hs2
            have B := Lib.hid (below_keeps B.out hk2 (fun i e => A1.out.2 i e) B.out.size)
            clear hrun2 hs2 hk2 ho2
            obtain ⟨wz, rfl⟩ : ∃ q, q = wy := ⟨_, rfl⟩
            refine hK.out _ _ ?_ (fun hHeld => ?_)
            · exact KS.out _ B.out
            clear hK K
            try simp only [Act.put, List.setIfInBounds_toArray, List.set_cons_zero, List.set_cons_succ]
            refine wpAnyH_take (i := 10) (oi := { dst := some 41, op := Op.nilCheck (Operand.tmp 31), type := 0, pos := "meter.go:199", after := #[{ on := 0, ground := Ground.data }, { on := 0, ground := Ground.phase }, { on := 1, ground := Ground.phase }, { on := 2, ground := Ground.phase }, { on := 3, ground := Ground.phase }, { on := 4, ground := Ground.phase }, { on := 5, ground := Ground.phase }, { on := 6, ground := Ground.phase }, { on := 7, ground := Ground.phase }, { on := 8, ground := Ground.phase }, { on := 9, ground := Ground.phase }], guard := none }) (v := ?vv14) rfl (by kernel_rfl) (by kernel_rfl) (by kernel_rfl) (fun _ _ _ h => h) (Or.inl ⟨by rfl, ?hy14⟩) (by assumption) ?rs14
            case hy14 => (intro w hSw; (try dsimp only at hSw); go_simp) <;> with_reducible rfl
            try simp only [Act.put, List.setIfInBounds_toArray, List.set_cons_zero, List.set_cons_succ]
            refine wpAnyH_take (i := 11) (oi := { dst := some 42, op := Op.fieldAddr 47 (Operand.tmp 41) 0, type := 0, pos := "meter.go:199", after := #[{ on := 10, ground := Ground.data }, { on := 0, ground := Ground.phase }, { on := 1, ground := Ground.phase }, { on := 2, ground := Ground.phase }, { on := 3, ground := Ground.phase }, { on := 4, ground := Ground.phase }, { on := 5, ground := Ground.phase }, { on := 6, ground := Ground.phase }, { on := 7, ground := Ground.phase }, { on := 8, ground := Ground.phase }, { on := 9, ground := Ground.phase }], guard := none }) (v := ?vv15) rfl (by kernel_rfl) (by kernel_rfl) (by kernel_rfl) (fun _ _ _ h => h) (Or.inl ⟨by rfl, ?hy15⟩) (by assumption) ?rs15
            case hy15 => (intro w hSw; (try dsimp only at hSw); go_simp) <;> with_reducible rfl
            try simp only [Act.put, List.setIfInBounds_toArray, List.set_cons_zero, List.set_cons_succ]
            refine wpAnyH_ready (rs := [12]) (by kernel_rfl) (by simp) ?_
            refine AllReadyH.cons (o := { dst := none, op := Op.store 45 (Operand.tmp 42) (Operand.tmp 40), type := 0, pos := "meter.go:199", after := #[{ on := 11, ground := Ground.data }, { on := 9, ground := Ground.data }, { on := 9, ground := Ground.chain }, { on := 0, ground := Ground.phase }, { on := 1, ground := Ground.phase }, { on := 2, ground := Ground.phase }, { on := 3, ground := Ground.phase }, { on := 4, ground := Ground.phase }, { on := 5, ground := Ground.phase }, { on := 6, ground := Ground.phase }, { on := 7, ground := Ground.phase }, { on := 8, ground := Ground.phase }, { on := 9, ground := Ground.phase }], guard := none }) rfl (fun K hK => ?_) AllReadyH.nil
            have DB := Lib.hid (HD3.out.below B.out).blk
            have c0 : wz.cell? ⟨hb, 0, none⟩ = some (.slice a l.length cap) := blk_cell DB.out 0
            have z0 : wz.frozen? ⟨hb, 0, none⟩ = false := blk_free DB.out 0
            go_simp
            refine hK.out _ _ ?_ (fun hHeld => ?_)
            · exact ⟨(cell_far hbx2 _ _).trans (KS.out _ B.out).1, (cell_far hbx2 _ _).trans (KS.out _ B.out).2.1, (cell_far hbx2 _ _).trans (KS.out _ B.out).2.2.1, (cell_far hbx2 _ _).trans (KS.out _ B.out).2.2.2.1, (cell_far hbx2 _ _).trans (KS.out _ B.out).2.2.2.2⟩
            clear hK K
            try simp only [Act.put, List.setIfInBounds_toArray, List.set_cons_zero, List.set_cons_succ]
            refine wpAnyH_done (by kernel_rfl) ?_ _
            simp only [NoPanic]
            have HFB : Hid (IsBlk (wz.setCell ⟨hb, 0, none⟩ (.slice a2 (l.length + 1) c2)) hb #[.slice a2 (l.length + 1) c2] 47) := Lib.hid (blk_set DB.out 0 (.slice a2 (l.length + 1) c2))
            have HFS : Hid (SlAt evKind 50 (wz.setCell ⟨hb, 0, none⟩ (.slice a2 (l.length + 1) c2)) (.slice a2 (l.length + 1) c2) (l ++ [x])) := Lib.hid (A2.out.keeps (keeps_set wz hb 0 _) (fun g hg e => by obtain ⟨cur, hcur⟩ := A2.out.own g hg; exact ne_of_type hcur DB.out (by decide) e))
            have HFK : Hid (Keeps (Only hb) w (wz.setCell ⟨hb, 0, none⟩ (.slice a2 (l.length + 1) c2))) := Lib.hid ((HK3.out _ B.out).trans' (keeps_set wz hb 0 _))
            go_wp2_with fail
            go_ret2
            rw [HRS.out.1, HRS.out.2]
            exact ⟨rfl, ⟨_, HFB.out, HFS.out⟩, HFK.out⟩
          refine AllReadyH.cons (o := { dst := some 39, op := Op.buildSlice 45 1 #[(0, Operand.tmp 38)], type := 45, pos := "meter.go:199", after := #[{ on := 7, ground := Ground.data }], guard := none }) rfl (fun K hK => ?_) AllReadyH.nil
          go_simp
          obtain ⟨g8, hg8⟩ : ∃ q, q = wz.heap.size := ⟨_, rfl⟩
          obtain ⟨wz, hwz⟩ : ∃ q, q = wz.alloc (.cells #[.string x.key, .string x.acct, .string x.mtr, .int .i64 x.qty, .int .i64 x.at_] 50) := ⟨_, rfl⟩
          rw [← hwz, ← hg8]
          have BZ := Lib.hid (alloc_step hwz)
          have M8 : Hid (RdAt evKind wz (.slice (some ⟨g8, 0, none⟩) 1 1) [x] ∧ w3.heap.size ≤ g8 ∧ g8 < wz.heap.size) := Lib.hid (by rw [hwz, hg8]; exact ⟨one_hev _ x, B.out.size, by simp⟩)
          have B := Lib.hid (B.out.trans (BZ.out.mono B.out.size))
          clear hwz hg8
          refine hK.out _ _ ?_ (fun hHeld => ?_)
          · exact KS.out _ B.out
          clear hK K
          try simp only [Act.put, List.setIfInBounds_toArray, List.set_cons_zero, List.set_cons_succ]
          refine wpAnyH_ready (rs := [1]) (by kernel_rfl) (by simp) ?_
          refine AllReadyH.cons (o := { dst := some 32, op := Op.buildSlice 45 0 #[], type := 45, pos := "meter.go:199", after := #[], guard := none }) rfl (fun K hK => ?_) AllReadyH.nil
          go_simp
          obtain ⟨g1, hg1⟩ : ∃ q, q = wz.heap.size := ⟨_, rfl⟩
          obtain ⟨wz, hwz⟩ : ∃ q, q = wz.alloc (.cells #[] 50) := ⟨_, rfl⟩
          rw [← hwz, ← hg1]
          have BZ := Lib.hid (alloc_step hwz)
          have N1 : Hid (SlAt evKind 50 wz (.slice (some ⟨g1, 0, none⟩) 0 0) [] ∧ w3.heap.size ≤ g1 ∧ g1 < wz.heap.size) := Lib.hid (by rw [hwz, hg1]; exact ⟨none_hev _, B.out.size, by simp⟩)
          have DD : Hid (g8 ≠ g1) := Lib.hid (by have := M8.out.2.2; rw [hg1]; omega)
          have M8 := Lib.hid (And.intro (M8.out.1.below BZ.out) (And.intro M8.out.2.1 (Nat.lt_of_lt_of_le M8.out.2.2 BZ.out.size)))
          have B := Lib.hid (B.out.trans (BZ.out.mono B.out.size))
          clear hwz hg1
          refine hK.out _ _ ?_ (fun hHeld => ?_)
          · exact KS.out _ B.out
          clear hK K
          try simp only [Act.put, List.setIfInBounds_toArray, List.set_cons_zero, List.set_cons_succ]
          refine wpAnyH_ready (rs := [6]) (by kernel_rfl) (by simp) ?_
          refine AllReadyH.cons (o := { dst := some 37, op := Op.call { callee := Callee.builtin Builtin.append, args := #[Operand.tmp 32, Operand.tmp 36], argTypes := #[45, 45] }, type := 45, pos := "meter.go:199", after := #[{ on := 1, ground := Ground.data }, { on := 5, ground := Ground.data }], guard := none }) rfl (fun K hK => ?_) AllReadyH.nil
          obtain ⟨v1, wy, hrun1, hs1, hk1, ho1⟩ := append_hev N1.out.1 (HLR.out wz B.out) (by have := HL.out; simp only [List.length_nil]; omega) 45
          refine step_append_run rfl (.tmp 32) (.tmp 36) 45 rfl _ _ rfl rfl _ _ hrun1 ?_
          have A1 : Hid (SlAt evKind 50 wy v1 l ∧ ∀ g, v1.ownBlock = some g → w3.heap.size ≤ g) := Lib.hid ⟨hs1, fun g hg => by rcases ho1 g hg with e | e; (have e2 : g1 = g := by simpa [Value.ownBlock] using e); rw [← e2]; exact N1.out.2.1; exact Nat.le_trans B.out.size e⟩
          have M8 := Lib.hid (And.intro (M8.out.1.keeps hk1 (fun g hg e => DD.out (by have e1 : g8 = g := (by simpa [Value.ownBlock] using hg); have e2 : g1 = g := (by simpa [Value.ownBlock] using e); rw [e1, e2]))) (And.intro M8.out.2.1 (Nat.lt_of_lt_of_le M8.out.2.2 hk1.size)))
          have B := Lib.hid (below_keeps B.out hk1 (fun i e => by have e2 : g1 = i := (by simpa [Value.ownBlock] using e); rw [← e2]; exact N1.out.2.1) B.out.size)
          clear hrun1 hs1 hk1 ho1
          obtain ⟨wz, rfl⟩ : ∃ q, q = wy := ⟨_, rfl⟩
          refine hK.out _ _ ?_ (fun hHeld => ?_)
          · exact KS.out _ B.out
          clear hK K
          try simp only [Act.put, List.setIfInBounds_toArray, List.set_cons_zero, List.set_cons_succ]
          refine wpAnyH_ready (rs := [9]) (by kernel_rfl) (by simp) ?_
          refine AllReadyH.cons (o := { dst := some 40, op := Op.call { callee := Callee.builtin Builtin.append, args := #[Operand.tmp 37, Operand.tmp 39], argTypes := #[45, 45] }, type := 45, pos := "meter.go:199", after := #[{ on := 6, ground := Ground.data }, { on := 8, ground := Ground.data }, { on := 6, ground := Ground.chain }], guard := none }) rfl (fun K hK => ?_) AllReadyH.nil
          obtain ⟨v2, wy, hrun2, hs2, hk2, ho2⟩ := append_hev A1.out.1 M8.out.1 (by have := HL.out; simp only [List.length_cons, List.length_nil]; omega) 45
          obtain ⟨a2, c2, rfl⟩ := hs2.shape
          rw [show (l ++ [x]).length = l.length + 1 from by simp] at hrun2 hs2
          refine step_append_run rfl (.tmp 37) (.tmp 39) 45 rfl _ _ rfl rfl _ _ hrun2 ?_
          have A2 : Hid (SlAt evKind 50 wy (.slice a2 (l.length + 1) c2) (l ++ [x])) := Lib.hid hs2
          have B := Lib.hid (below_keeps B.out hk2 (fun i e => A1.out.2 i e) B.out.size)
          clear hrun2 hs2 hk2 ho2
          obtain ⟨wz, rfl⟩ : ∃ q, q = wy := ⟨_, rfl⟩
          refine hK.out _ _ ?_ (fun hHeld => ?_)
          · exact KS.out _ B.out
          clear hK K
          try simp only [Act.put, List.setIfInBounds_toArray, List.set_cons_zero, List.set_cons_succ]
          refine wpAnyH_take (i := 10) (oi := { dst := some 41, op := Op.nilCheck (Operand.tmp 31), type := 0, pos := "meter.go:199", after := #[{ on := 0, ground := Ground.data }, { on := 0, ground := Ground.phase }, { on := 1, ground := Ground.phase }, { on := 2, ground := Ground.phase }, { on := 3, ground := Ground.phase }, { on := 4, ground := Ground.phase }, { on := 5, ground := Ground.phase }, { on := 6, ground := Ground.phase }, { on := 7, ground := Ground.phase }, { on := 8, ground := Ground.phase }, { on := 9, ground := Ground.phase }], guard := none }) (v := ?vv16) rfl (by kernel_rfl) (by kernel_rfl) (by kernel_rfl) (fun _ _ _ h => h) (Or.inl ⟨by rfl, ?hy16⟩) (by assumption) ?rs16
          case hy16 => (intro w hSw; (try dsimp only at hSw); go_simp) <;> with_reducible rfl
          try simp only [Act.put, List.setIfInBounds_toArray, List.set_cons_zero, List.set_cons_succ]
          refine wpAnyH_take (i := 11) (oi := { dst := some 42, op := Op.fieldAddr 47 (Operand.tmp 41) 0, type := 0, pos := "meter.go:199", after := #[{ on := 10, ground := Ground.data }, { on := 0, ground := Ground.phase }, { on := 1, ground := Ground.phase }, { on := 2, ground := Ground.phase }, { on := 3, ground := Ground.phase }, { on := 4, ground := Ground.phase }, { on := 5, ground := Ground.phase }, { on := 6, ground := Ground.phase }, { on := 7, ground := Ground.phase }, { on := 8, ground := Ground.phase }, { on := 9, ground := Ground.phase }], guard := none }) (v := ?vv17) rfl (by kernel_rfl) (by kernel_rfl) (by kernel_rfl) (fun _ _ _ h => h) (Or.inl ⟨by rfl, ?hy17⟩) (by assumption) ?rs17
          case hy17 => (intro w hSw; (try dsimp only at hSw); go_simp) <;> with_reducible rfl
          try simp only [Act.put, List.setIfInBounds_toArray, List.set_cons_zero, List.set_cons_succ]
          refine wpAnyH_ready (rs := [12]) (by kernel_rfl) (by simp) ?_
          refine AllReadyH.cons (o := { dst := none, op := Op.store 45 (Operand.tmp 42) (Operand.tmp 40), type := 0, pos := "meter.go:199", after := #[{ on := 11, ground := Ground.data }, { on := 9, ground := Ground.data }, { on := 9, ground := Ground.chain }, { on := 0, ground := Ground.phase }, { on := 1, ground := Ground.phase }, { on := 2, ground := Ground.phase }, { on := 3, ground := Ground.phase }, { on := 4, ground := Ground.phase }, { on := 5, ground := Ground.phase }, { on := 6, ground := Ground.phase }, { on := 7, ground := Ground.phase }, { on := 8, ground := Ground.phase }, { on := 9, ground := Ground.phase }], guard := none }) rfl (fun K hK => ?_) AllReadyH.nil
          have DB := Lib.hid (HD3.out.below B.out).blk
          have c0 : wz.cell? ⟨hb, 0, none⟩ = some (.slice a l.length cap) := blk_cell DB.out 0
          have z0 : wz.frozen? ⟨hb, 0, none⟩ = false := blk_free DB.out 0
          go_simp
          refine hK.out _ _ ?_ (fun hHeld => ?_)
          · exact ⟨(cell_far hbx2 _ _).trans (KS.out _ B.out).1, (cell_far hbx2 _ _).trans (KS.out _ B.out).2.1, (cell_far hbx2 _ _).trans (KS.out _ B.out).2.2.1, (cell_far hbx2 _ _).trans (KS.out _ B.out).2.2.2.1, (cell_far hbx2 _ _).trans (KS.out _ B.out).2.2.2.2⟩
          clear hK K
          try simp only [Act.put, List.setIfInBounds_toArray, List.set_cons_zero, List.set_cons_succ]
          refine wpAnyH_done (by kernel_rfl) ?_ _
          simp only [NoPanic]
          have HFB : Hid (IsBlk (wz.setCell ⟨hb, 0, none⟩ (.slice a2 (l.length + 1) c2)) hb #[.slice a2 (l.length + 1) c2] 47) := Lib.hid (blk_set DB.out 0 (.slice a2 (l.length + 1) c2))
          have HFS : Hid (SlAt evKind 50 (wz.setCell ⟨hb, 0, none⟩ (.slice a2 (l.length + 1) c2)) (.slice a2 (l.length + 1) c2) (l ++ [x])) := Lib.hid (A2.out.keeps (keeps_set wz hb 0 _) (fun g hg e => by obtain ⟨cur, hcur⟩ := A2.out.own g hg; exact ne_of_type hcur DB.out (by decide) e))
          have HFK : Hid (Keeps (Only hb) w (wz.setCell ⟨hb, 0, none⟩ (.slice a2 (l.length + 1) c2))) := Lib.hid ((HK3.out _ B.out).trans' (keeps_set wz hb 0 _))
          go_wp2_with fail
          go_ret2
          rw [HRS.out.1, HRS.out.2]
          exact ⟨rfl, ⟨_, HFB.out, HFS.out⟩, HFK.out⟩
        refine AllReadyH.cons (o := { dst := some 39, op := Op.buildSlice 45 1 #[(0, Operand.tmp 38)], type := 45, pos := "meter.go:199", after := #[{ on := 7, ground := Ground.data }], guard := none }) rfl (fun K hK => ?_) AllReadyH.nil
        go_simp
        obtain ⟨g8, hg8⟩ : ∃ q, q = wz.heap.size := ⟨_, rfl⟩
        obtain ⟨wz, hwz⟩ : ∃ q, q = wz.alloc (.cells #[.string x.key, .string x.acct, .string x.mtr, .int .i64 x.qty, .int .i64 x.at_] 50) := ⟨_, rfl⟩
        rw [← hwz, ← hg8]
        have BZ := Lib.hid (alloc_step hwz)
        have M8 : Hid (RdAt evKind wz (.slice (some ⟨g8, 0, none⟩) 1 1) [x] ∧ w3.heap.size ≤ g8 ∧ g8 < wz.heap.size) := Lib.hid (by rw [hwz, hg8]; exact ⟨one_hev _ x, B.out.size, by simp⟩)
        have B := Lib.hid (B.out.trans (BZ.out.mono B.out.size))
        clear hwz hg8
        refine hK.out _ _ ?_ (fun hHeld => ?_)
        · exact KS.out _ B.out
        clear hK K
        try simp only [Act.put, List.setIfInBounds_toArray, List.set_cons_zero, List.set_cons_succ]
        refine wpAnyH_ready (rs := [1, 5]) (by kernel_rfl) (by simp) ?_
        refine AllReadyH.cons (o := { dst := some 32, op := Op.buildSlice 45 0 #[], type := 45, pos := "meter.go:199", after := #[], guard := none }) rfl (fun K hK => ?_) ?_
        · go_simp
          obtain ⟨g1, hg1⟩ : ∃ q, q = wz.heap.size := ⟨_, rfl⟩
          obtain ⟨wz, hwz⟩ : ∃ q, q = wz.alloc (.cells #[] 50) := ⟨_, rfl⟩
          rw [← hwz, ← hg1]
          have BZ := Lib.hid (alloc_step hwz)
          have N1 : Hid (SlAt evKind 50 wz (.slice (some ⟨g1, 0, none⟩) 0 0) [] ∧ w3.heap.size ≤ g1 ∧ g1 < wz.heap.size) := Lib.hid (by rw [hwz, hg1]; exact ⟨none_hev _, B.out.size, by simp⟩)
          have DD : Hid (g8 ≠ g1) := Lib.hid (by have := M8.out.2.2; rw [hg1]; omega)
          have M8 := Lib.hid (And.intro (M8.out.1.below BZ.out) (And.intro M8.out.2.1 (Nat.lt_of_lt_of_le M8.out.2.2 BZ.out.size)))
          have B := Lib.hid (B.out.trans (BZ.out.mono B.out.size))
          clear hwz hg1
          refine hK.out _ _ ?_ (fun hHeld => ?_)
          · exact KS.out _ B.out
          clear hK K
          try simp only [Act.put, List.setIfInBounds_toArray, List.set_cons_zero, List.set_cons_succ]
          refine wpAnyH_ready (rs := [5]) (by kernel_rfl) (by simp) ?_
          refine AllReadyH.cons (o := { dst := some 36, op := Op.load 45 (Operand.tmp 35), type := 45, pos := "meter.go:199", after := #[{ on := 4, ground := Ground.data }], guard := none }) rfl (fun K hK => ?_) AllReadyH.nil
          have c0 : wz.cell? ⟨hb, 0, none⟩ = some (.slice a l.length cap) := blk_cell (HD3.out.below B.out).blk 0
          go_simp
          clear c0
          refine hK.out _ _ ?_ (fun hHeld => ?_)
          · exact KS.out _ B.out
          clear hK K
          try simp only [Act.put, List.setIfInBounds_toArray, List.set_cons_zero, List.set_cons_succ]
          refine wpAnyH_ready (rs := [6]) (by kernel_rfl) (by simp) ?_
          refine AllReadyH.cons (o := { dst := some 37, op := Op.call { callee := Callee.builtin Builtin.append, args := #[Operand.tmp 32, Operand.tmp 36], argTypes := #[45, 45] }, type := 45, pos := "meter.go:199", after := #[{ on := 1, ground := Ground.data }, { on := 5, ground := Ground.data }], guard := none }) rfl (fun K hK => ?_) AllReadyH.nil
          obtain ⟨v1, wy, hrun1, hs1, hk1, ho1⟩ := append_hev N1.out.1 (HLR.out wz B.out) (by have := HL.out; simp only [List.length_nil]; omega) 45
          refine step_append_run rfl (.tmp 32) (.tmp 36) 45 rfl _ _ rfl rfl _ _ hrun1 ?_
          have A1 : Hid (SlAt evKind 50 wy v1 l ∧ ∀ g, v1.ownBlock = some g → w3.heap.size ≤ g) := Lib.hid ⟨hs1, fun g hg => by rcases ho1 g hg with e | e; (have e2 : g1 = g := by simpa [Value.ownBlock] using e); rw [← e2]; exact N1.out.2.1; exact Nat.le_trans B.out.size e⟩
          have M8 := Lib.hid (And.intro (M8.out.1.keeps hk1 (fun g hg e => DD.out (by have e1 : g8 = g := (by simpa [Value.ownBlock] using hg); have e2 : g1 = g := (by simpa [Value.ownBlock] using e); rw [e1, e2]))) (And.intro M8.out.2.1 (Nat.lt_of_lt_of_le M8.out.2.2 hk1.size)))
          have B := Lib.hid (below_keeps B.out hk1 (fun i e => by have e2 : g1 = i := (by simpa [Value.ownBlock] using e); rw [← e2]; exact N1.out.2.1) B.out.size)
          clear hrun1 hs1 hk1 ho1
          obtain ⟨wz, rfl⟩ : ∃ q, q = wy := ⟨_, rfl⟩
          refine hK.out _ _ ?_ (fun hHeld => ?_)
          · exact KS.out _ B.out
          clear hK K
          try simp only [Act.put, List.setIfInBounds_toArray, List.set_cons_zero, List.set_cons_succ]
          refine wpAnyH_ready (rs := [9]) (by kernel_rfl) (by simp) ?_
          refine AllReadyH.cons (o := { dst := some 40, op := Op.call { callee := Callee.builtin Builtin.append, args := #[Operand.tmp 37, Operand.tmp 39], argTypes := #[45, 45] }, type := 45, pos := "meter.go:199", after := #[{ on := 6, ground := Ground.data }, { on := 8, ground := Ground.data }, { on := 6, ground := Ground.chain }], guard := none }) rfl (fun K hK => ?_) AllReadyH.nil
          obtain ⟨v2, wy, hrun2, hs2, hk2, ho2⟩ := append_hev A1.out.1 M8.out.1 (by have := HL.out; simp only [List.length_cons, List.length_nil]; omega) 45
          obtain ⟨a2, c2, rfl⟩ := hs2.shape
          rw [show (l ++ [x]).length = l.length + 1 from by simp] at hrun2 hs2
          refine step_append_run rfl (.tmp 37) (.tmp 39) 45 rfl _ _ rfl rfl _ _ hrun2 ?_
          have A2 : Hid (SlAt evKind 50 wy (.slice a2 (l.length + 1) c2) (l ++ [x])) := Lib.hid hs2
          have B := Lib.hid (below_keeps B.out hk2 (fun i e => A1.out.2 i e) B.out.size)
          clear hrun2 hs2 hk2 ho2
          obtain ⟨wz, rfl⟩ : ∃ q, q = wy := ⟨_, rfl⟩
          refine hK.out _ _ ?_ (fun hHeld => ?_)
          · exact KS.out _ B.out
          clear hK K
          try simp only [Act.put, List.setIfInBounds_toArray, List.set_cons_zero, List.set_cons_succ]
          refine wpAnyH_take (i := 10) (oi := { dst := some 41, op := Op.nilCheck (Operand.tmp 31), type := 0, pos := "meter.go:199", after := #[{ on := 0, ground := Ground.data }, { on := 0, ground := Ground.phase }, { on := 1, ground := Ground.phase }, { on := 2, ground := Ground.phase }, { on := 3, ground := Ground.phase }, { on := 4, ground := Ground.phase }, { on := 5, ground := Ground.phase }, { on := 6, ground := Ground.phase }, { on := 7, ground := Ground.phase }, { on := 8, ground := Ground.phase }, { on := 9, ground := Ground.phase }], guard := none }) (v := ?vv18) rfl (by kernel_rfl) (by kernel_rfl) (by kernel_rfl) (fun _ _ _ h => h) (Or.inl ⟨by rfl, ?hy18⟩) (by assumption) ?rs18
          case hy18 => (intro w hSw; (try dsimp only at hSw); go_simp) <;> with_reducible rfl
          try simp only [Act.put, List.setIfInBounds_toArray, List.set_cons_zero, List.set_cons_succ]
          refine wpAnyH_take (i := 11) (oi := { dst := some 42, op := Op.fieldAddr 47 (Operand.tmp 41) 0, type := 0, pos := "meter.go:199", after := #[{ on := 10, ground := Ground.data }, { on := 0, ground := Ground.phase }, { on := 1, ground := Ground.phase }, { on := 2, ground := Ground.phase }, { on := 3, ground := Ground.phase }, { on := 4, ground := Ground.phase }, { on := 5, ground := Ground.phase }, { on := 6, ground := Ground.phase }, { on := 7, ground := Ground.phase }, { on := 8, ground := Ground.phase }, { on := 9, ground := Ground.phase }], guard := none }) (v := ?vv19) rfl (by kernel_rfl) (by kernel_rfl) (by kernel_rfl) (fun _ _ _ h => h) (Or.inl ⟨by rfl, ?hy19⟩) (by assumption) ?rs19
          case hy19 => (intro w hSw; (try dsimp only at hSw); go_simp) <;> with_reducible rfl
          try simp only [Act.put, List.setIfInBounds_toArray, List.set_cons_zero, List.set_cons_succ]
          refine wpAnyH_ready (rs := [12]) (by kernel_rfl) (by simp) ?_
          refine AllReadyH.cons (o := { dst := none, op := Op.store 45 (Operand.tmp 42) (Operand.tmp 40), type := 0, pos := "meter.go:199", after := #[{ on := 11, ground := Ground.data }, { on := 9, ground := Ground.data }, { on := 9, ground := Ground.chain }, { on := 0, ground := Ground.phase }, { on := 1, ground := Ground.phase }, { on := 2, ground := Ground.phase }, { on := 3, ground := Ground.phase }, { on := 4, ground := Ground.phase }, { on := 5, ground := Ground.phase }, { on := 6, ground := Ground.phase }, { on := 7, ground := Ground.phase }, { on := 8, ground := Ground.phase }, { on := 9, ground := Ground.phase }], guard := none }) rfl (fun K hK => ?_) AllReadyH.nil
          have DB := Lib.hid (HD3.out.below B.out).blk
          have c0 : wz.cell? ⟨hb, 0, none⟩ = some (.slice a l.length cap) := blk_cell DB.out 0
          have z0 : wz.frozen? ⟨hb, 0, none⟩ = false := blk_free DB.out 0
          go_simp
          refine hK.out _ _ ?_ (fun hHeld => ?_)
          · exact ⟨(cell_far hbx2 _ _).trans (KS.out _ B.out).1, (cell_far hbx2 _ _).trans (KS.out _ B.out).2.1, (cell_far hbx2 _ _).trans (KS.out _ B.out).2.2.1, (cell_far hbx2 _ _).trans (KS.out _ B.out).2.2.2.1, (cell_far hbx2 _ _).trans (KS.out _ B.out).2.2.2.2⟩
          clear hK K
          try simp only [Act.put, List.setIfInBounds_toArray, List.set_cons_zero, List.set_cons_succ]
          refine wpAnyH_done (by kernel_rfl) ?_ _
          simp only [NoPanic]
          have HFB : Hid (IsBlk (wz.setCell ⟨hb, 0, none⟩ (.slice a2 (l.length + 1) c2)) hb #[.slice a2 (l.length + 1) c2] 47) := Lib.hid (blk_set DB.out 0 (.slice a2 (l.length + 1) c2))
          have HFS : Hid (SlAt evKind 50 (wz.setCell ⟨hb, 0, none⟩ (.slice a2 (l.length + 1) c2)) (.slice a2 (l.length + 1) c2) (l ++ [x])) := Lib.hid (A2.out.keeps (keeps_set wz hb 0 _) (fun g hg e => by obtain ⟨cur, hcur⟩ := A2.out.own g hg; exact ne_of_type hcur DB.out (by decide) e))
          have HFK : Hid (Keeps (Only hb) w (wz.setCell ⟨hb, 0, none⟩ (.slice a2 (l.length + 1) c2))) := Lib.hid ((HK3.out _ B.out).trans' (keeps_set wz hb 0 _))
          go_wp2_with fail
          go_ret2
          rw [HRS.out.1, HRS.out.2]
          exact ⟨rfl, ⟨_, HFB.out, HFS.out⟩, HFK.out⟩
        refine AllReadyH.cons (o := { dst := some 36, op := Op.load 45 (Operand.tmp 35), type := 45, pos := "meter.go:199", after := #[{ on := 4, ground := Ground.data }], guard := none }) rfl (fun K hK => ?_) AllReadyH.nil
        have c0 : wz.cell? ⟨hb, 0, none⟩ = some (.slice a l.length cap) := blk_cell (HD3.out.below B.out).blk 0
        go_simp
        clear c0
        refine hK.out _ _ ?_ (fun hHeld => ?_)
        · exact KS.out _ B.out
        clear hK K
        try simp only [Act.put, List.setIfInBounds_toArray, List.set_cons_zero, List.set_cons_succ]
        refine wpAnyH_ready (rs := [1]) (by kernel_rfl) (by simp) ?_
        refine AllReadyH.cons (o := { dst := some 32, op := Op.buildSlice 45 0 #[], type := 45, pos := "meter.go:199", after := #[], guard := none }) rfl (fun K hK => ?_) AllReadyH.nil
        go_simp
        obtain ⟨g1, hg1⟩ : ∃ q, q = wz.heap.size := ⟨_, rfl⟩
        obtain ⟨wz, hwz⟩ : ∃ q, q = wz.alloc (.cells #[] 50) := ⟨_, rfl⟩
        rw [← hwz, ← hg1]
        have BZ := Lib.hid (alloc_step hwz)
        have N1 : Hid (SlAt evKind 50 wz (.slice (some ⟨g1, 0, none⟩) 0 0) [] ∧ w3.heap.size ≤ g1 ∧ g1 < wz.heap.size) := Lib.hid (by rw [hwz, hg1]; exact ⟨none_hev _, B.out.size, by simp⟩)
        have DD : Hid (g8 ≠ g1) := Lib.hid (by have := M8.out.2.2; rw [hg1]; omega)
        have M8 := Lib.hid (And.intro (M8.out.1.below BZ.out) (And.intro M8.out.2.1 (Nat.lt_of_lt_of_le M8.out.2.2 BZ.out.size)))
        have B := Lib.hid (B.out.trans (BZ.out.mono B.out.size))
        clear hwz hg1
        refine hK.out _ _ ?_ (fun hHeld => ?_)
        · exact KS.out _ B.out
        clear hK K
        try simp only [Act.put, List.setIfInBounds_toArray, List.set_cons_zero, List.set_cons_succ]
        refine wpAnyH_ready (rs := [6]) (by kernel_rfl) (by simp) ?_
        refine AllReadyH.cons (o := { dst := some 37, op := Op.call { callee := Callee.builtin Builtin.append, args := #[Operand.tmp 32, Operand.tmp 36], argTypes := #[45, 45] }, type := 45, pos := "meter.go:199", after := #[{ on := 1, ground := Ground.data }, { on := 5, ground := Ground.data }], guard := none }) rfl (fun K hK => ?_) AllReadyH.nil
        obtain ⟨v1, wy, hrun1, hs1, hk1, ho1⟩ := append_hev N1.out.1 (HLR.out wz B.out) (by have := HL.out; simp only [List.length_nil]; omega) 45
        refine step_append_run rfl (.tmp 32) (.tmp 36) 45 rfl _ _ rfl rfl _ _ hrun1 ?_
        have A1 : Hid (SlAt evKind 50 wy v1 l ∧ ∀ g, v1.ownBlock = some g → w3.heap.size ≤ g) := Lib.hid ⟨hs1, fun g hg => by rcases ho1 g hg with e | e; (have e2 : g1 = g := by simpa [Value.ownBlock] using e); rw [← e2]; exact N1.out.2.1; exact Nat.le_trans B.out.size e⟩
        have M8 := Lib.hid (And.intro (M8.out.1.keeps hk1 (fun g hg e => DD.out (by have e1 : g8 = g := (by simpa [Value.ownBlock] using hg); have e2 : g1 = g := (by simpa [Value.ownBlock] using e); rw [e1, e2]))) (And.intro M8.out.2.1 (Nat.lt_of_lt_of_le M8.out.2.2 hk1.size)))
        have B := Lib.hid (below_keeps B.out hk1 (fun i e => by have e2 : g1 = i := (by simpa [Value.ownBlock] using e); rw [← e2]; exact N1.out.2.1) B.out.size)
        clear hrun1 hs1 hk1 ho1
        obtain ⟨wz, rfl⟩ : ∃ q, q = wy := ⟨_, rfl⟩
        refine hK.out _ _ ?_ (fun hHeld => ?_)
        · exact KS.out _ B.out
        clear hK K
        try simp only [Act.put, List.setIfInBounds_toArray, List.set_cons_zero, List.set_cons_succ]
        refine wpAnyH_ready (rs := [9]) (by kernel_rfl) (by simp) ?_
        refine AllReadyH.cons (o := { dst := some 40, op := Op.call { callee := Callee.builtin Builtin.append, args := #[Operand.tmp 37, Operand.tmp 39], argTypes := #[45, 45] }, type := 45, pos := "meter.go:199", after := #[{ on := 6, ground := Ground.data }, { on := 8, ground := Ground.data }, { on := 6, ground := Ground.chain }], guard := none }) rfl (fun K hK => ?_) AllReadyH.nil
        obtain ⟨v2, wy, hrun2, hs2, hk2, ho2⟩ := append_hev A1.out.1 M8.out.1 (by have := HL.out; simp only [List.length_cons, List.length_nil]; omega) 45
        obtain ⟨a2, c2, rfl⟩ := hs2.shape
        rw [show (l ++ [x]).length = l.length + 1 from by simp] at hrun2 hs2
        refine step_append_run rfl (.tmp 37) (.tmp 39) 45 rfl _ _ rfl rfl _ _ hrun2 ?_
        have A2 : Hid (SlAt evKind 50 wy (.slice a2 (l.length + 1) c2) (l ++ [x])) := Lib.hid hs2
        have B := Lib.hid (below_keeps B.out hk2 (fun i e => A1.out.2 i e) B.out.size)
        clear hrun2 hs2 hk2 ho2
        obtain ⟨wz, rfl⟩ : ∃ q, q = wy := ⟨_, rfl⟩
        refine hK.out _ _ ?_ (fun hHeld => ?_)
        · exact KS.out _ B.out
        clear hK K
        try simp only [Act.put, List.setIfInBounds_toArray, List.set_cons_zero, List.set_cons_succ]
        refine wpAnyH_take (i := 10) (oi := { dst := some 41, op := Op.nilCheck (Operand.tmp 31), type := 0, pos := "meter.go:199", after := #[{ on := 0, ground := Ground.data }, { on := 0, ground := Ground.phase }, { on := 1, ground := Ground.phase }, { on := 2, ground := Ground.phase }, { on := 3, ground := Ground.phase }, { on := 4, ground := Ground.phase }, { on := 5, ground := Ground.phase }, { on := 6, ground := Ground.phase }, { on := 7, ground := Ground.phase }, { on := 8, ground := Ground.phase }, { on := 9, ground := Ground.phase }], guard := none }) (v := ?vv20) rfl (by kernel_rfl) (by kernel_rfl) (by kernel_rfl) (fun _ _ _ h => h) (Or.inl ⟨by rfl, ?hy20⟩) (by assumption) ?rs20
        case hy20 => (intro w hSw; (try dsimp only at hSw); go_simp) <;> with_reducible rfl
        try simp only [Act.put, List.setIfInBounds_toArray, List.set_cons_zero, List.set_cons_succ]
        refine wpAnyH_take (i := 11) (oi := { dst := some 42, op := Op.fieldAddr 47 (Operand.tmp 41) 0, type := 0, pos := "meter.go:199", after := #[{ on := 10, ground := Ground.data }, { on := 0, ground := Ground.phase }, { on := 1, ground := Ground.phase }, { on := 2, ground := Ground.phase }, { on := 3, ground := Ground.phase }, { on := 4, ground := Ground.phase }, { on := 5, ground := Ground.phase }, { on := 6, ground := Ground.phase }, { on := 7, ground := Ground.phase }, { on := 8, ground := Ground.phase }, { on := 9, ground := Ground.phase }], guard := none }) (v := ?vv21) rfl (by kernel_rfl) (by kernel_rfl) (by kernel_rfl) (fun _ _ _ h => h) (Or.inl ⟨by rfl, ?hy21⟩) (by assumption) ?rs21
        case hy21 => (intro w hSw; (try dsimp only at hSw); go_simp) <;> with_reducible rfl
        try simp only [Act.put, List.setIfInBounds_toArray, List.set_cons_zero, List.set_cons_succ]
        refine wpAnyH_ready (rs := [12]) (by kernel_rfl) (by simp) ?_
        refine AllReadyH.cons (o := { dst := none, op := Op.store 45 (Operand.tmp 42) (Operand.tmp 40), type := 0, pos := "meter.go:199", after := #[{ on := 11, ground := Ground.data }, { on := 9, ground := Ground.data }, { on := 9, ground := Ground.chain }, { on := 0, ground := Ground.phase }, { on := 1, ground := Ground.phase }, { on := 2, ground := Ground.phase }, { on := 3, ground := Ground.phase }, { on := 4, ground := Ground.phase }, { on := 5, ground := Ground.phase }, { on := 6, ground := Ground.phase }, { on := 7, ground := Ground.phase }, { on := 8, ground := Ground.phase }, { on := 9, ground := Ground.phase }], guard := none }) rfl (fun K hK => ?_) AllReadyH.nil
        have DB := Lib.hid (HD3.out.below B.out).blk
        have c0 : wz.cell? ⟨hb, 0, none⟩ = some (.slice a l.length cap) := blk_cell DB.out 0
        have z0 : wz.frozen? ⟨hb, 0, none⟩ = false := blk_free DB.out 0
        go_simp
        refine hK.out _ _ ?_ (fun hHeld => ?_)
        · exact ⟨(cell_far hbx2 _ _).trans (KS.out _ B.out).1, (cell_far hbx2 _ _).trans (KS.out _ B.out).2.1, (cell_far hbx2 _ _).trans (KS.out _ B.out).2.2.1, (cell_far hbx2 _ _).trans (KS.out _ B.out).2.2.2.1, (cell_far hbx2 _ _).trans (KS.out _ B.out).2.2.2.2⟩
        clear hK K
        try simp only [Act.put, List.setIfInBounds_toArray, List.set_cons_zero, List.set_cons_succ]
        refine wpAnyH_done (by kernel_rfl) ?_ _
        simp only [NoPanic]
        have HFB : Hid (IsBlk (wz.setCell ⟨hb, 0, none⟩ (.slice a2 (l.length + 1) c2)) hb #[.slice a2 (l.length + 1) c2] 47) := Lib.hid (blk_set DB.out 0 (.slice a2 (l.length + 1) c2))
        have HFS : Hid (SlAt evKind 50 (wz.setCell ⟨hb, 0, none⟩ (.slice a2 (l.length + 1) c2)) (.slice a2 (l.length + 1) c2) (l ++ [x])) := Lib.hid (A2.out.keeps (keeps_set wz hb 0 _) (fun g hg e => by obtain ⟨cur, hcur⟩ := A2.out.own g hg; exact ne_of_type hcur DB.out (by decide) e))
        have HFK : Hid (Keeps (Only hb) w (wz.setCell ⟨hb, 0, none⟩ (.slice a2 (l.length + 1) c2))) := Lib.hid ((HK3.out _ B.out).trans' (keeps_set wz hb 0 _))
        go_wp2_with fail
        go_ret2
        rw [HRS.out.1, HRS.out.2]
        exact ⟨rfl, ⟨_, HFB.out, HFS.out⟩, HFK.out⟩
  · have HCK : Hid (checkE x = c) := Lib.hid hc.symm
    have HRS : Hid (hR l x = (false, c) ∧ hS l x = l) := Lib.hid (by
      unfold hR hS; rw [if_neg (by rw [HCK.out]; exact hbad), if_neg (by rw [HCK.out]; exact hbad), HCK.out]; exact ⟨rfl, rfl⟩)
    clear hc
    go_wp2_with (fail)
    go_ret2
    rw [HRS.out.1, HRS.out.2]
    exact ⟨rfl, ⟨_, HD.out.below HB1.out⟩, HKW.out _ HB1.out⟩
end Go.Proofs.YtkbdofbjfcajbaaGreat
