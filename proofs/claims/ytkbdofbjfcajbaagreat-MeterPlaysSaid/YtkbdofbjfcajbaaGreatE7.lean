/- The meter's Ingest. -/
import Derived.Test.YtkbdofbjfcajbaaGreatE6
namespace Go.Proofs.YtkbdofbjfcajbaaGreat
open Go.RowKit Go.Shelf

/-- What an Ingest answers, and what it leaves behind. -/
def ingR (s : MSt) (v : Ev) : Bool × Int :=
  if checkE v = 0 then
    match s.t.get slt v.key with
    | some u => if u = v then (true, 0) else (false, 24)
    | none => if 5000 ≤ s.t.size then (false, 9) else (false, 0)
  else (false, checkE v)
def ingS (s : MSt) (v : Ev) : MSt :=
  if checkE v = 0 then
    match s.t.get slt v.key with
    | some u => if u = v then ⟨s.t, s.n + 1, s.ver⟩ else s
    | none => if 5000 ≤ s.t.size then s else ⟨s.t.put slt v.key v, s.n, s.ver + 1⟩
  else s
abbrev Two (a b : Nat) : Nat → Prop := fun k => k = a ∨ k = b
theorem ev_eq {u v : Ev} (h0 : u.key.toList = v.key.toList) (h1 : u.acct.toList = v.acct.toList) (h2 : u.mtr.toList = v.mtr.toList) (h3 : u.qty = v.qty) (h4 : u.at_ = v.at_) : u = v := by
  obtain ⟨a, b, c, d, e⟩ := u
  obtain ⟨a', b', c', d', e'⟩ := v
  obtain rfl : a = a' := str_inj h0
  obtain rfl : b = b' := str_inj h1
  obtain rfl : c = c' := str_inj h2
  obtain rfl : d = d' := h3
  obtain rfl : e = e' := h4
  rfl
theorem tab_ne {w : World} {mb tb tc : Nat} {t : Tr ByteArray Ev} {s n ver : Int} (ht : Ev.STab w tb t ver) (hm : IsBlk w mb (mtrCells s tc n) 70) : tb ≠ mb := by
  obtain ⟨_, hx, _⟩ := ht.ex
  exact ne_of_type hx hm (by decide)
theorem node_ne {w : World} {mb tc : Nat} {s n : Int} (hm : IsBlk w mb (mtrCells s tc n) 70) : ∀ b cs, IsBlk w b cs 143 → ¬ b = mb := fun _ _ hx => ne_of_type hx hm (by decide)
theorem ing_fin {w wa wc w5 : World} {mb tb : Nat} {t : Tr ByteArray Ev} {n ver : Int} (h1 : Below w.heap.size w wa) (h2 : Keeps (Two mb tb) wa wc) (hm : IsBlk wc mb (mtrCells 1 tb n) 70) (ht : Ev.STab wc tb t ver)
    (hb5 : IsBlk w5 mb (mtrCells 0 tb n) 70) (hk5 : Keeps (Only mb) wc w5) : MtrIn w5 mb tb ⟨t, n, ver⟩ ∧ Keeps (Two mb tb) w w5 :=
  ⟨⟨hb5, ht.keeps hk5 (tab_ne ht hm) (node_ne hm)⟩, (((Keeps.of_below h1).mono (fun _ _ h => h.elim)).trans' h2).trans' (hk5.mono (fun _ _ h => Or.inl h))⟩
set_option maxRecDepth 100000 in
set_option maxHeartbeats 4000000 in
theorem m_ingest (w : World) (mb tb : Nat) (s : MSt) (v : Ev) (hm : MtrIn w mb tb s) (hv : EvFit v) (h0 : 0 ≤ s.ver) (h1 : s.ver < 900000) (h2 : 0 ≤ s.n) (h3 : s.n < 900000) (hs : s.t.size < 900000) :
    Calls Tryz.prog 9 #[.pointer (some ⟨mb, 0, none⟩), .agg #[.string v.key, .string v.acct, .string v.mtr, .int .i64 v.qty, .int .i64 v.at_]] w fun e w' => e = .returned (.tuple #[.bool (ingR s v).1, .int .i64 (ingR s v).2]) ∧ MtrIn w' mb tb (ingS s v) ∧ Keeps (Two mb tb) w w' := by
  obtain ⟨wb, hwb, HBX⟩ := Ev.boxE_new w v
  obtain ⟨bx, hbx⟩ : ∃ bx, bx = w.heap.size := ⟨_, rfl⟩
  have HW1 := Lib.hid hwb
  have HBE := Lib.hid hbx
  have HWB : Hid (Below w.heap.size w wb) := Lib.hid HBX.out.1
  have HBW : Hid (Ev.BoxAtE wb bx v) := Lib.hid (by rw [hbx]; exact HBX.out.2)
  have HM : Hid (MtrIn wb mb tb s) := Lib.hid ⟨(HWB.out.block _ (lt_of_block hm.blk)).trans hm.blk, hm.tab.below HWB.out⟩
  have HC := Lib.hid (m_check wb v hv)
  have HI := Lib.hid (And.intro (And.intro h0 h1) (And.intro (And.intro h2 h3) hs))
  clear hwb hbx HBX hm hv h0 h1 h2 h3 hs
  go_enter_defers Tryz.func9, Tryz.ntmps9
  go_upto_region 1 with fail
  rw [HW1.out, ← HBE.out]
  clear HW1 HBE
  obtain ⟨⟨x0, x1, x2, x3, x4⟩, -⟩ := Ev.boxE_cells HBW.out
  go_wp2_with (fail)
  refine HC.out.mono ?_
  rintro e w1 ⟨rfl, hb⟩
  have HB1 := Lib.hid hb
  obtain ⟨c, hc⟩ : ∃ c, c = checkE v := ⟨_, rfl⟩
  rw [← hc]
  clear x0 x1 x2 x3 x4 hb
  by_cases hbad : c = 0
  · have HCK : Hid (checkE v = 0) := Lib.hid (by rw [← hc, hbad])
    clear hc
    subst hbad
    have HBW1 : Hid (Ev.BoxAtE w1 bx v) := Lib.hid (Ev.boxE_below HBW.out HB1.out)
    have HM1 : Hid (MtrIn w1 mb tb s) := Lib.hid ⟨(HB1.out.block _ (lt_of_block HM.out.blk)).trans HM.out.blk, HM.out.tab.below HB1.out⟩
    have HL := Lib.hid (mu_lock w1 mb HM1.out.blk)
    go_wp2_with (fail)
    refine HL.out.mono ?_
    rintro e w2 ⟨rfl, hb2, hk2, hz2⟩
    have HBW2 : Hid (Ev.BoxAtE w2 bx v) := Lib.hid (hk2.obj HBW1.out (ne_of_type HBW1.out HM1.out.blk (by decide)))
    have HT2 : Hid (Ev.STab w2 tb s.t s.ver) := Lib.hid (HM1.out.tab.keeps hk2 (by obtain ⟨_, hx, _⟩ := HM1.out.tab.ex; exact ne_of_type hx HM1.out.blk (by decide)) (fun b cs hx e => ne_of_type hx HM1.out.blk (by decide) e))
    have HB2 := Lib.hid hb2
    have HK2 := Lib.hid hk2
    clear hb2 hk2 hz2
    have m2 : w2.cell? ⟨mb, 2, none⟩ = some (.pointer (some ⟨tb, 0, none⟩)) := blk_cell HB2.out 2
    obtain ⟨⟨x0, x1, x2, x3, x4⟩, -⟩ := Ev.boxE_cells HBW2.out
    have HG : Hid (∀ W, Below w2.heap.size w2 W → Calls Tryz.prog 24 #[.pointer (some ⟨tb, 0, none⟩), .string v.key] W fun e w' => e = .returned (Ev.getRes (s.t.get slt v.key)) ∧ Below W.heap.size W w') := Lib.hid (fun W hW => Ev.t_get W tb s.t s.ver v.key (HT2.out.below hW))
    obtain ⟨o, ho⟩ : ∃ o, o = s.t.get slt v.key := ⟨_, rfl⟩
    obtain ⟨u, hu⟩ : ∃ v, v = o.getD Ev.zero := ⟨_, rfl⟩
    obtain ⟨q, hq⟩ : ∃ q, q = o.isSome := ⟨_, rfl⟩
    have HGR : Hid (Ev.getRes (s.t.get slt v.key) = .tuple #[.agg #[.string u.key, .string u.acct, .string u.mtr, .int .i64 u.qty, .int .i64 u.at_], .bool q]) := Lib.hid (by rw [hu, hq, ho]; rfl)
    have HUQ := Lib.hid (And.intro ho (And.intro hu hq))
    rw [HGR.out] at HG
    clear ho hu hq
    go_upto_region 6 with fail
    go_cut [7, 8] from 21 to 31 (fun pv bv wx => ∃ bw, pv = .pointer (some ⟨bw, 0, none⟩) ∧ bv = .bool q ∧ Hid (Below w2.heap.size w2 wx ∧ Ev.BoxAtE wx bw u))
    case first =>
      have hlm := lt_of_block HB2.out
      have hlx := lt_of_block HBW2.out
      refine wp_region_noPanic ?_
      refine wp_region_held_drew (S := fun w' => w'.cell? ⟨mb, 2, none⟩ = some (.pointer (some ⟨tb, 0, none⟩)) ∧ w'.cell? ⟨bx, 0, none⟩ = some (.string v.key)) (by kernel_rfl) ?_ (fun hHeld => ?_)
      · exact ⟨m2, x0⟩
      refine wpAnyH_take (i := 0) (oi := { dst := some 22, op := Op.move (Operand.tmp 0), type := 26, pos := "meter.go:65", after := #[], guard := none }) (v := ?vv1) rfl (by kernel_rfl) (by kernel_rfl) (by kernel_rfl) (fun _ _ _ h => h) (Or.inl ⟨by rfl, ?hy1⟩) (by assumption) ?rs1
      case hy1 => (intro w hSw; (try dsimp only at hSw); go_simp) <;> with_reducible rfl
      try simp only [Act.put, List.setIfInBounds_toArray, List.set_cons_zero, List.set_cons_succ]
      refine wpAnyH_take (i := 1) (oi := { dst := some 23, op := Op.nilCheck (Operand.tmp 22), type := 0, pos := "meter.go:65", after := #[{ on := 0, ground := Ground.data }], guard := none }) (v := ?vv2) rfl (by kernel_rfl) (by kernel_rfl) (by kernel_rfl) (fun _ _ _ h => h) (Or.inl ⟨by rfl, ?hy2⟩) (by assumption) ?rs2
      case hy2 => (intro w hSw; (try dsimp only at hSw); go_simp) <;> with_reducible rfl
      try simp only [Act.put, List.setIfInBounds_toArray, List.set_cons_zero, List.set_cons_succ]
      refine wpAnyH_take (i := 2) (oi := { dst := some 24, op := Op.fieldAddr 70 (Operand.tmp 23) 1, type := 0, pos := "meter.go:65", after := #[{ on := 1, ground := Ground.data }], guard := none }) (v := ?vv3) rfl (by kernel_rfl) (by kernel_rfl) (by kernel_rfl) (fun _ _ _ h => h) (Or.inl ⟨by rfl, ?hy3⟩) (by assumption) ?rs3
      case hy3 => (intro w hSw; (try dsimp only at hSw); go_simp) <;> with_reducible rfl
      try simp only [Act.put, List.setIfInBounds_toArray, List.set_cons_zero, List.set_cons_succ]
      refine wpAnyH_take (i := 3) (oi := { dst := some 25, op := Op.load 56 (Operand.tmp 24), type := 56, pos := "meter.go:65", after := #[{ on := 2, ground := Ground.data }], guard := none }) (v := ?vv4) rfl (by kernel_rfl) (by kernel_rfl) (by kernel_rfl) (fun _ _ _ h => h) (Or.inl ⟨by rfl, ?hy4⟩) (by assumption) ?rs4
      case hy4 => (intro w hSw; (try dsimp only at hSw); go_simp) <;> with_reducible rfl
      try simp only [Act.put, List.setIfInBounds_toArray, List.set_cons_zero, List.set_cons_succ]
      refine wpAnyH_take (i := 4) (oi := { dst := some 26, op := Op.fieldAddr 32 (Operand.tmp 3) 0, type := 0, pos := "meter.go:65", after := #[], guard := none }) (v := ?vv5) rfl (by kernel_rfl) (by kernel_rfl) (by kernel_rfl) (fun _ _ _ h => h) (Or.inl ⟨by rfl, ?hy5⟩) (by assumption) ?rs5
      case hy5 => (intro w hSw; (try dsimp only at hSw); go_simp) <;> with_reducible rfl
      try simp only [Act.put, List.setIfInBounds_toArray, List.set_cons_zero, List.set_cons_succ]
      refine wpAnyH_take (i := 5) (oi := { dst := some 27, op := Op.load 9 (Operand.tmp 26), type := 9, pos := "meter.go:65", after := #[{ on := 4, ground := Ground.data }], guard := none }) (v := ?vv6) rfl (by kernel_rfl) (by kernel_rfl) (by kernel_rfl) (fun _ _ _ h => h) (Or.inl ⟨by rfl, ?hy6⟩) (by assumption) ?rs6
      case hy6 => (intro w hSw; (try dsimp only at hSw); go_simp) <;> with_reducible rfl
      try simp only [Act.put, List.setIfInBounds_toArray, List.set_cons_zero, List.set_cons_succ]
      refine wpAnyH_ready (rs := [6, 10]) (by kernel_rfl) (by simp) ?_
      refine AllReadyH.cons (o := { dst := some 28, op := Op.call { callee := Callee.value (Operand.func 24), args := #[Operand.tmp 25, Operand.tmp 27], argTypes := #[56, 9] }, type := 71, pos := "meter.go:65", after := #[{ on := 3, ground := Ground.data }, { on := 5, ground := Ground.data }], guard := none }) rfl (fun K hK => ?_) ?_
      · go_simp
        go_at_call 24; (with_reducible refine (HG.out _ ?_).mono ?_); exact (Below.refl _ _).drew; rintro e w3 ⟨rfl, g1⟩
        have G1 : Hid (Below w2.heap.size w2 w3) := Lib.hid (((Below.refl _ _).drew).trans g1)
        clear g1
        go_wp2_with fail
        refine hK.out _ _ ?_ (fun hHeld => ?_)
        · exact ⟨(G1.out.cell (p := ⟨mb, 2, none⟩) hlm).trans m2, (G1.out.cell (p := ⟨bx, 0, none⟩) hlx).trans x0⟩
        clear hK K
        try simp only [Act.put, List.setIfInBounds_toArray, List.set_cons_zero, List.set_cons_succ]
        refine wpAnyH_take (i := 7) (oi := { dst := some 21, op := Op.move (Operand.tmp 28), type := 71, pos := "meter.go:65", after := #[{ on := 6, ground := Ground.data }], guard := none }) (v := ?vv7) rfl (by kernel_rfl) (by kernel_rfl) (by kernel_rfl) (fun _ _ _ h => h) (Or.inl ⟨by rfl, ?hy7⟩) (by assumption) ?rs7
        case hy7 => (intro w hSw; (try dsimp only at hSw); go_simp) <;> with_reducible rfl
        try simp only [Act.put, List.setIfInBounds_toArray, List.set_cons_zero, List.set_cons_succ]
        refine wpAnyH_take (i := 8) (oi := { dst := some 29, op := Op.extract (Operand.tmp 21) 0, type := 32, pos := "meter.go:65", after := #[{ on := 7, ground := Ground.data }], guard := none }) (v := ?vv8) rfl (by kernel_rfl) (by kernel_rfl) (by kernel_rfl) (fun _ _ _ h => h) (Or.inl ⟨by rfl, ?hy8⟩) (by assumption) ?rs8
        case hy8 => (intro w hSw; (try dsimp only at hSw); go_simp) <;> with_reducible rfl
        try simp only [Act.put, List.setIfInBounds_toArray, List.set_cons_zero, List.set_cons_succ]
        refine wpAnyH_take (i := 9) (oi := { dst := some 30, op := Op.extract (Operand.tmp 21) 1, type := 4, pos := "meter.go:65", after := #[{ on := 7, ground := Ground.data }, { on := 11, ground := Ground.gcOnly Departure.lateStores }], guard := none }) (v := ?vv9) rfl (by kernel_rfl) (by kernel_rfl) (by kernel_rfl) (fun _ _ _ h => h) (Or.inl ⟨by rfl, ?hy9⟩) (by assumption) ?rs9
        case hy9 => (intro w hSw; (try dsimp only at hSw); go_simp) <;> with_reducible rfl
        try simp only [Act.put, List.setIfInBounds_toArray, List.set_cons_zero, List.set_cons_succ]
        refine wpAnyH_ready (rs := [10]) (by kernel_rfl) (by simp) ?_
        refine AllReadyH.cons (o := { dst := some 7, op := Op.alloc 32, type := 0, pos := "meter.go:65", after := #[], guard := none }) rfl (fun K hK => ?_) AllReadyH.nil
        go_simp
        refine hK.out _ _ ?_ (fun hHeld => ?_)
        · exact ⟨((G1.out.alloc G1.out.size _).cell (p := ⟨mb, 2, none⟩) hlm).trans m2, ((G1.out.alloc G1.out.size _).cell (p := ⟨bx, 0, none⟩) hlx).trans x0⟩
        clear hK K
        try simp only [Act.put, List.setIfInBounds_toArray, List.set_cons_zero, List.set_cons_succ]
        refine wpAnyH_ready (rs := [11]) (by kernel_rfl) (by simp) ?_
        refine AllReadyH.cons (o := { dst := none, op := Op.store 32 (Operand.tmp 7) (Operand.tmp 29), type := 0, pos := "meter.go:65", after := #[{ on := 10, ground := Ground.data }, { on := 8, ground := Ground.data }, { on := 6, ground := Ground.chain }, { on := 0, ground := Ground.phase }, { on := 1, ground := Ground.phase }, { on := 2, ground := Ground.phase }, { on := 3, ground := Ground.phase }, { on := 4, ground := Ground.phase }, { on := 5, ground := Ground.phase }, { on := 6, ground := Ground.phase }, { on := 7, ground := Ground.phase }, { on := 8, ground := Ground.phase }, { on := 9, ground := Ground.textOnly Departure.lateStores }, { on := 10, ground := Ground.phase }], guard := none }) rfl (fun K hK => ?_) AllReadyH.nil
        go_simp
        refine hK.out _ _ ?_ (fun hHeld => ?_)
        · exact ⟨((G1.out.alloc G1.out.size _).cell (p := ⟨mb, 2, none⟩) hlm).trans m2, ((G1.out.alloc G1.out.size _).cell (p := ⟨bx, 0, none⟩) hlx).trans x0⟩
        clear hK K
        try simp only [Act.put, List.setIfInBounds_toArray, List.set_cons_zero, List.set_cons_succ]
        refine wpAnyH_take (i := 12) (oi := { dst := some 8, op := Op.assign (Operand.tmp 30), type := 4, pos := "meter.go:65", after := #[{ on := 9, ground := Ground.data }, { on := 11, ground := Ground.chain }, { on := 0, ground := Ground.phase }, { on := 1, ground := Ground.phase }, { on := 2, ground := Ground.phase }, { on := 3, ground := Ground.phase }, { on := 4, ground := Ground.phase }, { on := 5, ground := Ground.phase }, { on := 6, ground := Ground.phase }, { on := 7, ground := Ground.phase }, { on := 8, ground := Ground.phase }, { on := 9, ground := Ground.phase }, { on := 10, ground := Ground.phase }, { on := 11, ground := Ground.phase }], guard := none }) (v := ?vv10) rfl (by kernel_rfl) (by kernel_rfl) (by kernel_rfl) (fun _ _ _ h => h) (Or.inl ⟨by rfl, ?hy10⟩) (by assumption) ?rs10
        case hy10 => (intro w hSw; (try dsimp only at hSw); go_simp) <;> with_reducible rfl
        try simp only [Act.put, List.setIfInBounds_toArray, List.set_cons_zero, List.set_cons_succ]
        refine wpAnyH_done (by kernel_rfl) ?_ _
        simp only [NoPanic]
        go_wp2_with fail
        go_meet
        first | exact ⟨_, rfl, rfl, Lib.hid ⟨Ev.boxE_sets G1.out (Nat.le_refl _) _ _ _ _ _, Ev.boxE_set HX3.out u⟩⟩ | exact ⟨_, rfl, rfl, Lib.hid ⟨G1.out.alloc G1.out.size _, blk_new w3 _⟩⟩
      refine AllReadyH.cons (o := { dst := some 7, op := Op.alloc 32, type := 0, pos := "meter.go:65", after := #[], guard := none }) rfl (fun K hK => ?_) AllReadyH.nil
      go_simp
      refine hK.out _ _ ?_ (fun hHeld => ?_)
      · go_keep
      clear hK K
      try simp only [Act.put, List.setIfInBounds_toArray, List.set_cons_zero, List.set_cons_succ]
      refine wpAnyH_ready (rs := [6]) (by kernel_rfl) (by simp) ?_
      refine AllReadyH.cons (o := { dst := some 28, op := Op.call { callee := Callee.value (Operand.func 24), args := #[Operand.tmp 25, Operand.tmp 27], argTypes := #[56, 9] }, type := 71, pos := "meter.go:65", after := #[{ on := 3, ground := Ground.data }, { on := 5, ground := Ground.data }], guard := none }) rfl (fun K hK => ?_) AllReadyH.nil
      go_simp
      go_at_call 24; (with_reducible refine (HG.out _ ?_).mono ?_); exact ((Below.refl _ _).alloc (Nat.le_refl _) _).drew; rintro e w3 ⟨rfl, g1⟩
      have G1 : Hid (Below w2.heap.size w2 w3) := Lib.hid ((((Below.refl _ _).alloc (Nat.le_refl _) _).drew).trans (g1.mono (by simp)))
      have HX3 : Hid (Ev.BoxAtE w3 w2.heap.size Ev.zero) := Lib.hid (Ev.boxE_below (w := (w2.alloc _).drew) (blk_new w2 _) g1)
      obtain ⟨⟨d0, d1, d2, d3, d4⟩, z0, z1, z2, z3, z4⟩ := Ev.boxE_cells HX3.out
      clear g1
      go_wp2_with fail
      refine hK.out _ _ ?_ (fun hHeld => ?_)
      · exact ⟨(G1.out.cell (p := ⟨mb, 2, none⟩) hlm).trans m2, (G1.out.cell (p := ⟨bx, 0, none⟩) hlx).trans x0⟩
      clear hK K
      try simp only [Act.put, List.setIfInBounds_toArray, List.set_cons_zero, List.set_cons_succ]
      refine wpAnyH_take (i := 7) (oi := { dst := some 21, op := Op.move (Operand.tmp 28), type := 71, pos := "meter.go:65", after := #[{ on := 6, ground := Ground.data }], guard := none }) (v := ?vv11) rfl (by kernel_rfl) (by kernel_rfl) (by kernel_rfl) (fun _ _ _ h => h) (Or.inl ⟨by rfl, ?hy11⟩) (by assumption) ?rs11
      case hy11 => (intro w hSw; (try dsimp only at hSw); go_simp) <;> with_reducible rfl
      try simp only [Act.put, List.setIfInBounds_toArray, List.set_cons_zero, List.set_cons_succ]
      refine wpAnyH_take (i := 8) (oi := { dst := some 29, op := Op.extract (Operand.tmp 21) 0, type := 32, pos := "meter.go:65", after := #[{ on := 7, ground := Ground.data }], guard := none }) (v := ?vv12) rfl (by kernel_rfl) (by kernel_rfl) (by kernel_rfl) (fun _ _ _ h => h) (Or.inl ⟨by rfl, ?hy12⟩) (by assumption) ?rs12
      case hy12 => (intro w hSw; (try dsimp only at hSw); go_simp) <;> with_reducible rfl
      try simp only [Act.put, List.setIfInBounds_toArray, List.set_cons_zero, List.set_cons_succ]
      refine wpAnyH_take (i := 9) (oi := { dst := some 30, op := Op.extract (Operand.tmp 21) 1, type := 4, pos := "meter.go:65", after := #[{ on := 7, ground := Ground.data }, { on := 11, ground := Ground.gcOnly Departure.lateStores }], guard := none }) (v := ?vv13) rfl (by kernel_rfl) (by kernel_rfl) (by kernel_rfl) (fun _ _ _ h => h) (Or.inl ⟨by rfl, ?hy13⟩) (by assumption) ?rs13
      case hy13 => (intro w hSw; (try dsimp only at hSw); go_simp) <;> with_reducible rfl
      try simp only [Act.put, List.setIfInBounds_toArray, List.set_cons_zero, List.set_cons_succ]
      refine wpAnyH_ready (rs := [11]) (by kernel_rfl) (by simp) ?_
      refine AllReadyH.cons (o := { dst := none, op := Op.store 32 (Operand.tmp 7) (Operand.tmp 29), type := 0, pos := "meter.go:65", after := #[{ on := 10, ground := Ground.data }, { on := 8, ground := Ground.data }, { on := 6, ground := Ground.chain }, { on := 0, ground := Ground.phase }, { on := 1, ground := Ground.phase }, { on := 2, ground := Ground.phase }, { on := 3, ground := Ground.phase }, { on := 4, ground := Ground.phase }, { on := 5, ground := Ground.phase }, { on := 6, ground := Ground.phase }, { on := 7, ground := Ground.phase }, { on := 8, ground := Ground.phase }, { on := 9, ground := Ground.textOnly Departure.lateStores }, { on := 10, ground := Ground.phase }], guard := none }) rfl (fun K hK => ?_) AllReadyH.nil
      go_simp
      refine hK.out _ _ ?_ (fun hHeld => ?_)
      · exact ⟨((Ev.boxE_sets G1.out (Nat.le_refl _) _ _ _ _ _).cell (p := ⟨mb, 2, none⟩) hlm).trans m2, ((Ev.boxE_sets G1.out (Nat.le_refl _) _ _ _ _ _).cell (p := ⟨bx, 0, none⟩) hlx).trans x0⟩
      clear hK K
      try simp only [Act.put, List.setIfInBounds_toArray, List.set_cons_zero, List.set_cons_succ]
      refine wpAnyH_take (i := 12) (oi := { dst := some 8, op := Op.assign (Operand.tmp 30), type := 4, pos := "meter.go:65", after := #[{ on := 9, ground := Ground.data }, { on := 11, ground := Ground.chain }, { on := 0, ground := Ground.phase }, { on := 1, ground := Ground.phase }, { on := 2, ground := Ground.phase }, { on := 3, ground := Ground.phase }, { on := 4, ground := Ground.phase }, { on := 5, ground := Ground.phase }, { on := 6, ground := Ground.phase }, { on := 7, ground := Ground.phase }, { on := 8, ground := Ground.phase }, { on := 9, ground := Ground.phase }, { on := 10, ground := Ground.phase }, { on := 11, ground := Ground.phase }], guard := none }) (v := ?vv14) rfl (by kernel_rfl) (by kernel_rfl) (by kernel_rfl) (fun _ _ _ h => h) (Or.inl ⟨by rfl, ?hy14⟩) (by assumption) ?rs14
      case hy14 => (intro w hSw; (try dsimp only at hSw); go_simp) <;> with_reducible rfl
      try simp only [Act.put, List.setIfInBounds_toArray, List.set_cons_zero, List.set_cons_succ]
      refine wpAnyH_done (by kernel_rfl) ?_ _
      simp only [NoPanic]
      go_wp2_with fail
      go_meet
      first | exact ⟨_, rfl, rfl, Lib.hid ⟨Ev.boxE_sets G1.out (Nat.le_refl _) _ _ _ _ _, Ev.boxE_set HX3.out u⟩⟩ | exact ⟨_, rfl, rfl, Lib.hid ⟨G1.out.alloc G1.out.size _, blk_new w3 _⟩⟩
    case rest =>
      obtain ⟨bw, rfl, rfl, hcc⟩ := hcut
      clear x0 x1 x2 x3 x4 m2
      have HBX3 : Hid (Ev.BoxAtE wc bx v) := Lib.hid (Ev.boxE_below HBW2.out hcc.out.1)
      have HM3 : Hid (IsBlk wc mb (mtrCells 1 tb s.n) 70) := Lib.hid ((hcc.out.1.block _ (lt_of_block HB2.out)).trans HB2.out)
      have HT3 : Hid (Ev.STab wc tb s.t s.ver) := Lib.hid (HT2.out.below hcc.out.1)
      have HW : Hid (Below w.heap.size w w1) := Lib.hid (HWB.out.trans (HB1.out.mono HWB.out.size))
      have HK3 : Hid (Keeps (Two mb tb) w1 wc) := Lib.hid ((HK2.out.mono (fun _ _ h => Or.inl h)).trans' ((Keeps.of_below hcc.out.1).mono (fun _ _ h => h.elim)))
      obtain ⟨⟨x0, x1, x2, x3, x4⟩, -⟩ := Ev.boxE_cells HBX3.out
      obtain ⟨⟨y0, y1, y2, y3, y4⟩, -⟩ := Ev.boxE_cells hcc.out.2
      cases q with
      | true =>
        go_upto_region 8 with fail
        go_cut [34] from 32 to 35 (fun b wx => wx = wc ∧ b = .bool (decide (u ≠ v)))
        case first =>
          go_wp2_with (fail)
          all_goals
            go_meet
            refine ⟨rfl, ?_⟩
          all_goals first
            | (have hne : u ≠ v := by rintro rfl; contradiction
               rw [decide_eq_true hne])
            | (have hne : u = v := by apply ev_eq <;> assumption
               rw [decide_eq_false (by simp [hne])])
        case rest =>
          obtain ⟨rfl, rfl⟩ := hcut
          have HO : Hid (s.t.get slt v.key = some u) := Lib.hid (by
            have h1 := HUQ.out.1; have h2 := HUQ.out.2.1; have h3 := HUQ.out.2.2
            rw [← h1]; cases o with
            | none => cases h3
            | some x => rw [h2]; rfl)
          by_cases huv : u = v
          · have HU := Lib.hid huv
            have HA := Lib.hid (m_add wc mb tb 1 s.n HM3.out HI.out.2.1.1 (by have := HI.out.2.1.2; omega))
            rw [decide_eq_false (by simp [huv])]
            clear huv y0 y1 y2 y3 y4
            go_wp2_with (fail)
            refine HA.out.mono ?_
            rintro e w4 ⟨⟨_, rfl⟩, hb4, hk4, hz4⟩
            have HB4 := Lib.hid hb4
            have HK4 := Lib.hid hk4
            clear hb4 hk4 hz4
            go_wp2_with (fail)
            refine leaves_cons (f := 23) (args := #[.pointer (some ⟨mb, 0, none⟩)]) (by simp) (by simp [go_sem]) ?_
            refine (mu_unlockD _ mb .returning HB4.out).mono ?_
            rintro e u' w5 ⟨rfl, rfl, hb5, hk5, _⟩
            have hf := ing_fin HW.out (HK3.out.trans' (HK4.out.mono (fun _ _ h => Or.inl h))) HB4.out (HT3.out.keeps HK4.out (tab_ne HT3.out HM3.out) (node_ne HM3.out)) hb5 hk5
            refine ⟨_, results_tmp2 rfl _ _ _, ?_, ?_, hf.2⟩
            · unfold ingR; rw [if_pos HCK.out, HO.out]; simp only [if_pos HU.out]; rfl
            · unfold ingS; rw [if_pos HCK.out, HO.out]; simp only [if_pos HU.out]; exact hf.1
          · have HU := Lib.hid huv
            rw [decide_eq_true huv]
            clear huv y0 y1 y2 y3 y4
            go_wp2_with (fail)
            refine leaves_cons (f := 23) (args := #[.pointer (some ⟨mb, 0, none⟩)]) (by simp) (by simp [go_sem]) ?_
            refine (mu_unlockD _ mb .returning HM3.out).mono ?_
            rintro e u' w5 ⟨rfl, rfl, hb5, hk5, _⟩
            have hf := ing_fin HW.out HK3.out HM3.out HT3.out hb5 hk5
            refine ⟨_, results_tmp2 rfl _ _ _, ?_, ?_, hf.2⟩
            · unfold ingR; rw [if_pos HCK.out, HO.out]; simp only [if_neg HU.out]; rfl
            · unfold ingS; rw [if_pos HCK.out, HO.out]; simp only [if_neg HU.out]; exact hf.1
      | false =>
        have HO : Hid (s.t.get slt v.key = none) := Lib.hid (by
          have h1 := HUQ.out.1; have h3 := HUQ.out.2.2
          rw [← h1]; cases o with
          | none => rfl
          | some x => cases h3)
        clear y0 y1 y2 y3 y4
        have m3 : wc.cell? ⟨mb, 2, none⟩ = some (.pointer (some ⟨tb, 0, none⟩)) := blk_cell HM3.out 2
        have HN := Lib.hid (Ev.t_len wc tb s.t s.ver HT3.out)
        go_wp2_with (fail)
        refine HN.out.mono ?_
        rintro e w4 ⟨rfl, g4⟩
        have HBX4 : Hid (Ev.BoxAtE w4 bx v) := Lib.hid (Ev.boxE_below HBX3.out g4)
        have HM4 : Hid (IsBlk w4 mb (mtrCells 1 tb s.n) 70) := Lib.hid ((g4.block _ (lt_of_block HM3.out)).trans HM3.out)
        have HT4 : Hid (Ev.STab w4 tb s.t s.ver) := Lib.hid (HT3.out.below g4)
        have HK4 : Hid (Keeps (Two mb tb) w1 w4) := Lib.hid (HK3.out.trans' ((Keeps.of_below g4).mono (fun _ _ h => h.elim)))
        clear x0 x1 x2 x3 x4 m3 g4
        by_cases hbig : 5000 ≤ (s.t.size : Int)
        · have HU : Hid (5000 ≤ s.t.size) := Lib.hid (by omega)
          go_wp2_with (fail)
          refine leaves_cons (f := 23) (args := #[.pointer (some ⟨mb, 0, none⟩)]) (by simp) (by simp [go_sem]) ?_
          refine (mu_unlockD _ mb .returning HM4.out).mono ?_
          rintro e u' w5 ⟨rfl, rfl, hb5, hk5, _⟩
          have hf := ing_fin HW.out HK4.out HM4.out HT4.out hb5 hk5
          refine ⟨_, results_tmp2 rfl _ _ _, ?_, ?_, hf.2⟩
          · unfold ingR; rw [if_pos HCK.out, HO.out]; simp only [if_pos HU.out]; rfl
          · unfold ingS; rw [if_pos HCK.out, HO.out]; simp only [if_pos HU.out]; exact hf.1
        · have HU : Hid (¬ 5000 ≤ s.t.size) := Lib.hid (by omega)
          have m4 : w4.cell? ⟨mb, 2, none⟩ = some (.pointer (some ⟨tb, 0, none⟩)) := blk_cell HM4.out 2
          obtain ⟨⟨x0, x1, x2, x3, x4⟩, -⟩ := Ev.boxE_cells HBX4.out
          have HP : Hid (∀ W, Below w4.heap.size w4 W → Calls Tryz.prog 27 #[.pointer (some ⟨tb, 0, none⟩), .string v.key, .agg #[.string v.key, .string v.acct, .string v.mtr, .int .i64 v.qty, .int .i64 v.at_]] W fun e w' => e = .returned (.tuple #[]) ∧ Ev.STab w' tb (s.t.put slt v.key v) (s.ver + 1) ∧ Keeps (Only tb) W w') :=
            Lib.hid (fun W hW => Ev.t_put W tb s.t s.ver v.key v (HT4.out.below hW) HI.out.1.1 (by have := HI.out.1.2; omega) HI.out.2.2)
          have hne : mb ≠ tb := fun e => tab_ne HT4.out HM4.out e.symm
          have hnb : bx ≠ tb := by obtain ⟨_, hx, _⟩ := HT4.out.ex; exact ne_of_type HBX4.out hx (by decide)
          go_wp2_with (fail)
          go_region_held3 (fun w' => w'.cell? ⟨mb, 2, none⟩ = some (.pointer (some ⟨tb, 0, none⟩)) ∧ w'.cell? ⟨bx, 0, none⟩ = some (.string v.key) ∧ w'.cell? ⟨bx, 1, none⟩ = some (.string v.acct) ∧ w'.cell? ⟨bx, 2, none⟩ = some (.string v.mtr) ∧ w'.cell? ⟨bx, 3, none⟩ = some (.int .i64 v.qty) ∧ w'.cell? ⟨bx, 4, none⟩ = some (.int .i64 v.at_))
            (first
              | go_keep
              | exact ⟨blk_cell (k5.obj HM4.out hne) 2, (Ev.boxE_cells (v := v) (k5.obj HBX4.out hnb)).1⟩)
            (first
              | (go_at_call 27; (with_reducible refine (HP.out _ ?_).mono ?_); exact (Below.refl _ _).drew; rintro e w5 ⟨rfl, t5, k5'⟩; have k5 : Keeps (Only tb) w4 w5 := ((Keeps.of_below (Below.refl _ _).drew).mono (fun _ _ h => h.elim)).trans' k5'; clear k5'))
          have HM5 : Hid (IsBlk w5 mb (mtrCells 1 tb s.n) 70) := Lib.hid (k5.obj HM4.out hne)
          have HT5 := Lib.hid t5
          have HK5 := Lib.hid k5
          clear x0 x1 x2 x3 x4 m4 t5 k5
          go_wp2_with (fail)
          refine leaves_cons (f := 23) (args := #[.pointer (some ⟨mb, 0, none⟩)]) (by simp) (by simp [go_sem]) ?_
          refine (mu_unlockD _ mb .returning HM5.out).mono ?_
          rintro e u' w6 ⟨rfl, rfl, hb5, hk5, _⟩
          have hf := ing_fin HW.out (HK4.out.trans' (HK5.out.mono (fun _ _ h => Or.inr h))) HM5.out HT5.out hb5 hk5
          refine ⟨_, results_tmp2 rfl _ _ _, ?_, ?_, hf.2⟩
          · unfold ingR; rw [if_pos HCK.out, HO.out]; simp only [if_neg HU.out]; rfl
          · unfold ingS; rw [if_pos HCK.out, HO.out]; simp only [if_neg HU.out]; exact hf.1
  · have HW : Hid (Below w.heap.size w w1) := Lib.hid (HWB.out.trans (HB1.out.mono HWB.out.size))
    have HM1 : Hid (MtrIn w1 mb tb s) := Lib.hid ⟨(HB1.out.block _ (lt_of_block HM.out.blk)).trans HM.out.blk, HM.out.tab.below HB1.out⟩
    have HCK : Hid (checkE v = c) := Lib.hid hc.symm
    have HNZ : Hid (¬ c = 0) := Lib.hid hbad
    clear hc
    go_wp2_with (fail)
    refine ⟨_, results_tmp2 rfl _ _ _, ?_, ?_, (Keeps.of_below HW.out).mono (fun _ _ h => h.elim)⟩
    · unfold ingR; rw [if_neg (by rw [HCK.out]; exact HNZ.out), HCK.out]; rfl
    · unfold ingS; rw [if_neg (by rw [HCK.out]; exact HNZ.out)]; exact HM1.out
end Go.Proofs.YtkbdofbjfcajbaaGreat
