/- The meter's Totals. -/
import Derived.Test.YtkbdofbjfcajbaaGreatE13
namespace Go.Proofs.YtkbdofbjfcajbaaGreat
open Go.RowKit Go.Shelf Go.Sort

theorem ev_cells {w : World} {a : Option Addr} {cap : Nat} {L : List Ev} (h : SlAt evKind 32 w (.slice a L.length cap) L) {j : Nat} {x : Ev} (hx : L[j]? = some x) :
    ∃ g off, a = some ⟨g, off, none⟩ ∧ w.cell? ⟨g, off + j * 5, none⟩ = some (.string x.key) ∧ w.cell? ⟨g, off + j * 5 + 1, none⟩ = some (.string x.acct) ∧ w.cell? ⟨g, off + j * 5 + 2, none⟩ = some (.string x.mtr) ∧ w.cell? ⟨g, off + j * 5 + 3, none⟩ = some (.int .i64 x.qty) ∧ w.cell? ⟨g, off + j * 5 + 4, none⟩ = some (.int .i64 x.at_) := by
  obtain ⟨a', cap', hv, hc⟩ := h.rd
  simp only [Value.slice.injEq] at hv
  obtain ⟨rfl, -, rfl⟩ := hv
  obtain ⟨g, off, ha, hcell⟩ := hc j x hx
  have h0 := hcell 0 (by decide)
  have h1 := hcell 1 (by decide)
  have h2 := hcell 2 (by decide)
  have h3 := hcell 3 (by decide)
  have h4 := hcell 4 (by decide)
  exact ⟨g, off, ha, h0, h1, h2, h3, h4⟩
/-- While Totals goes over the events. -/
structure ToI (w : World) (v : Value) (L : List Ev) (i : Nat) (A : World) : Prop where
  mp : MapAt strKind evTot A w.heap.size (totM (L.take i))
  sl : SlAt evKind 32 A v L
  new : ∀ g, v.ownBlock = some g → w.heap.size < g
  below : Below w.heap.size w A
theorem ToI.round {w A : World} {v : Value} {L : List Ev} {i : Nat} (h : ToI w v L i A) {x : Ev} (hx : L[i]? = some x) (hq : ∀ e ∈ L, 0 ≤ e.qty ∧ e.qty ≤ 1099511627776) (hl : L.length ≤ 100000) :
    ∃ (q : Tot) (w' : World), (Instr.lookup 76 (.map (some w.heap.size)) (.string x.mtr) false).run Tryz.prog (A.alloc (.cells #[.string x.key, .string x.acct, .string x.mtr, .int .i64 x.qty, .int .i64 x.at_] 32)) = .ok (.agg #[.string q.mtr, .int .i64 q.qty, .int .i64 q.cnt]) (A.alloc (.cells #[.string x.key, .string x.acct, .string x.mtr, .int .i64 x.qty, .int .i64 x.at_] 32)) ∧
      (Instr.mapUpdate 76 (.map (some w.heap.size)) (.string x.mtr) (.agg #[.string x.mtr, .int .i64 (q.qty + x.qty), .int .i64 (q.cnt + 1)])).run Tryz.prog ((A.alloc (.cells #[.string x.key, .string x.acct, .string x.mtr, .int .i64 x.qty, .int .i64 x.at_] 32)).alloc (.cells #[.string q.mtr, .int .i64 q.qty, .int .i64 q.cnt] 37)) = .ok () w' ∧
      (0 ≤ q.qty ∧ q.qty ≤ 109951162777600000) ∧ (0 ≤ q.cnt ∧ q.cnt ≤ 100000) ∧ (0 ≤ x.qty ∧ x.qty ≤ 1099511627776) ∧ ToI w v L (i + 1) w' := by
  have hi : i < L.length := (List.getElem?_eq_some_iff.1 hx).1
  have hxl : x ∈ L := List.mem_of_getElem? hx
  have b1 : Below A.heap.size A (A.alloc (.cells #[.string x.key, .string x.acct, .string x.mtr, .int .i64 x.qty, .int .i64 x.at_] 32)) := (Below.refl _ _).alloc (Nat.le_refl _) _
  refine ⟨(findL slt (totM (L.take i)) x.mtr).getD Tot.zero, ?_⟩
  have hb := tot_bound (l := L.take i) (fun e he => hq e (List.mem_of_mem_take he)) x.mtr
  have hlt : (L.take i).length ≤ 100000 := by rw [List.length_take]; omega
  have hsn : totM (L.take (i + 1)) = putL slt (totM (L.take i)) x.mtr (upT (findL slt (totM (L.take i)) x.mtr) x) := by
    have e : L.take (i + 1) = L.take i ++ [x] := by
      obtain ⟨hj, he⟩ := List.getElem?_eq_some_iff.1 hx
      rw [List.take_succ_eq_append_getElem hj, he]
    rw [e]; exact Kv.tally_snoc _ _ _ x
  have hup : upT (findL slt (totM (L.take i)) x.mtr) x = ⟨x.mtr, ((findL slt (totM (L.take i)) x.mtr).getD Tot.zero).qty + x.qty, ((findL slt (totM (L.take i)) x.mtr).getD Tot.zero).cnt + 1⟩ := rfl
  have hlk := (h.mp.below b1).lookup (P := Tryz.prog) (t := 76) Tryz.underlying76 Tryz.underlying9 (Tryz.zeroValue37 _) x.mtr false
  rw [if_neg (by simp)] at hlk
  have e1 : ((findL strKind.lt (totM (L.take i)) x.mtr).map evTot).getD (.agg #[.string ⟨#[]⟩, .int .i64 0, .int .i64 0]) = evTot ((findL slt (totM (L.take i)) x.mtr).getD Tot.zero) := by
    show ((findL slt (totM (L.take i)) x.mtr).map evTot).getD (.agg #[.string ⟨#[]⟩, .int .i64 0, .int .i64 0]) = _
    cases findL slt (totM (L.take i)) x.mtr <;> rfl
  rw [e1] at hlk
  generalize (findL slt (totM (L.take i)) x.mtr).getD Tot.zero = q at hb hup hlk ⊢
  have b2 : Below (A.alloc (.cells #[.string x.key, .string x.acct, .string x.mtr, .int .i64 x.qty, .int .i64 x.at_] 32)).heap.size (A.alloc (.cells #[.string x.key, .string x.acct, .string x.mtr, .int .i64 x.qty, .int .i64 x.at_] 32)) ((A.alloc (.cells #[.string x.key, .string x.acct, .string x.mtr, .int .i64 x.qty, .int .i64 x.at_] 32)).alloc (.cells #[.string q.mtr, .int .i64 q.qty, .int .i64 q.cnt] 37)) := (Below.refl _ _).alloc (Nat.le_refl _) _
  have b12 := b1.trans (b2.mono b1.size)
  obtain ⟨w', hu, hmp, hk, hz⟩ := (h.mp.below b12).update (P := Tryz.prog) (t := 76) Tryz.underlying76 Tryz.underlying9 x.mtr (upT (findL slt (totM (L.take i)) x.mtr) x)
  rw [hup] at hu
  have hx2 := hq x hxl
  refine ⟨w', hlk, hu, ⟨hb.1, ?_⟩, ⟨hb.2.2.1, ?_⟩, hx2, ?_⟩
  · have : ((L.take i).length : Int) * 1099511627776 ≤ 100000 * 1099511627776 := by
      have : ((L.take i).length : Int) ≤ 100000 := by omega
      omega
    omega
  · have : ((L.take i).length : Int) ≤ 100000 := by omega
    omega
  · refine ⟨by rw [hsn]; exact hmp, ?_, h.new, ?_⟩
    · exact (h.sl.below b12).keeps hk (fun g hg e => by have := h.new g hg; omega)
    · exact below_keeps (h.below.trans (b12.mono h.below.size)) hk (fun i e => by omega) (Nat.le_trans h.below.size b12.size)
theorem tx_cell {w : World} {a : Option Addr} {cap : Nat} {L : List ByteArray} (h : SlAt textKind 9 w (.slice a L.length cap) L) {j : Nat} {x : ByteArray} (hx : L[j]? = some x) :
    ∃ g off, a = some ⟨g, off, none⟩ ∧ w.cell? ⟨g, off + j, none⟩ = some (.string x) := by
  obtain ⟨a', cap', hv, hc⟩ := h.rd
  simp only [Value.slice.injEq] at hv
  obtain ⟨rfl, -, rfl⟩ := hv
  obtain ⟨g, off, ha, hcell⟩ := hc j x hx
  have h0 := hcell 0 (by decide)
  have e : off + j * textKind.size + 0 = off + j := by show off + j * 1 + 0 = _; omega
  rw [e] at h0
  exact ⟨g, off, ha, h0⟩
theorem infoTot : (Tryz.prog.info? 37).map (fun i => (i.zero, i.size, i.bytes)) = some (some (.agg #[.string ⟨#[]⟩, .int .i64 0, .int .i64 0]), 3, 32) := by kernel_rfl
theorem append_tot {w : World} {v u : Value} {xs ys : List Tot} (hv : SlAt totKind 37 w v xs) (hu : RdAt totKind w u ys) (hn : xs.length + ys.length ≤ 1000000) (ty : TypeId) :
    ∃ v' w', (Builtin.append_ #[33, 33] ty #[v, u]).run Tryz.prog w = .ok v' w' ∧ SlAt totKind 37 w' v' (xs ++ ys) ∧ Keeps (fun k => v.ownBlock = some k) w w' ∧
      (∀ k, v'.ownBlock = some k → v.ownBlock = some k ∨ w.heap.size ≤ k) ∧ (v' = .slice none 0 0 ↔ v = .slice none 0 0 ∧ ys = []) := by
  obtain ⟨i0, hi, hz0, hz1, hz2⟩ := info_parts infoTot
  exact run_append_sl (ek := totKind) 33 ty i0 _ 32 Tryz.underlying33 hi hz0 hz1 hz2 rfl hv hu (by unfold maxLen; omega) (by omega)
/-- A list of totals that grows, in blocks of its own. -/
structure RowT (w wr : World) (v : Value) (xs : List Tot) : Prop where
  sl : SlAt totKind 37 wr v xs
  new : ∀ g, v.ownBlock = some g → w.heap.size ≤ g
  below : Below w.heap.size w wr
theorem RowT.push {w wr : World} {v : Value} {xs : List Tot} (h : RowT w wr v xs) (r : Tot) (hl : xs.length ≤ 100000) :
    ∃ v' w', (Builtin.append_ #[33, 33] 33 #[v, .slice (some ⟨wr.heap.size, 0, none⟩) 1 1]).run Tryz.prog (wr.alloc (.cells #[.string r.mtr, .int .i64 r.qty, .int .i64 r.cnt] 37)) = .ok v' w' ∧ RowT w w' v' (xs ++ [r]) := by
  have hu : RdAt totKind (wr.alloc (.cells #[.string r.mtr, .int .i64 r.qty, .int .i64 r.cnt] 37)) (.slice (some ⟨wr.heap.size, 0, none⟩) 1 1) [r] := by
    refine ⟨_, 1, rfl, fun j y hy => ⟨wr.heap.size, 0, rfl, fun i hi => ?_⟩⟩
    match j, hy with
    | 0, hy =>
      simp only [List.getElem?_cons_zero, Option.some.injEq] at hy
      subst hy
      have := blk_cell (w := wr.alloc (.cells #[.string r.mtr, .int .i64 r.qty, .int .i64 r.cnt] 37)) (cs := (totCells r).toArray) (heap_alloc_new wr _) i
      rw [show 0 + 0 * totKind.size + i = i by omega]
      rw [this]
      simp [totKind]
  have hal : Below wr.heap.size wr (wr.alloc (.cells #[.string r.mtr, .int .i64 r.qty, .int .i64 r.cnt] 37)) := (Below.refl _ _).alloc (Nat.le_refl _) _
  obtain ⟨v', w', hrun, hs, hk, ho, _⟩ := append_tot (h.sl.below hal) hu (by simp only [List.length_cons, List.length_nil]; omega) 33
  refine ⟨v', w', hrun, hs, fun g hg => ?_, below_keeps (h.below.trans (hal.mono h.below.size)) hk (fun i e => h.new i e) (Nat.le_trans h.below.size hal.size)⟩
  rcases ho g hg with e | e
  · exact h.new g e
  · have := hal.size; have := h.below.size; omega
set_option maxRecDepth 100000 in
set_option maxHeartbeats 4000000 in
theorem m_totals (w : World) (mb tb : Nat) (s : MSt) (n : ByteArray) (a b : Int) (hm : MtrIn w mb tb s) (hn : n.size ≤ 9223372036854775807) (hs : s.t.size < 100000) (hfit : ∀ x ∈ s.t.ino, x.2.mtr.size ≤ 1000000 ∧ 0 ≤ x.2.qty ∧ x.2.qty ≤ 1099511627776) :
    Calls Tryz.prog 10 #[.pointer (some ⟨mb, 0, none⟩), .string n, .int .i64 a, .int .i64 b] w fun e w' => ∃ v L, e = .returned (.tuple #[v, .int .i64 (withinE n a b)]) ∧ L.Perm (if withinE n a b = 0 then selE n a b s.t.ino else []) ∧ SlAt totKind 37 w' v ((totM L).map (·.2)) ∧ (∀ g, v.ownBlock = some g → w.heap.size ≤ g) ∧ Below w.heap.size w w' := by
  have HWI := Lib.hid (fun W => m_within W n hn a b)
  have HEV : Hid (∀ W, Below w.heap.size w W → Calls Tryz.prog 13 #[.pointer (some ⟨mb, 0, none⟩), .string n, .int .i64 a, .int .i64 b] W fun e w' => ∃ v L, e = .returned v ∧ SlAt evKind 32 w' v L ∧ L.Perm (if withinE n a b = 0 then selE n a b s.t.ino else []) ∧ L.Pairwise (fun x y => evLt y x = false) ∧ (∀ g, v.ownBlock = some g → W.heap.size ≤ g) ∧ Below W.heap.size W w') :=
    Lib.hid (fun W hW => m_events W mb tb s n a b (hm.below hW) hn hs)
  have HF := Lib.hid (And.intro hs hfit)
  obtain ⟨c, hcc⟩ : ∃ c, c = withinE n a b := ⟨_, rfl⟩
  rw [← hcc] at HWI HEV ⊢
  obtain ⟨S, hS⟩ : ∃ S, S = (if c = 0 then selE n a b s.t.ino else []) := ⟨_, rfl⟩
  rw [← hS] at HEV ⊢
  have HSE := Lib.hid hS
  have hmm := run_makeMap (P := Tryz.prog) 76 w
  clear hm hn hs hfit hcc hS
  go_enter Tryz.func10, Tryz.ntmps10
  go_wp2_with fail
  refine (HWI.out _).mono ?_
  rintro e w1 ⟨rfl, rfl⟩
  by_cases h0 : c = 0
  · subst h0
    go_wp2_with fail
    have hb1 : Below w.heap.size w (w.alloc (.map #[] 0)) := (Below.refl _ _).alloc (Nat.le_refl _) _
    have hmp1 : MapAt strKind evTot (w.alloc (.map #[] 0)) w.heap.size (totM []) := mapAt_made w
    have hz1 : (w.alloc (.map #[] 0)).heap.size = w.heap.size + 1 := by simp
    refine (HEV.out _ hb1).mono ?_
    rintro e w2 ⟨v, L, rfl, hsl, hp, hpw, hnew, hb2⟩
    have HT : Hid (ToI w v L 0 w2) := Lib.hid ⟨by rw [List.take_zero]; exact hmp1.below hb2, hsl, fun g hg => by have := hnew g hg; omega, hb1.trans (hb2.mono hb1.size)⟩
    obtain ⟨av, cv, hv⟩ := hsl.shape
    subst hv
    have HPM := Lib.hid hp
    have HLL : Hid (L.length ≤ 100000 ∧ (∀ e ∈ L, 0 ≤ e.qty ∧ e.qty ≤ 1099511627776) ∧ ∀ e ∈ L, e.mtr.size ≤ 1000000) := Lib.hid (by
      have hsub : ∀ e ∈ L, ∃ x ∈ s.t.ino, x.2 = e := fun e he => by
        have h1 := hp.mem_iff.1 he
        rw [HSE.out] at h1
        simp only [if_true] at h1
        unfold selE at h1
        obtain ⟨x, hx, rfl⟩ := List.mem_map.1 (List.mem_filter.1 h1).1
        exact ⟨x, hx, rfl⟩
      refine ⟨?_, fun e he => by obtain ⟨x, hx, rfl⟩ := hsub e he; exact (HF.out.2 x hx).2, fun e he => by obtain ⟨x, hx, rfl⟩ := hsub e he; exact (HF.out.2 x hx).1⟩
      rw [hp.length_eq, HSE.out]
      simp only [if_true]
      have h1 : (selE n a b s.t.ino).length ≤ s.t.ino.length := by unfold selE; exact Nat.le_trans (List.length_filter_le _ _) (by simp)
      rw [Tr.ino_length] at h1
      have := HF.out.1; omega)
    clear hsl hp hpw hnew hb2 hb1 hmp1 hz1 hmm
    go_wp2_with fail
    go_loopw [32] (fun i wr => ∃ q : Nat, q ≤ L.length ∧ i = .int .i64 q ∧ Hid (ToI w (.slice av L.length cv) L q wr)) (fun i _ => L.length - (intOf i).toNat)
    case atStart => exact ⟨0, Nat.zero_le _, rfl, HT⟩
    case round =>
      obtain ⟨q, hq, rfl, HJ⟩ := hrel
      have hll : (L.length : Int) ≤ 100000 := by have := HLL.out.1; omega
      by_cases hql : q < L.length
      · obtain ⟨x, hx⟩ : ∃ x, L[q]? = some x := ⟨_, List.getElem?_eq_getElem hql⟩
        obtain ⟨g, off, rfl, d0, d1, d2, d3, d4⟩ := ev_cells HJ.out.sl hx
        obtain ⟨t, w', hlk, hup, ⟨t0, t1⟩, ⟨t2, t3⟩, ⟨t4, t5⟩, hI⟩ := HJ.out.round hx HLL.out.2.1 HLL.out.1
        have HI := Lib.hid hI
        have k1 : (0 : Int) ≤ (q : Int) := by omega
        have k2 : (q : Int) < (L.length : Int) := by omega
        clear hx hI
        go_wp2_with (fail)
        go_roundw
        case rel => exact ⟨q + 1, by omega, by go_num, HI⟩
        case measure => simp [intOf]; omega
      · have k2 : ¬ (q : Int) < (L.length : Int) := by omega
        have hq2 : q = L.length := by omega
        subst hq2
        have hmp := HJ.out.mp
        rw [List.take_length] at hmp
        obtain ⟨M, hM⟩ : ∃ M, M = totM L := ⟨_, rfl⟩
        rw [← hM] at hmp
        have HMM := Lib.hid hM
        have hml : M.length ≤ 100000 := by
          have h1 : (totM L).length ≤ L.length := Kv.tally_len (fun e : Ev => e.mtr) upT L
          have := HLL.out.1
          rw [hM]; omega
        have HSO := Lib.hid (sortedTot hmp (by omega) (by
          intro x hx
          rw [hM] at hx
          rcases Kv.tally_keys _ _ hx with ⟨e, h1, h2⟩ | ⟨y, hy, _⟩
          · have h3 := HLL.out.2.2 e h1; replace h2 : e.mtr = x.1 := h2; rw [← h2]; unfold maxLen; omega
          · cases hy))
        have HMP := Lib.hid hmp
        have HML := Lib.hid hml
        clear hmp hml hM
        go_wp2_with (fail)
        refine (keysTot _ _).mono ?_
        rintro e w4 ⟨rfl, rfl⟩
        go_wp2_with fail
        refine HSO.out.mono ?_
        rintro e w5 ⟨kv, rfl, hks, hkn, hb5⟩
        obtain ⟨ak, ck, hkv⟩ := hks.shape
        subst hkv
        have hlm : (M.map (·.1)).length = M.length := List.length_map _
        have HKS := Lib.hid hks
        have HMP5 := Lib.hid (HMP.out.below hb5)
        have HB5 : Hid (Below w.heap.size w w5) := Lib.hid (HJ.out.below.trans (hb5.mono HJ.out.below.size))
        rw [hlm] at HKS ⊢
        clear hks hkn hb5 hlm
        go_wp2_with fail
        go_loopw [15, 59] (fun v i wr => ∃ q : Nat, q ≤ M.length ∧ i = .int .i64 q ∧ Hid (RowT w5 wr v ((M.take q).map (·.2)))) (fun _ i _ => M.length - (intOf i).toNat)
        case atStart => exact ⟨0, Nat.zero_le _, rfl, Lib.hid ⟨SlAt.nil, fun g hg => (by cases hg), Below.refl _ _⟩⟩
        case round =>
          obtain ⟨i, hi, rfl, HR⟩ := hrel
          have hll2 : (M.length : Int) ≤ 100000 := by have := HML.out; omega
          by_cases hil : i < M.length
          · obtain ⟨⟨k, t⟩, hx⟩ : ∃ x, M[i]? = some x := ⟨_, List.getElem?_eq_getElem hil⟩
            have hkx : (M.map (·.1))[i]? = some k := by rw [List.getElem?_map, hx]; rfl
            obtain ⟨g, off, rfl, d0⟩ := tx_cell (L := M.map (·.1)) (by rw [List.length_map]; exact HKS.out.below HR.out.below) hkx
            have hfk := Kv.find_of_mem HMP5.out.rise (List.mem_of_getElem? hx)
            have hlk := (HMP5.out.below HR.out.below).lookup (P := Tryz.prog) (t := 76) Tryz.underlying76 Tryz.underlying9 (Tryz.zeroValue37 _) k false
            rw [if_neg (by simp)] at hlk
            replace hlk : (Instr.lookup 76 (.map (some w.heap.size)) (.string k) false).run Tryz.prog wr = .ok (.agg #[.string t.mtr, .int .i64 t.qty, .int .i64 t.cnt]) wr := by
              have e : ((findL strKind.lt M k).map evTot).getD (.agg #[.string ⟨#[]⟩, .int .i64 0, .int .i64 0]) = evTot t := by
                show ((findL slt M k).map evTot).getD (.agg #[.string ⟨#[]⟩, .int .i64 0, .int .i64 0]) = _
                rw [hfk]; rfl
              rw [e] at hlk
              exact hlk
            obtain ⟨v', w', hrun, hT⟩ := HR.out.push t (by rw [List.length_map, List.length_take]; have := HML.out; omega)
            have htk : (M.take i).map (·.2) ++ [t] = (M.take (i + 1)).map (·.2) := by
              obtain ⟨hj, he⟩ := List.getElem?_eq_some_iff.1 hx
              rw [List.take_succ_eq_append_getElem hj, he, List.map_append]; rfl
            rw [htk] at hT
            have HN := Lib.hid hT
            have k1 : (0 : Int) ≤ (i : Int) := by omega
            have k2' : (i : Int) < (M.length : Int) := by omega
            clear hx hkx hfk hT htk
            go_wp2_with (at_builtin; refine wpList_append_run rfl (.tmp 63) (.tmp 67) 33 rfl _ _ rfl rfl _ _ hrun ?_)
            go_roundw
            case rel => exact ⟨i + 1, by omega, by go_num, HN⟩
            case measure => simp [intOf]; omega
          · have k2' : ¬ (i : Int) < (M.length : Int) := by omega
            have hq3 : i = M.length := by omega
            subst hq3
            have hfin := HR.out
            rw [List.take_length, HMM.out] at hfin
            have HFN := Lib.hid hfin
            clear hfin
            go_wp2_with (fail)
            go_ret2
            exact ⟨_, rfl, L, HPM.out, HFN.out.sl, fun g hg => by have := HFN.out.new g hg; have := HB5.out.size; omega, HB5.out.trans (HFN.out.below.mono HB5.out.size)⟩
  · have H0 := Lib.hid h0
    go_wp2_with fail
    go_ret2
    exact ⟨_, [], rfl, by rw [HSE.out, if_neg H0.out], SlAt.nil, fun g hg => (by cases hg), Below.refl _ _⟩
end Go.Proofs.YtkbdofbjfcajbaaGreat
