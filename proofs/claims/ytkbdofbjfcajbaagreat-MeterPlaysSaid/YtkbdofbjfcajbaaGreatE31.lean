/- Of the document's answer of chapter 13: Totals. -/
import Derived.Test.YtkbdofbjfcajbaaGreatE30
namespace Go.Proofs.YtkbdofbjfcajbaaGreat
open Go.RowKit Go.Shelf Go.Sort

theorem infoHTot : (Tryz.prog.info? 101).map (fun i => (i.zero, i.size, i.bytes)) = some (some (.agg #[.string ⟨#[]⟩, .int .i64 0, .int .i64 0]), 3, 32) := by kernel_rfl
theorem append_htot {w : World} {v u : Value} {xs ys : List Tot} (hv : SlAt totKind 101 w v xs) (hu : RdAt totKind w u ys) (hn : xs.length + ys.length ≤ 1000000) (ty : TypeId) :
    ∃ v' w', (Builtin.append_ #[98, 98] ty #[v, u]).run Tryz.prog w = .ok v' w' ∧ SlAt totKind 101 w' v' (xs ++ ys) ∧ Keeps (fun k => v.ownBlock = some k) w w' ∧
      (∀ k, v'.ownBlock = some k → v.ownBlock = some k ∨ w.heap.size ≤ k) := by
  obtain ⟨i0, hi, hz0, hz1, hz2⟩ := info_parts infoHTot
  obtain ⟨v', w', h1, h2, h3, h4, _⟩ := run_append_sl (ek := totKind) (P := Tryz.prog) 98 ty i0 _ 32 Tryz.underlying98 hi hz0 hz1 hz2 rfl hv hu (by unfold maxLen; omega) (by omega)
  exact ⟨v', w', h1, h2, h3, h4⟩
theorem one_htot (w : World) (x : Tot) : RdAt totKind (w.alloc (.cells #[.string x.mtr, .int .i64 x.qty, .int .i64 x.cnt] 101)) (.slice (some ⟨w.heap.size, 0, none⟩) 1 1) [x] := by
  refine ⟨_, _, rfl, fun j y hy => ?_⟩
  obtain ⟨rfl, rfl⟩ : j = 0 ∧ y = x := by
    cases j with
    | zero => simp at hy; exact ⟨rfl, hy.symm⟩
    | succ j => simp at hy
  refine ⟨_, _, rfl, fun i hi => ?_⟩
  rw [show 0 + 0 * totKind.size + i = i from by omega, blk_cell (blk_new w _)]
  show ((totCells y).toArray)[i]? = _
  rw [List.getElem?_toArray]
  rfl
/-- A list of the document's totals, of the call's own. -/
structure HtI (w : World) (v : Value) (xs : List Tot) (wr : World) : Prop where
  sl : SlAt totKind 101 wr v xs
  new : ∀ g, v.ownBlock = some g → w.heap.size ≤ g
  below : Below w.heap.size w wr
theorem HtI.start (w : World) : HtI w (.slice none 0 0) [] w := ⟨SlAt.nil, fun g hg => (by cases hg), Below.refl _ _⟩
theorem HtI.ext {w wr w' : World} {v : Value} {xs : List Tot} (h : HtI w v xs wr) (hb : Below wr.heap.size wr w') : HtI w v xs w' := ⟨h.sl.below hb, h.new, h.below.trans (hb.mono h.below.size)⟩
theorem HtI.push {w wr : World} {v : Value} {xs : List Tot} (h : HtI w v xs wr) (x : Tot) (hl : xs.length ≤ 100000) :
    ∃ v' w', (Builtin.append_ #[98, 98] 98 #[v, .slice (some ⟨wr.heap.size, 0, none⟩) 1 1]).run Tryz.prog (wr.alloc (.cells #[.string x.mtr, .int .i64 x.qty, .int .i64 x.cnt] 101)) = .ok v' w' ∧ Hid (HtI w v' (xs ++ [x]) w') := by
  have hal : Below wr.heap.size wr (wr.alloc (.cells #[.string x.mtr, .int .i64 x.qty, .int .i64 x.cnt] 101)) := (Below.refl _ _).alloc (Nat.le_refl _) _
  obtain ⟨v', w', hrun, hs, hk, ho⟩ := append_htot (h.sl.below hal) (one_htot wr x) (by simp only [List.length_cons, List.length_nil]; omega) 98
  refine ⟨v', w', hrun, Lib.hid ⟨hs, fun g hg => ?_, below_keeps (h.below.trans (hal.mono h.below.size)) hk (fun i e => h.new i e) (Nat.le_trans h.below.size hal.size)⟩⟩
  rcases ho g hg with e | e
  · exact h.new g e
  · have := hal.size; have := h.below.size; omega
def TotPost (w : World) (n : ByteArray) (a b : Int) (l : List Ev) (e : Ending) (w' : World) : Prop := ∃ (oa : Option Addr) (oc : Nat) (R : List Tot), e = .returned (.tuple #[.slice oa R.length oc, .int .i64 (withinE n a b)]) ∧ RdAt totKind w' (.slice oa R.length oc) R ∧ R = (totM (if withinE n a b = 0 then l.filter (inE n a b) else [])).map (·.2) ∧ Below w.heap.size w w'
/-- A meter's box, while its events are summed. -/
def TBox (w : World) (tb : Nat) (m : ByteArray) (q c : Int) : Prop := IsBlk w tb #[.string m, .int .i64 q, .int .i64 c] 101
theorem tbox_cells {w : World} {tb : Nat} {m : ByteArray} {q c : Int} (h : TBox w tb m q c) : (w.cell? ⟨tb, 0, none⟩ = some (.string m) ∧ w.cell? ⟨tb, 1, none⟩ = some (.int .i64 q) ∧ w.cell? ⟨tb, 2, none⟩ = some (.int .i64 c)) ∧ (w.frozen? ⟨tb, 0, none⟩ = false ∧ w.frozen? ⟨tb, 1, none⟩ = false ∧ w.frozen? ⟨tb, 2, none⟩ = false) :=
  ⟨⟨blk_cell h 0, blk_cell h 1, blk_cell h 2⟩, blk_free h 0, blk_free h 1, blk_free h 2⟩
theorem tbox_set1 {w : World} {tb : Nat} {m : ByteArray} {q c : Int} (h : TBox w tb m q c) (q' : Int) : TBox (w.setCell ⟨tb, 1, none⟩ (.int .i64 q')) tb m q' c := blk_set h 1 (.int .i64 q')
theorem tbox_set2 {w : World} {tb : Nat} {m : ByteArray} {q c : Int} (h : TBox w tb m q c) (c' : Int) : TBox (w.setCell ⟨tb, 2, none⟩ (.int .i64 c')) tb m q c' := blk_set h 2 (.int .i64 c')
theorem tbox_below {w w' : World} {tb : Nat} {m : ByteArray} {q c : Int} (h : TBox w tb m q c) (hb : Below w.heap.size w w') : TBox w' tb m q c := (hb.block _ (lt_of_block h)).trans h
theorem ofM_snoc (m : ByteArray) (l : List Ev) (x : Ev) : ofM m (l ++ [x]) = ofM m l ++ (if x.mtr = m then [x] else []) := by
  unfold ofM
  rw [List.filter_append, List.filter_cons]
  by_cases h : x.mtr = m
  · rw [if_pos (by simpa using h), if_pos h]; rfl
  · rw [if_neg (by simpa using h), if_neg h]; rfl
theorem qsum_append (l m : List Ev) : qsum (l ++ m) = qsum l + qsum m := by rw [qsum_zs, qsum_zs, qsum_zs, zs_append]
set_option maxRecDepth 100000 in
set_option maxHeartbeats 8000000 in
theorem hm_totals (w : World) (hb : Nat) (v : Value) (l : List Ev) (h : DocIn w hb v l) (hl : l.length ≤ 1000) (hi : ∀ x ∈ l, IntsOk x) (hq : ∀ x ∈ l, 0 ≤ x.qty ∧ x.qty ≤ 1099511627776) (n : ByteArray) (hn : n.size ≤ 9223372036854775807) (a b : Int) :
    Calls Tryz.prog 45 #[.pointer (some ⟨hb, 0, none⟩), .string n, .int .i64 a, .int .i64 b] w (TotPost w n a b l) := by
  have HEV := Lib.hid (hm_events w hb v l h hl hi n hn a b)
  have HBO := Lib.hid (hm_bounds w n hn a b)
  have HN := Lib.hid hl
  have HQ := Lib.hid hq
  obtain ⟨c, hc⟩ : ∃ c, c = withinE n a b := ⟨_, rfl⟩
  rw [← hc] at HBO
  have HC := Lib.hid hc
  clear h hl hi hq hc hn
  go_enter Tryz.func45, Tryz.ntmps45
  go_wp2_with (fail)
  refine HBO.out.mono ?_
  rintro e w1 ⟨rfl, rfl⟩
  by_cases hc0 : c = 0
  case neg =>
    go_wp2_with (fail)
    go_ret2
    exact ⟨none, 0, [], by rw [← HC.out]; rfl, rd_empty _ _, by rw [if_neg (by rw [← HC.out]; exact hc0)]; rfl, Below.refl _ _⟩
  have HCP : Hid (withinE n a b = 0) := Lib.hid (by rw [← HC.out]; exact hc0)
  subst hc0
  clear HBO HC
  go_wp2_with (fail)
  refine HEV.out.mono ?_
  rintro e w2 ⟨ea, ec, L, rfl, hsl, hp, -, hb2⟩
  have HSL := Lib.hid hsl
  have HP : Hid (L.Perm (l.filter (inE n a b))) := Lib.hid (by rwa [if_pos HCP.out] at hp)
  have HB2 := Lib.hid hb2
  have HLL : Hid (L.length ≤ 1000) := Lib.hid (by rw [HP.out.length_eq]; exact Nat.le_trans (List.length_filter_le _ _) HN.out)
  have HLQ : Hid (∀ x ∈ L, 0 ≤ x.qty ∧ x.qty ≤ 1099511627776) := Lib.hid fun x hx => HQ.out x (List.mem_filter.1 (HP.out.mem_iff.1 hx)).1
  have hli : (L.length : Int) ≤ 1000 := by have := HLL.out; omega
  clear hsl hp hb2
  go_upto_block 0 with (fail)
  go_cut [12, 13] from 30 to 45 (fun ov _ wx => ∃ (oa : Option Addr) (m oc : Nat), ov = .slice oa m oc ∧ Hid (m = (L.map (·.mtr)).length ∧ TxI w2 (.slice oa m oc) (L.map (·.mtr)) wx))
  case first => as_aux_lemma =>
    go_wp2_with (fail)
    go_loopw [12, 13] (fun ov iv wr => ∃ (q m : Nat) (oa : Option Addr) (oc : Nat), q ≤ L.length ∧ iv = .int .i64 q ∧ ov = .slice oa m oc ∧ Hid (m = ((L.take q).map (·.mtr)).length) ∧ Hid (TxI w2 (.slice oa m oc) ((L.take q).map (·.mtr)) wr)) (fun _ iv _ => L.length - (intOf iv).toNat)
    case atStart => exact ⟨0, 0, none, 0, Nat.zero_le _, rfl, rfl, Lib.hid rfl, Lib.hid (TxI.start w2)⟩
    case round =>
      obtain ⟨q, m, oa, oc, hq, rfl, rfl, HM, HI⟩ := hrel
      have q1 : (0 : Int) ≤ (q : Int) := by omega
      by_cases hql : q < L.length
      · have q2 : (q : Int) < (L.length : Int) := by omega
        obtain ⟨x, hx⟩ : ∃ x, L[q]? = some x := ⟨_, List.getElem?_eq_getElem hql⟩
        obtain ⟨g, off, rfl, d0, d1, d2, d3, d4⟩ := rd_cells (HSL.out.rd.below HI.out.below) hx
        obtain ⟨v', w', hrun, HF⟩ := HI.out.push x.mtr (by rw [List.length_map, List.length_take]; have := HLL.out; omega)
        rw [← map_take (·.mtr) hx] at HF
        obtain ⟨a3, c3, rfl⟩ := HF.out.sl.shape
        obtain ⟨n2, hn2⟩ : ∃ n2, n2 = ((L.take (q + 1)).map (·.mtr)).length := ⟨_, rfl⟩
        rw [← hn2] at HF hrun
        have HN2 := Lib.hid hn2
        clear hx hn2
        go_wp2_with (at_builtin; refine wpList_append_run rfl (.tmp 36) (.tmp 42) 40 rfl _ _ rfl rfl _ _ hrun ?_)
        go_roundw
        case rel => exact ⟨q + 1, n2, _, c3, by omega, by go_num, rfl, HN2, HF⟩
        case measure => simp [intOf]; omega
      · have q2 : ¬ (q : Int) < (L.length : Int) := by omega
        have hqe : q = L.length := by omega
        subst hqe
        rw [List.take_length] at HM HI
        go_wp2_with (fail)
        go_meet
        exact ⟨oa, m, oc, rfl, Lib.hid ⟨HM.out, HI.out⟩⟩
  case rest =>
    obtain ⟨oa, m, oc, rfl, HI⟩ := hcut
    obtain ⟨xs, hxs⟩ : ∃ xs, xs = L.map (·.mtr) := ⟨_, rfl⟩
    rw [← hxs] at HI
    obtain rfl := HI.out.1
    have HXS := Lib.hid hxs
    have HRI := Lib.hid (r_rising wc oa oc xs HI.out.2.sl.rd (by rw [hxs, List.length_map]; exact HLL.out))
    clear hxs
    go_wp2_with (fail)
    refine HRI.out.mono ?_
    rintro e w4 ⟨u, R, rfl, hR⟩
    obtain ⟨ua, uc, rfl⟩ := hR.sl.shape
    have HR := Lib.hid hR
    have HRS : Hid (Rising (L.map (·.mtr)) R) := Lib.hid (by have := hR.ri; rw [List.take_length, HXS.out] at this; exact this)
    have HRL : Hid (R.length ≤ 1000) := Lib.hid (by have := rising_len HRS.out; rw [List.length_map] at this; exact Nat.le_trans this HLL.out)
    have HSL4 : Hid (RdAt evKind w4 (.slice ea L.length ec) L) := Lib.hid (HSL.out.rd.below (HI.out.2.below.trans (hR.below.mono HI.out.2.below.size)))
    have HB4 : Hid (Below w.heap.size w w4) := Lib.hid (HB2.out.trans ((HI.out.2.below.trans (hR.below.mono HI.out.2.below.size)).mono HB2.out.size))
    have hri : (R.length : Int) ≤ 1000 := by have := HRL.out; omega
    clear hR HRI HXS
    go_wp2_with (fail)
    go_loopw [14, 15, 16, 17] (fun ov iv _ _ wr => ∃ (q k : Nat) (oa : Option Addr) (oc : Nat), q ≤ R.length ∧ iv = .int .i64 q ∧ ov = .slice oa k oc ∧ Hid (k = ((R.take q).map fun m => (⟨m, qsum (ofM m L), ((ofM m L).length : Int)⟩ : Tot)).length ∧ HtI w4 (.slice oa k oc) ((R.take q).map fun m => ⟨m, qsum (ofM m L), ((ofM m L).length : Int)⟩) wr)) (fun _ iv _ _ _ => R.length - (intOf iv).toNat)
    case atStart => exact ⟨0, 0, none, 0, Nat.zero_le _, rfl, rfl, Lib.hid ⟨rfl, HtI.start w4⟩⟩
    case round =>
      obtain ⟨q, k, ta, tc, hq, rfl, rfl, HT⟩ := hrel
      have q1 : (0 : Int) ≤ (q : Int) := by omega
      by_cases hql : q < R.length
      · have q2 : (q : Int) < (R.length : Int) := by omega
        obtain ⟨m, hm⟩ : ∃ m, R[q]? = some m := ⟨_, List.getElem?_eq_getElem hql⟩
        obtain ⟨g, off, rfl, d0⟩ := rdt_cell (HR.out.sl.rd.below HT.out.2.below) hm
        have CELL : Hid (∀ W, Below wr.heap.size wr W → W.cell? ⟨g, off + q, none⟩ = some (.string m)) := Lib.hid fun W hW => (hW.cell (p := ⟨g, off + q, none⟩) (World.block_lt_of_cell? _ _ d0)).trans d0
        have HM := Lib.hid hm
        clear hm
        obtain ⟨wo, rfl⟩ : ∃ wo : World, wo = wr := ⟨_, rfl⟩
        obtain ⟨w5, hw5⟩ : ∃ w5, w5 = wo.alloc (.cells #[.string m, .int .i64 0, .int .i64 0] 101) := ⟨_, rfl⟩
        obtain ⟨tb, htb⟩ : ∃ tb, tb = wo.heap.size := ⟨_, rfl⟩
        have HW5 := Lib.hid hw5
        have HTE := Lib.hid htb
        have HB5 := Lib.hid (alloc_step hw5)
        have HTB : Hid (TBox w5 tb m 0 0) := Lib.hid (by rw [hw5, htb]; exact blk_new wo _)
        clear hw5 htb
        go_upto_block 4 with (fail)
        rw [← HW5.out, ← HTE.out]
        clear d0
        go_cut [17] from 46 to 89 (fun _ wx => Hid (TBox wx tb m (qsum (ofM m L)) ((ofM m L).length : Int) ∧ Below wo.heap.size wo wx))
        case first => as_aux_lemma =>
          go_wp2_with (fail)
          go_loopw [17] (fun kv wr => ∃ k : Nat, k ≤ L.length ∧ kv = .int .i64 k ∧ Hid (TBox wr tb m (qsum (ofM m (L.take k))) ((ofM m (L.take k)).length : Int) ∧ Below wo.heap.size wo wr)) (fun kv _ => L.length - (intOf kv).toNat)
          case atStart => exact ⟨0, Nat.zero_le _, rfl, Lib.hid ⟨HTB.out, HB5.out⟩⟩
          case round =>
            obtain ⟨i, hi, rfl, HJ⟩ := hrel
            have i1 : (0 : Int) ≤ (i : Int) := by omega
            by_cases hil : i < L.length
            · have i2 : (i : Int) < (L.length : Int) := by omega
              obtain ⟨x, hx⟩ : ∃ x, L[i]? = some x := ⟨_, List.getElem?_eq_getElem hil⟩
              have HWB : Hid (Below w4.heap.size w4 wr) := Lib.hid (HT.out.2.below.trans (HJ.out.2.mono HT.out.2.below.size))
              obtain ⟨eg, eo, rfl, f0, f1, f2, f3, f4⟩ := rd_cells (HSL4.out.below HWB.out) hx
              have d0 := CELL.out _ HJ.out.2
              have HSN := Lib.hid (take_snoc hx)
              have hxq := HLQ.out x (List.mem_of_getElem? hx)
              have hqb := qsum_bound (Q := 1099511627776) (ofM m (L.take i)) (fun e he => HLQ.out e (List.mem_of_mem_take (List.mem_filter.1 he).1))
              have hlb : (ofM m (L.take i)).length ≤ 1000 := Nat.le_trans (List.length_filter_le _ _) (by rw [List.length_take]; have := HLL.out; omega)
              obtain ⟨qv, hqv⟩ : ∃ qv, qv = qsum (ofM m (L.take i)) := ⟨_, rfl⟩
              obtain ⟨cv, hcv⟩ : ∃ cv : Int, cv = ((ofM m (L.take i)).length : Int) := ⟨_, rfl⟩
              have HTK : Hid (TBox wr tb m qv cv) := Lib.hid (by rw [hqv, hcv]; exact HJ.out.1)
              have HQV := Lib.hid hqv
              have HCV := Lib.hid hcv
              rw [← hqv] at hqb
              have q0 : 0 ≤ qv := hqb.1
              have q3 : qv ≤ 1200000000000000 := by have := hqb.2; omega
              have c0 : 0 ≤ cv := by omega
              have c1 : cv ≤ 1000 := by omega
              have x0 : 0 ≤ x.qty := hxq.1
              have x1 : x.qty ≤ 1099511627776 := hxq.2
              clear hx hxq hqb hlb hqv hcv
              by_cases he : x.mtr = m
              · rw [he] at f2
                have HNX : Hid (qsum (ofM m (L.take (i + 1))) = qv + x.qty ∧ ((ofM m (L.take (i + 1))).length : Int) = cv + 1) := Lib.hid (by
                  rw [HSN.out, ofM_snoc, if_pos he, qsum_append, ← HQV.out, List.length_append, HCV.out]
                  refine ⟨by simp [qsum], by simp⟩)
                clear he
                go_wp2_with (fail)
                go_quiet (fail)
                have HTQ : Hid (TBox (wr.drewN nq) tb m qv cv) := HTK
                have HBQ : Hid (Below wo.heap.size wo (wr.drewN nq)) := Lib.hid (HJ.out.2.trans ((below_drewN' wr nq).mono HJ.out.2.size))
                have f3q : (wr.drewN nq).cell? ⟨eg, eo + i * 5 + 3, none⟩ = some (.int .i64 x.qty) := f3
                clear f0 f1 f2 f3 f4 d0 HTK HJ
                obtain ⟨wy, hwy⟩ : ∃ wy, wy = wr.drewN nq := ⟨_, rfl⟩
                rw [← hwy] at HTQ HBQ f3q ⊢
                clear hwy
                obtain ⟨⟨t0, t1, t2⟩, z0, z1, z2⟩ := tbox_cells HTQ.out
                have hs1 : IntKind.i64.wrap (qv + x.qty) = qv + x.qty := IntWalk.i64_in _ (by omega)
                go_wp2_with (fail)
                go_region
                have hlt : wo.heap.size ≤ tb := by rw [HTE.out]; exact Nat.le_refl _
                have HLT := Lib.hid hlt
                clear hlt
                go_wp2_with (fail)
                go_roundw
                case rel =>
                  refine ⟨i + 1, by omega, by go_num, Lib.hid ⟨?_, ?_⟩⟩
                  · rw [HNX.out.1, HNX.out.2]
                    exact tbox_set2 (tbox_set1 HTQ.out (qv + x.qty)) (cv + 1)
                  · exact ((HBQ.out.drew.setCell (p := ⟨tb, 1, none⟩) HLT.out _).setCell (p := ⟨tb, 2, none⟩) HLT.out _)
                case measure => simp [intOf]; omega
              · have hne : (x.mtr.toList == m.toList) = false := beq_eq_false_iff_ne.2 (fun e => he (str_inj e))
                have HNX : Hid (qsum (ofM m (L.take (i + 1))) = qv ∧ ((ofM m (L.take (i + 1))).length : Int) = cv) := Lib.hid (by
                  rw [HSN.out, ofM_snoc, if_neg he, List.append_nil]
                  exact ⟨HQV.out.symm, HCV.out.symm⟩)
                clear he
                go_wp2_with (fail)
                go_quiet (fail)
                go_wp2_with (fail)
                go_roundw
                case rel =>
                  refine ⟨i + 1, by omega, by go_num, Lib.hid ⟨?_, ?_⟩⟩
                  · rw [HNX.out.1, HNX.out.2]
                    exact HTK.out
                  · exact HJ.out.2.trans ((below_drewN' wr nq).mono HJ.out.2.size)
                case measure => simp [intOf]; omega
            · have i2 : ¬ (i : Int) < (L.length : Int) := by omega
              have hie : i = L.length := by omega
              subst hie
              rw [List.take_length] at HJ
              go_wp2_with (fail)
              go_meet
              exact HJ
        case rest =>
          have HF : Hid (TBox wc tb m (qsum (ofM m L)) ((ofM m L).length : Int) ∧ Below wo.heap.size wo wc) := hcut
          clear hcut
          obtain ⟨qv, hqv⟩ : ∃ qv, qv = qsum (ofM m L) := ⟨_, rfl⟩
          obtain ⟨cv, hcv⟩ : ∃ cv : Int, cv = ((ofM m L).length : Int) := ⟨_, rfl⟩
          rw [← hqv, ← hcv] at HF
          have HTN := Lib.hid (HT.out.2.ext HF.out.2)
          obtain ⟨v', w', hrun, HP2⟩ := HTN.out.push ⟨m, qv, cv⟩ (by rw [List.length_map, List.length_take]; have := HRL.out; omega)
          have HMT := Lib.hid (map_take (fun m => (⟨m, qsum (ofM m L), ((ofM m L).length : Int)⟩ : Tot)) HM.out)
          have HP3 : Hid (HtI w4 v' ((R.take (q + 1)).map fun m => (⟨m, qsum (ofM m L), ((ofM m L).length : Int)⟩ : Tot)) w') := Lib.hid (by rw [HMT.out, ← hqv, ← hcv]; exact HP2.out)
          obtain ⟨a3, c3, rfl⟩ := HP3.out.sl.shape
          obtain ⟨n2, hn2⟩ : ∃ n2, n2 = ((R.take (q + 1)).map fun m => (⟨m, qsum (ofM m L), ((ofM m L).length : Int)⟩ : Tot)).length := ⟨_, rfl⟩
          rw [← hn2] at HP3 hrun
          have HN2 := Lib.hid hn2
          obtain ⟨⟨t0, t1, t2⟩, -⟩ := tbox_cells HF.out.1
          clear hqv hcv hn2 HP2 HMT
          go_wp2_with (at_builtin; refine wpList_append_run rfl (.tmp 86) (.tmp 88) 98 rfl _ _ rfl rfl _ _ hrun ?_)
          go_roundw
          case rel => exact ⟨q + 1, n2, _, c3, by omega, by go_num, rfl, Lib.hid ⟨HN2.out, HP3.out⟩⟩
          case measure => simp [intOf]; omega
      · have q2 : ¬ (q : Int) < (R.length : Int) := by omega
        have hqe : q = R.length := by omega
        subst hqe
        have HF := Lib.hid HT.out.2
        rw [List.take_length, ← tots_rising HRS.out] at HF
        have HK : Hid (k = ((totM L).map (·.2)).length) := Lib.hid (by rw [tots_rising HRS.out]; have := HT.out.1; rwa [List.take_length] at this)
        go_wp2_with (fail)
        go_ret2
        rw [HK.out] at HF
        exact ⟨ta, tc, (totM L).map (·.2), by rw [HCP.out, ← HK.out]; rfl, HF.out.sl.rd, by rw [if_pos HCP.out, totM_perm HP.out], HB4.out.trans (HF.out.below.mono HB4.out.size)⟩
end Go.Proofs.YtkbdofbjfcajbaaGreat
