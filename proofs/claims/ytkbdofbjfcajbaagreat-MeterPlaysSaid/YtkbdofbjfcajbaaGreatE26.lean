/- Of the document's answer of chapter 13: its boxes, Instant, Check, bounds, Find. -/
import Derived.Test.YtkbdofbjfcajbaaGreatE16
import Derived.Test.YtkbdofbjfcajbaaGreatE25
namespace Go.Proofs.YtkbdofbjfcajbaaGreat
open Go.RowKit Go.Shelf Go.Sort

def HBox (w : World) (bx : Nat) (v : Ev) : Prop := IsBlk w bx #[.string v.key, .string v.acct, .string v.mtr, .int .i64 v.qty, .int .i64 v.at_] 50
theorem hbox_new (w : World) (v : Ev) : ∃ w1, w.alloc (.cells #[.string v.key, .string v.acct, .string v.mtr, .int .i64 v.qty, .int .i64 v.at_] 50) = w1 ∧ Hid (Below w.heap.size w w1 ∧ HBox w1 w.heap.size v) := ⟨_, rfl, Lib.hid ⟨(Below.refl _ _).alloc (Nat.le_refl _) _, blk_new w _⟩⟩
theorem hbox_cells {w : World} {bx : Nat} {v : Ev} (h : HBox w bx v) : (w.cell? ⟨bx, 0, none⟩ = some (.string v.key) ∧ w.cell? ⟨bx, 1, none⟩ = some (.string v.acct) ∧ w.cell? ⟨bx, 2, none⟩ = some (.string v.mtr) ∧ w.cell? ⟨bx, 3, none⟩ = some (.int .i64 v.qty) ∧ w.cell? ⟨bx, 4, none⟩ = some (.int .i64 v.at_)) ∧
    (w.frozen? ⟨bx, 0, none⟩ = false ∧ w.frozen? ⟨bx, 1, none⟩ = false ∧ w.frozen? ⟨bx, 2, none⟩ = false ∧ w.frozen? ⟨bx, 3, none⟩ = false ∧ w.frozen? ⟨bx, 4, none⟩ = false) :=
  ⟨⟨blk_cell h 0, blk_cell h 1, blk_cell h 2, blk_cell h 3, blk_cell h 4⟩, blk_free h 0, blk_free h 1, blk_free h 2, blk_free h 3, blk_free h 4⟩
theorem hbox_below {w w' : World} {bx : Nat} {v : Ev} (h : HBox w bx v) (hb : Below w.heap.size w w') : HBox w' bx v := (hb.block _ (lt_of_block h)).trans h
theorem hbox_set {w : World} {bx : Nat} {u : Ev} (h : HBox w bx u) (v : Ev) : HBox (((((w.setCell ⟨bx, 0, none⟩ (.string v.key)).setCell ⟨bx, 1, none⟩ (.string v.acct)).setCell ⟨bx, 2, none⟩ (.string v.mtr)).setCell ⟨bx, 3, none⟩ (.int .i64 v.qty)).setCell ⟨bx, 4, none⟩ (.int .i64 v.at_)) bx v := by
  have h5 := blk_set (blk_set (blk_set (blk_set (blk_set h 0 (.string v.key)) 1 (.string v.acct)) 2 (.string v.mtr)) 3 (.int .i64 v.qty)) 4 (.int .i64 v.at_)
  exact h5
set_option maxRecDepth 100000 in
theorem hres_get {fn : Func} (hf : fn.results = #[.cell 4 50, .tmp 5]) {w : World} {bx : Nat} {v : Ev} (h : HBox w bx v) (tmps : Array Value) (b : Bool) (h4 : tmps.getD 4 undef = .pointer (some ⟨bx, 0, none⟩)) (h5 : tmps.getD 5 undef = .bool b) :
    (results fn tmps).run Tryz.prog w = .ok (.tuple #[.agg #[.string v.key, .string v.acct, .string v.mtr, .int .i64 v.qty, .int .i64 v.at_], .bool b]) w := by
  obtain ⟨⟨c0, c1, c2, c3, c4⟩, -⟩ := hbox_cells h
  rw [results_cell_tmp hf, h4, h5]
  go_simp
theorem hm_instant (w : World) (a : Int) : Calls Tryz.prog 43 #[.int .i64 a] w fun e w' => e = .returned (.bool (decide (0 ≤ a) && decide (a ≤ 1099511627776))) ∧ w = w' := by
  by_cases h0 : 0 ≤ a
  · by_cases h1 : a ≤ 1099511627776
    · rw [decide_eq_true h0, decide_eq_true h1]
      go_enter Tryz.func43, Tryz.ntmps43
      go_wp2
      go_ret
      exact ⟨by simp [h1], rfl⟩
    · rw [decide_eq_true h0, decide_eq_false h1]
      go_enter Tryz.func43, Tryz.ntmps43
      go_wp2
      go_ret
      exact ⟨by simp [h1], rfl⟩
  · rw [decide_eq_false h0]
    go_enter Tryz.func43, Tryz.ntmps43
    go_wp2
    go_ret
    exact ⟨rfl, rfl⟩
set_option maxRecDepth 100000 in
set_option maxHeartbeats 4000000 in
theorem hm_bounds (w : World) (n : ByteArray) (hn : n.size ≤ 9223372036854775807) (a b : Int) : Calls Tryz.prog 71 #[.string n, .int .i64 a, .int .i64 b] w fun e w' => e = .returned (.int .i64 (withinE n a b)) ∧ w = w' := by
  have HM := Lib.hid (hm_valid w n hn)
  clear hn
  go_enter Tryz.func71, Tryz.ntmps71
  go_wp2_with (fail)
  refine HM.out.mono ?_
  rintro e w6 ⟨rfl, rfl⟩
  cases hm : validName n with
  | false =>
    have hk : Hid (withinE n a b = 1) := Lib.hid (by unfold withinE; rw [if_pos hm])
    clear hm
    go_wp2_with (fail)
    go_ret
    rw [hk.out]
    exact ⟨rfl, rfl⟩
  | true =>
    have H6 : Hid (a < 0 ∨ 1099511627777 < a ∨ b < 0 ∨ 1099511627777 < b ∨ b < a → withinE n a b = 6) := Lib.hid fun h => by unfold withinE; rw [if_neg (by simp [hm]), if_pos h]
    have H0 : Hid (¬ (a < 0 ∨ 1099511627777 < a ∨ b < 0 ∨ 1099511627777 < b ∨ b < a) → withinE n a b = 0) := Lib.hid fun h => by unfold withinE; rw [if_neg (by simp [hm]), if_neg h]
    clear hm
    by_cases n0 : a < 0
    · go_wp2_with (fail)
      go_ret
      rw [H6.out (by omega)]
      exact ⟨rfl, rfl⟩
    by_cases n1 : 1099511627777 < a
    · go_wp2_with (fail)
      go_ret
      rw [H6.out (by omega)]
      exact ⟨rfl, rfl⟩
    by_cases n4 : b < a
    · go_wp2_with (fail)
      go_ret
      rw [H6.out (by omega)]
      exact ⟨rfl, rfl⟩
    by_cases n3 : 1099511627777 < b
    · go_wp2_with (fail)
      go_ret
      rw [H6.out (by omega)]
      exact ⟨rfl, rfl⟩
    have hk := Lib.hid (H0.out (by omega))
    go_wp2_with (fail)
    go_ret
    rw [hk.out]
    exact ⟨rfl, rfl⟩
theorem keyB_bad {k : ByteArray} {i : Nat} (hi : i < k.size) (h : oddB (k[i]'hi) = true) : keyB k = false := by
  unfold keyB
  rw [List.all_eq_false]
  exact ⟨k[i]'hi, by show k.data[i] ∈ _; simp, by simp [h]⟩
theorem keyB_good {k : ByteArray} (h : ∀ i (hi : i < k.size), oddB (k[i]'hi) = false) : keyB k = true := by
  unfold keyB
  rw [List.all_eq_true]
  intro c hc
  obtain ⟨i, hi⟩ := List.getElem?_of_mem hc
  have hil : i < k.data.size := by have := (List.getElem?_eq_some_iff.1 hi).1; simpa using this
  have e : k.data.toList[i]? = some (k[i]'hil) := by
    rw [List.getElem?_eq_getElem (by simpa using hil)]; rfl
  rw [e] at hi
  rw [← Option.some.inj hi, h i hil]
  rfl
set_option maxRecDepth 100000 in
set_option maxHeartbeats 4000000 in
theorem hm_check (w : World) (v : Ev) (hv : EvFit v) : Calls Tryz.prog 18 #[.agg #[.string v.key, .string v.acct, .string v.mtr, .int .i64 v.qty, .int .i64 v.at_]] w fun e w' => e = .returned (.int .i64 (checkE v)) ∧ Below w.heap.size w w' := by
  obtain ⟨wb, hwb, HBX⟩ := hbox_new w v
  obtain ⟨bx, hbx⟩ : ∃ bx, bx = w.heap.size := ⟨_, rfl⟩
  have HW1 := Lib.hid hwb
  have HBE := Lib.hid hbx
  have HWB : Hid (Below w.heap.size w wb) := Lib.hid HBX.out.1
  have HBW : Hid (HBox wb bx v) := Lib.hid (by rw [hbx]; exact HBX.out.2)
  have HV := Lib.hid hv
  have HA := Lib.hid (hm_valid wb v.acct (by have := hv.acct; omega))
  have HM := Lib.hid (hm_valid wb v.mtr (by have := hv.mtr; omega))
  have HKB := Lib.hid (keyOk_eq v.key)
  clear hwb hbx HBX hv
  go_enter Tryz.func18, Tryz.ntmps18
  go_upto_region 1 with fail
  rw [HW1.out, ← HBE.out]
  clear HW1 HBE
  obtain ⟨⟨x0, x1, x2, x3, x4⟩, -⟩ := hbox_cells HBW.out
  have hks : (v.key.size : Int) ≤ 1000000 := by have := HV.out.key; omega
  by_cases h0 : (v.key.size : Int) < 1
  · have hk : Hid (checkE v = 1) := Lib.hid (checkE_key (by rw [HKB.out, decide_eq_false (by omega : ¬ ¬ v.key.size = 0)]; rfl))
    go_wp2_with (fail)
    go_ret
    rw [hk.out]
    exact ⟨rfl, HWB.out⟩
  by_cases h1 : (40 : Int) < (v.key.size : Int)
  · have hk : Hid (checkE v = 1) := Lib.hid (checkE_key (by rw [HKB.out, decide_eq_false (by omega : ¬ v.key.size ≤ 40)]; simp))
    go_wp2_with (fail)
    go_ret
    rw [hk.out]
    exact ⟨rfl, HWB.out⟩
  have HB1 : Hid (∀ b, keyB v.key = b → keyOk v.key = b) := Lib.hid fun b h => by rw [HKB.out, h, decide_eq_true (by omega : ¬ v.key.size = 0), decide_eq_true (by omega : v.key.size ≤ 40)]; simp
  have H1 : Hid (keyOk v.key = false ∨ namesOk v = false → checkE v = 1) := Lib.hid fun h => by
    cases hk : keyOk v.key with
    | false => exact checkE_key hk
    | true => exact checkE_name hk (by rcases h with h | h; rw [hk] at h; cases h; exact h)
  go_wp2_with (fail)
  refine HA.out.mono ?_
  rintro e w6 ⟨rfl, rfl⟩
  cases ha : validName v.acct with
  | false =>
    have hk : Hid (checkE v = 1) := Lib.hid (H1.out (.inr (by unfold namesOk; rw [ha]; rfl)))
    clear ha
    go_wp2_with (fail)
    go_ret
    rw [hk.out]
    exact ⟨rfl, HWB.out⟩
  | true =>
    have HAT := Lib.hid ha
    clear ha
    go_wp2_with (fail)
    refine HM.out.mono ?_
    rintro e w6 ⟨rfl, rfl⟩
    cases hm : validName v.mtr with
    | false =>
      have hk : Hid (checkE v = 1) := Lib.hid (H1.out (.inr (by unfold namesOk; rw [hm]; simp)))
      clear hm
      go_wp2_with (fail)
      go_ret
      rw [hk.out]
      exact ⟨rfl, HWB.out⟩
    | true =>
      have HN : Hid (namesOk v = true) := Lib.hid (by unfold namesOk; rw [HAT.out, hm]; rfl)
      clear hm
      go_wp2_with (fail)
      go_loop [3] (fun i => ∃ k : Nat, k ≤ v.key.size ∧ i = .int .i64 k ∧ Hid (∀ j (hj : j < v.key.size), j < k → oddB (v.key[j]'hj) = false)) (fun i => v.key.size - (intOf i).toNat)
      case atStart => exact ⟨0, Nat.zero_le _, rfl, Lib.hid fun j hj h => by omega⟩
      case round =>
        obtain ⟨k, hk, rfl, HK⟩ := hrel
        by_cases hlt : k < v.key.size
        · have k1 : (0 : Int) ≤ (k : Int) := by omega
          have k2 : (k : Int) < (v.key.size : Int) := by omega
          have hun : oddB (v.key[k]'hlt) = true ↔ (((v.key[k]'hlt).toNat : Int) < 33 ∨ 126 < ((v.key[k]'hlt).toNat : Int)) := by
            unfold oddB
            simp only [Bool.or_eq_true, decide_eq_true_eq]
          have HUN := Lib.hid hun
          clear hun
          by_cases f0 : ((v.key[k]'hlt).toNat : Int) < 33
          · have ho : Hid (checkE v = 1) := Lib.hid (H1.out (.inl (HB1.out _ (keyB_bad hlt (HUN.out.2 (.inl f0))))))
            go_wp2_with (fail)
            go_ret
            rw [ho.out]
            exact ⟨rfl, HWB.out⟩
          by_cases f1 : 126 < ((v.key[k]'hlt).toNat : Int)
          · have ho : Hid (checkE v = 1) := Lib.hid (H1.out (.inl (HB1.out _ (keyB_bad hlt (HUN.out.2 (.inr f1))))))
            go_wp2_with (fail)
            go_ret
            rw [ho.out]
            exact ⟨rfl, HWB.out⟩
          have hno : Hid (oddB (v.key[k]'hlt) = false) := Lib.hid (by rw [Bool.eq_false_iff]; intro h; have := HUN.out.1 h; omega)
          go_wp2_with (fail)
          go_round
          case rel =>
            refine ⟨k + 1, by omega, by go_num, Lib.hid fun j hj h => ?_⟩
            by_cases e : j = k
            · subst e; exact hno.out
            · exact HK.out j hj (by omega)
          case measure => simp [intOf]; omega
        · obtain hke : k = v.key.size := by omega
          subst hke
          have HKO : Hid (keyOk v.key = true) := Lib.hid (HB1.out _ (keyB_good fun j hj => HK.out j hj hj))
          have HI := Lib.hid (fun W => hm_instant W v.at_)
          by_cases n0 : v.qty < 0
          · have hk : Hid (checkE v = 6) := Lib.hid (checkE_num HKO.out HN.out (numsOk_false (.inl n0)))
            go_wp2_with (fail)
            go_ret
            rw [hk.out]
            exact ⟨rfl, HWB.out⟩
          by_cases n1 : 1099511627776 < v.qty
          · have hk : Hid (checkE v = 6) := Lib.hid (checkE_num HKO.out HN.out (numsOk_false (.inr (.inl n1))))
            go_wp2_with (fail)
            go_ret
            rw [hk.out]
            exact ⟨rfl, HWB.out⟩
          cases hi : (decide (0 ≤ v.at_) && decide (v.at_ ≤ 1099511627776)) with
          | false =>
            have hk : Hid (checkE v = 6) := Lib.hid (checkE_num HKO.out HN.out (by unfold numsOk; rw [Bool.and_assoc, Bool.and_assoc, hi]; simp))
            rw [hi] at HI
            clear hi
            go_wp2_with (fail)
            refine (HI.out _).mono ?_
            rintro e w7 ⟨rfl, rfl⟩
            go_wp2_with (fail)
            go_ret
            rw [hk.out]
            exact ⟨rfl, HWB.out⟩
          | true =>
            have hk : Hid (checkE v = 0) := Lib.hid (checkE_ok HKO.out HN.out (by unfold numsOk; rw [Bool.and_assoc, Bool.and_assoc, hi, decide_eq_true (by omega : 0 ≤ v.qty), decide_eq_true (by omega : v.qty ≤ 1099511627776)]; rfl))
            rw [hi] at HI
            clear hi
            go_wp2_with (fail)
            refine (HI.out _).mono ?_
            rintro e w7 ⟨rfl, rfl⟩
            go_wp2_with (fail)
            go_ret
            rw [hk.out]
            exact ⟨rfl, HWB.out⟩
/-- Where the document's list of events lies. -/
structure DocIn (w : World) (hb : Nat) (v : Value) (l : List Ev) : Prop where
  blk : IsBlk w hb #[v] 47
  sl : SlAt evKind 50 w v l
theorem DocIn.below {w w' : World} {hb : Nat} {v : Value} {l : List Ev} (h : DocIn w hb v l) (hk : Below w.heap.size w w') : DocIn w' hb v l := ⟨(hk.block _ (lt_of_block h.blk)).trans h.blk, h.sl.below hk⟩
set_option maxRecDepth 100000 in
set_option maxHeartbeats 4000000 in
theorem hm_find (w : World) (hb : Nat) (v : Value) (l : List Ev) (h : DocIn w hb v l) (hl : l.length ≤ 1000000) (k : ByteArray) :
    Calls Tryz.prog 38 #[.pointer (some ⟨hb, 0, none⟩), .string k] w fun e w' => e = .returned (Ev.getRes (hFind l k)) ∧ Below w.heap.size w w' := by
  obtain ⟨w0, hw0, HB0⟩ := hbox_new w Ev.zero
  obtain ⟨bx, hbx⟩ : ∃ bx, bx = w.heap.size := ⟨_, rfl⟩
  have HW0 := Lib.hid hw0
  have HBE := Lib.hid hbx
  have HX0 : Hid (HBox w0 bx Ev.zero) := Lib.hid (by rw [HBE.out]; exact HB0.out.2)
  obtain ⟨a, cap, rfl⟩ := h.sl.shape
  have HD := Lib.hid (h.below HB0.out.1)
  have HR := Lib.hid HD.out.sl.rd
  have hc : w0.cell? ⟨hb, 0, none⟩ = some (.slice a l.length cap) := blk_cell HD.out.blk 0
  have hli : (l.length : Int) ≤ 1000000 := by omega
  have HF : Hid (∀ o, hFind l k = o → Ev.getRes (hFind l k) = Ev.getRes o) := Lib.hid fun o h => by rw [h]
  clear h hw0 hbx hl
  go_enter Tryz.func38, Tryz.ntmps38
  go_upto_region 1 with fail
  rw [show w.alloc (.cells #[.string ⟨#[]⟩, .string ⟨#[]⟩, .string ⟨#[]⟩, .int .i64 0, .int .i64 0] 50) = w0 from HW0.out, ← HBE.out]
  obtain ⟨⟨d0, d1, d2, d3, d4⟩, z0, z1, z2, z3, z4⟩ := hbox_cells HX0.out
  go_wp2_with fail
  go_loop [6] (fun i => ∃ q : Nat, q ≤ l.length ∧ i = .int .i64 q ∧ Hid (∀ j x, j < q → l[j]? = some x → ¬ x.key = k)) (fun i => l.length - (intOf i).toNat)
  case atStart => exact ⟨0, Nat.zero_le _, rfl, Lib.hid fun j x hj => absurd hj (Nat.not_lt_zero _)⟩
  case round =>
    obtain ⟨q, hq, rfl, HK⟩ := hrel
    by_cases hlt : q < l.length
    · have k1 : (0 : Int) ≤ (q : Int) := by omega
      have k2 : (q : Int) < (l.length : Int) := by omega
      obtain ⟨x, hx⟩ : ∃ x, l[q]? = some x := ⟨_, List.getElem?_eq_getElem hlt⟩
      obtain ⟨g, off, rfl, e0, e1, e2, e3, e4⟩ := rd_cells HR.out hx
      by_cases hxk : x.key = k
      · have HO : Hid (hFind l k = some x) := Lib.hid (by
          unfold hFind
          obtain ⟨hq1, hq2⟩ := List.getElem?_eq_some_iff.1 hx
          have hsplit : l = l.take q ++ x :: l.drop (q + 1) := by rw [← hq2, ← List.drop_eq_getElem_cons hq1, List.take_append_drop]
          rw [hsplit, List.find?_append, List.find?_eq_none.2 (fun y hy => by
            obtain ⟨j, hj⟩ := List.getElem?_of_mem hy
            have hjl := (List.getElem?_eq_some_iff.1 hj).1
            rw [List.length_take] at hjl
            rw [List.getElem?_take_of_lt (by omega)] at hj
            simpa using HK.out j y (by omega) hj), Option.none_or, List.find?_cons_of_pos (by simpa using hxk)])
        have HXV := Lib.hid (hbox_set HX0.out x)
        rw [hxk] at e0
        have HXK := Lib.hid hxk
        clear hx hxk
        go_wp2_with (fail)
        have HN := HXV.out
        rw [HXK.out] at HN
        refine bodyPost_ret (v := Ev.getRes (some x)) (by rw [← HXK.out]; exact hres_get rfl HXV.out _ true rfl rfl) rfl ⟨by rw [HO.out], Ev.boxE_sets HB0.out.1 (by rw [HBE.out]; exact Nat.le_refl _) _ _ _ _ _⟩
      · have HNX : Hid (∀ j y, j < q + 1 → l[j]? = some y → ¬ y.key = k) := Lib.hid fun j y hj hy => by
          by_cases e : j = q
          · subst e; rw [hx] at hy; cases hy; exact hxk
          · exact HK.out j y (by omega) hy
        have hne : ¬ x.key.toList = k.toList := fun e => hxk (str_inj e)
        have hne2 : (x.key.toList == k.toList) = false := beq_eq_false_iff_ne.2 hne
        clear hx hxk
        go_wp2_with (fail)
        go_round
        case rel => exact ⟨q + 1, by omega, by go_num, HNX⟩
        case measure => simp [intOf]; omega
    · have k2 : ¬ (q : Int) < (l.length : Int) := by omega
      have hqe : q = l.length := by omega
      subst hqe
      have HO : Hid (hFind l k = none) := Lib.hid (by
        unfold hFind
        refine List.find?_eq_none.2 fun y hy => ?_
        obtain ⟨j, hj⟩ := List.getElem?_of_mem hy
        simpa using HK.out j y (List.getElem?_eq_some_iff.1 hj).1 hj)
      have HXV := Lib.hid (hbox_set HX0.out Ev.zero)
      go_wp2_with (fail)
      refine bodyPost_ret (v := Ev.getRes none) (hres_get rfl HXV.out _ false rfl rfl) rfl ⟨by rw [HO.out], Ev.boxE_sets HB0.out.1 (by rw [HBE.out]; exact Nat.le_refl _) _ _ _ _ _⟩
end Go.Proofs.YtkbdofbjfcajbaaGreat
