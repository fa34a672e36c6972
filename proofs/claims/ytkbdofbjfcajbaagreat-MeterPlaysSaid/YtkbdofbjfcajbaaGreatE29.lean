/- Of the document's answer of chapter 13: Events. -/
import Derived.Test.YtkbdofbjfcajbaaGreatE28
namespace Go.Proofs.YtkbdofbjfcajbaaGreat
open Go.RowKit Go.Shelf Go.Sort

/-- As events are put among the others. -/
structure EsI (w : World) (n : ByteArray) (a b : Int) (l : List Ev) (v : Value) (q : Nat) (wr : World) (R : List Ev) : Prop where
  sl : SlAt evKind 50 wr v R
  perm : R.Perm ((l.take q).filter (inE n a b))
  up : R.Pairwise (fun x y => evLt y x = false)
  new : ∀ g, v.ownBlock = some g → w.heap.size ≤ g
  below : Below w.heap.size w wr
section
variable {w wr w' : World} {n : ByteArray} {a b : Int} {l : List Ev} {v : Value} {q : Nat} {R : List Ev}
theorem EsI.ext (h : EsI w n a b l v q wr R) (hb : Below wr.heap.size wr w') : EsI w n a b l v q w' R :=
  ⟨h.sl.below hb, h.perm, h.up, h.new, h.below.trans (hb.mono h.below.size)⟩
theorem EsI.skip (h : EsI w n a b l v q wr R) {x : Ev} (hx : l[q]? = some x) (hn : inE n a b x = false) : EsI w n a b l v (q + 1) wr R :=
  { h with perm := by rw [take_snoc hx, List.filter_append, List.filter_cons, hn]; simpa using h.perm }
theorem EsI.len (h : EsI w n a b l v q wr R) : R.length ≤ q := by
  rw [h.perm.length_eq]
  refine Nat.le_trans (List.length_filter_le _ _) ?_
  rw [List.length_take]; omega
theorem EsI.put (h : EsI w n a b l v q wr R) {x : Ev} {k : Nat} (hx : l[q]? = some x) (hin : inE n a b x = true) (hk : k ≤ R.length) (hl : l.length ≤ 1000)
    (hgt : ∀ j y, k ≤ j → R[j]? = some y → evLt x y = true) (hle : k = 0 ∨ ∃ y, R[k - 1]? = some y ∧ evLt x y = false) {u1 : Value} (hu1 : RdAt evKind wr u1 (R.take k)) {u3 : Value} (hu3 : RdAt evKind wr u3 (R.drop k)) :
    ∃ v1 w1 v2 w2 v3 w3, (Builtin.append_ #[45, 45] 45 #[.slice (some ⟨wr.heap.size, 0, none⟩) 0 0, u1]).run Tryz.prog (wr.alloc (.cells #[] 50)) = .ok v1 w1 ∧
      (Builtin.append_ #[45, 45] 45 #[v1, .slice (some ⟨w1.heap.size, 0, none⟩) 1 1]).run Tryz.prog (w1.alloc (.cells #[.string x.key, .string x.acct, .string x.mtr, .int .i64 x.qty, .int .i64 x.at_] 50)) = .ok v2 w2 ∧
      (Builtin.append_ #[45, 45] 45 #[v2, u3]).run Tryz.prog w2 = .ok v3 w3 ∧ Hid (EsI w n a b l v3 (q + 1) w3 (R.take k ++ x :: R.drop k)) ∧ Hid (Below wr.heap.size wr w1 ∧ Below wr.heap.size wr w2 ∧ Below wr.heap.size wr w3) := by
  have hR := h.len
  have hql := (List.getElem?_eq_some_iff.1 hx).1
  have ha1 : Below wr.heap.size wr (wr.alloc (.cells #[] 50)) := (Below.refl _ _).alloc (Nat.le_refl _) _
  obtain ⟨v1, w1, hr1, hs1, hk1, ho1⟩ := append_hev (none_hev wr) (hu1.below ha1) (by rw [List.length_take]; simp only [List.length_nil]; omega) 45
  have hn1 : ∀ g, v1.ownBlock = some g → wr.heap.size ≤ g := fun g hg => by
    rcases ho1 g hg with e | e
    · have e2 : wr.heap.size = g := by simpa [Value.ownBlock] using e
      omega
    · have := ha1.size; omega
  have b1 : Below wr.heap.size wr w1 := below_keeps ha1 hk1 (fun i e => by have e2 : wr.heap.size = i := (by simpa [Value.ownBlock] using e); omega) ha1.size
  have ha2 : Below w1.heap.size w1 (w1.alloc (.cells (evCells x).toArray 50)) := (Below.refl _ _).alloc (Nat.le_refl _) _
  obtain ⟨v2, w2, hr2, hs2, hk2, ho2⟩ := append_hev (hs1.below ha2) (one_hev w1 x) (by simp only [List.nil_append, List.length_take, List.length_cons, List.length_nil]; omega) 45
  have b2 : Below wr.heap.size wr w2 := below_keeps (b1.trans (ha2.mono b1.size)) hk2 (fun i e => hn1 i e) (Nat.le_trans b1.size ha2.size)
  have hn2 : ∀ g, v2.ownBlock = some g → wr.heap.size ≤ g := fun g hg => by
    rcases ho2 g hg with e | e
    · exact hn1 g e
    · have := ha2.size; have := b1.size; omega
  have hu3' : RdAt evKind w2 u3 (R.drop k) := hu3.below b2
  obtain ⟨v3, w3, hr3, hs3, hk3, ho3⟩ := append_hev hs2 hu3' (by simp only [List.nil_append, List.length_append, List.length_take, List.length_drop, List.length_cons, List.length_nil]; omega) 45
  have b3 : Below wr.heap.size wr w3 := below_keeps b2 hk3 (fun i e => hn2 i e) b2.size
  have hput := sorted_put h.up hk hgt hle
  refine ⟨v1, w1, v2, w2, v3, w3, hr1, hr2, hr3, Lib.hid ⟨?_, ?_, hput.1, fun g hg => ?_, h.below.trans (b3.mono h.below.size)⟩, Lib.hid ⟨b1, b2, b3⟩⟩
  · have e : [] ++ List.take k R ++ [x] ++ List.drop k R = List.take k R ++ x :: List.drop k R := by simp
    rw [← e]; exact hs3
  · rw [take_snoc hx, List.filter_append, List.filter_cons, hin]
    exact hput.2.trans (h.perm.append_right [x])
  · rcases ho3 g hg with e | e
    · exact Nat.le_trans h.below.size (hn2 g e)
    · exact Nat.le_trans h.below.size (Nat.le_trans b2.size e)
end
def EvsPost (w : World) (n : ByteArray) (a b : Int) (l : List Ev) (e : Ending) (w' : World) : Prop := ∃ (oa : Option Addr) (oc : Nat) (R : List Ev), e = .returned (.slice oa R.length oc) ∧ SlAt evKind 50 w' (.slice oa R.length oc) R ∧ R.Perm (if withinE n a b = 0 then l.filter (inE n a b) else []) ∧ R.Pairwise (fun x y => evLt y x = false) ∧ Below w.heap.size w w'
theorem evLt_at {x y : Ev} (h : x.at_ < y.at_) : evLt x y = true := by unfold evLt; rw [decide_eq_true h]; rfl
theorem evLt_key {x y : Ev} (h : x.at_ = y.at_) : evLt x y = slt x.key y.key := by unfold evLt; rw [decide_eq_false (by omega), decide_eq_true h]; simp
theorem evLt_not {x y : Ev} (h : y.at_ < x.at_) : evLt x y = false := by unfold evLt; rw [decide_eq_false (by omega), decide_eq_false (by omega)]; rfl
set_option maxRecDepth 100000 in
set_option maxHeartbeats 8000000 in
theorem hm_events (w : World) (hb : Nat) (v : Value) (l : List Ev) (h : DocIn w hb v l) (hl : l.length ≤ 1000) (hi : ∀ x ∈ l, IntsOk x) (n : ByteArray) (hn : n.size ≤ 9223372036854775807) (a b : Int) :
    Calls Tryz.prog 46 #[.pointer (some ⟨hb, 0, none⟩), .string n, .int .i64 a, .int .i64 b] w (EvsPost w n a b l) := by
  obtain ⟨la, lc, rfl⟩ := h.sl.shape
  have HD := Lib.hid h
  have HN := Lib.hid hl
  have HII := Lib.hid hi
  have HBO := Lib.hid (hm_bounds w n hn a b)
  obtain ⟨c, hc⟩ : ∃ c, c = withinE n a b := ⟨_, rfl⟩
  rw [← hc] at HBO
  have HC := Lib.hid hc
  have hli : (l.length : Int) ≤ 1000 := by omega
  have hlh : hb < w.heap.size := lt_of_block h.blk
  clear h hl hi hc hn
  go_enter Tryz.func46, Tryz.ntmps46
  go_wp2_with (fail)
  refine HBO.out.mono ?_
  rintro e w1 ⟨rfl, rfl⟩
  by_cases hc0 : c = 0
  case neg =>
    have HCN : Hid (withinE n a b ≠ 0) := Lib.hid (by rw [← HC.out]; exact hc0)
    go_wp2_with (fail)
    go_ret
    exact ⟨none, 0, [], rfl, SlAt.nil, by rw [if_neg HCN.out], List.Pairwise.nil, Below.refl _ _⟩
  have HCP : Hid (withinE n a b = 0) := Lib.hid (by rw [← HC.out]; exact hc0)
  subst hc0
  clear HBO HC
  go_wp2_with (fail)
  go_loopw [9, 10, 11, 12, 13] (fun ov iv _ _ _ wr => ∃ (q : Nat) (R : List Ev) (oa : Option Addr) (oc : Nat), q ≤ l.length ∧ iv = .int .i64 q ∧ ov = .slice oa R.length oc ∧ Hid (EsI w n a b l (.slice oa R.length oc) q wr R)) (fun _ iv _ _ _ _ => l.length - (intOf iv).toNat)
  case atStart => exact ⟨0, [], none, 0, Nat.zero_le _, rfl, rfl, Lib.hid ⟨SlAt.nil, by simp, List.Pairwise.nil, fun g hg => (by cases hg), Below.refl _ _⟩⟩
  case round =>
    obtain ⟨q, R, oa, oc, hq, rfl, rfl, HI⟩ := hrel
    have hR : (R.length : Int) ≤ 1000 := by have := HI.out.len; omega
    have hcd : wr.cell? ⟨hb, 0, none⟩ = some (.slice la l.length lc) := blk_cell (HD.out.below HI.out.below).blk 0
    by_cases hql : q < l.length
    · have q1 : (0 : Int) ≤ (q : Int) := by omega
      have q2 : (q : Int) < (l.length : Int) := by omega
      obtain ⟨x, hx⟩ : ∃ x, l[q]? = some x := ⟨_, List.getElem?_eq_getElem hql⟩
      have HX := Lib.hid hx
      have HXI := Lib.hid (HII.out x (List.mem_of_getElem? hx))
      obtain ⟨g, off, rfl, d0, d1, d2, d3, d4⟩ := rd_cells (HD.out.sl.rd.below HI.out.below) hx
      clear hx
      obtain ⟨wo, rfl⟩ : ∃ wo : World, wo = wr := ⟨_, rfl⟩
      obtain ⟨w1, hw1⟩ : ∃ w1, w1 = wo.alloc (.cells #[.string x.key, .string x.acct, .string x.mtr, .int .i64 x.qty, .int .i64 x.at_] 50) := ⟨_, rfl⟩
      obtain ⟨bx, hbx⟩ : ∃ bx, bx = wo.heap.size := ⟨_, rfl⟩
      have HW1 := Lib.hid hw1
      have HBE := Lib.hid hbx
      have HBX : Hid (HBox w1 bx x) := Lib.hid (by rw [hw1, hbx]; exact blk_new wo _)
      have HI1 : Hid (EsI w n a b l (.slice oa R.length oc) q w1 R) := Lib.hid (HI.out.ext (alloc_step hw1))
      have HKI : Hid (x.acct.toList = n.toList → a ≤ x.at_ → x.at_ < b → inE n a b x = true) := Lib.hid fun h1 h2 h3 => by unfold inE; rw [h1, decide_eq_true h2, decide_eq_true h3]; simp
      have HSK : Hid (inE n a b x = false → Hid (EsI w n a b l (.slice oa R.length oc) (q + 1) w1 R)) := Lib.hid fun h => Lib.hid (HI1.out.skip HX.out h)
      clear hw1 hbx
      go_upto_region 8 with (fail)
      rw [← HW1.out, ← HBE.out]
      clear d0 d1 d2 d3 d4 hcd HW1 HBE
      obtain ⟨⟨e0, e1, e2, e3, e4⟩, -⟩ := hbox_cells HBX.out
      by_cases ha : x.acct = n
      case neg =>
        have hne : (x.acct.toList == n.toList) = false := beq_eq_false_iff_ne.2 (fun e => ha (str_inj e))
        have hne2 : ¬ x.acct.toList = n.toList := fun e => ha (str_inj e)
        have HF := Lib.hid (HSK.out (by unfold inE; rw [hne]; rfl)).out
        clear ha HSK
        go_wp2_with (fail)
        go_roundw
        case rel => exact ⟨q + 1, R, oa, oc, by omega, by go_num, rfl, HF⟩
        case measure => simp [intOf]; omega
      by_cases hfr : x.at_ < a
      · have HF := Lib.hid (HSK.out (by unfold inE; rw [decide_eq_false (by omega : ¬ a ≤ x.at_)]; simp)).out
        rw [ha] at e1
        clear ha HSK
        go_wp2_with (fail)
        go_roundw
        case rel => exact ⟨q + 1, R, oa, oc, by omega, by go_num, rfl, HF⟩
        case measure => simp [intOf]; omega
      by_cases hto : b ≤ x.at_
      · have HF := Lib.hid (HSK.out (by unfold inE; rw [decide_eq_false (by omega : ¬ x.at_ < b)]; simp)).out
        rw [ha] at e1
        clear ha HSK
        go_wp2_with (fail)
        go_roundw
        case rel => exact ⟨q + 1, R, oa, oc, by omega, by go_num, rfl, HF⟩
        case measure => simp [intOf]; omega
      have HIN := Lib.hid (HKI.out (by rw [ha]) (by omega) (by omega))
      have HA := Lib.hid ha
      rw [ha] at e1
      clear ha HSK HKI
      go_upto_block 2 with (fail)
      clear e0 e1 e2 e3 e4
      go_cut [12] from 19 to 103 (fun kv wx => ∃ k : Nat, kv = .int .i64 k ∧ k ≤ R.length ∧ Hid ((∀ j y, k ≤ j → R[j]? = some y → evLt x y = true) ∧ (k = 0 ∨ ∃ y, R[k - 1]? = some y ∧ evLt x y = false) ∧ Below w1.heap.size w1 wx))
      case first => as_aux_lemma =>
        go_wp2_with (fail)
        go_loopw [12] (fun kv wr => ∃ k : Nat, kv = .int .i64 k ∧ k ≤ R.length ∧ Hid ((∀ j y, k ≤ j → R[j]? = some y → evLt x y = true) ∧ Below w1.heap.size w1 wr)) (fun kv _ => (intOf kv).toNat)
        case atStart => exact ⟨R.length, rfl, Nat.le_refl _, Lib.hid ⟨fun j y hj hy => absurd (List.getElem?_eq_some_iff.1 hy).1 (by omega), Below.refl _ _⟩⟩
        case round =>
          obtain ⟨k, rfl, hk, HJ⟩ := hrel
          have HDN : Hid (∀ n, Below w1.heap.size w1 (wr.drewN n)) := Lib.hid fun n => HJ.out.2.trans ((below_drewN' wr n).mono HJ.out.2.size)
          obtain ⟨⟨e0, e1, e2, e3, e4⟩, -⟩ := hbox_cells (hbox_below HBX.out HJ.out.2)
          by_cases hk0 : 0 < k
          · obtain ⟨j, rfl⟩ : ∃ j, k = j + 1 := ⟨k - 1, by omega⟩
            obtain ⟨y, hy⟩ : ∃ y, R[j]? = some y := ⟨_, List.getElem?_eq_getElem (by omega)⟩
            obtain ⟨og, oo, rfl, f0, f1, f2, f3, f4⟩ := rd_cells (HI1.out.sl.rd.below HJ.out.2) hy
            have HNX : Hid (evLt x y = true → ∀ i z, j ≤ i → R[i]? = some z → evLt x z = true) := Lib.hid fun he i z hi hz => by
              by_cases e : i = j
              · subst e; rw [hy] at hz; cases hz; exact he
              · exact HJ.out.1 i z (by omega) hz
            have HST : Hid (evLt x y = false → (j + 1 = 0 ∨ ∃ y, R[j + 1 - 1]? = some y ∧ evLt x y = false)) := Lib.hid fun he => .inr ⟨y, hy, he⟩
            rw [show ((j + 1 : Nat) : Int) = (j : Int) + 1 from by omega]
            have j0 : (0 : Int) ≤ (j : Int) := by omega
            have j1 : (j : Int) < (R.length : Int) := by omega
            have hw : IntKind.i64.wrap ((j : Int) + 1 - 1) = (j : Int) := by rw [show (j : Int) + 1 - 1 = (j : Int) from by omega]; exact IntWalk.i64_in _ (by omega)
            clear hy
            by_cases h1 : x.at_ < y.at_
            · have HE := Lib.hid (HNX.out (evLt_at h1))
              go_wp2_with (fail)
              go_quiet (fail)
              go_wp2_with (fail)
              go_roundw
              case rel => exact ⟨j, by go_num, by omega, Lib.hid ⟨HE.out, HDN.out _⟩⟩
              case measure => simp [intOf] <;> omega
            have g1 : decide (x.at_ < y.at_) = false := decide_eq_false h1
            by_cases h2 : x.at_ = y.at_
            · have h3 : (x.at_ == y.at_) = true := beq_iff_eq.2 h2
              cases h4 : slt x.key y.key with
              | true =>
                have h5 : Op.bytesLess x.key.toList y.key.toList = true := h4
                have HE := Lib.hid (HNX.out ((evLt_key h2).trans h4))
                clear h2 h4
                go_wp2_with (fail)
                go_quiet (fail)
                go_wp2_with (fail)
                go_roundw
                case rel => exact ⟨j, by go_num, by omega, Lib.hid ⟨HE.out, HDN.out _⟩⟩
                case measure => simp [intOf] <;> omega
              | false =>
                have h5 : Op.bytesLess x.key.toList y.key.toList = false := h4
                have HE := Lib.hid (HST.out ((evLt_key h2).trans h4))
                clear h2 h4
                go_wp2_with (fail)
                go_quiet (fail)
                go_wp2_with (fail)
                go_meet
                exact ⟨j + 1, by go_num, hk, Lib.hid ⟨HJ.out.1, HE.out, HDN.out _⟩⟩
            · have h3 : (x.at_ == y.at_) = false := beq_eq_false_iff_ne.2 h2
              have HE := Lib.hid (HST.out (evLt_not (by omega)))
              clear h2
              go_wp2_with (fail)
              go_quiet (fail)
              go_wp2_with (fail)
              go_meet
              exact ⟨j + 1, by go_num, hk, Lib.hid ⟨HJ.out.1, HE.out, HDN.out _⟩⟩
          · obtain rfl : k = 0 := by omega
            go_wp2_with (fail)
            go_quiet (fail)
            go_wp2_with (fail)
            go_meet
            exact ⟨0, rfl, Nat.zero_le _, Lib.hid ⟨HJ.out.1, .inl rfl, HDN.out _⟩⟩
      case rest =>
        obtain ⟨k, rfl, hk, HK⟩ := hcut
        have HW : Hid (EsI w n a b l (.slice oa R.length oc) q wc R) := Lib.hid (HI1.out.ext HK.out.2.2)
        have HBC := Lib.hid (hbox_below HBX.out HK.out.2.2)
        rcases HW.out.sl with ⟨hv, hR0⟩ | ⟨og, oo, oc', cur, hv, hgb, hcl, hcm, hcs, -⟩
        · simp only [Value.slice.injEq] at hv
          obtain ⟨rfl, -, rfl⟩ := hv
          subst hR0
          obtain rfl : k = 0 := by simpa using hk
          obtain ⟨v1, w1', v2, w2, v3, w3, hr1, hr2, hr3, HF, HBB⟩ := HW.out.put HX.out HIN.out (Nat.zero_le _) (by have := HN.out; omega) HK.out.1 HK.out.2.1 (u1 := .slice none 0 0) (rd_empty none 0) (u3 := .slice none 0 0) (rd_empty none 0)
          obtain ⟨⟨e0, e1, e2, e3, e4⟩, -⟩ := hbox_cells (hbox_below HBC.out HBB.out.1)
          obtain ⟨a3, c3, rfl⟩ := HF.out.sl.shape
          have HFR : Hid (([] : List Ev).take 0 ++ x :: [].drop 0 = [x]) := Lib.hid rfl
          rw [HFR.out] at HF hr3
          go_wp2_with (first | (at_builtin; refine wpList_append_run rfl (.tmp 90) (.tmp 93) 45 rfl _ _ rfl rfl _ _ hr1 ?_) | (at_builtin; refine wpList_append_run rfl (.tmp 95) (.tmp 97) 45 rfl _ _ rfl rfl _ _ hr2 ?_) | (at_builtin; refine wpList_append_run rfl (.tmp 99) (.tmp 102) 45 rfl _ _ rfl rfl _ _ hr3 ?_))
          go_roundw
          case rel => exact ⟨q + 1, [x], _, c3, by omega, by go_num, rfl, HF⟩
          case measure => simp [intOf]; omega
        · simp only [Value.slice.injEq] at hv
          obtain ⟨rfl, -, rfl⟩ := hv
          have hcx : (oc : Int) ≤ 9223372036854775807 := by unfold maxLen at hcm; omega
          have k1 : (0 : Int) ≤ (k : Int) := by omega
          have k2 : (k : Int) ≤ (oc : Int) := by omega
          have k3 : (k : Int) ≤ (R.length : Int) := by omega
          have k4 : (R.length : Int) ≤ (oc : Int) := by omega
          have HRT := Lib.hid (rd_take HW.out.sl.rd hk oc)
          by_cases hkc : k = oc
          · obtain rfl : R.length = k := by omega
            obtain rfl : R.length = oc := hkc
            have HRD : Hid (RdAt evKind wc (.slice (some ⟨og, oo, none⟩) 0 0) (R.drop R.length)) := Lib.hid (by rw [List.drop_length]; exact rd_empty _ _)
            obtain ⟨v1, w1', v2, w2, v3, w3, hr1, hr2, hr3, HF, HBB⟩ := HW.out.put HX.out HIN.out hk (by have := HN.out; omega) HK.out.1 HK.out.2.1 (u1 := .slice (some ⟨og, oo, none⟩) R.length R.length) HRT.out (u3 := .slice (some ⟨og, oo, none⟩) 0 0) HRD.out
            obtain ⟨⟨e0, e1, e2, e3, e4⟩, -⟩ := hbox_cells (hbox_below HBC.out HBB.out.1)
            obtain ⟨a3, c3, rfl⟩ := HF.out.sl.shape
            obtain ⟨R2, hR2⟩ : ∃ R2, R2 = R.take R.length ++ x :: R.drop R.length := ⟨_, rfl⟩
            rw [← hR2] at HF hr3
            clear hR2
            go_wp2_with (first | (at_builtin; refine wpList_append_run rfl (.tmp 90) (.tmp 93) 45 rfl _ _ rfl rfl _ _ hr1 ?_) | (at_builtin; refine wpList_append_run rfl (.tmp 95) (.tmp 97) 45 rfl _ _ rfl rfl _ _ hr2 ?_) | (at_builtin; refine wpList_append_run rfl (.tmp 99) (.tmp 102) 45 rfl _ _ rfl rfl _ _ hr3 ?_))
            go_roundw
            case rel => exact ⟨q + 1, R2, _, c3, by omega, by go_num, rfl, HF⟩
            case measure => simp [intOf]; omega
          · have HRD := Lib.hid (rd_drop HW.out.sl.rd k (oc - k) (R.length - k) (oo + k * 5) rfl rfl)
            obtain ⟨v1, w1', v2, w2, v3, w3, hr1, hr2, hr3, HF, HBB⟩ := HW.out.put HX.out HIN.out hk (by have := HN.out; omega) HK.out.1 HK.out.2.1 (u1 := .slice (some ⟨og, oo, none⟩) k oc) HRT.out (u3 := .slice (some ⟨og, oo + k * 5, none⟩) (R.length - k) (oc - k)) HRD.out
            obtain ⟨⟨e0, e1, e2, e3, e4⟩, -⟩ := hbox_cells (hbox_below HBC.out HBB.out.1)
            obtain ⟨a3, c3, rfl⟩ := HF.out.sl.shape
            obtain ⟨R2, hR2⟩ : ∃ R2, R2 = R.take k ++ x :: R.drop k := ⟨_, rfl⟩
            rw [← hR2] at HF hr3
            have k5 : ¬ (k : Int) = (oc : Int) := by omega
            clear hR2
            go_wp2_with (first | (at_builtin; refine wpList_append_run rfl (.tmp 90) (.tmp 93) 45 rfl _ _ rfl rfl _ _ hr1 ?_) | (at_builtin; refine wpList_append_run rfl (.tmp 95) (.tmp 97) 45 rfl _ _ rfl rfl _ _ hr2 ?_) | (at_builtin; refine wpList_append_run rfl (.tmp 99) (.tmp 102) 45 rfl _ _ rfl rfl _ _ hr3 ?_))
            go_roundw
            case rel => exact ⟨q + 1, R2, _, c3, by omega, by go_num, rfl, HF⟩
            case measure => simp [intOf]; omega
    · have q2 : ¬ (q : Int) < (l.length : Int) := by omega
      have hqe : q = l.length := by omega
      subst hqe
      go_wp2_with (fail)
      go_ret
      exact ⟨oa, oc, R, rfl, HI.out.sl, by rw [if_pos HCP.out]; have := HI.out.perm; rwa [List.take_length] at this, HI.out.up, HI.out.below⟩
end Go.Proofs.YtkbdofbjfcajbaaGreat
