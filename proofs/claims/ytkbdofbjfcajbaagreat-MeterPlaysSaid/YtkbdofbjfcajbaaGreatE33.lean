/- Of the law's own words: same (does a meter tell what the document tells?). -/
import Derived.Test.YtkbdofbjfcajbaaGreatE32
import Derived.Test.YtkbdofbjfcajbaaGreatE20
namespace Go.Proofs.YtkbdofbjfcajbaaGreat
open Go.RowKit Go.Shelf Go.Sort

theorem doc_good {s : MSt} {k : Nat} {l : List Ev} (h : Beside s l) (ok : MOk s k) {x : Ev} (hx : x ∈ l) : GoodE x := by
  obtain ⟨y, hy, rfl⟩ := List.mem_map.1 (h.mem_iff.1 hx)
  exact good_of (ok.ok y hy).2
theorem doc_ints {x : Ev} (g : GoodE x) : IntsOk x := ⟨by have := g.q0; omega, by have := g.q1; omega, by have := g.a0; omega, by have := g.a1; omega⟩
set_option maxRecDepth 100000 in
set_option maxHeartbeats 8000000 in
theorem z_same {w : World} {mb tb : Nat} {s : MSt} {k hb : Nat} {v : Value} {l : List Ev} (hm : MtrIn w mb tb s) (ok : MOk s k) (hk : k ≤ 1000) (hd : DocIn w hb v l) (hbs : Beside s l)
    (n key : ByteArray) (hn : n.size ≤ 9223372036854775807) (a b : Int) :
    Calls Tryz.prog 20 #[.pointer (some ⟨mb, 0, none⟩), .pointer (some ⟨hb, 0, none⟩), .string n, .string key, .int .i64 a, .int .i64 b] w fun e w' => e = .returned (.bool true) ∧ Below w.heap.size w w' := by
  have hl : l.length ≤ 1000 := by have := beside_len hbs; have := ok.size; omega
  have HI := Lib.hid (fun x hx => doc_ints (doc_good hbs ok (x := x) hx))
  have HQ : Hid (∀ x ∈ l, 0 ≤ x.qty ∧ x.qty ≤ 1099511627776) := Lib.hid fun x hx => ⟨(doc_good hbs ok hx).q0, (doc_good hbs ok hx).q1⟩
  have HM := Lib.hid hm
  have HD := Lib.hid hd
  have HOK := Lib.hid ok
  have HBS := Lib.hid hbs
  have HK := Lib.hid (And.intro hk (And.intro hl hn))
  have HT1 := Lib.hid (x_tots hm ok hk n hn a b)
  obtain ⟨c, hc⟩ : ∃ c, c = withinE n a b := ⟨_, rfl⟩
  rw [← hc] at HT1
  have HC := Lib.hid hc
  obtain ⟨la, lc, rfl⟩ := hd.sl.shape
  clear hm ok hk hd hbs hl hc hn
  go_enter Tryz.func20, Tryz.ntmps20
  go_wp2_with (fail)
  refine HT1.out.mono ?_
  rintro e w1 ⟨ta, tc, TL, hTL, rfl, hst, htl, hb1⟩
  have HB1 := Lib.hid hb1
  have HST := Lib.hid hst
  have HTL := Lib.hid hTL
  have ht1 : (TL.length : Int) ≤ 1000 := by have := HK.out.1; omega
  have HT2 := Lib.hid (hm_totals w1 hb _ l (HD.out.below hb1) HK.out.2.1 HI.out HQ.out n HK.out.2.2 a b)
  clear hTL hst htl hb1 HT1
  go_wp2_with (fail)
  refine HT2.out.mono ?_
  rintro e w2 ⟨ua, uc, UL, rfl, hsu, hUL, hb2⟩
  rw [← HC.out]
  have HP : Hid ((if withinE n a b = 0 then selE n a b s.t.ino else []).Perm (if withinE n a b = 0 then l.filter (inE n a b) else [])) := Lib.hid (by
    split
    · exact (HBS.out.symm.filter _)
    · exact List.Perm.refl _)
  obtain rfl : TL = UL := by rw [HTL.out, hUL]; unfold totsOf; rw [totM_perm HP.out]
  have HSU := Lib.hid hsu
  have HST2 := Lib.hid (HST.out.rd.below hb2)
  have HB2 : Hid (Below w.heap.size w w2) := Lib.hid (HB1.out.trans (hb2.mono HB1.out.size))
  clear hsu hUL hb2 HST HTL HT2 HB1
  go_upto_block 0 with (first | (go_at_call 11; refine (m_num _ _).mono ?_; rintro e w9 ⟨rfl, rfl⟩))
  go_cut [17] from 52 to 94 (fun _ wx => Hid (Below w.heap.size w wx))
  case first => as_aux_lemma =>
    go_wp2_with (fail)
    go_loopw [17] (fun iv wr => ∃ i : Nat, i ≤ TL.length ∧ iv = .int .i64 i ∧ Hid (Below w2.heap.size w2 wr)) (fun iv _ => TL.length - (intOf iv).toNat)
    case atStart => exact ⟨0, Nat.zero_le _, rfl, Lib.hid (Below.refl _ _)⟩
    case round =>
      obtain ⟨i, hi, rfl, HB⟩ := hrel
      by_cases hil : i < TL.length
      · obtain ⟨t, ht⟩ : ∃ t, TL[i]? = some t := ⟨_, List.getElem?_eq_getElem hil⟩
        obtain ⟨tg, toff, rfl, t0, t1, t2⟩ := rt_cells (HST2.out.below HB.out) ht
        obtain ⟨ug, uoff, rfl, u0, u1, u2⟩ := rt_cells (HSU.out.below HB.out) ht
        have HDN : Hid (∀ n, Below w2.heap.size w2 (wr.drewN n)) := Lib.hid fun n => HB.out.trans ((below_drewN' wr n).mono HB.out.size)
        have k1 : (0 : Int) ≤ (i : Int) := by omega
        have k2 : (i : Int) < (TL.length : Int) := by omega
        clear ht
        go_wp2_with (fail)
        go_quiet (fail)
        go_wp2_with (fail)
        go_roundw
        case rel => exact ⟨i + 1, by omega, by go_num, Lib.hid (HDN.out _)⟩
        case measure => simp [intOf]; omega
      · have k2 : ¬ (i : Int) < (TL.length : Int) := by omega
        go_wp2_with (fail)
        go_meet
        exact Lib.hid (HB2.out.trans (HB.out.mono HB2.out.size))
  case rest =>
    have HB3 : Hid (Below w.heap.size w wc) := hcut
    clear hcut HSU HST2 HB2
    have HE1 := Lib.hid (m_events wc mb tb s n a b (HM.out.below HB3.out) HK.out.2.2 (by have := HOK.out.size; have := HK.out.1; omega))
    go_wp2_with (fail)
    refine HE1.out.mono ?_
    rintro e w4 ⟨ev, L, rfl, hsl, hp, hup, -, hb4⟩
    obtain ⟨ea, ec, rfl⟩ := hsl.shape
    have HSL := Lib.hid hsl
    have HPL := Lib.hid (And.intro hp hup)
    have HB4 : Hid (Below w.heap.size w w4) := Lib.hid (HB3.out.trans (hb4.mono HB3.out.size))
    have HE2 := Lib.hid (hm_events w4 hb _ l (HD.out.below HB4.out) HK.out.2.1 HI.out n HK.out.2.2 a b)
    clear hsl hp hup hb4 HE1
    go_wp2_with (fail)
    refine HE2.out.mono ?_
    rintro e w5 ⟨fa, fc, M, rfl, hsm, hpm, hum, hb5⟩
    obtain rfl : L = M := by
      refine evs_unique HOK.out (HPL.out.1.trans (HP.out.trans hpm.symm)) (fun x hx => ?_) HPL.out.2 hum
      have h1 := HPL.out.1.mem_iff.1 hx
      split at h1
      · exact (List.mem_filter.1 h1).1
      · cases h1
    have HSM := Lib.hid hsm.rd
    have HSL5 := Lib.hid (HSL.out.rd.below hb5)
    have HB5 : Hid (Below w.heap.size w w5) := Lib.hid (HB4.out.trans (hb5.mono HB4.out.size))
    have hll : (L.length : Int) ≤ 1000 := by
      have h1 := hpm.length_eq
      have h2 : (if withinE n a b = 0 then l.filter (inE n a b) else []).length ≤ l.length := by
        split
        · exact List.length_filter_le _ _
        · exact Nat.zero_le _
      have := HK.out.2.1
      omega
    clear hsm hpm hum hb5 HSL HPL HE2 HB4
    go_upto_block 2 with (fail)
    go_cut [20] from 110 to 125 (fun _ wx => Hid (Below w.heap.size w wx))
    case first =>
      go_wp2_with (fail)
      go_loopw [20] (fun iv wr => ∃ i : Nat, i ≤ L.length ∧ iv = .int .i64 i ∧ Hid (Below w5.heap.size w5 wr)) (fun iv _ => L.length - (intOf iv).toNat)
      case atStart => exact ⟨0, Nat.zero_le _, rfl, Lib.hid (Below.refl _ _)⟩
      case round =>
        obtain ⟨i, hi, rfl, HB⟩ := hrel
        by_cases hil : i < L.length
        · obtain ⟨x, hx⟩ : ∃ x, L[i]? = some x := ⟨_, List.getElem?_eq_getElem hil⟩
          obtain ⟨g, off, rfl, d0, d1, d2, d3, d4⟩ := rd_cells (HSL5.out.below HB.out) hx
          obtain ⟨g2, off2, rfl, e0, e1, e2, e3, e4⟩ := rd_cells (HSM.out.below HB.out) hx
          have HZE : Hid (∀ W, Below wr.heap.size wr W → Calls Tryz.prog 16 #[.agg #[.string x.key, .string x.acct, .string x.mtr, .int .i64 x.qty, .int .i64 x.at_]] W fun e w' => e = .returned (.agg #[.string x.key, .string x.acct, .string x.mtr, .int .i64 x.qty, .int .i64 x.at_]) ∧ (w'.cell? ⟨g, off + i * 5, none⟩ = some (.string x.key) ∧ w'.cell? ⟨g, off + i * 5 + 1, none⟩ = some (.string x.acct) ∧ w'.cell? ⟨g, off + i * 5 + 2, none⟩ = some (.string x.mtr) ∧ w'.cell? ⟨g, off + i * 5 + 3, none⟩ = some (.int .i64 x.qty) ∧ w'.cell? ⟨g, off + i * 5 + 4, none⟩ = some (.int .i64 x.at_) ∧ w'.cell? ⟨g2, off2 + i * 5, none⟩ = some (.string x.key) ∧ w'.cell? ⟨g2, off2 + i * 5 + 1, none⟩ = some (.string x.acct) ∧ w'.cell? ⟨g2, off2 + i * 5 + 2, none⟩ = some (.string x.mtr) ∧ w'.cell? ⟨g2, off2 + i * 5 + 3, none⟩ = some (.int .i64 x.qty) ∧ w'.cell? ⟨g2, off2 + i * 5 + 4, none⟩ = some (.int .i64 x.at_)) ∧ Hid (Below wr.heap.size wr w')) := Lib.hid fun W hW => by
            refine (z_event W x).mono fun e w' ⟨he, hb'⟩ => ?_
            have hb2 := hW.trans (hb'.mono hW.size)
            obtain ⟨_, _, q1, p0, p1, p2, p3, p4⟩ := rd_cells (HSL5.out.below (HB.out.trans (hb2.mono HB.out.size))) hx
            obtain ⟨_, _, q2, r0, r1, r2, r3, r4⟩ := rd_cells (HSM.out.below (HB.out.trans (hb2.mono HB.out.size))) hx
            simp only [Option.some.injEq, Addr.mk.injEq, and_true] at q1 q2
            obtain ⟨rfl, rfl⟩ := q1
            obtain ⟨rfl, rfl⟩ := q2
            exact ⟨he, ⟨p0, p1, p2, p3, p4, r0, r1, r2, r3, r4⟩, Lib.hid hb2⟩
          have hb0 : Below wr.heap.size wr wr.drew := (Below.refl _ _).drew
          have k1 : (0 : Int) ≤ (i : Int) := by omega
          have k2 : (i : Int) < (L.length : Int) := by omega
          clear hx
          go_wp2_with (fail)
          go_region_held3 (fun w' => w'.cell? ⟨g, off + i * 5, none⟩ = some (.string x.key) ∧ w'.cell? ⟨g, off + i * 5 + 1, none⟩ = some (.string x.acct) ∧ w'.cell? ⟨g, off + i * 5 + 2, none⟩ = some (.string x.mtr) ∧ w'.cell? ⟨g, off + i * 5 + 3, none⟩ = some (.int .i64 x.qty) ∧ w'.cell? ⟨g, off + i * 5 + 4, none⟩ = some (.int .i64 x.at_) ∧ w'.cell? ⟨g2, off2 + i * 5, none⟩ = some (.string x.key) ∧ w'.cell? ⟨g2, off2 + i * 5 + 1, none⟩ = some (.string x.acct) ∧ w'.cell? ⟨g2, off2 + i * 5 + 2, none⟩ = some (.string x.mtr) ∧ w'.cell? ⟨g2, off2 + i * 5 + 3, none⟩ = some (.int .i64 x.qty) ∧ w'.cell? ⟨g2, off2 + i * 5 + 4, none⟩ = some (.int .i64 x.at_))
            (first | go_keep | exact s1)
            (first
              | (go_at_call 16; (with_reducible refine (HZE.out _ ?_).mono ?_); exact hb0; rintro e w7 ⟨rfl, s1, HC⟩))
          have HN := Lib.hid (HB.out.trans (HC.out.mono HB.out.size))
          clear HZE hb0 d0 d1 d2 d3 d4 e0 e1 e2 e3 e4
          go_wp2_with (fail)
          go_roundw
          case rel => exact ⟨i + 1, by omega, by go_num, HN⟩
          case measure => simp [intOf]; omega
        · have k2 : ¬ (i : Int) < (L.length : Int) := by omega
          go_wp2_with (fail)
          go_meet
          exact Lib.hid (HB5.out.trans (HB.out.mono HB5.out.size))
    case rest =>
      have HB6 : Hid (Below w.heap.size w wc) := hcut
      clear hcut
      have HM6 := Lib.hid (HM.out.below HB6.out)
      obtain ⟨o, ho⟩ : ∃ o, o = hFind l key := ⟨_, rfl⟩
      have HGE : Hid (s.t.get slt key = o) := Lib.hid (by rw [ho, find_beside HBS.out HOK.out key]; exact get_ino slt_ord s.t HOK.out.rise key)
      have HO := Lib.hid ho
      obtain ⟨u, hu⟩ : ∃ v, v = o.getD Ev.zero := ⟨_, rfl⟩
      obtain ⟨q, hq⟩ : ∃ q, q = o.isSome := ⟨_, rfl⟩
      have HGR : Hid (Ev.getRes o = .tuple #[.agg #[.string u.key, .string u.acct, .string u.mtr, .int .i64 u.qty, .int .i64 u.at_], .bool q]) := Lib.hid (by rw [hu, hq]; rfl)
      have HF1 := Lib.hid (m_find wc mb tb s key HM6.out)
      rw [HGE.out, HGR.out] at HF1
      clear ho hu hq
      go_wp2_with (fail)
      refine HF1.out.mono ?_
      rintro e w7 ⟨rfl, hb7⟩
      obtain ⟨w8, hw8⟩ : ∃ w8, w8 = w7.alloc (.cells #[.string u.key, .string u.acct, .string u.mtr, .int .i64 u.qty, .int .i64 u.at_] 32) := ⟨_, rfl⟩
      obtain ⟨b1, hb1⟩ : ∃ b1, b1 = w7.heap.size := ⟨_, rfl⟩
      have HW8 := Lib.hid hw8
      have HE8 := Lib.hid hb1
      have HX1 : Hid (Ev.BoxAtE w8 b1 u) := Lib.hid (by rw [hw8, hb1]; exact blk_new w7 _)
      have HB8 : Hid (Below w.heap.size w w8) := Lib.hid (HB6.out.trans ((hb7.trans ((alloc_step hw8).mono hb7.size)).mono HB6.out.size))
      have HF2 := Lib.hid (hm_find w8 hb _ l (HD.out.below HB8.out) (by have := HK.out.2.1; omega) key)
      rw [← HO.out, HGR.out] at HF2
      clear hw8 hb1 hb7 HF1
      go_upto_region 20 with (fail)
      rw [← HW8.out, ← HE8.out]
      clear HW8 HE8
      go_wp2_with (fail)
      refine HF2.out.mono ?_
      rintro e w9 ⟨rfl, hb9⟩
      obtain ⟨w10, hw10⟩ : ∃ w10, w10 = w9.alloc (.cells #[.string u.key, .string u.acct, .string u.mtr, .int .i64 u.qty, .int .i64 u.at_] 50) := ⟨_, rfl⟩
      obtain ⟨b2, hb2⟩ : ∃ b2, b2 = w9.heap.size := ⟨_, rfl⟩
      have HW10 := Lib.hid hw10
      have HE10 := Lib.hid hb2
      have HB810 : Below w8.heap.size w8 w10 := hb9.trans ((alloc_step hw10).mono hb9.size)
      have HX2 : Hid (HBox w10 b2 u) := Lib.hid (by rw [hw10, hb2]; exact blk_new w9 _)
      have HX1' : Hid (Ev.BoxAtE w10 b1 u) := Lib.hid (Ev.boxE_below HX1.out HB810)
      have HB10 : Hid (Below w.heap.size w w10) := Lib.hid (HB8.out.trans (HB810.mono HB8.out.size))
      have HM10 := Lib.hid (HM.out.below HB10.out)
      have HD10 := Lib.hid (HD.out.below HB10.out)
      clear hw10 hb2 hb9 HB810 HX1 HF2
      go_upto_region 21 with (fail)
      rw [← HW10.out, ← HE10.out]
      clear HW10 HE10
      have KS : Hid (∀ w', Below w10.heap.size w10 w' → w'.cell? ⟨b1, 0, none⟩ = some (.string u.key) ∧ w'.cell? ⟨b1, 1, none⟩ = some (.string u.acct) ∧ w'.cell? ⟨b1, 2, none⟩ = some (.string u.mtr) ∧ w'.cell? ⟨b1, 3, none⟩ = some (.int .i64 u.qty) ∧ w'.cell? ⟨b1, 4, none⟩ = some (.int .i64 u.at_) ∧ w'.cell? ⟨b2, 0, none⟩ = some (.string u.key) ∧ w'.cell? ⟨b2, 1, none⟩ = some (.string u.acct) ∧ w'.cell? ⟨b2, 2, none⟩ = some (.string u.mtr) ∧ w'.cell? ⟨b2, 3, none⟩ = some (.int .i64 u.qty) ∧ w'.cell? ⟨b2, 4, none⟩ = some (.int .i64 u.at_) ∧ w'.cell? ⟨hb, 0, none⟩ = some (.slice la l.length lc)) := Lib.hid fun W hW => by
        obtain ⟨⟨x0, x1, x2, x3, x4⟩, -⟩ := Ev.boxE_cells (Ev.boxE_below HX1'.out hW)
        obtain ⟨⟨y0, y1, y2, y3, y4⟩, -⟩ := hbox_cells (hbox_below HX2.out hW)
        exact ⟨x0, x1, x2, x3, x4, y0, y1, y2, y3, y4, blk_cell (HD10.out.below hW).blk 0⟩
      obtain ⟨AL, hAL⟩ : ∃ AL, AL = accts s := ⟨_, rfl⟩
      have HZE : Hid (∀ W, Below w10.heap.size w10 W → Calls Tryz.prog 16 #[.agg #[.string u.key, .string u.acct, .string u.mtr, .int .i64 u.qty, .int .i64 u.at_]] W fun e w' => e = .returned (.agg #[.string u.key, .string u.acct, .string u.mtr, .int .i64 u.qty, .int .i64 u.at_]) ∧ (w'.cell? ⟨b1, 0, none⟩ = some (.string u.key) ∧ w'.cell? ⟨b1, 1, none⟩ = some (.string u.acct) ∧ w'.cell? ⟨b1, 2, none⟩ = some (.string u.mtr) ∧ w'.cell? ⟨b1, 3, none⟩ = some (.int .i64 u.qty) ∧ w'.cell? ⟨b1, 4, none⟩ = some (.int .i64 u.at_) ∧ w'.cell? ⟨b2, 0, none⟩ = some (.string u.key) ∧ w'.cell? ⟨b2, 1, none⟩ = some (.string u.acct) ∧ w'.cell? ⟨b2, 2, none⟩ = some (.string u.mtr) ∧ w'.cell? ⟨b2, 3, none⟩ = some (.int .i64 u.qty) ∧ w'.cell? ⟨b2, 4, none⟩ = some (.int .i64 u.at_) ∧ w'.cell? ⟨hb, 0, none⟩ = some (.slice la l.length lc)) ∧ Hid (Below w10.heap.size w10 w')) := Lib.hid fun W hW =>
        (z_event W u).mono fun e w' ⟨he, hb'⟩ => ⟨he, KS.out _ (hW.trans (hb'.mono hW.size)), Lib.hid (hW.trans (hb'.mono hW.size))⟩
      have HAC : Hid (∀ W, Below w10.heap.size w10 W → Calls Tryz.prog 12 #[.pointer (some ⟨mb, 0, none⟩)] W fun e w' => ∃ av cv, e = .returned (.slice av AL.length cv) ∧ (w'.cell? ⟨b1, 0, none⟩ = some (.string u.key) ∧ w'.cell? ⟨b1, 1, none⟩ = some (.string u.acct) ∧ w'.cell? ⟨b1, 2, none⟩ = some (.string u.mtr) ∧ w'.cell? ⟨b1, 3, none⟩ = some (.int .i64 u.qty) ∧ w'.cell? ⟨b1, 4, none⟩ = some (.int .i64 u.at_) ∧ w'.cell? ⟨b2, 0, none⟩ = some (.string u.key) ∧ w'.cell? ⟨b2, 1, none⟩ = some (.string u.acct) ∧ w'.cell? ⟨b2, 2, none⟩ = some (.string u.mtr) ∧ w'.cell? ⟨b2, 3, none⟩ = some (.int .i64 u.qty) ∧ w'.cell? ⟨b2, 4, none⟩ = some (.int .i64 u.at_) ∧ w'.cell? ⟨hb, 0, none⟩ = some (.slice la l.length lc)) ∧ Hid (Below w10.heap.size w10 w' ∧ RdAt textKind w' (.slice av AL.length cv) AL ∧ Below W.heap.size W w')) := Lib.hid fun W hW => by
        refine (x_accts (HM10.out.below hW) HOK.out HK.out.1).mono ?_
        rintro e w' ⟨av, cv, AL', hA, rfl, hs, hb'⟩
        rw [← hAL] at hA
        subst hA
        exact ⟨av, cv, rfl, KS.out _ (hW.trans (hb'.mono hW.size)), Lib.hid ⟨hW.trans (hb'.mono hW.size), hs.rd, hb'⟩⟩
      have HHA : Hid (∀ W, Below w10.heap.size w10 W → Calls Tryz.prog 49 #[.pointer (some ⟨hb, 0, none⟩)] W fun e w' => ∃ av cv, e = .returned (.slice av AL.length cv) ∧ (w'.cell? ⟨b1, 0, none⟩ = some (.string u.key) ∧ w'.cell? ⟨b1, 1, none⟩ = some (.string u.acct) ∧ w'.cell? ⟨b1, 2, none⟩ = some (.string u.mtr) ∧ w'.cell? ⟨b1, 3, none⟩ = some (.int .i64 u.qty) ∧ w'.cell? ⟨b1, 4, none⟩ = some (.int .i64 u.at_) ∧ w'.cell? ⟨b2, 0, none⟩ = some (.string u.key) ∧ w'.cell? ⟨b2, 1, none⟩ = some (.string u.acct) ∧ w'.cell? ⟨b2, 2, none⟩ = some (.string u.mtr) ∧ w'.cell? ⟨b2, 3, none⟩ = some (.int .i64 u.qty) ∧ w'.cell? ⟨b2, 4, none⟩ = some (.int .i64 u.at_) ∧ w'.cell? ⟨hb, 0, none⟩ = some (.slice la l.length lc)) ∧ Hid (Below w10.heap.size w10 w' ∧ RdAt textKind w' (.slice av AL.length cv) AL ∧ Below W.heap.size W w')) := Lib.hid fun W hW => by
        refine (hm_accounts W hb _ l (HD10.out.below hW) HK.out.2.1).mono ?_
        rintro e w' ⟨av, cv, R, rfl, hs, hri, hb'⟩
        obtain rfl : R = AL := by
          rw [hAL]
          refine rising_unique (rising_congr hri fun x => ?_) (rising_tally (fun x : ByteArray × Ev => x.2.acct) upC s.t.ino)
          simp only [List.mem_map]
          constructor
          · rintro ⟨y, hy, rfl⟩
            obtain ⟨z, hz, rfl⟩ := List.mem_map.1 (HBS.out.mem_iff.1 hy)
            exact ⟨z, hz, rfl⟩
          · rintro ⟨z, hz, rfl⟩
            exact ⟨z.2, HBS.out.mem_iff.2 (List.mem_map.2 ⟨z, hz, rfl⟩), rfl⟩
        exact ⟨av, cv, rfl, KS.out _ (hW.trans (hb'.mono hW.size)), Lib.hid ⟨hW.trans (hb'.mono hW.size), hs, hb'⟩⟩
      have HALL : Hid (AL.length ≤ 1000000000) := Lib.hid (by rw [hAL]; have := accts_len s; have := HOK.out.size; have := HK.out.1; omega)
      have HST : Hid (∀ W x y, Below w10.heap.size w10 W → RdAt textKind W x AL → RdAt textKind W y AL → Calls Tryz.prog 48 #[x, y] W fun e w' => e = .returned (.bool true) ∧ (w'.cell? ⟨b1, 0, none⟩ = some (.string u.key) ∧ w'.cell? ⟨b1, 1, none⟩ = some (.string u.acct) ∧ w'.cell? ⟨b1, 2, none⟩ = some (.string u.mtr) ∧ w'.cell? ⟨b1, 3, none⟩ = some (.int .i64 u.qty) ∧ w'.cell? ⟨b1, 4, none⟩ = some (.int .i64 u.at_) ∧ w'.cell? ⟨b2, 0, none⟩ = some (.string u.key) ∧ w'.cell? ⟨b2, 1, none⟩ = some (.string u.acct) ∧ w'.cell? ⟨b2, 2, none⟩ = some (.string u.mtr) ∧ w'.cell? ⟨b2, 3, none⟩ = some (.int .i64 u.qty) ∧ w'.cell? ⟨b2, 4, none⟩ = some (.int .i64 u.at_) ∧ w'.cell? ⟨hb, 0, none⟩ = some (.slice la l.length lc)) ∧ Hid (Below w10.heap.size w10 w')) := Lib.hid fun W x y hW hx hy =>
        (r_sameTexts hx hy HALL.out).mono fun e w' ⟨he, hb'⟩ => ⟨he, KS.out _ (hW.trans (hb'.mono hW.size)), Lib.hid (hW.trans (hb'.mono hW.size))⟩
      have HLN : Hid (∀ W, Below w10.heap.size w10 W → Calls Tryz.prog 14 #[.pointer (some ⟨mb, 0, none⟩)] W fun e w' => e = .returned (.int .i64 (l.length : Int)) ∧ (w'.cell? ⟨b1, 0, none⟩ = some (.string u.key) ∧ w'.cell? ⟨b1, 1, none⟩ = some (.string u.acct) ∧ w'.cell? ⟨b1, 2, none⟩ = some (.string u.mtr) ∧ w'.cell? ⟨b1, 3, none⟩ = some (.int .i64 u.qty) ∧ w'.cell? ⟨b1, 4, none⟩ = some (.int .i64 u.at_) ∧ w'.cell? ⟨b2, 0, none⟩ = some (.string u.key) ∧ w'.cell? ⟨b2, 1, none⟩ = some (.string u.acct) ∧ w'.cell? ⟨b2, 2, none⟩ = some (.string u.mtr) ∧ w'.cell? ⟨b2, 3, none⟩ = some (.int .i64 u.qty) ∧ w'.cell? ⟨b2, 4, none⟩ = some (.int .i64 u.at_) ∧ w'.cell? ⟨hb, 0, none⟩ = some (.slice la l.length lc)) ∧ Hid (Below w10.heap.size w10 w')) := Lib.hid fun W hW => by
        have h1 := m_len W mb tb s (HM10.out.below hW)
        rw [← beside_len HBS.out] at h1
        exact h1.mono fun e w' ⟨he, hb'⟩ => ⟨he, KS.out _ (hW.trans (hb'.mono hW.size)), Lib.hid (hW.trans (hb'.mono hW.size))⟩
      obtain ⟨c0, c1, c2, c3, c4, d0, d1, d2, d3, d4, hc⟩ := KS.out _ (Below.refl _ _)
      have hb0 : Below w10.heap.size w10 w10.drew := (Below.refl _ _).drew
      clear hAL
      go_region_held3 (fun w' => w'.cell? ⟨b1, 0, none⟩ = some (.string u.key) ∧ w'.cell? ⟨b1, 1, none⟩ = some (.string u.acct) ∧ w'.cell? ⟨b1, 2, none⟩ = some (.string u.mtr) ∧ w'.cell? ⟨b1, 3, none⟩ = some (.int .i64 u.qty) ∧ w'.cell? ⟨b1, 4, none⟩ = some (.int .i64 u.at_) ∧ w'.cell? ⟨b2, 0, none⟩ = some (.string u.key) ∧ w'.cell? ⟨b2, 1, none⟩ = some (.string u.acct) ∧ w'.cell? ⟨b2, 2, none⟩ = some (.string u.mtr) ∧ w'.cell? ⟨b2, 3, none⟩ = some (.int .i64 u.qty) ∧ w'.cell? ⟨b2, 4, none⟩ = some (.int .i64 u.at_) ∧ w'.cell? ⟨hb, 0, none⟩ = some (.slice la l.length lc))
        (first | go_keep | exact s5 | exact s4 | exact s3 | exact s2 | exact s1)
        (first
          | (go_at_call 16; (with_reducible refine (HZE.out _ ?_).mono ?_); exact hb0; rintro e w11 ⟨rfl, s1, HC1⟩)
          | (go_at_call 12; (with_reducible refine (HAC.out _ ?_).mono ?_); (first | exact HC3.out.1 | exact HC1.out); rintro e w12 ⟨av, cv, rfl, s2, HC2⟩)
          | (go_at_call 49; (with_reducible refine (HHA.out _ ?_).mono ?_); (first | exact HC2.out.1 | exact HC1.out); rintro e w13 ⟨hv, hcv, rfl, s3, HC3⟩)
          | (go_at_call 48; (with_reducible refine (HST.out _ _ _ ?_ ?_ ?_).mono ?_); (first | exact HC3.out.1 | exact HC2.out.1); (first | exact HC2.out.2.1.below HC3.out.2.2 | exact HC2.out.2.1); (first | exact HC3.out.2.1 | exact HC3.out.2.1.below HC2.out.2.2); rintro e w14 ⟨rfl, s4, HC4⟩)
          | (go_at_call 14; (with_reducible refine (HLN.out _ ?_).mono ?_); exact HC4.out; rintro e w15 ⟨rfl, s5, HC5⟩))
      all_goals
        have HFN := Lib.hid (HB10.out.trans (HC5.out.mono HB10.out.size))
        go_wp2_with (fail)
        go_ret
        exact ⟨rfl, HFN.out⟩
end Go.Proofs.YtkbdofbjfcajbaaGreat
