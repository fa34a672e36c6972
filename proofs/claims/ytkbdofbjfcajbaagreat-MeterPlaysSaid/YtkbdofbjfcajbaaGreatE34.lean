/- The walk of MeterPlays. -/
import Derived.Test.YtkbdofbjfcajbaaGreatE33
namespace Go.Proofs.YtkbdofbjfcajbaaGreat
open Go.RowKit Go.Shelf Go.Sort

theorem DocIn.beside {w w' : World} {hb mb tb : Nat} {v : Value} {l : List Ev} {s : MSt} (h : DocIn w hb v l) (hm : MtrIn w mb tb s) (hk : Keeps (Two mb tb) w w') : DocIn w' hb v l := by
  obtain ⟨_, hx, _⟩ := hm.tab.ex
  refine ⟨hk.obj h.blk ?_, h.sl.keeps hk ?_⟩
  · rintro (e | e)
    · exact ne_of_type h.blk hm.blk (by decide) e
    · exact ne_of_type h.blk hx (by decide) e
  · rintro g hg (e | e)
    · obtain ⟨cur, hc⟩ := h.sl.own g hg
      exact ne_of_type hc hm.blk (by decide) e
    · obtain ⟨cur, hc⟩ := h.sl.own g hg
      exact ne_of_type hc hx (by decide) e
theorem MtrIn.byDoc {w w' : World} {hb mb tb : Nat} {v : Value} {l : List Ev} {s : MSt} (hm : MtrIn w mb tb s) (h : DocIn w hb v l) (hk : Keeps (Only hb) w w') : MtrIn w' mb tb s := by
  obtain ⟨_, hx, _⟩ := hm.tab.ex
  exact ⟨hk.obj hm.blk (fun e => ne_of_type h.blk hm.blk (by decide) e.symm), hm.tab.keeps hk (fun e => ne_of_type h.blk hx (by decide) e.symm) (fun b cs hn e => ne_of_type hn h.blk (by decide) e)⟩
/-- A meter and the document's, as events come in. -/
structure PlI (w : World) (mb tb hb : Nat) (s : MSt) (l : List Ev) (q : Nat) (wr : World) : Prop where
  mt : MtrIn wr mb tb s
  ok : MOk s q
  doc : ∃ v, DocIn wr hb v l
  bes : Beside s l
  below : Below w.heap.size w wr
  l1 : w.heap.size ≤ mb
  l2 : w.heap.size ≤ tb
  l3 : w.heap.size ≤ hb
theorem PlI.ext {w wr w' : World} {mb tb hb : Nat} {s : MSt} {l : List Ev} {q : Nat} (h : PlI w mb tb hb s l q wr) (hb' : Below wr.heap.size wr w') : PlI w mb tb hb s l q w' := by
  obtain ⟨v, hv⟩ := h.doc
  exact ⟨h.mt.below hb', h.ok, ⟨v, hv.below hb'⟩, h.bes, h.below.trans (hb'.mono h.below.size), h.l1, h.l2, h.l3⟩
theorem known_n {s : MSt} {v : Ev} {k : Nat} (ok : MOk s k) : (ingS s v).n = if (ingR s v).1 = true then s.n + 1 else s.n := by
  cases ing_cases s v ok.rise with
  | bad c _ _ hR hs => rw [hR, hs]; rfl
  | other u _ _ _ hR hs => rw [hR, hs]; rfl
  | full _ _ _ hR hs => rw [hR, hs]; rfl
  | taken _ _ _ hR hs => rw [hR, hs]; rfl
  | known _ _ hR hs => rw [hR, hs]; rfl
set_option maxRecDepth 100000 in
set_option maxHeartbeats 8000000 in
theorem l_meterPlays (w : World) (a : Option Addr) (cap : Nat) (L : List Ev) (h : RdAt evKind w (.slice a L.length cap) L) (hi : ∀ x ∈ L, IntsOk x) (n : ByteArray) (hn : n.size ≤ 9223372036854775807) (p m : Int) :
    Calls Tryz.prog 5 #[.slice a L.length cap, .string n, .int .i64 p, .int .i64 m] w fun e w' => e = .returned (.bool true) ∧ Below w.heap.size w w' := by
  have HRD := Lib.hid h
  have HII := Lib.hid hi
  have HN := Lib.hid hn
  clear h hi
  have HF := Lib.hid (m_first w)
  go_enter Tryz.func5, Tryz.ntmps5
  go_wp2_with (fail)
  refine HF.out.mono ?_
  rintro e w1 ⟨rfl, hb1⟩
  have HB1 := Lib.hid hb1
  have HFW := Lib.hid (m_few w1 a cap L (HRD.out.below hb1))
  clear hb1
  go_wp2_with (fail)
  refine HFW.out.mono ?_
  rintro e w1' ⟨⟨f, rfl, hf⟩, rfl⟩
  have HFF := Lib.hid hf
  have HNW := Lib.hid (m_new w1)
  clear hf
  go_wp2_with (fail)
  refine HNW.out.mono ?_
  rintro e w2 ⟨mb, tb, rfl, hm2, hl1, hl2, hb2⟩
  obtain ⟨w3, hw3⟩ : ∃ w3, w3 = w2.alloc (.cells #[.slice none 0 0] 47) := ⟨_, rfl⟩
  obtain ⟨hb, hhb⟩ : ∃ hb, hb = w2.heap.size := ⟨_, rfl⟩
  have HW3 := Lib.hid hw3
  have HHB := Lib.hid hhb
  have HT : Hid (PlI w mb tb hb ms0 [] 0 w3) := Lib.hid (by
    have k1 := HB1.out.size
    have k2 := hb2.size
    have b3 := alloc_step hw3
    exact ⟨hm2.below b3, mok0, ⟨.slice none 0 0, by rw [hw3, hhb]; exact blk_new w2 _, SlAt.nil⟩, beside0, HB1.out.trans ((hb2.trans (b3.mono hb2.size)).mono k1), by omega, by omega, by omega⟩)
  clear hm2 hl1 hl2 hb2 hw3 hhb
  go_upto_region 5 with (fail)
  rw [← HW3.out, ← HHB.out]
  clear HW3 HHB
  cases f with
  | false =>
    go_wp2_with (fail)
    go_ret
    exact ⟨rfl, HT.out.below⟩
  | true =>
    by_cases hnn : (100 : Int) < (n.size : Int)
    · go_wp2_with (fail)
      go_ret
      exact ⟨rfl, HT.out.below⟩
    have HSH := Lib.hid (HFF.out rfl)
    have hll : (L.length : Int) ≤ 200 := by have := HSH.out.1; omega
    clear HFF
    go_upto_block 0 with (fail)
    clear hnn
    go_wp2_with (fail)
    go_loopw [13, 14, 15, 16, 17, 18] (fun rv iv _ _ _ _ wr => ∃ (i : Nat) (s : MSt) (l : List Ev) (r : Int), i ≤ L.length ∧ iv = .int .i64 i ∧ rv = .int .i64 r ∧ Hid (r = s.n ∧ PlI w mb tb hb s l i wr)) (fun _ iv _ _ _ _ _ => L.length - (intOf iv).toNat)
    case atStart => exact ⟨0, ms0, [], 0, Nat.zero_le _, rfl, rfl, Lib.hid ⟨rfl, HT.out⟩⟩
    case round =>
      obtain ⟨i, s, l, r, hi, rfl, rfl, HI⟩ := hrel
      have i1 : (0 : Int) ≤ (i : Int) := by omega
      have r0 : 0 ≤ r := by rw [HI.out.1]; exact HI.out.2.ok.n0
      have r1 : r ≤ 200 := by have := HI.out.2.ok.n1; have := HI.out.1; omega
      by_cases hil : i < L.length
      · have i2 : (i : Int) < (L.length : Int) := by omega
        obtain ⟨x, hx⟩ : ∃ x, L[i]? = some x := ⟨_, List.getElem?_eq_getElem hil⟩
        have hxl := List.mem_of_getElem? hx
        have HFIT := Lib.hid (fit_of (HII.out x hxl) (HSH.out.2 x hxl))
        have HIS := Lib.hid (And.intro (HII.out x hxl) (HSH.out.2 x hxl))
        obtain ⟨g, off, rfl, d0, d1, d2, d3, d4⟩ := rd_cells (HRD.out.below HI.out.2.below) hx
        have HIG := Lib.hid (m_ingest wr mb tb s x HI.out.2.mt HFIT.out HI.out.2.ok.v0 (by have := HI.out.2.ok.v1; omega) HI.out.2.ok.n0 (by have := HI.out.2.ok.n1; omega) (by have := HI.out.2.ok.size; omega))
        obtain ⟨b, hbq⟩ : ∃ b, b = (ingR s x).1 := ⟨_, rfl⟩
        obtain ⟨c, hcq⟩ : ∃ c, c = (ingR s x).2 := ⟨_, rfl⟩
        rw [← hbq, ← hcq] at HIG
        obtain ⟨v, hv⟩ := HI.out.2.doc
        have HV := Lib.hid hv
        have HBE := Lib.hid (ing_beside HI.out.2.bes HI.out.2.ok x)
        have HRB : Hid ((hR l x).1 = b ∧ (hR l x).2 = c) := Lib.hid (by rw [HBE.out.1]; exact ⟨hbq.symm, hcq.symm⟩)
        have HNN : Hid ((ingS s x).n = if b = true then r + 1 else r) := Lib.hid (by rw [known_n HI.out.2.ok, ← hbq, HI.out.1])
        have CELL : Hid (∀ w', Below w.heap.size w w' → w'.cell? ⟨g, off + i * 5, none⟩ = some (.string x.key) ∧ w'.cell? ⟨g, off + i * 5 + 1, none⟩ = some (.string x.acct) ∧ w'.cell? ⟨g, off + i * 5 + 2, none⟩ = some (.string x.mtr) ∧ w'.cell? ⟨g, off + i * 5 + 3, none⟩ = some (.int .i64 x.qty) ∧ w'.cell? ⟨g, off + i * 5 + 4, none⟩ = some (.int .i64 x.at_)) := Lib.hid fun W hW => by
          obtain ⟨_, _, q1, p0, p1, p2, p3, p4⟩ := rd_cells (HRD.out.below hW) hx
          simp only [Option.some.injEq, Addr.mk.injEq, and_true] at q1
          obtain ⟨rfl, rfl⟩ := q1
          exact ⟨p0, p1, p2, p3, p4⟩
        clear hbq hcq hv hxl hx
        go_wp2_with (fail)
        refine HIG.out.mono ?_
        rintro e w4 ⟨rfl, hm4, hk4⟩
        have HM4 := Lib.hid hm4
        have HB4 := Lib.hid (two_below HI.out.2.below hk4 HI.out.2.l1 HI.out.2.l2)
        have HD4 := Lib.hid (HV.out.beside HI.out.2.mt hk4)
        have HZE := Lib.hid (z_event w4 x)
        clear hm4 hk4 d0 d1 d2 d3 d4 HIG
        obtain ⟨d0, d1, d2, d3, d4⟩ := CELL.out _ HB4.out
        go_wp2_with (fail)
        refine HZE.out.mono ?_
        rintro e w5 ⟨rfl, hb5⟩
        have HM5 := Lib.hid (HM4.out.below hb5)
        have HD5 := Lib.hid (HD4.out.below hb5)
        have HB5 := Lib.hid (HB4.out.trans (hb5.mono HB4.out.size))
        have HHI := Lib.hid (hm_ingest w5 hb v l x HD5.out HFIT.out (by have := beside_len HI.out.2.bes; have := HI.out.2.ok.size; omega))
        rw [HRB.out.1, HRB.out.2] at HHI
        clear hb5 d0 d1 d2 d3 d4 HZE
        go_wp2_with (fail)
        refine HHI.out.mono ?_
        rintro e w6 ⟨rfl, hd6, hk6⟩
        have HP6 : Hid (PlI w mb tb hb (ingS s x) (hS l x) (i + 1) w6) := Lib.hid
          ⟨HM5.out.byDoc HD5.out hk6, ing_ok HI.out.2.ok, hd6, HBE.out.2, below_keeps HB5.out hk6 (fun j e => by have e2 : j = hb := e; rw [e2]; exact HI.out.2.l3) HB5.out.size, HI.out.2.l1, HI.out.2.l2, HI.out.2.l3⟩
        clear hd6 hk6 HHI
        obtain ⟨r', hr'⟩ : ∃ r', r' = (ingS s x).n := ⟨_, rfl⟩
        have HR' := Lib.hid hr'
        have hr0 : 0 ≤ r' := by rw [hr']; exact HP6.out.ok.n0
        have hr1 : r' ≤ 400 := by have := HP6.out.ok.n1; omega
        have HRN : Hid (r' = if b = true then r + 1 else r) := Lib.hid (hr'.trans HNN.out)
        obtain ⟨cx, hcx⟩ : ∃ cx, cx = checkE x := ⟨_, rfl⟩
        have HCX := Lib.hid hcx
        clear hr' hcx
        go_upto_if 70 with (fail)
        go_cut [13] from 45 to 118 (fun rv wx => wx = w6 ∧ rv = .int .i64 r')
        case first =>
          cases b with
          | true =>
            have e : Hid (r' = r + 1) := Lib.hid (by rw [HRN.out]; rfl)
            go_wp2_with (fail)
            go_meet
            exact ⟨rfl, by rw [e.out]⟩
          | false =>
            have e : Hid (r' = r) := Lib.hid (by rw [HRN.out]; rfl)
            go_wp2_with (fail)
            go_meet
            exact ⟨rfl, by rw [e.out]⟩
        case rest =>
          obtain ⟨hw, rfl⟩ := hcut
          subst hw
          obtain ⟨d0, d1, d2, d3, d4⟩ := CELL.out _ HP6.out.below
          have KS : Hid (∀ w', Below wc.heap.size wc w' → w'.cell? ⟨g, off + i * 5, none⟩ = some (.string x.key) ∧ w'.cell? ⟨g, off + i * 5 + 1, none⟩ = some (.string x.acct) ∧ w'.cell? ⟨g, off + i * 5 + 2, none⟩ = some (.string x.mtr) ∧ w'.cell? ⟨g, off + i * 5 + 3, none⟩ = some (.int .i64 x.qty) ∧ w'.cell? ⟨g, off + i * 5 + 4, none⟩ = some (.int .i64 x.at_)) := Lib.hid fun W hW => CELL.out _ (HP6.out.below.trans (hW.mono HP6.out.below.size))
          have hb0 : Below wc.heap.size wc wc.drew := (Below.refl _ _).drew
          have HNU : Hid (∀ (y : Int) W, Below wc.heap.size wc W → Calls Tryz.prog 11 #[.int .i64 y] W fun e w' => e = .returned (.int .i64 y) ∧ (w'.cell? ⟨g, off + i * 5, none⟩ = some (.string x.key) ∧ w'.cell? ⟨g, off + i * 5 + 1, none⟩ = some (.string x.acct) ∧ w'.cell? ⟨g, off + i * 5 + 2, none⟩ = some (.string x.mtr) ∧ w'.cell? ⟨g, off + i * 5 + 3, none⟩ = some (.int .i64 x.qty) ∧ w'.cell? ⟨g, off + i * 5 + 4, none⟩ = some (.int .i64 x.at_)) ∧ Hid (Below wc.heap.size wc w')) := Lib.hid fun y W hW =>
            (m_num y W).mono fun e w' ⟨he, hw⟩ => ⟨he, KS.out _ (hw ▸ hW), Lib.hid (hw ▸ hW)⟩
          have HCHK : Hid (∀ W, Below wc.heap.size wc W → Calls Tryz.prog 17 #[.agg #[.string x.key, .string x.acct, .string x.mtr, .int .i64 x.qty, .int .i64 x.at_]] W fun e w' => e = .returned (.int .i64 cx) ∧ (w'.cell? ⟨g, off + i * 5, none⟩ = some (.string x.key) ∧ w'.cell? ⟨g, off + i * 5 + 1, none⟩ = some (.string x.acct) ∧ w'.cell? ⟨g, off + i * 5 + 2, none⟩ = some (.string x.mtr) ∧ w'.cell? ⟨g, off + i * 5 + 3, none⟩ = some (.int .i64 x.qty) ∧ w'.cell? ⟨g, off + i * 5 + 4, none⟩ = some (.int .i64 x.at_)) ∧ Hid (Below wc.heap.size wc w')) := Lib.hid fun W hW => by
            have h1 := m_check W x HFIT.out
            rw [← HCX.out] at h1
            exact h1.mono fun e w' ⟨he, hb'⟩ => ⟨he, KS.out _ (hW.trans (hb'.mono hW.size)), Lib.hid (hW.trans (hb'.mono hW.size))⟩
          have HHCK : Hid (∀ W, Below wc.heap.size wc W → Calls Tryz.prog 18 #[.agg #[.string x.key, .string x.acct, .string x.mtr, .int .i64 x.qty, .int .i64 x.at_]] W fun e w' => e = .returned (.int .i64 cx) ∧ (w'.cell? ⟨g, off + i * 5, none⟩ = some (.string x.key) ∧ w'.cell? ⟨g, off + i * 5 + 1, none⟩ = some (.string x.acct) ∧ w'.cell? ⟨g, off + i * 5 + 2, none⟩ = some (.string x.mtr) ∧ w'.cell? ⟨g, off + i * 5 + 3, none⟩ = some (.int .i64 x.qty) ∧ w'.cell? ⟨g, off + i * 5 + 4, none⟩ = some (.int .i64 x.at_)) ∧ Hid (Below wc.heap.size wc w')) := Lib.hid fun W hW => by
            have h1 := hm_check W x HFIT.out
            rw [← HCX.out] at h1
            exact h1.mono fun e w' ⟨he, hb'⟩ => ⟨he, KS.out _ (hW.trans (hb'.mono hW.size)), Lib.hid (hW.trans (hb'.mono hW.size))⟩
          have HZE : Hid (∀ W, Below wc.heap.size wc W → Calls Tryz.prog 16 #[.agg #[.string x.key, .string x.acct, .string x.mtr, .int .i64 x.qty, .int .i64 x.at_]] W fun e w' => e = .returned (.agg #[.string x.key, .string x.acct, .string x.mtr, .int .i64 x.qty, .int .i64 x.at_]) ∧ (w'.cell? ⟨g, off + i * 5, none⟩ = some (.string x.key) ∧ w'.cell? ⟨g, off + i * 5 + 1, none⟩ = some (.string x.acct) ∧ w'.cell? ⟨g, off + i * 5 + 2, none⟩ = some (.string x.mtr) ∧ w'.cell? ⟨g, off + i * 5 + 3, none⟩ = some (.int .i64 x.qty) ∧ w'.cell? ⟨g, off + i * 5 + 4, none⟩ = some (.int .i64 x.at_)) ∧ Hid (Below wc.heap.size wc w')) := Lib.hid fun W hW =>
            (z_event W x).mono fun e w' ⟨he, hb'⟩ => ⟨he, KS.out _ (hW.trans (hb'.mono hW.size)), Lib.hid (hW.trans (hb'.mono hW.size))⟩
          have HREP : Hid (∀ W, Below wc.heap.size wc W → Calls Tryz.prog 19 #[.pointer (some ⟨mb, 0, none⟩)] W fun e w' => e = .returned (.int .i64 r') ∧ (w'.cell? ⟨g, off + i * 5, none⟩ = some (.string x.key) ∧ w'.cell? ⟨g, off + i * 5 + 1, none⟩ = some (.string x.acct) ∧ w'.cell? ⟨g, off + i * 5 + 2, none⟩ = some (.string x.mtr) ∧ w'.cell? ⟨g, off + i * 5 + 3, none⟩ = some (.int .i64 x.qty) ∧ w'.cell? ⟨g, off + i * 5 + 4, none⟩ = some (.int .i64 x.at_)) ∧ Hid (Below wc.heap.size wc w')) := Lib.hid fun W hW => by
            have h1 := m_repeats W mb tb (ingS s x) (HP6.out.mt.below hW) HP6.out.ok.n0 (by have := HP6.out.ok.n1; omega)
            rw [← HR'.out] at h1
            exact h1.mono fun e w' ⟨he, hw⟩ => ⟨he, KS.out _ (hw ▸ hW), Lib.hid (hw ▸ hW)⟩
          go_upto_region 15 with (fail)
          go_cut [102] from 45 to 118 (fun bv wx => bv = .bool false ∧ Hid (Below wc.heap.size wc wx))
          case first => as_aux_lemma =>
            go_region_held3 (fun w' => w'.cell? ⟨g, off + i * 5, none⟩ = some (.string x.key) ∧ w'.cell? ⟨g, off + i * 5 + 1, none⟩ = some (.string x.acct) ∧ w'.cell? ⟨g, off + i * 5 + 2, none⟩ = some (.string x.mtr) ∧ w'.cell? ⟨g, off + i * 5 + 3, none⟩ = some (.int .i64 x.qty) ∧ w'.cell? ⟨g, off + i * 5 + 4, none⟩ = some (.int .i64 x.at_))
              (first | go_keep | exact s1 | exact s2 | exact s3 | exact s4 | exact s5)
              (first
                | (go_at_call 11; (with_reducible refine (HNU.out _ _ ?_).mono ?_); (first | exact hb0 | exact HCN.out | exact HCK.out | exact HCE.out | exact HCH.out | exact HCR.out); rintro e w11 ⟨rfl, s1, HCN⟩)
                | (go_at_call 17; (with_reducible refine (HCHK.out _ ?_).mono ?_); (first | exact hb0 | exact HCN.out | exact HCK.out | exact HCE.out | exact HCH.out | exact HCR.out); rintro e w12 ⟨rfl, s2, HCK⟩)
                | (go_at_call 16; (with_reducible refine (HZE.out _ ?_).mono ?_); (first | exact hb0 | exact HCN.out | exact HCK.out | exact HCE.out | exact HCH.out | exact HCR.out); rintro e w13 ⟨rfl, s3, HCE⟩)
                | (go_at_call 18; (with_reducible refine (HHCK.out _ ?_).mono ?_); (first | exact hb0 | exact HCN.out | exact HCK.out | exact HCE.out | exact HCH.out | exact HCR.out); rintro e w14 ⟨rfl, s4, HCH⟩)
                | (go_at_call 19; (with_reducible refine (HREP.out _ ?_).mono ?_); (first | exact hb0 | exact HCN.out | exact HCK.out | exact HCE.out | exact HCH.out | exact HCR.out); rintro e w15 ⟨rfl, s5, HCR⟩))
            all_goals
              go_wp2_with (fail)
              go_meet
              exact ⟨rfl, HCR⟩
          case rest =>
            obtain ⟨rfl, HW⟩ := hcut
            have HP7 := Lib.hid (HP6.out.ext HW.out)
            clear HP6 KS HNU HCHK HHCK HZE HREP hb0 d0 d1 d2 d3 d4
            have KS : Hid (∀ w', Below wc.heap.size wc w' → w'.cell? ⟨g, off + i * 5, none⟩ = some (.string x.key) ∧ w'.cell? ⟨g, off + i * 5 + 1, none⟩ = some (.string x.acct)) := Lib.hid fun W hW => by
              obtain ⟨c0, c1, -⟩ := CELL.out _ (HP7.out.below.trans (hW.mono HP7.out.below.size))
              exact ⟨c0, c1⟩
            obtain ⟨v7, hv7⟩ := HP7.out.doc
            have HV7 := Lib.hid hv7
            have HSA : Hid (∀ W, Below wc.heap.size wc W → Calls Tryz.prog 20 #[.pointer (some ⟨mb, 0, none⟩), .pointer (some ⟨hb, 0, none⟩), .string x.acct, .string x.key, .int .i64 p, .int .i64 m] W fun e w' => e = .returned (.bool true) ∧ (w'.cell? ⟨g, off + i * 5, none⟩ = some (.string x.key) ∧ w'.cell? ⟨g, off + i * 5 + 1, none⟩ = some (.string x.acct)) ∧ Hid (Below wc.heap.size wc w')) := Lib.hid fun W hW => by
              have h1 := z_same (HP7.out.mt.below hW) HP7.out.ok (by omega) (HV7.out.below hW) HP7.out.bes x.acct x.key (by have := HFIT.out.acct; omega) p m
              exact h1.mono fun e w' ⟨he, hb'⟩ => ⟨he, KS.out _ (hW.trans (hb'.mono hW.size)), Lib.hid (hW.trans (hb'.mono hW.size))⟩
            obtain ⟨d0, d1⟩ := KS.out _ (Below.refl _ _)
            have hb0 : Below wc.heap.size wc wc.drew := (Below.refl _ _).drew
            clear hv7
            go_wp2_with (fail)
            go_region_held3 (fun w' => w'.cell? ⟨g, off + i * 5, none⟩ = some (.string x.key) ∧ w'.cell? ⟨g, off + i * 5 + 1, none⟩ = some (.string x.acct))
              (first | go_keep | exact s1)
              (first
                | (go_at_call 20; (with_reducible refine (HSA.out _ ?_).mono ?_); exact hb0; rintro e w16 ⟨rfl, s1, HC⟩))
            have HNX : Hid (r' = (ingS s x).n ∧ PlI w mb tb hb (ingS s x) (hS l x) (i + 1) w16) := Lib.hid ⟨HR'.out, HP7.out.ext HC.out⟩
            clear HSA hb0 d0 d1
            go_wp2_with (fail)
            go_roundw
            case rel => exact ⟨i + 1, ingS s x, hS l x, r', by omega, by go_num, rfl, HNX⟩
            case measure => simp [intOf]; omega
      · have i2 : ¬ (i : Int) < (L.length : Int) := by omega
        have hie : i = L.length := by omega
        subst hie
        obtain ⟨v, hv⟩ := HI.out.2.doc
        have HSA := Lib.hid (z_same HI.out.2.mt HI.out.2.ok (by omega) hv HI.out.2.bes n ⟨#[]⟩ HN.out p m)
        clear hv
        go_wp2_with (fail)
        refine HSA.out.mono ?_
        rintro e w7 ⟨rfl, hb7⟩
        have HFN := Lib.hid (HI.out.2.below.trans (hb7.mono HI.out.2.below.size))
        clear hb7
        go_wp2_with (fail)
        go_ret
        exact ⟨rfl, HFN.out⟩
end Go.Proofs.YtkbdofbjfcajbaaGreat
