/- The walks of exref7.text and exref7.Print. -/
import Derived.Test.YthjcolehccbihaaGreatDoorz45
set_option linter.unusedSectionVars false
set_option linter.unusedSimpArgs false
set_option linter.unusedVariables false
namespace Go.Proofs.YthjcolehccbihaaGreatDoor
open Go.RowKit Go.Shelf
/-- The contract of text. -/
def TextOk (v : JV) : Prop := ∀ (d : Nat) (q : RawV) (w : World) (A : Nat → Prop), chk d v = 0 → v.Fit → (lay v).length ≤ 1000000 → JAt w A v q →
  Calls Tryz.prog 53 #[.agg #[.int .i64 q.k, .string q.t, .slice q.la q.ll q.lc, .slice q.na q.nl q.nc]] w fun e w' => e = .returned (.string (str (lay v))) ∧ Below w.heap.size w w'
theorem str_len (l : List UInt8) : (str l).size = l.length := by show l.toArray.size = _; rw [List.size_toArray]
theorem chk_ownA {d : Nat} {k : Int} {t : ByteArray} {l : List JV} {ns : List ByteArray} (h : chk d (.mk k t l ns) = 0) : chkOwn d k t l.length ns = 0 := by
  unfold chk at h
  by_cases ho : chkOwn d k t l.length ns = 0
  · exact ho
  · rw [if_pos ho] at h; exact absurd h ho
theorem own_kindA {d n : Nat} {k : Int} {t : ByteArray} {ns : List ByteArray} (h : chkOwn d k t n ns = 0) : 0 ≤ k ∧ k ≤ 6 := by
  by_cases hb : k < 0 ∨ 6 < k
  · rw [own_7 hb] at h; cases h
  · omega
theorem own_sixA {d n : Nat} {t : ByteArray} {ns : List ByteArray} (h : chkOwn d 6 t n ns = 0) : ns.length = n ∧ n ≤ 1000 ∧ distinct (ns.map raw) = true := by
  rw [own_6] at h
  by_cases h1 : (ns.all fun s => valid (raw s)) = false
  · rw [if_pos h1] at h; cases h
  rw [if_neg h1] at h
  by_cases h2 : ns.length = n
  · rw [if_neg (fun h => h h2)] at h
    by_cases h3 : 32 ≤ d
    · rw [if_pos h3] at h; cases h
    rw [if_neg h3] at h
    by_cases h4 : 1000 < n
    · rw [if_pos h4] at h; cases h
    rw [if_neg h4] at h
    refine ⟨h2, by omega, ?_⟩
    cases hd : distinct (ns.map raw) with
    | true => rfl
    | false => rw [hd] at h; cases h
  · rw [if_pos h2] at h; cases h
theorem chk_partsA {d : Nat} {k : Int} {t : ByteArray} {l : List JV} {ns : List ByteArray} (h : chk d (.mk k t l ns) = 0) (hk : ¬ k < 5) : ∀ v ∈ l, chk (d + 1) v = 0 := by
  have h2 := chk_list (chk_ownA h) hk
  rw [h2] at h
  exact chkAll_mem h
section
variable {w : World}
set_option maxRecDepth 100000 in
set_option maxHeartbeats 16000000 in
theorem k_text1 (k : Int) (t : ByteArray) (l : List JV) (ns : List ByteArray) (ih : ∀ v ∈ l, TextOk v) : TextOk (.mk k t l ns) := by
  intro d q w A hchk hf hlen hq
  simp only [JAt] at hq
  obtain ⟨hqk, hqt, ⟨hns, -, hncap⟩, rs, ⟨hrs, -⟩, hl⟩ := hq
  simp only [JV.Fit] at hf
  have e1 : q.ll = l.length := by
    obtain ⟨_, _, e, _⟩ := hrs
    injection e with _ e _
    rw [e, hl.length]
  have e3 : q.nl = ns.length := by obtain ⟨_, _, e, _⟩ := hns; injection e
  obtain ⟨w1, hw1, HB1⟩ := kbox_new w q
  obtain ⟨qk, qt, la, ll, lc, na, nl, nc⟩ := q
  simp only at hqk hqt e1 e3 hncap
  subst hqk hqt e1 e3
  simp only [RawV.lv, RawV.nv] at hns hrs
  simp only at hw1
  have HW1 := Lib.hid hw1
  have HRD := Lib.hid (And.intro hns (And.intro hrs hl))
  have HF := Lib.hid hf
  have HIH := Lib.hid ih
  have HCH := Lib.hid hchk
  have HLEN := Lib.hid hlen
  have hkind := own_kindA (chk_ownA hchk)
  have hlm : (l.length : Int) ≤ 1000000 := by omega
  have hnm : (ns.length : Int) ≤ 1000000 := by omega
  have hcells : ∀ W, Below w1.heap.size w1 W → (W.cell? ⟨w.heap.size, 0, none⟩ = some (.int .i64 qk) ∧ W.cell? ⟨w.heap.size, 1, none⟩ = some (.string qt) ∧ W.cell? ⟨w.heap.size, 2, none⟩ = some (.slice la l.length lc) ∧ W.cell? ⟨w.heap.size, 3, none⟩ = some (.slice na ns.length nc)) := fun W h => (kbox_cells (kbox_below HB1.out.2 h)).1
  obtain ⟨b0, b1, b2, b3⟩ := hcells w1 (Below.refl _ _)
  have HC := Lib.hid hcells
  have HB := Lib.hid HB1.out.1
  obtain ⟨RES, hres⟩ : ∃ r, r = str (lay (.mk qk qt l ns)) := ⟨_, rfl⟩
  rw [← hres]
  have HRES := Lib.hid hres
  clear hw1 hf hns hrs hl ih HB1 hres hcells hncap hchk hlen
  by_cases h0 : qk = 0
  · subst h0
    have HR : Hid ((⟨#[110, 117, 108, 108]⟩ : ByteArray) = RES) := Lib.hid (by rw [HRES.out]; unfold lay; simp; try rfl)
    go_enter Tryz.func53, Tryz.ntmps53
    go_upto_region 1 with (fail)
    rw [HW1.out]
    go_wp2_with (fail)
    go_ret
    exact ⟨by rw [← HR.out]; rfl, HB.out⟩
  have t0 : (qk == 0) = false := by simpa using h0
  by_cases h1 : qk = 1
  · subst h1
    have HR : Hid ((⟨#[102, 97, 108, 115, 101]⟩ : ByteArray) = RES) := Lib.hid (by rw [HRES.out]; unfold lay; simp; try rfl)
    go_enter Tryz.func53, Tryz.ntmps53
    go_upto_region 1 with (fail)
    rw [HW1.out]
    go_wp2_with (fail)
    go_ret
    exact ⟨by rw [← HR.out]; rfl, HB.out⟩
  have t1 : (qk == 1) = false := by simpa using h1
  by_cases h2 : qk = 2
  · subst h2
    have HR : Hid ((⟨#[116, 114, 117, 101]⟩ : ByteArray) = RES) := Lib.hid (by rw [HRES.out]; unfold lay; simp; try rfl)
    go_enter Tryz.func53, Tryz.ntmps53
    go_upto_region 1 with (fail)
    rw [HW1.out]
    go_wp2_with (fail)
    go_ret
    exact ⟨by rw [← HR.out]; rfl, HB.out⟩
  have t2 : (qk == 2) = false := by simpa using h2
  by_cases h3 : qk = 3
  · subst h3
    have HR : Hid (qt = RES) := Lib.hid (by rw [HRES.out]; unfold lay; simp; exact (str_of qt).symm)
    go_enter Tryz.func53, Tryz.ntmps53
    go_upto_region 1 with (fail)
    rw [HW1.out]
    go_wp2_with (fail)
    go_ret
    exact ⟨by rw [← HR.out]; rfl, HB.out⟩
  have t3 : (qk == 3) = false := by simpa using h3
  by_cases h4 : qk = 4
  · subst h4
    have HR : Hid (str (quote (raw qt)) = RES) := Lib.hid (by rw [HRES.out]; unfold lay; simp)
    have HQ := Lib.hid (k_quote (w := w1) qt HF.out.1)
    rw [HR.out] at HQ
    go_enter Tryz.func53, Tryz.ntmps53
    go_upto_region 1 with (fail)
    rw [HW1.out]
    go_wp2_with (fail)
    refine HQ.out.mono ?_
    rintro e w2 ⟨rfl, hb2⟩
    have HB2 := Lib.hid (HB.out.trans (hb2.mono HB.out.size))
    clear hb2
    go_wp2_with (fail)
    go_ret
    exact ⟨rfl, HB2.out⟩
  have t4 : (qk == 4) = false := by simpa using h4
  have HPC : Hid (∀ v ∈ l, chk (d + 1) v = 0) := Lib.hid (chk_partsA HCH.out (by omega))
  by_cases h5 : qk = 5
  · subst h5
    have HR : Hid (RES = str (91 :: (commas (l.map lay) ++ [93])) ∧ (commas (l.map lay)).length + 2 ≤ 1000000) := Lib.hid (by
      have h1 := HLEN.out
      rw [lay_arr, layAll_map] at h1
      refine ⟨by rw [HRES.out, lay_arr, layAll_map], ?_⟩
      simp at h1
      omega)
    have HBB := Lib.hid (Below.refl w1.heap.size w1)
    clear h0 h1 h2 h3 h4 t0 t1 t2 t3 t4 hkind
    go_enter Tryz.func53, Tryz.ntmps53
    go_upto_region 1 with (fail)
    rw [HW1.out]
    go_wp2_with (fail)
    clear b0 b1 b2 b3
    go_loopw [3, 4] (fun sv iv wr => ∃ (i : Nat) (S : ByteArray), i ≤ l.length ∧ iv = .int .i64 (i : Int) ∧ sv = .string S ∧ Hid (S = str (91 :: commas ((l.map lay).take i))) ∧ Hid (Below w1.heap.size w1 wr)) (fun _ iv _ => l.length - (intOf iv).toNat)
    case atStart => exact ⟨0, _, Nat.zero_le _, rfl, rfl, Lib.hid rfl, HBB⟩
    case round =>
      obtain ⟨i, S, hi, rfl, rfl, HS, HBW⟩ := hrel
      obtain ⟨b0, b1, b2, b3⟩ := HC.out _ HBW.out
      by_cases hlt : i < l.length
      · have q1 : (0 : Int) ≤ (i : Int) := by omega
        have q2 : (i : Int) < (l.length : Int) := by omega
        obtain ⟨x, hx⟩ : ∃ x, l[i]? = some x := ⟨_, List.getElem?_eq_getElem hlt⟩
        obtain ⟨r, hr, hjr⟩ := HRD.out.2.2.get hx
        have hbw := HB.out.trans (HBW.out.mono HB.out.size)
        obtain ⟨lg, loff, rfl, r0, r1, r2, r3⟩ := raw_cells (HRD.out.2.1.below hbw) hr
        have HSTEP := Lib.hid (commas_step (P := l.map lay) (i := i) (x := lay x) (by rw [List.getElem?_map, hx]; rfl))
        have HTX := Lib.hid (HIH.out x (List.mem_of_getElem? hx) (d + 1) r wr A (HPC.out x (List.mem_of_getElem? hx)) (FitAll.mem HF.out.2.2.2.2 x (List.mem_of_getElem? hx)) (by have h1 := HSTEP.out.2; have h2 := HR.out.2; omega) (hjr.below hbw))
        have HLT := Lib.hid hlt
        have hz : (S.size : Int) ≤ 1000000 := by
          rw [HS.out, str_len, List.length_cons]
          obtain ⟨rr, hrr⟩ := commas_app ((l.map lay).take i) ((l.map lay).drop i)
          rw [List.take_append_drop] at hrr
          have h1 := congrArg List.length hrr
          rw [List.length_append] at h1
          have := HR.out.2
          omega
        have hir := hr
        clear hx hr hjr hbw hlt
        by_cases hi0 : i = 0
        · have i0 : ¬ (0 : Int) < (i : Int) := by omega
          have HS2 : Hid (S = str (91 :: sepOf (l.map lay) i)) := Lib.hid (by rw [HS.out]; unfold sepOf; rw [if_pos (by omega), show i = 0 by omega]; rfl)
          have hz2 : (S.size : Int) ≤ 1000000 := by
            have h1 := HSTEP.out.2
            rw [HS2.out, str_len, List.length_cons]
            have := HR.out.2
            omega
          obtain ⟨S2, hS2⟩ : ∃ x, x = S := ⟨_, rfl⟩
          have HS3 : Hid (S2 = str (91 :: sepOf (l.map lay) i)) := Lib.hid (by rw [hS2]; exact HS2.out)
          clear hir hi0
          go_upto_region 19 with (fail)
          rw [← hS2]
          rw [← hS2] at hz2
          clear hS2
          go_wp2_with (fail)
          refine HTX.out.mono ?_
          rintro e w4 ⟨rfl, hb4⟩
          have HB4 : Hid (Below w1.heap.size w1 w4) := Lib.hid (HBW.out.trans (hb4.mono HBW.out.size))
          have hx1 : ((str (lay x)).size : Int) ≤ 1000000 := by
            rw [str_len]
            have := HSTEP.out.2
            have := HR.out.2
            omega
          have HNX : Hid (S2 ++ str (lay x) = str (91 :: commas ((l.map lay).take (i + 1)))) := Lib.hid (by
            rw [HS3.out, str_add, ← HSTEP.out.1]; rfl)
          clear hb4
          obtain ⟨X, hX⟩ : ∃ X, X = str (lay x) := ⟨_, rfl⟩
          rw [← hX] at hx1 HNX ⊢
          clear hX
          go_wp2_with (fail)
          go_roundw
          case rel => exact ⟨i + 1, _, HLT.out, by go_num, rfl, HNX, HB4⟩
          case measure => have := HLT.out; simp [intOf]; omega
        · have i0 : (0 : Int) < (i : Int) := by omega
          have HS2 : Hid (S ++ ⟨#[44]⟩ = str (91 :: sepOf (l.map lay) i)) := Lib.hid (by rw [HS.out]; unfold sepOf; rw [if_neg (by omega)]; exact str_add (91 :: commas ((l.map lay).take i)) [44])
          have hc1 : (((⟨#[44]⟩ : ByteArray).size : Int)) ≤ 1 := by decide
          have hz2 : ((S ++ ⟨#[44]⟩).size : Int) ≤ 1000000 := by
            have h1 := HSTEP.out.2
            rw [HS2.out, str_len, List.length_cons]
            have := HR.out.2
            omega
          obtain ⟨S2, hS2⟩ : ∃ x, x = (S ++ ⟨#[44]⟩) := ⟨_, rfl⟩
          have HS3 : Hid (S2 = str (91 :: sepOf (l.map lay) i)) := Lib.hid (by rw [hS2]; exact HS2.out)
          clear hir hi0
          go_upto_region 19 with (fail)
          rw [← hS2]
          rw [← hS2] at hz2
          clear hS2
          go_wp2_with (fail)
          refine HTX.out.mono ?_
          rintro e w4 ⟨rfl, hb4⟩
          have HB4 : Hid (Below w1.heap.size w1 w4) := Lib.hid (HBW.out.trans (hb4.mono HBW.out.size))
          have hx1 : ((str (lay x)).size : Int) ≤ 1000000 := by
            rw [str_len]
            have := HSTEP.out.2
            have := HR.out.2
            omega
          have HNX : Hid (S2 ++ str (lay x) = str (91 :: commas ((l.map lay).take (i + 1)))) := Lib.hid (by
            rw [HS3.out, str_add, ← HSTEP.out.1]; rfl)
          clear hb4
          obtain ⟨X, hX⟩ : ∃ X, X = str (lay x) := ⟨_, rfl⟩
          rw [← hX] at hx1 HNX ⊢
          clear hX
          go_wp2_with (fail)
          go_roundw
          case rel => exact ⟨i + 1, _, HLT.out, by go_num, rfl, HNX, HB4⟩
          case measure => have := HLT.out; simp [intOf]; omega
      · have q2 : ¬ (i : Int) < (l.length : Int) := by omega
        have HS2 : Hid (S ++ ⟨#[93]⟩ = RES) := Lib.hid (by
          rw [HS.out, HR.out.1, List.take_of_length_le (by rw [List.length_map]; omega)]
          exact str_add (91 :: commas (l.map lay)) [93])
        have hz : (S.size : Int) ≤ 1000000 := by
          rw [HS.out, str_len, List.length_cons, List.take_of_length_le (by rw [List.length_map]; omega)]
          have := HR.out.2
          omega
        have hc1 : (((⟨#[93]⟩ : ByteArray).size : Int)) ≤ 1 := by decide
        have HB5 : Hid (Below w.heap.size w wr) := Lib.hid (HB.out.trans (HBW.out.mono HB.out.size))
        clear hlt
        go_wp2_with (fail)
        go_ret
        exact ⟨by rw [← HS2.out]; rfl, HB5.out⟩
  have t5 : (qk == 5) = false := by simpa using h5
  have h6 : qk = 6 := by omega
  subst h6
  obtain ⟨hlen, hl1k, hdist⟩ := own_sixA (chk_ownA HCH.out)
  obtain ⟨P, hP⟩ : ∃ P, P = (layPairs ns l).map layPair := ⟨_, rfl⟩
  have HR : Hid (RES = str (123 :: (commas P ++ [125])) ∧ (commas P).length + 2 ≤ 1000000) := Lib.hid (by
    have h1 := HLEN.out
    rw [lay_obj, ← hP] at h1
    refine ⟨by rw [HRES.out, lay_obj, hP], ?_⟩
    simp at h1
    omega)
  have HP := Lib.hid hP
  have HD := Lib.hid (And.intro hlen hdist)
  have HRI := Lib.hid (r_rising w1 na nc ns (HRD.out.1.below HB.out) (by omega))
  have hl1 : (ns.length : Int) = (l.length : Int) := by omega
  clear h0 h1 h2 h3 h4 h5 t0 t1 t2 t3 t4 t5 hkind hP hlen hl1k hdist hl1
  go_enter Tryz.func53, Tryz.ntmps53
  go_upto_region 1 with (fail)
  rw [HW1.out]
  go_wp2_with (fail)
  refine HRI.out.mono ?_
  rintro e w2 ⟨u, RR, rfl, hrs⟩
  obtain ⟨ra, rc, rfl⟩ := hrs.sl.shape
  have HRS := Lib.hid hrs
  have HB12 := Lib.hid hrs.below
  have HB2 : Hid (Below w.heap.size w w2) := Lib.hid (HB.out.trans (hrs.below.mono HB.out.size))
  have HRR : Hid (Rising ns RR) := Lib.hid (by have := hrs.ri; rw [List.take_length] at this; exact this)
  have HRL : Hid (RR.length = P.length ∧ RR.length ≤ 1000000) := Lib.hid (by
    refine ⟨by rw [HP.out, List.length_map]; exact names_len HD.out.1 HD.out.2 HRR.out, ?_⟩
    exact Nat.le_trans (rising_len HRR.out) HF.out.2.1)
  have hrm : (RR.length : Int) ≤ 1000000 := by have := HRL.out.2; omega
  have HBB := Lib.hid (Below.refl w2.heap.size w2)
  clear hrs b0 b1 b2 b3
  obtain ⟨b0, b1, b2, b3⟩ := HC.out _ HB12.out
  go_wp2_with (fail)
  clear b0 b1 b2 b3
  go_loopw [5, 7, 8] (fun sv iv _ wr => ∃ (i : Nat) (S : ByteArray), i ≤ RR.length ∧ iv = .int .i64 (i : Int) ∧ sv = .string S ∧ Hid (S = str (123 :: commas (P.take i))) ∧ Hid (Below w2.heap.size w2 wr)) (fun _ iv _ _ => RR.length - (intOf iv).toNat)
  case atStart => exact ⟨0, _, Nat.zero_le _, rfl, rfl, Lib.hid rfl, HBB⟩
  case round =>
    obtain ⟨i, S, hi, rfl, rfl, HS, HBW⟩ := hrel
    obtain ⟨b0, b1, b2, b3⟩ := HC.out _ (HB12.out.trans (HBW.out.mono HB12.out.size))
    have hz : (S.size : Int) ≤ 1000000 := by
      rw [HS.out, str_len, List.length_cons]
      obtain ⟨rr, hrr⟩ := commas_app (P.take i) (P.drop i)
      rw [List.take_append_drop] at hrr
      have h1 := congrArg List.length hrr
      rw [List.length_append] at h1
      have := HR.out.2
      omega
    by_cases hlt : i < RR.length
    · have q1 : (0 : Int) ≤ (i : Int) := by omega
      have q2 : (i : Int) < (RR.length : Int) := by omega
      obtain ⟨nm, hnm⟩ : ∃ nm, RR[i]? = some nm := ⟨_, List.getElem?_eq_getElem hlt⟩
      obtain ⟨k0, x, hk0, hx0, hp0⟩ := names_at HD.out.1 HD.out.2 HRR.out hnm
      have HSTEP := Lib.hid (commas_step (P := P) (i := i) (x := layPair (raw nm, lay x)) (by rw [HP.out, List.getElem?_map, hp0]; rfl))
      obtain ⟨r, hr, hjr⟩ := HRD.out.2.2.get hx0
      obtain ⟨lg, loff, rfl, -⟩ := raw_cells HRD.out.2.1 hr
      obtain ⟨rg, ro, rfl, -⟩ := text_cell HRS.out.sl.rd hnm
      have HALL : Hid (∀ W, Below w2.heap.size w2 W → W.cell? ⟨rg, ro + i, none⟩ = some (.string nm) ∧ W.cell? ⟨w.heap.size, 2, none⟩ = some (.slice (some ⟨lg, loff, none⟩) l.length lc) ∧ (W.cell? ⟨lg, loff + k0 * 4, none⟩ = some (.int .i64 r.k) ∧ W.cell? ⟨lg, loff + k0 * 4 + 1, none⟩ = some (.string r.t) ∧ W.cell? ⟨lg, loff + k0 * 4 + 2, none⟩ = some (.slice r.la r.ll r.lc) ∧ W.cell? ⟨lg, loff + k0 * 4 + 3, none⟩ = some (.slice r.na r.nl r.nc))) := Lib.hid fun W h => by
        have h2 := HB2.out.trans (h.mono HB2.out.size)
        obtain ⟨g', o', e, hc⟩ := text_cell (HRS.out.sl.rd.below h) hnm
        obtain ⟨rfl, rfl⟩ : rg = g' ∧ ro = o' := by simpa using e
        exact ⟨hc, (HC.out W (HB12.out.trans (h.mono HB12.out.size))).2.2.1, raw_cells_at (HRD.out.2.1.below h2) hr⟩
      have HK0 : Hid (k0 + 1 ≤ ns.length ∧ ns[k0]? = some nm ∧ (k0 : Int) < (l.length : Int)) := Lib.hid (by
        have h1 := (List.getElem?_eq_some_iff.1 hk0).1
        have h2 := (List.getElem?_eq_some_iff.1 hx0).1
        exact ⟨h1, hk0, by omega⟩)
      have HUQ : Hid (∀ k, ns[k]? = some nm → k = k0) := Lib.hid fun k hk => by
        have hnd := (distinct_nodup _).1 HD.out.2
        rw [List.Nodup, List.pairwise_iff_getElem] at hnd
        obtain ⟨l1, e1⟩ := List.getElem?_eq_some_iff.1 hk
        obtain ⟨l2, e2⟩ := List.getElem?_eq_some_iff.1 hk0
        rcases Nat.lt_trichotomy k k0 with h | h | h
        · exact absurd (by rw [List.getElem_map, List.getElem_map, e1, e2]) (hnd k k0 (by rw [List.length_map]; exact l1) (by rw [List.length_map]; exact l2) h)
        · exact h
        · exact absurd (by rw [List.getElem_map, List.getElem_map, e1, e2]) (hnd k0 k (by rw [List.length_map]; exact l2) (by rw [List.length_map]; exact l1) h)
      have HXM : Hid (x ∈ l) := Lib.hid (List.mem_of_getElem? hx0)
      have HJR := Lib.hid hjr
      have HNM : Hid (nm.size ≤ 1000000) := Lib.hid (HF.out.2.2.1 nm (List.mem_of_getElem? hk0))
      obtain ⟨Q, hQ⟩ : ∃ Q, Q = str (quote (raw nm)) := ⟨_, rfl⟩
      obtain ⟨X, hX⟩ : ∃ X, X = str (lay x) := ⟨_, rfl⟩
      have HQQ := Lib.hid hQ
      have HXX := Lib.hid hX
      have HILT := Lib.hid hlt
      have m1 : (0 : Int) ≤ (k0 : Int) := by omega
      have m2 : (k0 : Int) < (l.length : Int) := HK0.out.2.2
      clear hnm hk0 hx0 hp0 hr hjr hQ hX hlt
      by_cases hi0 : i = 0
      · have i0 : ¬ (0 : Int) < (i : Int) := by omega
        have HS2 : Hid (S = str (123 :: sepOf P i)) := Lib.hid (by rw [HS.out]; unfold sepOf; rw [if_pos (by omega), show i = 0 by omega]; rfl)
        obtain ⟨S2, hS2⟩ : ∃ x, x = S := ⟨_, rfl⟩
        rw [← hS2] at HS2
        have HSS : Hid (S2 = str (123 :: sepOf P i)) := HS2
        have hsz : S2.size + (layPair (raw nm, lay x)).length ≤ 999999 := by
          have h1 := HSTEP.out.2
          have h2 := HR.out.2
          rw [HSS.out, str_len, List.length_cons]
          omega
        have hlp : (layPair (raw nm, lay x)).length = Q.size + 1 + X.size := by
          rw [HQQ.out, HXX.out, str_len, str_len]
          unfold layPair
          simp
          omega
        have z1 : (S2.size : Int) ≤ 1000000 := by omega
        have z2 : (Q.size : Int) ≤ 1000000 := by omega
        have z3 : (X.size : Int) ≤ 1000000 := by omega
        have z4 : ((S2 ++ Q).size : Int) ≤ 1000000 := by rw [ByteArray.size_append]; omega
        have z5 : ((S2 ++ Q ++ (⟨#[58]⟩ : ByteArray)).size : Int) ≤ 1000000 := by rw [ByteArray.size_append, ByteArray.size_append]; have : (⟨#[58]⟩ : ByteArray).size = 1 := rfl; omega
        have z6 : (((⟨#[58]⟩ : ByteArray).size : Int)) ≤ 1 := by decide
        obtain ⟨S3, hS3⟩ : ∃ x, x = S2 ++ Q ++ (⟨#[58]⟩ : ByteArray) ++ X := ⟨_, rfl⟩
        have HS3 : Hid (S2 ++ Q ++ (⟨#[58]⟩ : ByteArray) ++ X = S3) := Lib.hid hS3.symm
        have HNX : Hid (S3 = str (123 :: commas (P.take (i + 1)))) := Lib.hid (by
          rw [hS3, HSS.out, HQQ.out, HXX.out, show (⟨#[58]⟩ : ByteArray) = str [58] from rfl, str_add, str_add, str_add, ← HSTEP.out.1]
          unfold layPair
          congr 1
          simp)
        have HI0 := Lib.hid hi0
        clear hS3 hsz hlp hi0
        go_upto_region 28 with (fail)
        rw [← hS2]
        clear hS2 HS2
        go_wp2_with (fail)
        clear b0 b1 b2 b3
        go_loopw [5, 8] (fun sv kv wr => ∃ (k : Nat) (T : ByteArray), k ≤ ns.length ∧ kv = .int .i64 (k : Int) ∧ sv = .string T ∧ Hid (T = if k ≤ k0 then S2 else S3) ∧ Hid (Below w2.heap.size w2 wr)) (fun _ kv _ => ns.length - (intOf kv).toNat)
        case atStart => exact ⟨0, S2, Nat.zero_le _, rfl, rfl, Lib.hid (by rw [if_pos (Nat.zero_le _)]), HBW⟩
        case round =>
          obtain ⟨k, T, hk, rfl, rfl, HT, HBV⟩ := hrel
          obtain ⟨b0, b1, b2, b3⟩ := HC.out _ (HB12.out.trans (HBV.out.mono HB12.out.size))
          by_cases hklt : k < ns.length
          · have p1 : (0 : Int) ≤ (k : Int) := by omega
            have p2 : (k : Int) < (ns.length : Int) := by omega
            obtain ⟨y, hy⟩ : ∃ y, ns[k]? = some y := ⟨_, List.getElem?_eq_getElem hklt⟩
            have hbw := HB2.out.trans (HBV.out.mono HB2.out.size)
            obtain ⟨ng, noff, rfl, hnc⟩ := text_cell (HRD.out.1.below hbw) hy
            obtain ⟨hrc, -⟩ := HALL.out _ HBV.out
            have HKL := Lib.hid hklt
            by_cases hkk : k = k0
            · have hkk2 := hkk.symm
              clear hkk
              subst hkk2
              have hyn : nm = y := by have := HK0.out.2.1; rw [hy] at this; exact (Option.some.inj this).symm
              subst hyn
              have hTS : S2 = T := by rw [HT.out, if_pos (Nat.le_refl _)]
              subst hTS
              clear hy hbw hklt
              go_wp2_with (fail)
              go_quiet (fail)
              have HBD : Hid (Below w2.heap.size w2 (wr.drewN nq)) := Lib.hid (HBV.out.trans ((below_drewN _ wr nq).mono HBV.out.size))
              generalize wr.drewN nq = wd at HBD ⊢
              go_upto_region 32 with (fail)
              have hV : Below w2.heap.size w2 wd.drew := HBD.out.drew
              have hT0 : (fun W : World => W.cell? ⟨rg, ro + i, none⟩ = some (.string nm) ∧ W.cell? ⟨w.heap.size, 2, none⟩ = some (.slice (some ⟨lg, loff, none⟩) l.length lc) ∧ (W.cell? ⟨lg, loff + k0 * 4, none⟩ = some (.int .i64 r.k) ∧ W.cell? ⟨lg, loff + k0 * 4 + 1, none⟩ = some (.string r.t) ∧ W.cell? ⟨lg, loff + k0 * 4 + 2, none⟩ = some (.slice r.la r.ll r.lc) ∧ W.cell? ⟨lg, loff + k0 * 4 + 3, none⟩ = some (.slice r.na r.nl r.nc))) wd.drew := HALL.out _ hV
              refine wp_region_B (T := fun W : World => W.cell? ⟨rg, ro + i, none⟩ = some (.string nm) ∧ W.cell? ⟨w.heap.size, 2, none⟩ = some (.slice (some ⟨lg, loff, none⟩) l.length lc) ∧ (W.cell? ⟨lg, loff + k0 * 4, none⟩ = some (.int .i64 r.k) ∧ W.cell? ⟨lg, loff + k0 * 4 + 1, none⟩ = some (.string r.t) ∧ W.cell? ⟨lg, loff + k0 * 4 + 2, none⟩ = some (.slice r.la r.ll r.lc) ∧ W.cell? ⟨lg, loff + k0 * 4 + 3, none⟩ = some (.slice r.na r.nl r.nc))) (B := fun _ => true) (by kernel_rfl) ?_
              generalize wd.drew = V at hV hT0 ⊢
              have HQ5 := Lib.hid (k_quote (w := V) nm HNM.out)
              rw [← HQQ.out] at HQ5
              refine wpAnyB_take (i := 0) (v := ?mv0) rfl (by kernel_rfl) (by kernel_rfl) (by kernel_rfl) (fun _ _ _ h => h) (Or.inl ⟨by rfl, ?my0⟩) ?ms0
              case my0 => (intro w; go_simp) <;> with_reducible rfl
              try simp only [Act.put, List.setIfInBounds_toArray, List.set_cons_zero, List.set_cons_succ]
              refine wpAnyB_take (i := 1) (v := ?mv1) rfl (by kernel_rfl) (by kernel_rfl) (by kernel_rfl) (fun _ _ _ h => h) (Or.inl ⟨by rfl, ?my1⟩) ?ms1
              case my1 => (intro w; go_simp) <;> with_reducible rfl
              try simp only [Act.put, List.setIfInBounds_toArray, List.set_cons_zero, List.set_cons_succ]
              refine wpAnyB_take (i := 2) (v := ?mv2) rfl (by kernel_rfl) (by kernel_rfl) (by kernel_rfl) (fun _ _ _ h => h) (Or.inl ⟨by rfl, ?my2⟩) ?ms2
              case my2 => (intro w; go_simp) <;> with_reducible rfl
              try simp only [Act.put, List.setIfInBounds_toArray, List.set_cons_zero, List.set_cons_succ]
              refine wpAnyB_take (i := 3) (v := ?mv3) rfl (by kernel_rfl) (by kernel_rfl) (by kernel_rfl) (fun _ _ _ h => h) (Or.inl ⟨by rfl, ?my3⟩) ?ms3
              case my3 => (intro w; go_simp) <;> with_reducible rfl
              try simp only [Act.put, List.setIfInBounds_toArray, List.set_cons_zero, List.set_cons_succ]
              refine wpAnyB_load (i := 4) (v := ?mv4) rfl (by kernel_rfl) (by kernel_rfl) (by kernel_rfl) (by kernel_rfl) (fun _ _ _ h => h) (Or.inl ⟨by rfl, ?my4⟩) (by assumption) ?ms4
              case my4 => (intro w hSw; obtain ⟨u0, u1, ⟨u2, u3, u4, u5⟩⟩ := hSw; go_simp) <;> with_reducible rfl
              try simp only [Act.put, List.setIfInBounds_toArray, List.set_cons_zero, List.set_cons_succ]
              refine wpAnyB_take (i := 8) (v := ?mv8) rfl (by kernel_rfl) (by kernel_rfl) (by kernel_rfl) (fun _ _ _ h => h) (Or.inl ⟨by rfl, ?my8⟩) ?ms8
              case my8 => (intro w; go_simp) <;> with_reducible rfl
              try simp only [Act.put, List.setIfInBounds_toArray, List.set_cons_zero, List.set_cons_succ]
              refine wpAnyB_load (i := 9) (v := ?mv9) rfl (by kernel_rfl) (by kernel_rfl) (by kernel_rfl) (by kernel_rfl) (fun _ _ _ h => h) (Or.inl ⟨by rfl, ?my9⟩) (by assumption) ?ms9
              case my9 => (intro w hSw; obtain ⟨u0, u1, ⟨u2, u3, u4, u5⟩⟩ := hSw; go_simp) <;> with_reducible rfl
              try simp only [Act.put, List.setIfInBounds_toArray, List.set_cons_zero, List.set_cons_succ]
              refine wpAnyB_take (i := 10) (v := ?mv10) rfl (by kernel_rfl) (by kernel_rfl) (by kernel_rfl) (fun _ _ _ h => h) (Or.inl ⟨by rfl, ?my10⟩) ?ms10
              case my10 => (intro w; go_simp) <;> with_reducible rfl
              try simp only [Act.put, List.setIfInBounds_toArray, List.set_cons_zero, List.set_cons_succ]
              refine wpAnyB_take (i := 11) (v := ?mv11) rfl (by kernel_rfl) (by kernel_rfl) (by kernel_rfl) (fun _ _ _ h => h) (Or.inl ⟨by rfl, ?my11⟩) ?ms11
              case my11 => (intro w; go_simp) <;> with_reducible rfl
              try simp only [Act.put, List.setIfInBounds_toArray, List.set_cons_zero, List.set_cons_succ]
              refine wpAnyB_load (i := 12) (v := ?mv12) rfl (by kernel_rfl) (by kernel_rfl) (by kernel_rfl) (by kernel_rfl) (fun _ _ _ h => h) (Or.inl ⟨by rfl, ?my12⟩) (by assumption) ?ms12
              case my12 => (intro w hSw; obtain ⟨u0, u1, ⟨u2, u3, u4, u5⟩⟩ := hSw; go_simp) <;> with_reducible rfl
              try simp only [Act.put, List.setIfInBounds_toArray, List.set_cons_zero, List.set_cons_succ]
              clear hT0
              refine wpAnyB_ready (rs := [5]) (by kernel_rfl) (by simp) ?_
              refine AllReadyB.cons (o := { dst := some 84, op := Op.call { callee := Callee.value (Operand.func 29), args := #[Operand.tmp 83], argTypes := #[9] }, type := 9, pos := "json.go:487", after := #[{ on := 4, ground := Ground.data }], guard := none }) rfl (fun K hK => ?_) AllReadyB.nil
              go_simp
              go_at_call 29
              refine HQ5.out.mono ?_
              rintro e V2 ⟨rfl, hb2⟩
              have HV2 : Hid (Below w2.heap.size w2 V2) := Lib.hid (hV.trans (hb2.mono hV.size))
              refine hK.out _ _ (fun _ _ => HALL.out _ HV2.out) ?_
              clear hK K hb2 hV
              try simp only [Act.put, List.setIfInBounds_toArray, List.set_cons_zero, List.set_cons_succ]
              refine wpAnyB_take (i := 6) (v := ?mv6) rfl (by kernel_rfl) (by kernel_rfl) (by kernel_rfl) (fun _ _ _ h => h) (Or.inl ⟨by rfl, ?my6⟩) ?ms6
              case my6 => (intro w; go_simp; rw [if_neg (by omega)]) <;> with_reducible rfl
              try simp only [Act.put, List.setIfInBounds_toArray, List.set_cons_zero, List.set_cons_succ]
              refine wpAnyB_take (i := 7) (v := ?mv7) rfl (by kernel_rfl) (by kernel_rfl) (by kernel_rfl) (fun _ _ _ h => h) (Or.inl ⟨by rfl, ?my7⟩) ?ms7
              case my7 => (intro w; go_simp; rw [if_neg (by omega)]) <;> with_reducible rfl
              try simp only [Act.put, List.setIfInBounds_toArray, List.set_cons_zero, List.set_cons_succ]
              have HT5 := Lib.hid (HIH.out x HXM.out (d + 1) r V2 A (HPC.out x HXM.out) (FitAll.mem HF.out.2.2.2.2 x HXM.out) (by have h1 := HSTEP.out.2; have h2 := HR.out.2; unfold layPair at h1; simp at h1; omega) (HJR.out.below (HB2.out.trans (HV2.out.mono HB2.out.size))))
              rw [← HXX.out] at HT5
              refine wpAnyB_ready (rs := [13]) (by kernel_rfl) (by simp) ?_
              refine AllReadyB.cons (o := { dst := some 92, op := Op.call { callee := Callee.value (Operand.func 53), args := #[Operand.tmp 91], argTypes := #[40] }, type := 9, pos := "json.go:487", after := #[{ on := 12, ground := Ground.data }, { on := 5, ground := Ground.chain }], guard := none }) rfl (fun K hK => ?_) AllReadyB.nil
              go_simp
              go_at_call 53
              refine HT5.out.mono ?_
              rintro e V3 ⟨rfl, hb3⟩
              have HV3 : Hid (Below w2.heap.size w2 V3) := Lib.hid (HV2.out.trans (hb3.mono HV2.out.size))
              refine hK.out _ _ (fun _ _ => HALL.out _ HV3.out) ?_
              clear hK K hb3
              try simp only [Act.put, List.setIfInBounds_toArray, List.set_cons_zero, List.set_cons_succ]
              refine wpAnyB_take (i := 14) (v := ?mv14) rfl (by kernel_rfl) (by kernel_rfl) (by kernel_rfl) (fun _ _ _ h => h) (Or.inl ⟨by rfl, ?my14⟩) ?ms14
              case my14 => (intro w; go_simp; rw [if_neg (by omega)]) <;> with_reducible rfl
              try simp only [Act.put, List.setIfInBounds_toArray, List.set_cons_zero, List.set_cons_succ]
              refine wpAnyB_take (i := 15) (v := ?mv15) rfl (by kernel_rfl) (by kernel_rfl) (by kernel_rfl) (fun _ _ _ h => h) (Or.inl ⟨by rfl, ?my15⟩) ?ms15
              case my15 => (intro w; go_simp) <;> with_reducible rfl
              try simp only [Act.put, List.setIfInBounds_toArray, List.set_cons_zero, List.set_cons_succ]
              refine wpAnyB_done (by kernel_rfl) ?_ _
              go_wp2_with (fail)
              go_roundw
              case rel => exact ⟨k0 + 1, _, HK0.out.1, by go_num, rfl, Lib.hid (by rw [if_neg (by omega)]; exact HS3.out), HV3⟩
              case measure => have := HK0.out.1; simp [intOf]; omega
            · have hne : y ≠ nm := fun e => hkk (HUQ.out k (by rw [hy, e]))
              have hn1 := list_ne hne
              have hn2 : ¬ y.toList = nm.toList := fun e => hne (str_inj e)
              have HT2 : Hid (T = if k + 1 ≤ k0 then S2 else S3) := Lib.hid (by
                rw [HT.out]
                by_cases h : k ≤ k0
                · rw [if_pos h, if_pos (by omega)]
                · rw [if_neg h, if_neg (by omega)])
              clear hy hbw hklt hkk hne
              go_wp2_with (fail)
              go_quiet (fail)
              go_wp2_with (fail)
              go_roundw
              case rel => exact ⟨k + 1, T, HKL.out, by go_num, rfl, HT2, Lib.hid (HBV.out.trans ((below_drewN _ wr _).mono HBV.out.size))⟩
              case measure => have := HKL.out; simp [intOf]; omega
          · have p2 : ¬ (k : Int) < (ns.length : Int) := by omega
            have hTS : T = S3 := by rw [HT.out, if_neg (by have := HK0.out.1; omega)]
            subst hTS
            clear hklt
            go_wp2_with (fail)
            refine ⟨⟨i + 1, _, HILT.out, by go_num, rfl, HNX, HBV⟩, ?_⟩
            have := HILT.out; simp [intOf]; omega
      · have i0 : (0 : Int) < (i : Int) := by omega
        have HS2 : Hid (S ++ ⟨#[44]⟩ = str (123 :: sepOf P i)) := Lib.hid (by rw [HS.out]; unfold sepOf; rw [if_neg (by omega)]; exact str_add (123 :: commas (P.take i)) [44])
        have hc1 : (((⟨#[44]⟩ : ByteArray).size : Int)) ≤ 1 := by decide
        obtain ⟨S2, hS2⟩ : ∃ x, x = S ++ ⟨#[44]⟩ := ⟨_, rfl⟩
        rw [← hS2] at HS2
        have HSS : Hid (S2 = str (123 :: sepOf P i)) := HS2
        have hsz : S2.size + (layPair (raw nm, lay x)).length ≤ 999999 := by
          have h1 := HSTEP.out.2
          have h2 := HR.out.2
          rw [HSS.out, str_len, List.length_cons]
          omega
        have hlp : (layPair (raw nm, lay x)).length = Q.size + 1 + X.size := by
          rw [HQQ.out, HXX.out, str_len, str_len]
          unfold layPair
          simp
          omega
        have z1 : (S2.size : Int) ≤ 1000000 := by omega
        have z2 : (Q.size : Int) ≤ 1000000 := by omega
        have z3 : (X.size : Int) ≤ 1000000 := by omega
        have z4 : ((S2 ++ Q).size : Int) ≤ 1000000 := by rw [ByteArray.size_append]; omega
        have z5 : ((S2 ++ Q ++ (⟨#[58]⟩ : ByteArray)).size : Int) ≤ 1000000 := by rw [ByteArray.size_append, ByteArray.size_append]; have : (⟨#[58]⟩ : ByteArray).size = 1 := rfl; omega
        have z6 : (((⟨#[58]⟩ : ByteArray).size : Int)) ≤ 1 := by decide
        obtain ⟨S3, hS3⟩ : ∃ x, x = S2 ++ Q ++ (⟨#[58]⟩ : ByteArray) ++ X := ⟨_, rfl⟩
        have HS3 : Hid (S2 ++ Q ++ (⟨#[58]⟩ : ByteArray) ++ X = S3) := Lib.hid hS3.symm
        have HNX : Hid (S3 = str (123 :: commas (P.take (i + 1)))) := Lib.hid (by
          rw [hS3, HSS.out, HQQ.out, HXX.out, show (⟨#[58]⟩ : ByteArray) = str [58] from rfl, str_add, str_add, str_add, ← HSTEP.out.1]
          unfold layPair
          congr 1
          simp)
        have HI0 := Lib.hid hi0
        clear hS3 hsz hlp hi0
        go_upto_region 28 with (fail)
        rw [← hS2]
        rw [decide_eq_true (show 0 < i by omega)]
        clear hS2 HS2
        go_wp2_with (fail)
        clear b0 b1 b2 b3
        go_loopw [5, 8] (fun sv kv wr => ∃ (k : Nat) (T : ByteArray), k ≤ ns.length ∧ kv = .int .i64 (k : Int) ∧ sv = .string T ∧ Hid (T = if k ≤ k0 then S2 else S3) ∧ Hid (Below w2.heap.size w2 wr)) (fun _ kv _ => ns.length - (intOf kv).toNat)
        case atStart => exact ⟨0, S2, Nat.zero_le _, rfl, rfl, Lib.hid (by rw [if_pos (Nat.zero_le _)]), HBW⟩
        case round =>
          obtain ⟨k, T, hk, rfl, rfl, HT, HBV⟩ := hrel
          obtain ⟨b0, b1, b2, b3⟩ := HC.out _ (HB12.out.trans (HBV.out.mono HB12.out.size))
          by_cases hklt : k < ns.length
          · have p1 : (0 : Int) ≤ (k : Int) := by omega
            have p2 : (k : Int) < (ns.length : Int) := by omega
            obtain ⟨y, hy⟩ : ∃ y, ns[k]? = some y := ⟨_, List.getElem?_eq_getElem hklt⟩
            have hbw := HB2.out.trans (HBV.out.mono HB2.out.size)
            obtain ⟨ng, noff, rfl, hnc⟩ := text_cell (HRD.out.1.below hbw) hy
            obtain ⟨hrc, -⟩ := HALL.out _ HBV.out
            have HKL := Lib.hid hklt
            by_cases hkk : k = k0
            · have hkk2 := hkk.symm
              clear hkk
              subst hkk2
              have hyn : nm = y := by have := HK0.out.2.1; rw [hy] at this; exact (Option.some.inj this).symm
              subst hyn
              have hTS : S2 = T := by rw [HT.out, if_pos (Nat.le_refl _)]
              subst hTS
              clear hy hbw hklt
              go_wp2_with (fail)
              go_quiet (fail)
              have HBD : Hid (Below w2.heap.size w2 (wr.drewN nq)) := Lib.hid (HBV.out.trans ((below_drewN _ wr nq).mono HBV.out.size))
              generalize wr.drewN nq = wd at HBD ⊢
              go_upto_region 32 with (fail)
              have hV : Below w2.heap.size w2 wd.drew := HBD.out.drew
              have hT0 : (fun W : World => W.cell? ⟨rg, ro + i, none⟩ = some (.string nm) ∧ W.cell? ⟨w.heap.size, 2, none⟩ = some (.slice (some ⟨lg, loff, none⟩) l.length lc) ∧ (W.cell? ⟨lg, loff + k0 * 4, none⟩ = some (.int .i64 r.k) ∧ W.cell? ⟨lg, loff + k0 * 4 + 1, none⟩ = some (.string r.t) ∧ W.cell? ⟨lg, loff + k0 * 4 + 2, none⟩ = some (.slice r.la r.ll r.lc) ∧ W.cell? ⟨lg, loff + k0 * 4 + 3, none⟩ = some (.slice r.na r.nl r.nc))) wd.drew := HALL.out _ hV
              refine wp_region_B (T := fun W : World => W.cell? ⟨rg, ro + i, none⟩ = some (.string nm) ∧ W.cell? ⟨w.heap.size, 2, none⟩ = some (.slice (some ⟨lg, loff, none⟩) l.length lc) ∧ (W.cell? ⟨lg, loff + k0 * 4, none⟩ = some (.int .i64 r.k) ∧ W.cell? ⟨lg, loff + k0 * 4 + 1, none⟩ = some (.string r.t) ∧ W.cell? ⟨lg, loff + k0 * 4 + 2, none⟩ = some (.slice r.la r.ll r.lc) ∧ W.cell? ⟨lg, loff + k0 * 4 + 3, none⟩ = some (.slice r.na r.nl r.nc))) (B := fun _ => true) (by kernel_rfl) ?_
              generalize wd.drew = V at hV hT0 ⊢
              have HQ5 := Lib.hid (k_quote (w := V) nm HNM.out)
              rw [← HQQ.out] at HQ5
              refine wpAnyB_take (i := 0) (v := ?nv0) rfl (by kernel_rfl) (by kernel_rfl) (by kernel_rfl) (fun _ _ _ h => h) (Or.inl ⟨by rfl, ?ny0⟩) ?ns0
              case ny0 => (intro w; go_simp) <;> with_reducible rfl
              try simp only [Act.put, List.setIfInBounds_toArray, List.set_cons_zero, List.set_cons_succ]
              refine wpAnyB_take (i := 1) (v := ?nv1) rfl (by kernel_rfl) (by kernel_rfl) (by kernel_rfl) (fun _ _ _ h => h) (Or.inl ⟨by rfl, ?ny1⟩) ?ns1
              case ny1 => (intro w; go_simp) <;> with_reducible rfl
              try simp only [Act.put, List.setIfInBounds_toArray, List.set_cons_zero, List.set_cons_succ]
              refine wpAnyB_take (i := 2) (v := ?nv2) rfl (by kernel_rfl) (by kernel_rfl) (by kernel_rfl) (fun _ _ _ h => h) (Or.inl ⟨by rfl, ?ny2⟩) ?ns2
              case ny2 => (intro w; go_simp) <;> with_reducible rfl
              try simp only [Act.put, List.setIfInBounds_toArray, List.set_cons_zero, List.set_cons_succ]
              refine wpAnyB_take (i := 3) (v := ?nv3) rfl (by kernel_rfl) (by kernel_rfl) (by kernel_rfl) (fun _ _ _ h => h) (Or.inl ⟨by rfl, ?ny3⟩) ?ns3
              case ny3 => (intro w; go_simp) <;> with_reducible rfl
              try simp only [Act.put, List.setIfInBounds_toArray, List.set_cons_zero, List.set_cons_succ]
              refine wpAnyB_load (i := 4) (v := ?nv4) rfl (by kernel_rfl) (by kernel_rfl) (by kernel_rfl) (by kernel_rfl) (fun _ _ _ h => h) (Or.inl ⟨by rfl, ?ny4⟩) (by assumption) ?ns4
              case ny4 => (intro w hSw; obtain ⟨u0, u1, ⟨u2, u3, u4, u5⟩⟩ := hSw; go_simp) <;> with_reducible rfl
              try simp only [Act.put, List.setIfInBounds_toArray, List.set_cons_zero, List.set_cons_succ]
              refine wpAnyB_take (i := 8) (v := ?nv8) rfl (by kernel_rfl) (by kernel_rfl) (by kernel_rfl) (fun _ _ _ h => h) (Or.inl ⟨by rfl, ?ny8⟩) ?ns8
              case ny8 => (intro w; go_simp) <;> with_reducible rfl
              try simp only [Act.put, List.setIfInBounds_toArray, List.set_cons_zero, List.set_cons_succ]
              refine wpAnyB_load (i := 9) (v := ?nv9) rfl (by kernel_rfl) (by kernel_rfl) (by kernel_rfl) (by kernel_rfl) (fun _ _ _ h => h) (Or.inl ⟨by rfl, ?ny9⟩) (by assumption) ?ns9
              case ny9 => (intro w hSw; obtain ⟨u0, u1, ⟨u2, u3, u4, u5⟩⟩ := hSw; go_simp) <;> with_reducible rfl
              try simp only [Act.put, List.setIfInBounds_toArray, List.set_cons_zero, List.set_cons_succ]
              refine wpAnyB_take (i := 10) (v := ?nv10) rfl (by kernel_rfl) (by kernel_rfl) (by kernel_rfl) (fun _ _ _ h => h) (Or.inl ⟨by rfl, ?ny10⟩) ?ns10
              case ny10 => (intro w; go_simp) <;> with_reducible rfl
              try simp only [Act.put, List.setIfInBounds_toArray, List.set_cons_zero, List.set_cons_succ]
              refine wpAnyB_take (i := 11) (v := ?nv11) rfl (by kernel_rfl) (by kernel_rfl) (by kernel_rfl) (fun _ _ _ h => h) (Or.inl ⟨by rfl, ?ny11⟩) ?ns11
              case ny11 => (intro w; go_simp) <;> with_reducible rfl
              try simp only [Act.put, List.setIfInBounds_toArray, List.set_cons_zero, List.set_cons_succ]
              refine wpAnyB_load (i := 12) (v := ?nv12) rfl (by kernel_rfl) (by kernel_rfl) (by kernel_rfl) (by kernel_rfl) (fun _ _ _ h => h) (Or.inl ⟨by rfl, ?ny12⟩) (by assumption) ?ns12
              case ny12 => (intro w hSw; obtain ⟨u0, u1, ⟨u2, u3, u4, u5⟩⟩ := hSw; go_simp) <;> with_reducible rfl
              try simp only [Act.put, List.setIfInBounds_toArray, List.set_cons_zero, List.set_cons_succ]
              clear hT0
              refine wpAnyB_ready (rs := [5]) (by kernel_rfl) (by simp) ?_
              refine AllReadyB.cons (o := { dst := some 84, op := Op.call { callee := Callee.value (Operand.func 29), args := #[Operand.tmp 83], argTypes := #[9] }, type := 9, pos := "json.go:487", after := #[{ on := 4, ground := Ground.data }], guard := none }) rfl (fun K hK => ?_) AllReadyB.nil
              go_simp
              go_at_call 29
              refine HQ5.out.mono ?_
              rintro e V2 ⟨rfl, hb2⟩
              have HV2 : Hid (Below w2.heap.size w2 V2) := Lib.hid (hV.trans (hb2.mono hV.size))
              refine hK.out _ _ (fun _ _ => HALL.out _ HV2.out) ?_
              clear hK K hb2 hV
              try simp only [Act.put, List.setIfInBounds_toArray, List.set_cons_zero, List.set_cons_succ]
              refine wpAnyB_take (i := 6) (v := ?nv6) rfl (by kernel_rfl) (by kernel_rfl) (by kernel_rfl) (fun _ _ _ h => h) (Or.inl ⟨by rfl, ?ny6⟩) ?ns6
              case ny6 => (intro w; go_simp; rw [if_neg (by omega)]) <;> with_reducible rfl
              try simp only [Act.put, List.setIfInBounds_toArray, List.set_cons_zero, List.set_cons_succ]
              refine wpAnyB_take (i := 7) (v := ?nv7) rfl (by kernel_rfl) (by kernel_rfl) (by kernel_rfl) (fun _ _ _ h => h) (Or.inl ⟨by rfl, ?ny7⟩) ?ns7
              case ny7 => (intro w; go_simp; rw [if_neg (by omega)]) <;> with_reducible rfl
              try simp only [Act.put, List.setIfInBounds_toArray, List.set_cons_zero, List.set_cons_succ]
              have HT5 := Lib.hid (HIH.out x HXM.out (d + 1) r V2 A (HPC.out x HXM.out) (FitAll.mem HF.out.2.2.2.2 x HXM.out) (by have h1 := HSTEP.out.2; have h2 := HR.out.2; unfold layPair at h1; simp at h1; omega) (HJR.out.below (HB2.out.trans (HV2.out.mono HB2.out.size))))
              rw [← HXX.out] at HT5
              refine wpAnyB_ready (rs := [13]) (by kernel_rfl) (by simp) ?_
              refine AllReadyB.cons (o := { dst := some 92, op := Op.call { callee := Callee.value (Operand.func 53), args := #[Operand.tmp 91], argTypes := #[40] }, type := 9, pos := "json.go:487", after := #[{ on := 12, ground := Ground.data }, { on := 5, ground := Ground.chain }], guard := none }) rfl (fun K hK => ?_) AllReadyB.nil
              go_simp
              go_at_call 53
              refine HT5.out.mono ?_
              rintro e V3 ⟨rfl, hb3⟩
              have HV3 : Hid (Below w2.heap.size w2 V3) := Lib.hid (HV2.out.trans (hb3.mono HV2.out.size))
              refine hK.out _ _ (fun _ _ => HALL.out _ HV3.out) ?_
              clear hK K hb3
              try simp only [Act.put, List.setIfInBounds_toArray, List.set_cons_zero, List.set_cons_succ]
              refine wpAnyB_take (i := 14) (v := ?nv14) rfl (by kernel_rfl) (by kernel_rfl) (by kernel_rfl) (fun _ _ _ h => h) (Or.inl ⟨by rfl, ?ny14⟩) ?ns14
              case ny14 => (intro w; go_simp; rw [if_neg (by omega)]) <;> with_reducible rfl
              try simp only [Act.put, List.setIfInBounds_toArray, List.set_cons_zero, List.set_cons_succ]
              refine wpAnyB_take (i := 15) (v := ?nv15) rfl (by kernel_rfl) (by kernel_rfl) (by kernel_rfl) (fun _ _ _ h => h) (Or.inl ⟨by rfl, ?ny15⟩) ?ns15
              case ny15 => (intro w; go_simp) <;> with_reducible rfl
              try simp only [Act.put, List.setIfInBounds_toArray, List.set_cons_zero, List.set_cons_succ]
              refine wpAnyB_done (by kernel_rfl) ?_ _
              go_wp2_with (fail)
              go_roundw
              case rel => exact ⟨k0 + 1, _, HK0.out.1, by go_num, rfl, Lib.hid (by rw [if_neg (by omega)]; exact HS3.out), HV3⟩
              case measure => have := HK0.out.1; simp [intOf]; omega
            · have hne : y ≠ nm := fun e => hkk (HUQ.out k (by rw [hy, e]))
              have hn1 := list_ne hne
              have hn2 : ¬ y.toList = nm.toList := fun e => hne (str_inj e)
              have HT2 : Hid (T = if k + 1 ≤ k0 then S2 else S3) := Lib.hid (by
                rw [HT.out]
                by_cases h : k ≤ k0
                · rw [if_pos h, if_pos (by omega)]
                · rw [if_neg h, if_neg (by omega)])
              clear hy hbw hklt hkk hne
              go_wp2_with (fail)
              go_quiet (fail)
              go_wp2_with (fail)
              go_roundw
              case rel => exact ⟨k + 1, T, HKL.out, by go_num, rfl, HT2, Lib.hid (HBV.out.trans ((below_drewN _ wr _).mono HBV.out.size))⟩
              case measure => have := HKL.out; simp [intOf]; omega
          · have p2 : ¬ (k : Int) < (ns.length : Int) := by omega
            have hTS : T = S3 := by rw [HT.out, if_neg (by have := HK0.out.1; omega)]
            subst hTS
            clear hklt
            go_wp2_with (fail)
            refine ⟨⟨i + 1, _, HILT.out, by go_num, rfl, HNX, HBV⟩, ?_⟩
            have := HILT.out; simp [intOf]; omega
    · have q2 : ¬ (i : Int) < (RR.length : Int) := by omega
      have HS2 : Hid (S ++ ⟨#[125]⟩ = RES) := Lib.hid (by
        rw [HS.out, HR.out.1, List.take_of_length_le (by have := HRL.out.1; omega)]
        exact str_add (123 :: commas P) [125])
      have hc1 : (((⟨#[125]⟩ : ByteArray).size : Int)) ≤ 1 := by decide
      have HB5 : Hid (Below w.heap.size w wr) := Lib.hid (HB2.out.trans (HBW.out.mono HB2.out.size))
      clear hlt
      go_wp2_with (fail)
      go_ret
      exact ⟨by rw [← HS2.out]; rfl, HB5.out⟩
theorem k_text (v : JV) : TextOk v := JV.ind (P := TextOk) (fun k t l ns ih => k_text1 k t l ns ih) v
end
end Go.Proofs.YthjcolehccbihaaGreatDoor
