/- The walk of check: a value looked at, whatever depth. -/
import Derived.Test.YthjcolehccbihaaGreatDoorz23
set_option linter.unusedSimpArgs false
set_option linter.unusedVariables false
namespace Go.Proofs.YthjcolehccbihaaGreatDoor
open Go.RowKit Go.Shelf
mutual
/-- A value whose parts fit a walk's bounds. -/
def JV.Fit : JV → Prop
  | .mk _ t l ns => t.size ≤ 1000000 ∧ ns.length ≤ 1000000 ∧ (∀ s ∈ ns, s.size ≤ 1000000) ∧ l.length ≤ 1000000 ∧ FitAll l
def FitAll : List JV → Prop
  | [] => True
  | v :: l => v.Fit ∧ FitAll l
end
theorem FitAll.mem : ∀ {l : List JV}, FitAll l → ∀ v ∈ l, v.Fit
  | [], _, _, h => by cases h
  | x :: l, h, v, hv => by
    simp only [FitAll] at h
    rcases List.mem_cons.1 hv with rfl | hv
    · exact h.1
    · exact FitAll.mem h.2 v hv
/-- What check comes to. -/
def Checked (n : Nat) (w : World) (e : Ending) (w' : World) : Prop := (if n = 0 then e = .returned (.tuple #[]) else e = faultE 0 (n : Int)) ∧ Below w.heap.size w w'
theorem leave_checked {fn : Func} {n m : Nat} {w W : World} {a : Act} (hd : a.defers = []) (hn : n = m) (hm : m ≠ 0) (hb : Below w.heap.size w W) : bodyPost Tryz.prog fn (Checked n w) (.panic [{ v := .iface 69 (.agg #[.int .i64 0, .int .i64 (m : Int)]), recovered := false }]) a W :=
  leave_panic hd ⟨by rw [hn, if_neg hm]; rfl, hb⟩
/-- The contract of check, at a value. -/
def ChkOk (v : JV) : Prop := ∀ (d : Nat) (q : RawV) (w : World) (A : Nat → Prop), d ≤ 32 → JAt w A v q → v.Fit → Tabs w →
  Calls Tryz.prog 33 #[.agg #[.int .i64 q.k, .string q.t, .slice q.la q.ll q.lc, .slice q.na q.nl q.nc], .int .i64 (d : Int)] w (Checked (chk d v) w)
theorem chk_own (d : Nat) (k : Int) (t : ByteArray) (l : List JV) (ns : List ByteArray) (n : Nat) (h : chkOwn d k t l.length ns = n) (hn : n ≠ 0) : chk d (.mk k t l ns) = n := by
  unfold chk
  rw [h, if_pos hn]
theorem raw_cells {w : World} {a : Option Addr} {n cap : Nat} {xs : List RawV} (h : RdAt rawKind w (.slice a n cap) xs) {i : Nat} {r : RawV} (hr : xs[i]? = some r) :
    ∃ g off, a = some ⟨g, off, none⟩ ∧ w.cell? ⟨g, off + i * 4, none⟩ = some (.int .i64 r.k) ∧ w.cell? ⟨g, off + i * 4 + 1, none⟩ = some (.string r.t) ∧ w.cell? ⟨g, off + i * 4 + 2, none⟩ = some (.slice r.la r.ll r.lc) ∧ w.cell? ⟨g, off + i * 4 + 3, none⟩ = some (.slice r.na r.nl r.nc) := by
  obtain ⟨a', cap', e, hh⟩ := h
  injection e with e1 _ _
  subst e1
  obtain ⟨g, off, ea, hc⟩ := hh i r hr
  exact ⟨g, off, ea, hc 0 (by decide), hc 1 (by decide), hc 2 (by decide), hc 3 (by decide)⟩
theorem chk_list {d : Nat} {k : Int} {t : ByteArray} {l : List JV} {ns : List ByteArray} (h : chkOwn d k t l.length ns = 0) (hk : ¬ k < 5) : chk d (.mk k t l ns) = chkAll (d + 1) l := by
  unfold chk
  rw [h]
  simp [hk]
section
variable {w : World}
set_option maxRecDepth 100000 in
set_option maxHeartbeats 16000000 in
theorem j_checkB (k : Int) (t : ByteArray) (l : List JV) (ns : List ByteArray) (ih : ∀ v ∈ l, ChkOk v) : ChkOk (.mk k t l ns) := by
  intro d q w A hd hj hf ht
  simp only [JAt] at hj
  obtain ⟨hk, htt, ⟨hns, -⟩, rs, ⟨hrs, -⟩, hl⟩ := hj
  simp only [JV.Fit] at hf
  obtain ⟨qk, qt, la, ll, lc, na, nl, nc⟩ := q
  simp only at hk htt
  subst hk htt
  simp only [RawV.lv, RawV.nv] at hns hrs
  have hnl : nl = ns.length := by obtain ⟨_, _, e, _⟩ := hns; injection e
  have hll : ll = rs.length := by obtain ⟨_, _, e, _⟩ := hrs; injection e
  have hrl : rs.length = l.length := hl.length
  subst hnl hll
  obtain ⟨w1, hw1, HBX⟩ := jbox_new w ⟨qk, qt, la, rs.length, lc, na, ns.length, nc⟩
  obtain ⟨RES, hres⟩ : ∃ o, o = chk d (.mk qk qt l ns) := ⟨_, rfl⟩
  rw [← hres]
  have HRES := Lib.hid hres
  have HW1 := Lib.hid hw1
  have HF := Lib.hid hf
  have HT := Lib.hid (ht.below HBX.out.1)
  have HNS := Lib.hid (hns.below HBX.out.1)
  have HRS := Lib.hid (And.intro (hrs.below HBX.out.1) (hl.below HBX.out.1))
  have HRL := Lib.hid hrl
  have HIH := Lib.hid ih
  have HD := Lib.hid hd
  clear hw1 hres hf ht hns hrs hl hrl ih
  obtain ⟨⟨b0, b1, b2, b3⟩, -⟩ := jbox_cells HBX.out.2
  by_cases hbad : qk < 0 ∨ 6 < qk
  · have HE : Hid (RES = 7) := Lib.hid (by rw [HRES.out]; exact chk_own _ _ _ _ _ _ (by unfold chkOwn; rw [if_pos hbad]) (by decide))
    have HP := Lib.hid hbad
    rcases hbad with h | h
    all_goals
      first
      | (have t0 : decide (0 ≤ qk) = false := by simp; omega)
      | (have t0 : decide (0 ≤ qk) = true := by simp; omega
         have t1 : decide (qk ≤ 6) = false := by simp; omega)
      clear h
      go_enter Tryz.func33, Tryz.ntmps33
      go_upto_region 1 with (fail)
      rw [show w.alloc (.cells #[.int .i64 qk, .string qt, .slice la rs.length lc, .slice na ns.length nc] 25) = w1 from HW1.out]
      go_wp2_with (fail)
      refine (j_unless _ false _).mono ?_
      rintro e w2 ⟨h, rfl⟩
      rw [if_neg (by decide)] at h
      subst h
      exact leave_checked (m := 7) rfl HE.out (by decide) HBX.out.1
  · have hk : qk = 0 ∨ qk = 1 ∨ qk = 2 ∨ qk = 3 ∨ qk = 4 ∨ qk = 5 ∨ qk = 6 := by omega
    clear hbad
    rcases hk with rfl | rfl | rfl | rfl | rfl | rfl | rfl
    · go_enter Tryz.func33, Tryz.ntmps33
      go_upto_region 1 with (fail)
      rw [show w.alloc (.cells #[.int .i64 0, .string qt, .slice la rs.length lc, .slice na ns.length nc] 25) = w1 from HW1.out]
      go_wp2_with (fail)
      refine (j_unless _ true _).mono ?_
      rintro e w2 ⟨h, rfl⟩
      rw [if_pos rfl] at h
      subst h
      have HE : Hid (RES = 0) := Lib.hid (by rw [HRES.out]; rfl)
      go_wp2_with (fail)
      refine bodyPost_ret (results_none rfl _ _ _) rfl ⟨by rw [HE.out]; rfl, HBX.out.1⟩
    · go_enter Tryz.func33, Tryz.ntmps33
      go_upto_region 1 with (fail)
      rw [show w.alloc (.cells #[.int .i64 1, .string qt, .slice la rs.length lc, .slice na ns.length nc] 25) = w1 from HW1.out]
      go_wp2_with (fail)
      refine (j_unless _ true _).mono ?_
      rintro e w2 ⟨h, rfl⟩
      rw [if_pos rfl] at h
      subst h
      have HE : Hid (RES = 0) := Lib.hid (by rw [HRES.out]; rfl)
      go_wp2_with (fail)
      refine bodyPost_ret (results_none rfl _ _ _) rfl ⟨by rw [HE.out]; rfl, HBX.out.1⟩
    · go_enter Tryz.func33, Tryz.ntmps33
      go_upto_region 1 with (fail)
      rw [show w.alloc (.cells #[.int .i64 2, .string qt, .slice la rs.length lc, .slice na ns.length nc] 25) = w1 from HW1.out]
      go_wp2_with (fail)
      refine (j_unless _ true _).mono ?_
      rintro e w2 ⟨h, rfl⟩
      rw [if_pos rfl] at h
      subst h
      have HE : Hid (RES = 0) := Lib.hid (by rw [HRES.out]; rfl)
      go_wp2_with (fail)
      refine bodyPost_ret (results_none rfl _ _ _) rfl ⟨by rw [HE.out]; rfl, HBX.out.1⟩
    · go_enter Tryz.func33, Tryz.ntmps33
      go_upto_region 1 with (fail)
      rw [show w.alloc (.cells #[.int .i64 3, .string qt, .slice la rs.length lc, .slice na ns.length nc] 25) = w1 from HW1.out]
      go_wp2_with (fail)
      refine (j_unless _ true _).mono ?_
      rintro e w2 ⟨h, rfl⟩
      rw [if_pos rfl] at h
      subst h
      have HC := Lib.hid (j_literal (w := w1) qt HF.out.1 HT.out)
      obtain ⟨b, hb⟩ : ∃ b, b = literal (raw qt) := ⟨_, rfl⟩
      rw [← hb] at HC
      have HE : Hid (RES = if b = true then 0 else 10) := Lib.hid (by
        rw [HRES.out, hb]
        cases h : literal (raw qt) with
        | true => unfold chk chkOwn; simp [h]
        | false => exact chk_own _ _ _ _ _ _ (by unfold chkOwn; simp [h]) (by decide))
      clear hb
      go_wp2_with (fail)
      refine HC.out.mono ?_
      rintro e w3 ⟨rfl, hb3⟩
      have HB3 := Lib.hid (HBX.out.1.trans (hb3.mono HBX.out.1.size))
      have HX3 := Lib.hid (jbox_below HBX.out.2 hb3)
      clear hb3 b0 b1 b2 b3
      cases b with
      | false =>
        go_wp2_with (fail)
        refine (j_unless _ false _).mono ?_
        rintro e w4 ⟨h, rfl⟩
        rw [if_neg (by decide)] at h
        subst h
        exact leave_checked (m := 10) rfl (by rw [HE.out]; rfl) (by decide) HB3.out
      | true =>
        go_wp2_with (fail)
        refine (j_unless _ true _).mono ?_
        rintro e w4 ⟨h, rfl⟩
        rw [if_pos rfl] at h
        subst h
        obtain ⟨⟨b0, b1, b2, b3⟩, -⟩ := jbox_cells HX3.out
        go_wp2_with (fail)
        refine bodyPost_ret (results_none rfl _ _ _) rfl ⟨by rw [HE.out]; rfl, HB3.out⟩
    · go_enter Tryz.func33, Tryz.ntmps33
      go_upto_region 1 with (fail)
      rw [show w.alloc (.cells #[.int .i64 4, .string qt, .slice la rs.length lc, .slice na ns.length nc] 25) = w1 from HW1.out]
      go_wp2_with (fail)
      refine (j_unless _ true _).mono ?_
      rintro e w2 ⟨h, rfl⟩
      rw [if_pos rfl] at h
      subst h
      have HC := Lib.hid (u_validString (w := w1) qt (by have := HF.out.1; omega) HT.out)
      obtain ⟨b, hb⟩ : ∃ b, b = valid (raw qt) := ⟨_, rfl⟩
      rw [← hb] at HC
      have HE : Hid (RES = if b = true then 0 else 10) := Lib.hid (by
        rw [HRES.out, hb]
        cases h : valid (raw qt) with
        | true => unfold chk chkOwn; simp [h]
        | false => exact chk_own _ _ _ _ _ _ (by unfold chkOwn; simp [h]) (by decide))
      clear hb
      go_wp2_with (fail)
      refine HC.out.mono ?_
      rintro e w3 ⟨rfl, hb3⟩
      have HB3 := Lib.hid (HBX.out.1.trans (hb3.mono HBX.out.1.size))
      have HX3 := Lib.hid (jbox_below HBX.out.2 hb3)
      clear hb3 b0 b1 b2 b3
      cases b with
      | false =>
        go_wp2_with (fail)
        refine (j_unless _ false _).mono ?_
        rintro e w4 ⟨h, rfl⟩
        rw [if_neg (by decide)] at h
        subst h
        exact leave_checked (m := 10) rfl (by rw [HE.out]; rfl) (by decide) HB3.out
      | true =>
        go_wp2_with (fail)
        refine (j_unless _ true _).mono ?_
        rintro e w4 ⟨h, rfl⟩
        rw [if_pos rfl] at h
        subst h
        obtain ⟨⟨b0, b1, b2, b3⟩, -⟩ := jbox_cells HX3.out
        go_wp2_with (fail)
        refine bodyPost_ret (results_none rfl _ _ _) rfl ⟨by rw [HE.out]; rfl, HB3.out⟩
    · go_enter Tryz.func33, Tryz.ntmps33
      go_upto_region 1 with (fail)
      rw [show w.alloc (.cells #[.int .i64 5, .string qt, .slice la rs.length lc, .slice na ns.length nc] 25) = w1 from HW1.out]
      go_wp2_with (fail)
      refine (j_unless _ true _).mono ?_
      rintro e w2 ⟨h, rfl⟩
      rw [if_pos rfl] at h
      subst h
      by_cases h32 : 32 ≤ d
      · have t32 : decide ((d : Int) < 32) = false := by simp; omega
        have HE : Hid (RES = 20) := Lib.hid (by rw [HRES.out]; exact chk_own _ _ _ _ _ _ (by unfold chkOwn; simp [h32]) (by decide))
        clear h32
        go_wp2_with (fail)
        refine (j_unless _ false _).mono ?_
        rintro e w3 ⟨h, rfl⟩
        rw [if_neg (by decide)] at h
        subst h
        exact leave_checked (m := 20) rfl HE.out (by decide) HBX.out.1
      have t32 : decide ((d : Int) < 32) = true := by simp; omega
      have H32 : Hid (d + 1 ≤ 32) := Lib.hid (by omega)
      by_cases h1000 : 1000 < l.length
      · have t1000 : decide ((rs.length : Int) ≤ 1000) = false := by have := HRL.out; simp; omega
        have HE : Hid (RES = 9) := Lib.hid (by rw [HRES.out]; exact chk_own _ _ _ _ _ _ (by unfold chkOwn; simp [h32, h1000]) (by decide))
        clear h1000 h32
        go_wp2_with (fail)
        refine (j_unless _ true _).mono ?_
        rintro e w3 ⟨h, rfl⟩
        rw [if_pos rfl] at h
        subst h
        go_wp2_with (fail)
        refine (j_unless _ false _).mono ?_
        rintro e w4 ⟨h, rfl⟩
        rw [if_neg (by decide)] at h
        subst h
        exact leave_checked (m := 9) rfl HE.out (by decide) HBX.out.1
      have t1000 : decide ((rs.length : Int) ≤ 1000) = true := by have := HRL.out; simp; omega
      have HALL : Hid (RES = chkAll (d + 1) l) := Lib.hid (by rw [HRES.out]; exact chk_list (by unfold chkOwn; simp [h32, h1000]) (by decide))
      clear h32 h1000
      go_wp2_with (fail)
      refine (j_unless _ true _).mono ?_
      rintro e w3 ⟨h, rfl⟩
      rw [if_pos rfl] at h
      subst h
      go_wp2_with (fail)
      refine (j_unless _ true _).mono ?_
      rintro e w4 ⟨h, rfl⟩
      rw [if_pos rfl] at h
      subst h
      have HN : Hid (Below w1.heap.size w1 w1) := Lib.hid (Below.refl _ _)
      obtain ⟨⟨b0, b1, b2, b3⟩, -⟩ := jbox_cells (jbox_below HBX.out.2 HN.out)
      go_upto_region 17 with (fail)
      clear b0 b1 b2 b3
      go_loopg [79] (l.length + 1) (fun gk s wx => ∃ i : Nat, gk = l.length - i + 1 ∧ i ≤ l.length ∧ s = .int .i64 (i : Int) ∧ Hid (Below w1.heap.size w1 wx) ∧ Hid (RES = chkAll (d + 1) (l.drop i)))
      case atStart => exact ⟨0, rfl, Nat.zero_le _, rfl, HN, Lib.hid (by rw [HALL.out]; rfl)⟩
      case round =>
        obtain ⟨i, rfl, hi, rfl, HB, HE⟩ := hrel
        by_cases hlt : i < l.length
        · have hlt1 : i < rs.length := by have := HRL.out; omega
          have ht1 : decide (i < rs.length) = true := by simpa using hlt1
          have ht2 : (i : Int) < (rs.length : Int) := by omega
          obtain ⟨r, hr⟩ : ∃ r, rs[i]? = some r := ⟨_, List.getElem?_eq_getElem hlt1⟩
          obtain ⟨v, hv, hj⟩ := (HRS.out.2.below HB.out).getR hr
          obtain ⟨g, off, rfl, c0, c1, c2, c3⟩ := raw_cells (HRS.out.1.below HB.out) hr
          have hw64 : wrap64 ((i : Int) + 1) = (i : Int) + 1 := by have := HF.out.2.2.2.1; unfold wrap64; omega
          have hd64 : wrap64 ((d : Int) + 1) = (d : Int) + 1 := by have := HD.out; unfold wrap64; omega
          obtain ⟨w5, hw5, HB5⟩ := jbox_new wr r
          have hbw5 := HB.out.trans (HB5.out.1.mono HB.out.size)
          have HCC := Lib.hid (HIH.out v (List.mem_of_getElem? hv) (d + 1) r w5 A H32.out (hj.below HB5.out.1) (HF.out.2.2.2.2.mem v (List.mem_of_getElem? hv)) (HT.out.below hbw5))
          have HE2 : Hid (RES = if chk (d + 1) v ≠ 0 then chk (d + 1) v else chkAll (d + 1) (l.drop (i + 1))) := Lib.hid (by
            rw [HE.out, List.drop_eq_getElem_cons hlt, show l[i] = v from by rw [List.getElem?_eq_getElem hlt] at hv; exact Option.some.inj hv]
            rfl)
          have HW5 := Lib.hid hw5
          have HBW5 := Lib.hid hbw5
          have HL := Lib.hid hlt
          have hcast : (((d + 1 : Nat) : Int)) = (d : Int) + 1 := by omega
          rw [hcast] at HCC
          clear hr hj hv hlt hlt1 hi hbw5 hw5
          go_upto_region 19 with (fail)
          rw [HW5.out]
          clear c0 c1 c2 c3
          obtain ⟨⟨b0, b1, b2, b3⟩, -⟩ := jbox_cells HB5.out.2
          go_wp2_with (fail)
          refine HCC.out.mono ?_
          rintro e w6 ⟨he, hb6⟩
          have HB6 := Lib.hid (HBW5.out.trans (hb6.mono HBW5.out.size))
          clear hb6
          by_cases hz : chk (d + 1) v = 0
          · rw [if_pos hz] at he
            subst he
            have HE3 : Hid (RES = chkAll (d + 1) (l.drop (i + 1))) := Lib.hid (by rw [HE2.out, if_neg (fun h => h hz)])
            clear b0 b1 b2 b3 hz
            go_wp2_with (fail)
            go_roundg (l.length - (i + 1) + 1)
            case measure => have := HL.out; omega
            case rel => exact ⟨i + 1, rfl, HL.out, by rw [hw64]; rfl, HB6, HE3⟩
          · rw [if_neg hz] at he
            subst he
            exact leave_checked rfl (by rw [HE2.out, if_pos hz]) hz (HBX.out.1.trans (HB6.out.mono HBX.out.1.size))
        · have ht1 : decide (i < rs.length) = false := by have := HRL.out; simp; omega
          have hE : Hid (RES = 0) := Lib.hid (by rw [HE.out, List.drop_eq_nil_of_le (by omega)]; rfl)
          clear hlt hi
          go_wp2_with (fail)
          go_end0
          exact ⟨by rw [hE.out]; rfl, HBX.out.1.trans (HB.out.mono HBX.out.1.size)⟩
    · go_enter Tryz.func33, Tryz.ntmps33
      go_upto_region 1 with (fail)
      rw [show w.alloc (.cells #[.int .i64 6, .string qt, .slice la rs.length lc, .slice na ns.length nc] 25) = w1 from HW1.out]
      go_wp2_with (fail)
      refine (j_unless _ true _).mono ?_
      rintro e w2 ⟨h, rfl⟩
      rw [if_pos rfl] at h
      subst h
      have HC := Lib.hid (s_contFn (w := w1) HNS.out HF.out.2.1 HF.out.2.2.1 HT.out)
      obtain ⟨b, hb⟩ : ∃ b, b = ns.any fun s => !valid (raw s) := ⟨_, rfl⟩
      rw [← hb] at HC
      have HBV : Hid (b = !(ns.all fun s => valid (raw s))) := Lib.hid (by rw [hb, List.not_all_eq_any_not])
      clear hb
      go_wp2_with (fail)
      refine HC.out.mono ?_
      rintro e w3 ⟨rfl, hb3⟩
      have HB3 := Lib.hid hb3
      have HX3 := Lib.hid (jbox_below HBX.out.2 hb3)
      clear hb3 b0 b1 b2 b3
      cases b with
      | true =>
        have HE : Hid (RES = 10) := Lib.hid (by rw [HRES.out]; exact chk_own _ _ _ _ _ _ (by have := HBV.out; unfold chkOwn; simp at this; simp [this]) (by decide))
        go_wp2_with (fail)
        refine (j_unless _ false _).mono ?_
        rintro e w4 ⟨h, rfl⟩
        rw [if_neg (by decide)] at h
        subst h
        exact leave_checked (m := 10) rfl HE.out (by decide) (HBX.out.1.trans (HB3.out.mono HBX.out.1.size))
      | false =>
        have HALV : Hid ((ns.all fun s => valid (raw s)) = true) := Lib.hid (by have := HBV.out; simpa using this.symm)
        go_wp2_with (fail)
        refine (j_unless _ true _).mono ?_
        rintro e w4 ⟨h, rfl⟩
        rw [if_pos rfl] at h
        subst h
        obtain ⟨⟨b0, b1, b2, b3⟩, -⟩ := jbox_cells HX3.out
        by_cases hln : ns.length = l.length
        · have tln : ((ns.length : Int) == (rs.length : Int)) = true := by have := HRL.out; simp; omega
          by_cases h32 : 32 ≤ d
          · have t32 : decide ((d : Int) < 32) = false := by simp; omega
            have HE : Hid (RES = 20) := Lib.hid (by rw [HRES.out]; exact chk_own _ _ _ _ _ _ (by have := HALV.out; unfold chkOwn; simp only [this]; simp [hln, h32]) (by decide))
            clear h32 hln
            go_wp2_with (fail)
            refine (j_unless _ true _).mono ?_
            rintro e w5 ⟨h, rfl⟩
            rw [if_pos rfl] at h
            subst h
            go_wp2_with (fail)
            refine (j_unless _ false _).mono ?_
            rintro e w6 ⟨h, rfl⟩
            rw [if_neg (by decide)] at h
            subst h
            exact leave_checked (m := 20) rfl HE.out (by decide) (HBX.out.1.trans (HB3.out.mono HBX.out.1.size))
          have t32 : decide ((d : Int) < 32) = true := by simp; omega
          have H32 : Hid (d + 1 ≤ 32) := Lib.hid (by omega)
          by_cases h1000 : 1000 < l.length
          · have t1000 : decide ((rs.length : Int) ≤ 1000) = false := by have := HRL.out; simp; omega
            have HE : Hid (RES = 9) := Lib.hid (by rw [HRES.out]; exact chk_own _ _ _ _ _ _ (by have := HALV.out; unfold chkOwn; simp only [this]; simp [hln, h32, h1000]) (by decide))
            clear h1000 h32 hln
            go_wp2_with (fail)
            refine (j_unless _ true _).mono ?_
            rintro e w5 ⟨h, rfl⟩
            rw [if_pos rfl] at h
            subst h
            go_wp2_with (fail)
            refine (j_unless _ true _).mono ?_
            rintro e w6 ⟨h, rfl⟩
            rw [if_pos rfl] at h
            subst h
            go_wp2_with (fail)
            refine (j_unless _ false _).mono ?_
            rintro e w7 ⟨h, rfl⟩
            rw [if_neg (by decide)] at h
            subst h
            exact leave_checked (m := 9) rfl HE.out (by decide) (HBX.out.1.trans (HB3.out.mono HBX.out.1.size))
          have t1000 : decide ((rs.length : Int) ≤ 1000) = true := by have := HRL.out; simp; omega
          have HOWN : Hid (chkOwn d 6 qt l.length ns = if distinct (ns.map raw) = false then 12 else 0) := Lib.hid (by have := HALV.out; unfold chkOwn; simp only [this]; simp [hln, h32, h1000])
          clear h32 h1000 hln
          go_wp2_with (fail)
          refine (j_unless _ true _).mono ?_
          rintro e w5 ⟨h, rfl⟩
          rw [if_pos rfl] at h
          subst h
          go_wp2_with (fail)
          refine (j_unless _ true _).mono ?_
          rintro e w6 ⟨h, rfl⟩
          rw [if_pos rfl] at h
          subst h
          go_wp2_with (fail)
          refine (j_unless _ true _).mono ?_
          rintro e w7 ⟨h, rfl⟩
          rw [if_pos rfl] at h
          subst h
          go_wp2_with (fail)
          refine (s_values _ _ _ _).mono ?_
          rintro e w8 ⟨rfl, hw8⟩
          have hb8 : Below w3.heap.size w3 w8 := by rw [← hw8]; exact (Below.refl _ _).alloc (Nat.le_refl _) _
          have hk8 : IsBlk w8 w3.heap.size #[.slice na ns.length nc] 23 := by rw [← hw8]; exact blk_new _ _
          have HBW8 := Lib.hid (HB3.out.trans (hb8.mono HB3.out.size))
          have HSO := Lib.hid (s_sorted hk8 (HNS.out.below HBW8.out) HF.out.2.1)
          clear hw8 hb8 hk8 b0 b1 b2 b3
          go_wp2_with (fail)
          refine HSO.out.mono ?_
          rintro e w9 ⟨u, rfl, hrow, hb9⟩
          have HBW9 := Lib.hid (HBW8.out.trans (hb9.mono HBW8.out.size))
          have HCP := Lib.hid (s_compact (W := w9.drew) (base := w1.heap.size) (u := u) (names := ns) (by
            refine ownsRow_keeps (S := fun _ => False) ?_ (Keeps.refl _ _).drew (fun _ _ h => h)
            refine ⟨hrow.1, ?_⟩
            rcases hrow.2 with h | ⟨g, cap, cur, h1, h2, h3⟩
            · exact .inl h
            · exact .inr ⟨g, cap, cur, h1, by have := HBW8.out.size; omega, h3⟩) HF.out.2.1 (by show w1.heap.size ≤ w9.heap.size; exact HBW9.out.size))
          have HX9 := Lib.hid (jbox_below HBX.out.2 HBW9.out)
          obtain ⟨ua, ul, uc, hu⟩ : ∃ a n c, u = .slice a n c := by
            rcases hrow.2 with ⟨h, _⟩ | ⟨g, cap, cur, h1, _⟩
            · exact ⟨_, _, _, h⟩
            · exact ⟨_, _, _, h1⟩
          subst hu
          clear hrow hb9 HSO HBW8
          go_upto_region 15 with (fail)
          refine wp_region_B (T := fun w' => w'.cell? ⟨w.heap.size, 3, none⟩ = some (.slice na ns.length nc)) (B := fun j => true) (by kernel_rfl) ?_
          have hT : w9.drew.cell? ⟨w.heap.size, 3, none⟩ = some (.slice na ns.length nc) := (jbox_cells HX9.out).1.2.2.2
          refine wpAnyB_take (i := 0) (oi := { dst := some 68, op := Op.move (Operand.tmp 4), type := 23, pos := "json.go:73", after := #[], guard := none }) (v := ?vv0) rfl (by kernel_rfl) (by kernel_rfl) (by kernel_rfl) (fun _ _ _ h => h) (Or.inl ⟨by rfl, ?hy0⟩) ?rs0
          case hy0 => (intro w; go_simp) <;> with_reducible rfl
          try simp only [Act.put, List.setIfInBounds_toArray, List.set_cons_zero, List.set_cons_succ]
          refine wpAnyB_take (i := 3) (oi := { dst := some 71, op := Op.fieldAddr 25 (Operand.tmp 2) 3, type := 0, pos := "json.go:73", after := #[], guard := none }) (v := ?vv3) rfl (by kernel_rfl) (by kernel_rfl) (by kernel_rfl) (fun _ _ _ h => h) (Or.inl ⟨by rfl, ?hy3⟩) ?rs3
          case hy3 => (intro w; go_simp) <;> with_reducible rfl
          try simp only [Act.put, List.setIfInBounds_toArray, List.set_cons_zero, List.set_cons_succ]
          refine wpAnyB_load (i := 4) (v := ?vv4) rfl (by kernel_rfl) (by kernel_rfl) (by kernel_rfl) (by kernel_rfl) (fun _ _ _ h => h) (Or.inl ⟨by rfl, ?hy4⟩) (by assumption) ?rs4
          case hy4 => (intro w s3; (try dsimp only at s3); go_simp) <;> with_reducible rfl
          try simp only [Act.put, List.setIfInBounds_toArray, List.set_cons_zero, List.set_cons_succ]
          refine wpAnyB_take (i := 5) (oi := { dst := some 73, op := Op.call { callee := Callee.builtin Builtin.len, args := #[Operand.tmp 72], argTypes := #[23] }, type := 3, pos := "json.go:73", after := #[{ on := 4, ground := Ground.data }], guard := none }) (v := ?vv5) rfl (by kernel_rfl) (by kernel_rfl) (by kernel_rfl) (fun _ _ _ h => h) (Or.inl ⟨by rfl, ?hy5⟩) ?rs5
          case hy5 => (intro w; go_simp) <;> with_reducible rfl
          try simp only [Act.put, List.setIfInBounds_toArray, List.set_cons_zero, List.set_cons_succ]
          clear hT
          refine wpAnyB_ready (rs := [1]) (by kernel_rfl) (by simp) ?_
          refine AllReadyB.cons (o := { dst := some 69, op := Op.call { callee := Callee.value (Operand.func 66), args := #[Operand.tmp 68], argTypes := #[23] }, type := 23, pos := "json.go:73", after := #[{ on := 0, ground := Ground.data }], guard := none }) rfl (fun K hK => ?_) AllReadyB.nil
          go_simp
          go_at_call 66
          refine HCP.out.mono ?_
          rintro e w10 ⟨a', n', c', rfl, HDI, HB10⟩
          have HBW10 := Lib.hid ((HBW9.out.drew).trans (HB10.out))
          have HX10 := Lib.hid (jbox_below HBX.out.2 HBW10.out)
          obtain ⟨bb, hbb⟩ : ∃ bb, bb = distinct (ns.map raw) := ⟨_, rfl⟩
          have hbq : ((n' : Int) == (ns.length : Int)) = bb := by
            rw [hbb, ← HDI.out, Bool.eq_iff_iff]
            simp only [beq_iff_eq]
            omega
          have HBB := Lib.hid hbb
          clear hbb
          refine hK.out _ _ (fun _ _ => (jbox_cells HX10.out).1.2.2.2) ?_
          clear hK K
          try simp only [Act.put, List.setIfInBounds_toArray, List.set_cons_zero, List.set_cons_succ]
          refine wpAnyB_take (i := 2) (oi := { dst := some 70, op := Op.call { callee := Callee.builtin Builtin.len, args := #[Operand.tmp 69], argTypes := #[23] }, type := 3, pos := "json.go:73", after := #[{ on := 1, ground := Ground.data }], guard := none }) (v := ?vv2) rfl (by kernel_rfl) (by kernel_rfl) (by kernel_rfl) (fun _ _ _ h => h) (Or.inl ⟨by rfl, ?hy2⟩) ?rs2
          case hy2 => (intro w; go_simp) <;> with_reducible rfl
          try simp only [Act.put, List.setIfInBounds_toArray, List.set_cons_zero, List.set_cons_succ]
          refine wpAnyB_take (i := 6) (oi := { dst := some 74, op := Op.binOp BinOp.eql 3 (Operand.tmp 70) (Operand.tmp 73) 3, type := 4, pos := "json.go:73", after := #[{ on := 2, ground := Ground.data }, { on := 5, ground := Ground.data }], guard := none }) (v := ?vv6) rfl (by kernel_rfl) (by kernel_rfl) (by kernel_rfl) (fun _ _ _ h => h) (Or.inl ⟨by rfl, ?hy6⟩) ?rs6
          case hy6 => (intro w; go_simp) <;> with_reducible rfl
          try simp only [Act.put, List.setIfInBounds_toArray, List.set_cons_zero, List.set_cons_succ]
          refine wpAnyB_ready (rs := [7]) (by kernel_rfl) (by simp) ?_
          refine AllReadyB.cons (o := { dst := some 75, op := Op.call { callee := Callee.value (Operand.func 59), args := #[Operand.tmp 74, Operand.const (Value.int IntKind.i64 12)], argTypes := #[4, 29] }, type := 0, pos := "json.go:73", after := #[{ on := 6, ground := Ground.data }, { on := 1, ground := Ground.chain }], guard := none }) rfl (fun K hK => ?_) AllReadyB.nil
          go_simp
          go_at_call 59
          refine (j_unless _ bb _).mono ?_
          rintro e w11 ⟨h, rfl⟩
          cases bb with
          | false =>
            rw [if_neg (by decide)] at h
            subst h
            exact leave_checked (m := 12) rfl (by rw [HRES.out]; exact chk_own _ _ _ _ _ _ (by rw [HOWN.out, ← HBB.out]; rfl) (by decide)) (by decide) (HBX.out.1.trans (HBW10.out.mono HBX.out.1.size))
          | true =>
          rw [if_pos rfl] at h
          subst h
          refine hK.out _ _ (fun _ _ => (jbox_cells HX10.out).1.2.2.2) ?_
          clear hK K
          try simp only [Act.put, List.setIfInBounds_toArray, List.set_cons_zero, List.set_cons_succ]
          refine wpAnyB_done (by kernel_rfl) ?_ _
          have HALL : Hid (RES = chkAll (d + 1) l) := Lib.hid (by rw [HRES.out]; exact chk_list (by rw [HOWN.out, ← HBB.out]; rfl) (by decide))
          have HN := HBW10
          obtain ⟨w12, hw12⟩ : ∃ x, x = w10 := ⟨_, rfl⟩
          rw [← hw12] at HN ⊢
          clear hw12 hbq HBW9 HX9 HX10 HCP HDI HB10 HX3 HB3
          obtain ⟨⟨b0, b1, b2, b3⟩, -⟩ := jbox_cells (jbox_below HBX.out.2 HN.out)
          go_upto_region 17 with (fail)
          clear b0 b1 b2 b3
          go_loopg [79] (l.length + 1) (fun gk s wx => ∃ i : Nat, gk = l.length - i + 1 ∧ i ≤ l.length ∧ s = .int .i64 (i : Int) ∧ Hid (Below w1.heap.size w1 wx) ∧ Hid (RES = chkAll (d + 1) (l.drop i)))
          case atStart => exact ⟨0, rfl, Nat.zero_le _, rfl, HN, Lib.hid (by rw [HALL.out]; rfl)⟩
          case round =>
            obtain ⟨i, rfl, hi, rfl, HB, HE⟩ := hrel
            by_cases hlt : i < l.length
            · have hlt1 : i < rs.length := by have := HRL.out; omega
              have ht1 : decide (i < rs.length) = true := by simpa using hlt1
              have ht2 : (i : Int) < (rs.length : Int) := by omega
              obtain ⟨r, hr⟩ : ∃ r, rs[i]? = some r := ⟨_, List.getElem?_eq_getElem hlt1⟩
              obtain ⟨v, hv, hj⟩ := (HRS.out.2.below HB.out).getR hr
              obtain ⟨g, off, rfl, c0, c1, c2, c3⟩ := raw_cells (HRS.out.1.below HB.out) hr
              have hw64 : wrap64 ((i : Int) + 1) = (i : Int) + 1 := by have := HF.out.2.2.2.1; unfold wrap64; omega
              have hd64 : wrap64 ((d : Int) + 1) = (d : Int) + 1 := by have := HD.out; unfold wrap64; omega
              obtain ⟨w5, hw5, HB5⟩ := jbox_new wr r
              have hbw5 := HB.out.trans (HB5.out.1.mono HB.out.size)
              have HCC := Lib.hid (HIH.out v (List.mem_of_getElem? hv) (d + 1) r w5 A H32.out (hj.below HB5.out.1) (HF.out.2.2.2.2.mem v (List.mem_of_getElem? hv)) (HT.out.below hbw5))
              have HE2 : Hid (RES = if chk (d + 1) v ≠ 0 then chk (d + 1) v else chkAll (d + 1) (l.drop (i + 1))) := Lib.hid (by
                rw [HE.out, List.drop_eq_getElem_cons hlt, show l[i] = v from by rw [List.getElem?_eq_getElem hlt] at hv; exact Option.some.inj hv]
                rfl)
              have HW5 := Lib.hid hw5
              have HBW5 := Lib.hid hbw5
              have HL := Lib.hid hlt
              have hcast : (((d + 1 : Nat) : Int)) = (d : Int) + 1 := by omega
              rw [hcast] at HCC
              clear hr hj hv hlt hlt1 hi hbw5 hw5
              go_upto_region 19 with (fail)
              rw [HW5.out]
              clear c0 c1 c2 c3
              obtain ⟨⟨b0, b1, b2, b3⟩, -⟩ := jbox_cells HB5.out.2
              go_wp2_with (fail)
              refine HCC.out.mono ?_
              rintro e w6 ⟨he, hb6⟩
              have HB6 := Lib.hid (HBW5.out.trans (hb6.mono HBW5.out.size))
              clear hb6
              by_cases hz : chk (d + 1) v = 0
              · rw [if_pos hz] at he
                subst he
                have HE3 : Hid (RES = chkAll (d + 1) (l.drop (i + 1))) := Lib.hid (by rw [HE2.out, if_neg (fun h => h hz)])
                clear b0 b1 b2 b3 hz
                go_wp2_with (fail)
                go_roundg (l.length - (i + 1) + 1)
                case measure => have := HL.out; omega
                case rel => exact ⟨i + 1, rfl, HL.out, by rw [hw64]; rfl, HB6, HE3⟩
              · rw [if_neg hz] at he
                subst he
                exact leave_checked rfl (by rw [HE2.out, if_pos hz]) hz (HBX.out.1.trans (HB6.out.mono HBX.out.1.size))
            · have ht1 : decide (i < rs.length) = false := by have := HRL.out; simp; omega
              have hE : Hid (RES = 0) := Lib.hid (by rw [HE.out, List.drop_eq_nil_of_le (by omega)]; rfl)
              clear hlt hi
              go_wp2_with (fail)
              go_end0
              exact ⟨by rw [hE.out]; rfl, HBX.out.1.trans (HB.out.mono HBX.out.1.size)⟩
        · have tln : ((ns.length : Int) == (rs.length : Int)) = false := by have := HRL.out; simp; omega
          have HE : Hid (RES = 10) := Lib.hid (by rw [HRES.out]; exact chk_own _ _ _ _ _ _ (by have := HALV.out; unfold chkOwn; simp only [this]; simp [hln]) (by decide))
          clear hln
          go_wp2_with (fail)
          refine (j_unless _ false _).mono ?_
          rintro e w5 ⟨h, rfl⟩
          rw [if_neg (by decide)] at h
          subst h
          exact leave_checked (m := 10) rfl HE.out (by decide) (HBX.out.1.trans (HB3.out.mono HBX.out.1.size))
theorem j_check (v : JV) : ChkOk v := JV.ind (P := ChkOk) (fun k t l ns ih => j_checkB k t l ns ih) v
end
end Go.Proofs.YthjcolehccbihaaGreatDoor
