/- The walks of exref.Has and exref7.check. -/
import Derived.Test.YthjcolehccbihaaGreatDoorz41
set_option linter.unusedSectionVars false
set_option linter.unusedSimpArgs false
set_option linter.unusedVariables false
namespace Go.Proofs.YthjcolehccbihaaGreatDoor
open Go.RowKit Go.Shelf
section
variable {w : World}
/-- Is it there? -/
def hasB (l : List ByteArray) (s : ByteArray) : Bool := l.any fun x => decide (x = s)
theorem hasB_iff {l : List ByteArray} {s : ByteArray} : hasB l s = true ↔ s ∈ l := by
  unfold hasB
  rw [List.any_eq_true]
  constructor
  · rintro ⟨x, hx, h⟩
    rw [← of_decide_eq_true h]; exact hx
  · intro h
    exact ⟨s, h, decide_eq_true rfl⟩
theorem has_not {l : List ByteArray} {s : ByteArray} {i : Nat} (h : ∀ (j : Nat) (x : ByteArray), j < i → l[j]? = some x → x ≠ s) (hi : l.length ≤ i) : hasB l s = false := by
  cases hh : hasB l s with
  | false => rfl
  | true =>
  have hm := hasB_iff.1 hh
  exfalso
  obtain ⟨j, hj⟩ := List.getElem?_of_mem hm
  exact h j s (by have := (List.getElem?_eq_some_iff.1 hj).1; omega) hj rfl
set_option maxRecDepth 100000 in
theorem k_has {a : Option Addr} {cap : Nat} {l : List ByteArray} (s : ByteArray) (h : RdAt textKind w (.slice a l.length cap) l) (hl : l.length ≤ 1000000) :
    Calls Tryz.prog 84 #[.slice a l.length cap, .string s] w fun e w' => e = .returned (.bool (hasB l s)) ∧ w = w' := by
  have HR := Lib.hid h
  obtain ⟨N, hN⟩ : ∃ N, N = l.length := ⟨_, rfl⟩
  have hNI : (N : Int) ≤ 1000000 := by omega
  rw [← hN] at HR ⊢
  have HN := Lib.hid hN
  obtain ⟨RES, hres⟩ : ∃ r, r = hasB l s := ⟨_, rfl⟩
  rw [← hres]
  have HRES := Lib.hid hres
  clear h hl hN hres
  go_enter Tryz.func84, Tryz.ntmps84
  go_wp2_with (fail)
  go_loopw [5] (fun iv wr => ∃ i : Nat, wr = w ∧ iv = .int .i64 (i : Int) ∧ i ≤ N ∧ Hid (∀ (j : Nat) (x : ByteArray), j < i → l[j]? = some x → x ≠ s)) (fun iv _ => N - (intOf iv).toNat)
  case atStart => exact ⟨0, rfl, rfl, Nat.zero_le _, Lib.hid fun j x h => by omega⟩
  case round =>
    obtain ⟨i, rfl, rfl, hi, HA⟩ := hrel
    by_cases hlt : i < N
    · have k1 : (i : Int) < (N : Int) := by omega
      have k0 : (0 : Int) ≤ (i : Int) := by omega
      obtain ⟨x, hx⟩ : ∃ x, l[i]? = some x := ⟨_, List.getElem?_eq_getElem (by rw [← HN.out]; exact hlt)⟩
      obtain ⟨g, off, rfl, hc⟩ := text_cell (HN.out ▸ HR.out) hx
      have HX := Lib.hid hx
      have HLT := Lib.hid hlt
      by_cases he : x = s
      · subst he
        have HF : Hid (RES = true) := Lib.hid (by rw [HRES.out]; exact hasB_iff.2 (List.mem_of_getElem? hx))
        clear hx hlt
        go_wp2_with (fail)
        go_ret
        exact ⟨by rw [HF.out]; rfl, rfl⟩
      · have hne := list_ne he
        have HA2 : Hid (∀ (j : Nat) (y : ByteArray), j < i + 1 → l[j]? = some y → y ≠ s) := Lib.hid fun j y hj hy => by
          by_cases hji : j = i
          · subst hji; rw [HX.out] at hy; cases hy; exact he
          · exact HA.out j y (by omega) hy
        have hn2 : ¬ x.toList = s.toList := fun e => he (str_inj e)
        clear hx hlt he
        go_wp2_with (fail)
        go_roundw
        case rel => exact ⟨i + 1, trivial, by go_num, HLT.out, HA2⟩
        case measure => have := HLT.out; simp [intOf]; omega
    · have k1 : ¬ (i : Int) < (N : Int) := by omega
      have HF : Hid (RES = false) := Lib.hid (by rw [HRES.out]; exact has_not HA.out (by rw [← HN.out]; omega))
      clear hlt
      go_wp2_with (fail)
      go_ret
      exact ⟨by rw [HF.out]; rfl, rfl⟩
/-- The contract of check. -/
def CheckOk (v : JV) : Prop := ∀ (d : Nat) (q : RawV) (w : World) (A : Nat → Prop), v.Fit → JAt w A v q → d ≤ 32 →
  Calls Tryz.prog 52 #[.agg #[.int .i64 q.k, .string q.t, .slice q.la q.ll q.lc, .slice q.na q.nl q.nc], .int .i64 (d : Int)] w fun e w' => e = .returned (.int .i64 (chk d v : Int)) ∧ Below w.heap.size w w'
theorem chkAll_front {d : Nat} : ∀ (l : List JV) (i : Nat) (x : JV), chkAll d (l.take i) = 0 → l[i]? = some x → chk d x ≠ 0 → chkAll d l = chk d x
  | [], i, x, _, hx, _ => by simp at hx
  | v :: l, 0, x, _, hx, hn => by
    simp only [List.getElem?_cons_zero, Option.some.injEq] at hx
    subst hx
    unfold chkAll
    rw [if_pos hn]
  | v :: l, i + 1, x, h, hx, hn => by
    simp only [List.getElem?_cons_succ] at hx
    rw [List.take_succ_cons] at h
    unfold chkAll at h ⊢
    by_cases hv : chk d v = 0
    · rw [if_neg (by simp [hv])] at h ⊢
      exact chkAll_front l i x h hx hn
    · rw [if_pos hv] at h; exact absurd h hv
theorem chkAll_snoc {d : Nat} : ∀ (l : List JV) (x : JV), chkAll d l = 0 → chk d x = 0 → chkAll d (l ++ [x]) = 0
  | [], x, _, hx => by simp [chkAll, hx]
  | v :: l, x, h, hx => by
    rw [List.cons_append]
    unfold chkAll at h ⊢
    by_cases hv : chk d v = 0
    · rw [if_neg (by simp [hv])] at h ⊢
      exact chkAll_snoc l x h hx
    · rw [if_pos hv] at h; exact absurd h hv
theorem dist_not {ns : List ByteArray} {i : Nat} {s : ByteArray} (hs : ns[i]? = some s) (hm : s ∈ ns.take i) : distinct (ns.map raw) = false := by
  cases h : distinct (ns.map raw) with
  | false => rfl
  | true =>
    rw [distinct_nodup, List.Nodup, List.pairwise_iff_getElem] at h
    obtain ⟨j, hj⟩ := List.getElem?_of_mem hm
    have hji : j < i := by
      have := (List.getElem?_eq_some_iff.1 hj).1
      rw [List.length_take] at this
      omega
    rw [List.getElem?_take_of_lt hji] at hj
    have h1 : (ns.map raw)[j]? = some (raw s) := by rw [List.getElem?_map, hj]; rfl
    have h2 : (ns.map raw)[i]? = some (raw s) := by rw [List.getElem?_map, hs]; rfl
    obtain ⟨l1, e1⟩ := List.getElem?_eq_some_iff.1 h1
    obtain ⟨l2, e2⟩ := List.getElem?_eq_some_iff.1 h2
    exact absurd (by rw [e1, e2]) (h j i l1 l2 hji)
theorem dist_all {ns : List ByteArray} (h : ∀ (i : Nat) (s : ByteArray), ns[i]? = some s → s ∉ ns.take i) : distinct (ns.map raw) = true := by
  rw [distinct_nodup, List.Nodup, List.pairwise_iff_getElem]
  intro i j hi hj hij e
  rw [List.length_map] at hi hj
  simp only [List.getElem_map] at e
  have e2 : ns[i] = ns[j] := by rw [← str_of ns[i], ← str_of ns[j]]; exact congrArg str e
  refine h j ns[j] (List.getElem?_eq_getElem hj) ?_
  rw [← e2]
  exact List.mem_iff_getElem?.2 ⟨i, by rw [List.getElem?_take_of_lt hij]; exact List.getElem?_eq_getElem hi⟩
theorem own_7 {d n : Nat} {k : Int} {t : ByteArray} {ns : List ByteArray} (h : k < 0 ∨ 6 < k) : chkOwn d k t n ns = 7 := by unfold chkOwn; rw [if_pos h]
theorem own_3 {d n : Nat} {t : ByteArray} {ns : List ByteArray} : chkOwn d 3 t n ns = if literal (raw t) = false then 10 else 0 := by
  unfold chkOwn
  rw [if_neg (by decide)]
  cases h : literal (raw t) <;> simp
theorem own_4 {d n : Nat} {t : ByteArray} {ns : List ByteArray} : chkOwn d 4 t n ns = if valid (raw t) = false then 10 else 0 := by
  unfold chkOwn
  rw [if_neg (by decide), if_neg (by simp)]
  cases h : valid (raw t) <;> simp
theorem own_low {d n : Nat} {k : Int} {t : ByteArray} {ns : List ByteArray} (h0 : 0 ≤ k) (h5 : k < 5) (h3 : k ≠ 3) (h4 : k ≠ 4) : chkOwn d k t n ns = 0 := by
  unfold chkOwn
  rw [if_neg (by omega), if_neg (fun h => h3 h.1), if_neg (fun h => h4 h.1), if_neg (fun h => by have := h.1; omega), if_neg (fun h => by have := h.1; omega), if_pos h5]
theorem own_5 {d n : Nat} {t : ByteArray} {ns : List ByteArray} : chkOwn d 5 t n ns = if 32 ≤ d then 20 else if 1000 < n then 9 else 0 := by
  unfold chkOwn
  simp
theorem own_6 {d n : Nat} {t : ByteArray} {ns : List ByteArray} : chkOwn d 6 t n ns = if (ns.all fun s => valid (raw s)) = false then 10 else if ns.length ≠ n then 10 else if 32 ≤ d then 20 else if 1000 < n then 9 else if distinct (ns.map raw) = false then 12 else 0 := by
  unfold chkOwn
  rw [if_neg (by decide), if_neg (by simp), if_neg (by simp)]
  simp only [true_and]
  rw [if_neg (show ¬ (6 : Int) < 5 by decide)]
set_option maxRecDepth 100000 in
set_option maxHeartbeats 16000000 in
theorem k_check1 (k : Int) (t : ByteArray) (l : List JV) (ns : List ByteArray) (ih : ∀ v ∈ l, CheckOk v) : CheckOk (.mk k t l ns) := by
  intro d q w A hf hq hd
  simp only [JAt] at hq
  obtain ⟨hqk, hqt, ⟨hns, -, hncap⟩, rs, ⟨hrs, -⟩, hl⟩ := hq
  simp only [JV.Fit] at hf
  have e1 : q.ll = l.length := by
    obtain ⟨_, _, e, _⟩ := hrs
    injection e with _ e _
    rw [e, hl.length]
  have e3 : q.nl = ns.length := by obtain ⟨_, _, e, _⟩ := hns; injection e
  obtain ⟨w1, hw1, HB1⟩ := kbox_new w q
  obtain ⟨qk, qt, la, ll, lc, na, nl, nc⟩ := q
  simp only at hqk hqt e1 e3 hncap
  subst hqk hqt e1 e3
  simp only [RawV.lv, RawV.nv] at hns hrs
  simp only at hw1
  have HW1 := Lib.hid hw1
  have HRD := Lib.hid (And.intro hns (And.intro hrs hl))
  have HF := Lib.hid hf
  have HIH := Lib.hid ih
  have HNC := Lib.hid hncap
  have hlm : (l.length : Int) ≤ 1000000 := by omega
  have hnm : (ns.length : Int) ≤ 1000000 := by omega
  have hdI : (d : Int) ≤ 32 := by omega
  have hcap : (ns.length : Int) ≤ (nc : Int) := by omega
  have hcells : ∀ W, Below w1.heap.size w1 W → (W.cell? ⟨w.heap.size, 0, none⟩ = some (.int .i64 qk) ∧ W.cell? ⟨w.heap.size, 1, none⟩ = some (.string qt) ∧ W.cell? ⟨w.heap.size, 2, none⟩ = some (.slice la l.length lc) ∧ W.cell? ⟨w.heap.size, 3, none⟩ = some (.slice na ns.length nc)) := fun W h => (kbox_cells (kbox_below HB1.out.2 h)).1
  obtain ⟨b0, b1, b2, b3⟩ := hcells w1 (Below.refl _ _)
  have HC := Lib.hid hcells
  have HB := Lib.hid HB1.out.1
  have HD := Lib.hid hd
  obtain ⟨RES, hres⟩ : ∃ r, r = chk d (.mk qk qt l ns) := ⟨_, rfl⟩
  rw [← hres]
  have HRES : Hid (RES = if chkOwn d qk qt l.length ns ≠ 0 then chkOwn d qk qt l.length ns else if qk < 5 then 0 else chkAll (d + 1) l) := Lib.hid (by rw [hres]; unfold chk; rfl)
  clear hw1 hf hns hrs hl ih HB1 hres hcells hncap hd
  by_cases hbad : qk < 0 ∨ 6 < qk
  · have HR : Hid (RES = 7) := Lib.hid (by rw [HRES.out, own_7 hbad]; rfl)
    by_cases h0 : qk < 0
    · have t0 : decide (qk < 0) = true := by simpa using h0
      clear hbad h0
      go_enter Tryz.func52, Tryz.ntmps52
      go_upto_region 1 with (fail)
      rw [HW1.out]
      go_wp2_with (fail)
      go_ret
      exact ⟨by rw [HR.out]; rfl, HB.out⟩
    · have t0 : decide (qk < 0) = false := by simpa using h0
      have t1 : decide (6 < qk) = true := by simp; omega
      clear hbad h0
      go_enter Tryz.func52, Tryz.ntmps52
      go_upto_region 1 with (fail)
      rw [HW1.out]
      go_wp2_with (fail)
      go_ret
      exact ⟨by rw [HR.out]; rfl, HB.out⟩
  have t0 : decide (qk < 0) = false := by simp; omega
  have t1 : decide (6 < qk) = false := by simp; omega
  by_cases h3 : qk = 3
  · subst h3
    have HL := Lib.hid (fun W => k_literal (w := W) qt HF.out.1)
    cases hb : literal (raw qt) with
    | false =>
      rw [hb] at HL
      have HR : Hid (RES = 10) := Lib.hid (by rw [HRES.out, own_3, hb]; rfl)
      clear hb hbad
      go_enter Tryz.func52, Tryz.ntmps52
      go_upto_region 1 with (fail)
      rw [HW1.out]
      go_wp2_with (fail)
      refine (HL.out _).mono ?_
      rintro e w2 ⟨rfl, hb2⟩
      have HB2 : Hid (Below w.heap.size w w2) := Lib.hid (HB.out.trans (hb2.mono HB.out.size))
      clear hb2
      go_wp2_with (fail)
      go_ret
      exact ⟨by rw [HR.out]; rfl, HB2.out⟩
    | true =>
      rw [hb] at HL
      have HR : Hid (RES = 0) := Lib.hid (by rw [HRES.out, own_3, hb]; rfl)
      clear hb hbad
      go_enter Tryz.func52, Tryz.ntmps52
      go_upto_region 1 with (fail)
      rw [HW1.out]
      go_wp2_with (fail)
      refine (HL.out _).mono ?_
      rintro e w2 ⟨rfl, hb2⟩
      have HB2 : Hid (Below w.heap.size w w2) := Lib.hid (HB.out.trans (hb2.mono HB.out.size))
      clear b0 b1 b2 b3
      obtain ⟨b0, b1, b2, b3⟩ := HC.out w2 hb2
      clear hb2
      go_wp2_with (fail)
      go_ret
      exact ⟨by rw [HR.out]; rfl, HB2.out⟩
  have t3 : (qk == 3) = false := by simpa using h3
  by_cases h4 : qk = 4
  · subst h4
    have HL := Lib.hid (fun W => k_valid (w := W) qt HF.out.1)
    cases hb : valid (raw qt) with
    | false =>
      rw [hb] at HL
      have HR : Hid (RES = 10) := Lib.hid (by rw [HRES.out, own_4, hb]; rfl)
      clear hb hbad
      go_enter Tryz.func52, Tryz.ntmps52
      go_upto_region 1 with (fail)
      rw [HW1.out]
      go_wp2_with (fail)
      refine (HL.out _).mono ?_
      rintro e w2 ⟨rfl, hb2⟩
      have HB2 : Hid (Below w.heap.size w w2) := Lib.hid (HB.out.trans (hb2.mono HB.out.size))
      clear hb2
      go_wp2_with (fail)
      go_ret
      exact ⟨by rw [HR.out]; rfl, HB2.out⟩
    | true =>
      rw [hb] at HL
      have HR : Hid (RES = 0) := Lib.hid (by rw [HRES.out, own_4, hb]; rfl)
      clear hb hbad
      go_enter Tryz.func52, Tryz.ntmps52
      go_upto_region 1 with (fail)
      rw [HW1.out]
      go_wp2_with (fail)
      refine (HL.out _).mono ?_
      rintro e w2 ⟨rfl, hb2⟩
      have HB2 : Hid (Below w.heap.size w w2) := Lib.hid (HB.out.trans (hb2.mono HB.out.size))
      clear b0 b1 b2 b3
      obtain ⟨b0, b1, b2, b3⟩ := HC.out w2 hb2
      clear hb2
      go_wp2_with (fail)
      go_ret
      exact ⟨by rw [HR.out]; rfl, HB2.out⟩
  have t4 : (qk == 4) = false := by simpa using h4
  by_cases h5 : qk < 5
  · have t5 : decide (qk < 5) = true := by simpa using h5
    have t6 : (qk == 6) = false := by simp; omega
    have HR : Hid (RES = 0) := Lib.hid (by rw [HRES.out, own_low (by omega) h5 h3 h4, if_neg (by simp), if_pos h5])
    clear hbad h3 h4 h5
    go_enter Tryz.func52, Tryz.ntmps52
    go_upto_region 1 with (fail)
    rw [HW1.out]
    go_wp2_with (fail)
    go_ret
    exact ⟨by rw [HR.out]; rfl, HB.out⟩
  have t5 : decide (qk < 5) = false := by simpa using h5
  by_cases h6 : qk = 6
  · subst h6
    by_cases hlen : ns.length = l.length
    · have HC6 : Hid (chkOwn d 6 qt l.length ns = if (ns.all fun s => valid (raw s)) = false then 10 else if 32 ≤ d then 20 else if 1000 < l.length then 9 else if distinct (ns.map raw) = false then 12 else 0) := Lib.hid (by rw [own_6, if_neg (show ¬ ns.length ≠ l.length from fun h => h hlen)])
      have t7 : ((ns.length : Int) != (l.length : Int)) = false := by simp; omega
      have t8 : (ns.length != l.length) = false := by simpa using hlen
      have t9 : (ns.length : Int) = (l.length : Int) := by omega
      have HLL := Lib.hid hlen
      have HW0 := Lib.hid (Below.refl w1.heap.size w1)
      clear hbad h3 h4 h5 hlen t9
      go_enter Tryz.func52, Tryz.ntmps52
      go_upto_region 1 with (fail)
      rw [HW1.out]
      go_wp2_with (fail)
      clear b0 b1 b2 b3
      go_loopw [5, 6] (fun iv _ wr => ∃ i : Nat, iv = .int .i64 (i : Int) ∧ i ≤ ns.length ∧ Hid (Below w1.heap.size w1 wr) ∧ Hid (∀ (j : Nat) (x : ByteArray), j < i → ns[j]? = some x → valid (raw x) = true)) (fun iv _ _ => ns.length - (intOf iv).toNat)
      case atStart => exact ⟨0, rfl, Nat.zero_le _, HW0, Lib.hid fun j x h => by omega⟩
      case round =>
        obtain ⟨i, rfl, hi, HBW, HA⟩ := hrel
        obtain ⟨b0, b1, b2, b3⟩ := HC.out _ HBW.out
        by_cases hlt : i < ns.length
        · have q1 : (0 : Int) ≤ (i : Int) := by omega
          have q2 : (i : Int) < (ns.length : Int) := by omega
          obtain ⟨x, hx⟩ : ∃ x, ns[i]? = some x := ⟨_, List.getElem?_eq_getElem hlt⟩
          have hbw := HB.out.trans (HBW.out.mono HB.out.size)
          obtain ⟨ng, noff, rfl, hc⟩ := text_cell (HRD.out.1.below hbw) hx
          have HV := Lib.hid (k_valid (w := wr) x (HF.out.2.2.1 x (List.mem_of_getElem? hx)))
          have HX := Lib.hid hx
          have HLT := Lib.hid hlt
          have HBW2 := Lib.hid hbw
          obtain ⟨vb, hvb⟩ : ∃ vb, vb = valid (raw x) := ⟨_, rfl⟩
          rw [← hvb] at HV
          have HVB := Lib.hid hvb
          clear hx hbw hlt hvb
          go_wp2_with (fail)
          refine HV.out.mono ?_
          rintro e w4 ⟨rfl, hb4⟩
          have HB4 : Hid (Below w1.heap.size w1 w4) := Lib.hid (HBW.out.trans (hb4.mono HBW.out.size))
          have HB5 : Hid (Below w.heap.size w w4) := Lib.hid (HBW2.out.trans (hb4.mono HBW2.out.size))
          clear hb4
          cases vb with
          | true =>
            have HA2 : Hid (∀ (j : Nat) (y : ByteArray), j < i + 1 → ns[j]? = some y → valid (raw y) = true) := Lib.hid fun j y hj hy => by
              by_cases hji : j = i
              · subst hji; rw [HX.out] at hy; cases hy; exact HVB.out.symm
              · exact HA.out j y (by omega) hy
            go_wp2_with (fail)
            go_roundw
            case rel => exact ⟨i + 1, by go_num, HLT.out, HB4, HA2⟩
            case measure => have := HLT.out; simp [intOf]; omega
          | false =>
            have HR : Hid (RES = 10) := Lib.hid (by
              rw [HRES.out, HC6.out]
              have : (ns.all fun s => valid (raw s)) = false := by
                cases h : (ns.all fun s => valid (raw s)) with
                | false => rfl
                | true => have h2 := List.all_eq_true.1 h x (List.mem_of_getElem? HX.out); rw [← HVB.out] at h2; cases h2
              rw [if_pos this]; rfl)
            go_wp2_with (fail)
            go_ret
            exact ⟨by rw [HR.out]; rfl, HB5.out⟩
        · have q2 : ¬ (i : Int) < (ns.length : Int) := by omega
          have hall : (ns.all fun s => valid (raw s)) = true := List.all_eq_true.2 fun x hx => by
            obtain ⟨j, hj⟩ := List.getElem?_of_mem hx
            exact HA.out j x (by have := (List.getElem?_eq_some_iff.1 hj).1; omega) hj
          have HR1 : Hid (chkOwn d 6 qt l.length ns = if 32 ≤ d then 20 else if 1000 < l.length then 9 else if distinct (ns.map raw) = false then 12 else 0) := Lib.hid (by rw [HC6.out, hall]; rfl)
          have HB5 : Hid (Below w.heap.size w wr) := Lib.hid (HB.out.trans (HBW.out.mono HB.out.size))
          clear hlt hall
          by_cases hd32 : 32 ≤ d
          · have s1 : (32 : Int) ≤ (d : Int) := by omega
            have HR : Hid (RES = 20) := Lib.hid (by rw [HRES.out, HR1.out, if_pos hd32]; rfl)
            clear hd32
            go_wp2_with (fail)
            go_ret
            exact ⟨by rw [HR.out]; rfl, HB5.out⟩
          have s1 : ¬ (32 : Int) ≤ (d : Int) := by omega
          have HDD := Lib.hid hd32
          by_cases hl1 : 1000 < l.length
          · have s2 : (1000 : Int) < (l.length : Int) := by omega
            have HR : Hid (RES = 9) := Lib.hid (by rw [HRES.out, HR1.out, if_neg hd32, if_pos hl1]; rfl)
            clear hd32 hl1
            go_wp2_with (fail)
            go_ret
            exact ⟨by rw [HR.out]; rfl, HB5.out⟩
          have s2 : ¬ (1000 : Int) < (l.length : Int) := by omega
          have HR2 : Hid (chkOwn d 6 qt l.length ns = if distinct (ns.map raw) = false then 12 else 0) := Lib.hid (by rw [HR1.out, if_neg hd32, if_neg hl1])
          clear hd32 hl1
          go_wp2_with (fail)
          clear b0 b1 b2 b3
          go_loopw [7] (fun iv wz => ∃ i : Nat, iv = .int .i64 (i : Int) ∧ i ≤ ns.length ∧ Hid (Below w1.heap.size w1 wz) ∧ Hid (∀ (j : Nat) (x : ByteArray), j < i → ns[j]? = some x → x ∉ ns.take j)) (fun iv _ => ns.length - (intOf iv).toNat)
          case atStart => exact ⟨0, rfl, Nat.zero_le _, HBW, Lib.hid fun j x h => by omega⟩
          case round =>
            obtain ⟨i, rfl, hi, HBW, HA⟩ := hrel
            obtain ⟨b0, b1, b2, b3⟩ := HC.out _ HBW.out
            by_cases hlt : i < ns.length
            · have q1 : (0 : Int) ≤ (i : Int) := by omega
              have q2 : (i : Int) < (ns.length : Int) := by omega
              have q3 : (i : Int) ≤ (nc : Int) := by omega
              obtain ⟨x, hx⟩ : ∃ x, ns[i]? = some x := ⟨_, List.getElem?_eq_getElem hlt⟩
              obtain ⟨ng, noff, rfl, -⟩ := text_cell HRD.out.1 hx
              have HX := Lib.hid hx
              have HLT := Lib.hid hlt
              clear hx hlt
              go_upto_region 20 with (fail)
              refine wp_region_still_tail 9 (by kernel_rfl) (by kernel_rfl) ?_
              obtain ⟨wd, hwd⟩ : ∃ wd, wd = wr.drew := ⟨_, rfl⟩
              rw [show ({ heap := wr.heap, tape := wr.tape, drawn := wr.drawn + 1, os := wr.os, output := wr.output } : World) = wd from hwd.symm]
              have hbd : Below wr.heap.size wr wd := by rw [hwd]; exact (Below.refl _ _).drew
              have HBD : Hid (Below w1.heap.size w1 wd) := Lib.hid (HBW.out.trans (hbd.mono HBW.out.size))
              have HBD2 : Hid (Below w.heap.size w wd) := Lib.hid (HB.out.trans (HBD.out.mono HB.out.size))
              clear b0 b1 b2 b3 hwd hbd
              obtain ⟨b0, b1, b2, b3⟩ := HC.out wd HBD.out
              obtain ⟨ng', noff', e1, hc⟩ := text_cell (HRD.out.1.below HBD2.out) HX.out
              obtain ⟨rfl, rfl⟩ : ng = ng' ∧ noff = noff' := by simpa using e1
              have HH := Lib.hid (k_has (w := wd) (a := some ⟨ng, noff, none⟩) (cap := nc) (l := ns.take i) x (by
                obtain ⟨a', c', e, hrr⟩ := HRD.out.1.below HBD2.out
                injection e with ea _ ec
                subst ea ec
                exact ⟨_, nc, rfl, fun j y hy => hrr j y (by rw [List.getElem?_take] at hy; split at hy <;> simp_all)⟩) (by rw [List.length_take]; have := HF.out.2.1; omega))
              rw [show (ns.take i).length = i by rw [List.length_take]; have := HLT.out; omega] at HH
              obtain ⟨hv, hhv⟩ : ∃ hv, hv = hasB (ns.take i) x := ⟨_, rfl⟩
              rw [← hhv] at HH
              have HHV := Lib.hid hhv
              clear hhv e1
              simp only [List.take_succ_cons, List.take_zero, List.drop_succ_cons, List.drop_zero]
              repeat still_step
              refine wpStill_nil ?_
              go_wp2_with (fail)
              refine HH.out.mono ?_
              rintro e w4 ⟨rfl, rfl⟩
              cases hv with
              | true =>
                have HR : Hid (RES = 12) := Lib.hid (by rw [HRES.out, HR2.out, dist_not HX.out (hasB_iff.1 HHV.out.symm)]; rfl)
                go_wp2_with (fail)
                go_ret
                exact ⟨by rw [HR.out]; rfl, HBD2.out⟩
              | false =>
                have HA2 : Hid (∀ (j : Nat) (y : ByteArray), j < i + 1 → ns[j]? = some y → y ∉ ns.take j) := Lib.hid fun j y hj hy => by
                  by_cases hji : j = i
                  · subst hji; rw [HX.out] at hy; cases hy; intro hm
                    have := hasB_iff.2 hm
                    rw [← HHV.out] at this; cases this
                  · exact HA.out j y (by omega) hy
                go_wp2_with (fail)
                go_roundw
                case rel => exact ⟨i + 1, by go_num, HLT.out, HBD, HA2⟩
                case measure => have := HLT.out; simp [intOf]; omega
            · have q2 : ¬ (i : Int) < (ns.length : Int) := by omega
              have HRA : Hid (RES = chkAll (d + 1) l) := Lib.hid (by
                have hdd : distinct (ns.map raw) = true := dist_all fun j x hx => HA.out j x (by have := (List.getElem?_eq_some_iff.1 hx).1; omega) hx
                rw [HRES.out, HR2.out, hdd]; rfl)
              have HW3 := HBW
              clear hlt
              go_wp2_with (fail)
              clear b0 b1 b2 b3 q2 HA
              go_loopw [8, 9] (fun iv _ wr => ∃ i : Nat, iv = .int .i64 (i : Int) ∧ i ≤ l.length ∧ Hid (Below w1.heap.size w1 wr) ∧ Hid (chkAll (d + 1) (l.take i) = 0)) (fun iv _ _ => l.length - (intOf iv).toNat)
              case atStart => exact ⟨0, rfl, Nat.zero_le _, HW3, Lib.hid rfl⟩
              case round =>
                obtain ⟨i, rfl, hi, HBW, HA⟩ := hrel
                obtain ⟨b0, b1, b2, b3⟩ := HC.out _ HBW.out
                by_cases hlt : i < l.length
                · have q1 : (0 : Int) ≤ (i : Int) := by omega
                  have q2 : (i : Int) < (l.length : Int) := by omega
                  obtain ⟨x, hx⟩ : ∃ x, l[i]? = some x := ⟨_, List.getElem?_eq_getElem hlt⟩
                  obtain ⟨r, hr, hjr⟩ := HRD.out.2.2.get hx
                  have hbw := HB.out.trans (HBW.out.mono HB.out.size)
                  obtain ⟨lg, loff, rfl, r0, r1, r2, r3⟩ := raw_cells (HRD.out.2.1.below hbw) hr
                  have HCK := Lib.hid (HIH.out x (List.mem_of_getElem? hx) (d + 1) r wr A (FitAll.mem HF.out.2.2.2.2 x (List.mem_of_getElem? hx)) (hjr.below hbw) (by have := HDD.out; omega))
                  rw [show (((d + 1 : Nat)) : Int) = (d : Int) + 1 by omega] at HCK
                  have HX := Lib.hid hx
                  have HLT := Lib.hid hlt
                  have HBW2 := Lib.hid hbw
                  clear hx hr hjr hbw hlt
                  go_wp2_with (fail)
                  refine HCK.out.mono ?_
                  rintro e w4 ⟨rfl, hb4⟩
                  have HB4 : Hid (Below w1.heap.size w1 w4) := Lib.hid (HBW.out.trans (hb4.mono HBW.out.size))
                  have HB5 : Hid (Below w.heap.size w w4) := Lib.hid (HBW2.out.trans (hb4.mono HBW2.out.size))
                  clear hb4
                  by_cases hz : chk (d + 1) x = 0
                  · have HA2 : Hid (chkAll (d + 1) (l.take (i + 1)) = 0) := Lib.hid (by rw [List.take_add_one, HX.out]; exact chkAll_snoc _ _ HA.out hz)
                    rw [hz]
                    clear hz
                    go_wp2_with (fail)
                    go_roundw
                    case rel => exact ⟨i + 1, by go_num, HLT.out, HB4, HA2⟩
                    case measure => have := HLT.out; simp [intOf]; omega
                  · have HR : Hid (RES = chk (d + 1) x) := Lib.hid (by rw [HRA.out]; exact chkAll_front l i x HA.out HX.out hz)
                    obtain ⟨C, hC⟩ : ∃ C, C = chk (d + 1) x := ⟨_, rfl⟩
                    rw [← hC] at hz HR ⊢
                    have z1 : (C != 0) = true := by simpa using hz
                    have z2 : ((C : Int) != 0) = true := by simp; omega
                    have z3 : ¬ (C : Int) = 0 := by omega
                    clear hC
                    go_wp2_with (fail)
                    go_ret
                    exact ⟨by rw [HR.out]; rfl, HB5.out⟩
                · have q2 : ¬ (i : Int) < (l.length : Int) := by omega
                  have HR : Hid (RES = 0) := Lib.hid (by
                    have := HA.out
                    rw [List.take_of_length_le (by omega)] at this
                    rw [HRA.out, this])
                  have HB5 : Hid (Below w.heap.size w wr) := Lib.hid (HB.out.trans (HBW.out.mono HB.out.size))
                  clear hlt
                  go_wp2_with (fail)
                  go_ret
                  exact ⟨by rw [HR.out]; rfl, HB5.out⟩
    · have HR : Hid (RES = 10) := Lib.hid (by
        rw [HRES.out, own_6]
        by_cases hv : (ns.all fun s => valid (raw s)) = false
        · rw [if_pos hv]; rfl
        · rw [if_neg hv, if_pos hlen]; rfl)
      have t7 : ((ns.length : Int) != (l.length : Int)) = true := by simp; omega
      have t8 : (ns.length != l.length) = true := by simpa using hlen
      have t9 : ¬ (ns.length : Int) = (l.length : Int) := by omega
      clear hbad h3 h4 h5 hlen
      go_enter Tryz.func52, Tryz.ntmps52
      go_upto_region 1 with (fail)
      rw [HW1.out]
      go_wp2_with (fail)
      go_ret
      exact ⟨by rw [HR.out]; rfl, HB.out⟩
  · have h55 : qk = 5 := by omega
    subst h55
    have HC5 : Hid (chkOwn d 5 qt l.length ns = if 32 ≤ d then 20 else if 1000 < l.length then 9 else 0) := Lib.hid own_5
    clear hbad h3 h4 h5
    go_enter Tryz.func52, Tryz.ntmps52
    go_upto_region 1 with (fail)
    rw [HW1.out]
    go_wp2_with (fail)
    go_loopw [5] (fun iv wr => iv = .int .i64 0 ∧ Hid (Below w1.heap.size w1 wr)) (fun _ _ => 0)
    case atStart => exact ⟨rfl, Lib.hid (Below.refl _ _)⟩
    case round =>
      obtain ⟨rfl, HBW⟩ := hrel
      clear b0 b1 b2 b3
      obtain ⟨b0, b1, b2, b3⟩ := HC.out _ HBW.out
      have HB5 : Hid (Below w.heap.size w wr) := Lib.hid (HB.out.trans (HBW.out.mono HB.out.size))
      by_cases hd32 : 32 ≤ d
      · have s1 : (32 : Int) ≤ (d : Int) := by omega
        have HR : Hid (RES = 20) := Lib.hid (by rw [HRES.out, HC5.out, if_pos hd32]; rfl)
        clear hd32
        by_cases hn0 : (0 : Int) < (ns.length : Int)
        · go_wp2_with (fail)
          go_ret
          exact ⟨by rw [HR.out]; rfl, HB5.out⟩
        · go_wp2_with (fail)
          go_ret
          exact ⟨by rw [HR.out]; rfl, HB5.out⟩
      · have s1 : ¬ (32 : Int) ≤ (d : Int) := by omega
        have HDD := Lib.hid hd32
        by_cases hl1 : 1000 < l.length
        · have s2 : (1000 : Int) < (l.length : Int) := by omega
          have HR : Hid (RES = 9) := Lib.hid (by rw [HRES.out, HC5.out, if_neg hd32, if_pos hl1]; rfl)
          clear hd32 hl1
          by_cases hn0 : (0 : Int) < (ns.length : Int)
          · go_wp2_with (fail)
            go_ret
            exact ⟨by rw [HR.out]; rfl, HB5.out⟩
          · go_wp2_with (fail)
            go_ret
            exact ⟨by rw [HR.out]; rfl, HB5.out⟩
        · have s2 : ¬ (1000 : Int) < (l.length : Int) := by omega
          have HRA : Hid (RES = chkAll (d + 1) l) := Lib.hid (by rw [HRES.out, HC5.out, if_neg hd32, if_neg hl1]; rfl)
          clear hd32 hl1
          by_cases hn0 : (0 : Int) < (ns.length : Int)
          · go_wp2_with (fail)
            go_loopw [7] (fun iv wz => iv = .int .i64 0 ∧ Hid (Below w1.heap.size w1 wz)) (fun _ _ => 0)
            case atStart => exact ⟨rfl, HBW⟩
            case round =>
              obtain ⟨rfl, HW3⟩ := hrel
              clear b0 b1 b2 b3
              obtain ⟨b0, b1, b2, b3⟩ := HC.out _ HW3.out
              go_wp2_with (fail)
              clear b0 b1 b2 b3
              go_loopw [8, 9] (fun iv _ wr => ∃ i : Nat, iv = .int .i64 (i : Int) ∧ i ≤ l.length ∧ Hid (Below w1.heap.size w1 wr) ∧ Hid (chkAll (d + 1) (l.take i) = 0)) (fun iv _ _ => l.length - (intOf iv).toNat)
              case atStart => exact ⟨0, rfl, Nat.zero_le _, HW3, Lib.hid rfl⟩
              case round =>
                obtain ⟨i, rfl, hi, HBW, HA⟩ := hrel
                obtain ⟨b0, b1, b2, b3⟩ := HC.out _ HBW.out
                by_cases hlt : i < l.length
                · have q1 : (0 : Int) ≤ (i : Int) := by omega
                  have q2 : (i : Int) < (l.length : Int) := by omega
                  obtain ⟨x, hx⟩ : ∃ x, l[i]? = some x := ⟨_, List.getElem?_eq_getElem hlt⟩
                  obtain ⟨r, hr, hjr⟩ := HRD.out.2.2.get hx
                  have hbw := HB.out.trans (HBW.out.mono HB.out.size)
                  obtain ⟨lg, loff, rfl, r0, r1, r2, r3⟩ := raw_cells (HRD.out.2.1.below hbw) hr
                  have HCK := Lib.hid (HIH.out x (List.mem_of_getElem? hx) (d + 1) r wr A (FitAll.mem HF.out.2.2.2.2 x (List.mem_of_getElem? hx)) (hjr.below hbw) (by have := HDD.out; omega))
                  rw [show (((d + 1 : Nat)) : Int) = (d : Int) + 1 by omega] at HCK
                  have HX := Lib.hid hx
                  have HLT := Lib.hid hlt
                  have HBW2 := Lib.hid hbw
                  clear hx hr hjr hbw hlt
                  go_wp2_with (fail)
                  refine HCK.out.mono ?_
                  rintro e w4 ⟨rfl, hb4⟩
                  have HB4 : Hid (Below w1.heap.size w1 w4) := Lib.hid (HBW.out.trans (hb4.mono HBW.out.size))
                  have HB5 : Hid (Below w.heap.size w w4) := Lib.hid (HBW2.out.trans (hb4.mono HBW2.out.size))
                  clear hb4
                  by_cases hz : chk (d + 1) x = 0
                  · have HA2 : Hid (chkAll (d + 1) (l.take (i + 1)) = 0) := Lib.hid (by rw [List.take_add_one, HX.out]; exact chkAll_snoc _ _ HA.out hz)
                    rw [hz]
                    clear hz
                    go_wp2_with (fail)
                    go_roundw
                    case rel => exact ⟨i + 1, by go_num, HLT.out, HB4, HA2⟩
                    case measure => have := HLT.out; simp [intOf]; omega
                  · have HR : Hid (RES = chk (d + 1) x) := Lib.hid (by rw [HRA.out]; exact chkAll_front l i x HA.out HX.out hz)
                    obtain ⟨C, hC⟩ : ∃ C, C = chk (d + 1) x := ⟨_, rfl⟩
                    rw [← hC] at hz HR ⊢
                    have z1 : (C != 0) = true := by simpa using hz
                    have z2 : ((C : Int) != 0) = true := by simp; omega
                    have z3 : ¬ (C : Int) = 0 := by omega
                    clear hC
                    go_wp2_with (fail)
                    go_ret
                    exact ⟨by rw [HR.out]; rfl, HB5.out⟩
                · have q2 : ¬ (i : Int) < (l.length : Int) := by omega
                  have HR : Hid (RES = 0) := Lib.hid (by
                    have := HA.out
                    rw [List.take_of_length_le (by omega)] at this
                    rw [HRA.out, this])
                  have HB5 : Hid (Below w.heap.size w wr) := Lib.hid (HB.out.trans (HBW.out.mono HB.out.size))
                  clear hlt
                  go_wp2_with (fail)
                  go_ret
                  exact ⟨by rw [HR.out]; rfl, HB5.out⟩
          · go_wp2_with (fail)
            go_loopw [7] (fun iv wz => iv = .int .i64 0 ∧ Hid (Below w1.heap.size w1 wz)) (fun _ _ => 0)
            case atStart => exact ⟨rfl, HBW⟩
            case round =>
              obtain ⟨rfl, HW3⟩ := hrel
              clear b0 b1 b2 b3
              obtain ⟨b0, b1, b2, b3⟩ := HC.out _ HW3.out
              go_wp2_with (fail)
              clear b0 b1 b2 b3
              go_loopw [8, 9] (fun iv _ wr => ∃ i : Nat, iv = .int .i64 (i : Int) ∧ i ≤ l.length ∧ Hid (Below w1.heap.size w1 wr) ∧ Hid (chkAll (d + 1) (l.take i) = 0)) (fun iv _ _ => l.length - (intOf iv).toNat)
              case atStart => exact ⟨0, rfl, Nat.zero_le _, HW3, Lib.hid rfl⟩
              case round =>
                obtain ⟨i, rfl, hi, HBW, HA⟩ := hrel
                obtain ⟨b0, b1, b2, b3⟩ := HC.out _ HBW.out
                by_cases hlt : i < l.length
                · have q1 : (0 : Int) ≤ (i : Int) := by omega
                  have q2 : (i : Int) < (l.length : Int) := by omega
                  obtain ⟨x, hx⟩ : ∃ x, l[i]? = some x := ⟨_, List.getElem?_eq_getElem hlt⟩
                  obtain ⟨r, hr, hjr⟩ := HRD.out.2.2.get hx
                  have hbw := HB.out.trans (HBW.out.mono HB.out.size)
                  obtain ⟨lg, loff, rfl, r0, r1, r2, r3⟩ := raw_cells (HRD.out.2.1.below hbw) hr
                  have HCK := Lib.hid (HIH.out x (List.mem_of_getElem? hx) (d + 1) r wr A (FitAll.mem HF.out.2.2.2.2 x (List.mem_of_getElem? hx)) (hjr.below hbw) (by have := HDD.out; omega))
                  rw [show (((d + 1 : Nat)) : Int) = (d : Int) + 1 by omega] at HCK
                  have HX := Lib.hid hx
                  have HLT := Lib.hid hlt
                  have HBW2 := Lib.hid hbw
                  clear hx hr hjr hbw hlt
                  go_wp2_with (fail)
                  refine HCK.out.mono ?_
                  rintro e w4 ⟨rfl, hb4⟩
                  have HB4 : Hid (Below w1.heap.size w1 w4) := Lib.hid (HBW.out.trans (hb4.mono HBW.out.size))
                  have HB5 : Hid (Below w.heap.size w w4) := Lib.hid (HBW2.out.trans (hb4.mono HBW2.out.size))
                  clear hb4
                  by_cases hz : chk (d + 1) x = 0
                  · have HA2 : Hid (chkAll (d + 1) (l.take (i + 1)) = 0) := Lib.hid (by rw [List.take_add_one, HX.out]; exact chkAll_snoc _ _ HA.out hz)
                    rw [hz]
                    clear hz
                    go_wp2_with (fail)
                    go_roundw
                    case rel => exact ⟨i + 1, by go_num, HLT.out, HB4, HA2⟩
                    case measure => have := HLT.out; simp [intOf]; omega
                  · have HR : Hid (RES = chk (d + 1) x) := Lib.hid (by rw [HRA.out]; exact chkAll_front l i x HA.out HX.out hz)
                    obtain ⟨C, hC⟩ : ∃ C, C = chk (d + 1) x := ⟨_, rfl⟩
                    rw [← hC] at hz HR ⊢
                    have z1 : (C != 0) = true := by simpa using hz
                    have z2 : ((C : Int) != 0) = true := by simp; omega
                    have z3 : ¬ (C : Int) = 0 := by omega
                    clear hC
                    go_wp2_with (fail)
                    go_ret
                    exact ⟨by rw [HR.out]; rfl, HB5.out⟩
                · have q2 : ¬ (i : Int) < (l.length : Int) := by omega
                  have HR : Hid (RES = 0) := Lib.hid (by
                    have := HA.out
                    rw [List.take_of_length_le (by omega)] at this
                    rw [HRA.out, this])
                  have HB5 : Hid (Below w.heap.size w wr) := Lib.hid (HB.out.trans (HBW.out.mono HB.out.size))
                  clear hlt
                  go_wp2_with (fail)
                  go_ret
                  exact ⟨by rw [HR.out]; rfl, HB5.out⟩
theorem k_check (v : JV) : CheckOk v := JV.ind (P := CheckOk) (fun k t l ns ih => k_check1 k t l ns ih) v
end
end Go.Proofs.YthjcolehccbihaaGreatDoor
