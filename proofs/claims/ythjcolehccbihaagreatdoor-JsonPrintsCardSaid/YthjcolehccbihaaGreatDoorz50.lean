/- The walk of exref7.Same: objects. -/
import Derived.Test.YthjcolehccbihaaGreatDoorz49
set_option linter.unusedSectionVars false
set_option linter.unusedSimpArgs false
set_option linter.unusedVariables false
namespace Go.Proofs.YthjcolehccbihaaGreatDoor
open Go.RowKit Go.Shelf
theorem zip_at {α β : Type} {a : List α} {b : List β} {i : Nat} {x : α} {y : β} (h1 : a[i]? = some x) (h2 : b[i]? = some y) : (a.zip b)[i]? = some (x, y) := by
  rw [List.getElem?_zip_eq_some]
  exact ⟨h1, h2⟩
theorem zip_snd2 {α β : Type} {a : List α} {b : List β} {i : Nat} {x : α} {y : β} (h : (a.zip b)[i]? = some (x, y)) : b[i]? = some y := (List.getElem?_zip_eq_some.1 h).2
section
variable {w : World}
set_option maxRecDepth 100000 in
set_option maxHeartbeats 8000000 in
theorem k_sameO (t : ByteArray) (l : List JV) (ns : List ByteArray) (ih : ∀ v ∈ l, KSameOk v) : KSameOk (.mk 6 t l ns) := by
  intro b q r w A B hf hq hr
  obtain ⟨k2, t2, l2, ns2⟩ := b
  simp only [JAt] at hq hr
  obtain ⟨hqk, hqt, ⟨hns1, -, -⟩, rs1, ⟨hrs1, -⟩, hl1⟩ := hq
  obtain ⟨hrk, hrt, ⟨hns2, -, -⟩, rs2, ⟨hrs2, -⟩, hl2⟩ := hr
  simp only [JV.Fit] at hf
  obtain ⟨w1, hw1, B1, B2, hbb, hzz⟩ := kk_boxes w q r
  have e1 : q.ll = l.length := by
    obtain ⟨_, _, e, _⟩ := hrs1
    injection e with _ e _
    rw [e, hl1.length]
  have e3 : q.nl = ns.length := by obtain ⟨_, _, e, _⟩ := hns1; injection e
  have f1 : r.ll = l2.length := by
    obtain ⟨_, _, e, _⟩ := hrs2
    injection e with _ e _
    rw [e, hl2.length]
  have f3 : r.nl = ns2.length := by obtain ⟨_, _, e, _⟩ := hns2; injection e
  obtain ⟨qk, qt, la, ll, lc, na, nl, nc⟩ := q
  obtain ⟨rk, rt, la2, ll2, lc2, na2, nl2, nc2⟩ := r
  simp only at hqk hqt e1 e3 hrk hrt f1 f3
  subst hqk hqt e1 e3 hrk hrt f1 f3
  simp only [RawV.lv, RawV.nv] at hrs1 hrs2 hns1 hns2
  simp only at hw1
  have HW1 := Lib.hid hw1
  have HBB := Lib.hid (And.intro hbb hzz)
  have HBX := Lib.hid (And.intro B1 B2)
  have HRD := Lib.hid (And.intro hns1 (And.intro hrs1 hl1))
  have HRE := Lib.hid (And.intro hns2 (And.intro hrs2 hl2))
  have HF := Lib.hid hf
  have HIH := Lib.hid ih
  have hlm : (l.length : Int) ≤ 1000000 := by have := hf.2.2.2.1; omega
  have hnm : (ns.length : Int) ≤ 1000000 := by have := hf.2.1; omega
  obtain ⟨N, hN⟩ : ∃ N : Nat, N = min ns.length l.length := ⟨_, rfl⟩
  obtain ⟨RES, hres⟩ : ∃ z, z = sameJ (.mk 6 qt l ns) (.mk rk rt l2 ns2) := ⟨_, rfl⟩
  rw [← hres]
  have hcells : ∀ W, Below w1.heap.size w1 W → (W.cell? ⟨w.heap.size, 0, none⟩ = some (.int .i64 6) ∧ W.cell? ⟨w.heap.size, 2, none⟩ = some (.slice la l.length lc) ∧ W.cell? ⟨w.heap.size, 3, none⟩ = some (.slice na ns.length nc)) ∧ W.cell? ⟨w.heap.size + 1, 0, none⟩ = some (.int .i64 rk) ∧ W.cell? ⟨w.heap.size + 1, 2, none⟩ = some (.slice la2 l2.length lc2) ∧ W.cell? ⟨w.heap.size + 1, 3, none⟩ = some (.slice na2 ns2.length nc2) := fun W h => by
    obtain ⟨⟨x0, x1, x2, x3⟩, -⟩ := kbox_cells (kbox_below HBX.out.1 h)
    obtain ⟨⟨y0, y1, y2, y3⟩, -⟩ := kbox_cells (kbox_below HBX.out.2 h)
    exact ⟨⟨x0, x2, x3⟩, y0, y2, y3⟩
  have HC := Lib.hid hcells
  obtain ⟨⟨b0, b2, b3⟩, c0, c2, c3⟩ := hcells w1 (Below.refl _ _)
  by_cases hrk6 : rk = 6
  · subst hrk6
    have HRES : Hid (RES = ((decide (l.length = l2.length) && decide (ns.length = ns2.length)) && sameObj ((ns.zip l).map fun x => (x.1, sameJ x.2)) (ns2.zip l2))) := Lib.hid (by
      rw [hres, sameJ_mk]
      simp only [JV.kind, JV.text, JV.list, JV.names]
      rw [if_neg (by decide), if_neg (by decide), if_neg (by decide), if_pos (by decide)]
      rfl)
    have HN := Lib.hid hN
    clear hw1 hres hf hrs1 hrs2 hl1 hl2 hbb hzz B1 B2 ih hcells hns1 hns2 hN
    by_cases hD : l.length = l2.length ∧ ns.length = ns2.length
    · have HD := Lib.hid hD
      have HCD : Hid (∀ W, Below w1.heap.size w1 W → W.cell? ⟨w.heap.size, 2, none⟩ = some (.slice la l.length lc) ∧ W.cell? ⟨w.heap.size, 3, none⟩ = some (.slice na ns.length nc) ∧ W.cell? ⟨w.heap.size + 1, 2, none⟩ = some (.slice la2 l.length lc2) ∧ W.cell? ⟨w.heap.size + 1, 3, none⟩ = some (.slice na2 ns.length nc2)) := Lib.hid fun W hW => by
        obtain ⟨⟨-, x2, x3⟩, -, y2, y3⟩ := HC.out W hW
        rw [hD.1, hD.2]
        rw [hD.1] at x2
        rw [hD.2] at x3
        exact ⟨x2, x3, y2, y3⟩
      rw [← hD.1] at c2
      rw [← hD.2] at c3
      have HPL : Hid ((ns.zip l).length = N ∧ (ns2.zip l2).length = N) := Lib.hid (by
        rw [List.length_zip, List.length_zip, HN.out, hD.1, hD.2]
        exact ⟨rfl, rfl⟩)
      have HR : Hid (RES = true ↔ ∀ i < N, MemberIn (ns.zip l) (ns2.zip l2) i) := Lib.hid (by
        rw [HRES.out, decide_eq_true hD.1, decide_eq_true hD.2, Bool.and_self, Bool.true_and, sameObj_rank (by rw [HPL.out.1, HPL.out.2]), HPL.out.1])
      have hNm : (N : Int) ≤ 1000000 := by have := HN.out; omega
      clear hD HRES
      go_enter Tryz.func30, Tryz.ntmps30
      go_upto_region 1 with (fail)
      rw [HW1.out]
      go_upto_region 18 with (fail)
      have hmin : min (ns.length : Int) (l.length : Int) = (N : Int) := by rw [HN.out]; omega
      have tm : (min (ns.length : Int) (l.length : Int) != min (ns.length : Int) (l.length : Int)) = false := by simp
      go_upto_region 20 with (fail)
      rw [hmin]
      clear hmin tm b0 b2 b3 c0 c2 c3
      go_wp2_with (fail)
      go_loopw [8] (fun iv wr => ∃ i : Nat, i ≤ N ∧ iv = .int .i64 (i : Int) ∧ Hid (∀ m < i, MemberIn (ns.zip l) (ns2.zip l2) m) ∧ Hid (Below w1.heap.size w1 wr)) (fun iv _ => N - (intOf iv).toNat)
      case atStart => exact ⟨0, Nat.zero_le _, rfl, Lib.hid (fun m h => absurd h (Nat.not_lt_zero _)), Lib.hid (Below.refl _ _)⟩
      case round =>
        obtain ⟨i, hi, rfl, HA, HBW⟩ := hrel
        by_cases hlt : i < N
        · have q1 : (0 : Int) ≤ (i : Int) := by omega
          have q2 : (i : Int) < (N : Int) := by omega
          have q3 : (i : Int) < (ns.length : Int) := by have := HN.out; omega
          have q4 : (i : Int) < (l.length : Int) := by have := HN.out; omega
          obtain ⟨s, hs⟩ : ∃ s, ns[i]? = some s := ⟨_, List.getElem?_eq_getElem (by omega)⟩
          obtain ⟨x, hx⟩ : ∃ x, l[i]? = some x := ⟨_, List.getElem?_eq_getElem (by omega)⟩
          have HXX : Hid ((ns.zip l)[i]? = some (s, x) ∧ l[i]? = some x) := Lib.hid ⟨zip_at hs hx, hx⟩
          have HS0 := Lib.hid hs
          have HI := Lib.hid hlt
          obtain ⟨ng, noff, e1, -⟩ := text_cell HRD.out.1 hs
          obtain ⟨s2, hs2⟩ : ∃ s2, ns2[i]? = some s2 := ⟨_, List.getElem?_eq_getElem (by have := HPL.out.2; rw [List.length_zip] at this; omega)⟩
          obtain ⟨mg0, moff0, e2, -⟩ := text_cell HRE.out.1 hs2
          subst e1 e2
          have HNM : Hid (∀ W, Below w1.heap.size w1 W → ∀ j y, ns[j]? = some y → W.cell? ⟨ng, noff + j, none⟩ = some (.string y)) := Lib.hid fun W hW j y hy => by
            obtain ⟨g', o', e, hc⟩ := text_cell (HRD.out.1.below (HBB.out.1.trans (hW.mono HBB.out.1.size))) hy
            obtain ⟨rfl, rfl⟩ : ng = g' ∧ noff = o' := by simpa using e
            exact hc
          have HNM2 : Hid (∀ W, Below w1.heap.size w1 W → ∀ j y, ns2[j]? = some y → W.cell? ⟨mg0, moff0 + j, none⟩ = some (.string y)) := Lib.hid fun W hW j y hy => by
            obtain ⟨g', o', e, hc⟩ := text_cell (HRE.out.1.below (HBB.out.1.trans (hW.mono HBB.out.1.size))) hy
            obtain ⟨rfl, rfl⟩ : mg0 = g' ∧ moff0 = o' := by simpa using e
            exact hc
          clear hs hx hs2 hlt hi
          go_wp2_with (fail)
          go_loopw [9, 10] (fun kv jv wu => ∃ j K : Nat, j ≤ i ∧ K ≤ j ∧ jv = .int .i64 (j : Int) ∧ kv = .int .i64 (K : Int) ∧ Hid (K = rank (ns.zip l) j s) ∧ Hid (Below w1.heap.size w1 wu)) (fun _ jv _ => i - (intOf jv).toNat)
          case atStart => exact ⟨0, 0, Nat.zero_le _, Nat.le_refl _, rfl, rfl, Lib.hid (rank_zero _ _).symm, HBW⟩
          case round =>
            rename World => wu
            obtain ⟨j, K, hj, hKj, rfl, rfl, HK, HBU⟩ := hrel
            obtain ⟨b2, b3, c2, c3⟩ := HCD.out _ HBU.out
            by_cases hji : j < i
            · have j1 : (0 : Int) ≤ (j : Int) := by omega
              have j2 : (j : Int) < (i : Int) := by omega
              have j3 : (j : Int) < (ns.length : Int) := by omega
              have hKm : (K : Int) ≤ 1000000 := by omega
              obtain ⟨y, hy⟩ : ∃ y, ns[j]? = some y := ⟨_, List.getElem?_eq_getElem (by omega)⟩
              obtain ⟨z, hz⟩ : ∃ z, l[j]? = some z := ⟨_, List.getElem?_eq_getElem (by have := HN.out; have := HI.out; omega)⟩
              have hrk := rank_succ (zip_at hy hz) s
              have n1 := HNM.out _ HBU.out j y hy
              have n2 := HNM.out _ HBU.out i s HS0.out
              have HJI := Lib.hid (And.intro hji hKj)
              clear hy hz hji hj
              by_cases hsy : s = y
              · subst hsy
                rw [if_pos rfl] at hrk
                have HK2 : Hid (K + 1 = rank (ns.zip l) (j + 1) s) := Lib.hid (by rw [hrk, HK.out])
                clear hrk
                go_wp2_with (fail)
                go_quiet (fail)
                go_wp2_with (fail)
                go_roundw
                case rel => exact ⟨j + 1, K + 1, HJI.out.1, by have := HJI.out.2; omega, by go_num, by go_num, HK2, Lib.hid (HBU.out.trans ((below_drewN _ _ _).mono HBU.out.size))⟩
                case measure => have := HJI.out.1; simp [intOf]; omega
              · have hts : (y.toList == s.toList) = false := beq_eq_false_iff_ne.2 (fun e => hsy (str_inj e).symm)
                rw [if_neg (fun e => hsy e.symm)] at hrk
                have HK2 : Hid (K = rank (ns.zip l) (j + 1) s) := Lib.hid (by rw [hrk]; exact HK.out)
                clear hrk hsy
                go_wp2_with (fail)
                go_quiet (fail)
                go_wp2_with (fail)
                go_roundw
                case rel => exact ⟨j + 1, K, HJI.out.1, by have := HJI.out.2; omega, by go_num, rfl, HK2, Lib.hid (HBU.out.trans ((below_drewN _ _ _).mono HBU.out.size))⟩
                case measure => have := HJI.out.1; simp [intOf]; omega
            · have j2 : ¬ (j : Int) < (i : Int) := by omega
              obtain rfl : i = j := by omega
              have hK1 : (K : Int) ≤ 1000000 := by omega
              clear hji hj b2 b3 c2 c3
              go_wp2_with (fail)
              go_loopw [9, 11, 12] (fun kv av jv wt => ∃ j : Nat, j ≤ N ∧ jv = .int .i64 (j : Int) ∧ Hid (Below w1.heap.size w1 wt) ∧ ((∃ K2 : Nat, (K2 : Int) ≤ 1000000 ∧ av = .int .i64 (-1) ∧ kv = .int .i64 (K2 : Int) ∧ Hid (K2 + rank (ns2.zip l2) j s = K)) ∨ (∃ j0 : Nat, j0 < N ∧ av = .int .i64 (j0 : Int) ∧ kv = .int .i64 (-1) ∧ Hid (∃ z, (ns2.zip l2)[j0]? = some (s, z) ∧ rank (ns2.zip l2) j0 s = K)))) (fun _ _ jv _ => N - (intOf jv).toNat)
              case atStart => exact ⟨0, Nat.zero_le _, rfl, HBU, .inl ⟨K, hK1, rfl, rfl, Lib.hid (by rw [rank_zero]; rfl)⟩⟩
              case round =>
                rename World => wt
                obtain ⟨j, hj, rfl, HBV, hcase⟩ := hrel
                rcases hcase with ⟨K2, hK2, rfl, rfl, HKR⟩ | ⟨j0, hj0, rfl, rfl, HQ⟩
                · by_cases hjN : j < N
                  · have j1 : (0 : Int) ≤ (j : Int) := by omega
                    have j2 : (j : Int) < (N : Int) := by omega
                    have j3 : (j : Int) < (ns.length : Int) := by have := HN.out; omega
                    obtain ⟨b2, b3, c2, c3⟩ := HCD.out _ HBV.out
                    obtain ⟨y, hy⟩ : ∃ y, ns2[j]? = some y := ⟨_, List.getElem?_eq_getElem (by have := HPL.out.2; rw [List.length_zip] at this; omega)⟩
                    obtain ⟨z, hz⟩ : ∃ z, l2[j]? = some z := ⟨_, List.getElem?_eq_getElem (by have := HPL.out.2; rw [List.length_zip] at this; omega)⟩
                    have hyz := zip_at hy hz
                    have HYZ := Lib.hid hyz
                    have n1 := HNM2.out _ HBV.out j y hy
                    have n2 := HNM.out _ HBV.out i s HS0.out
                    have HJN := Lib.hid hjN
                    clear hy hz hyz hjN hj
                    by_cases hsy : s = y
                    · subst hsy
                      have hrk := rank_succ HYZ.out s
                      rw [if_pos rfl] at hrk
                      have HRK := Lib.hid hrk
                      clear hrk
                      by_cases hk0 : K2 = 0
                      · subst hk0
                        have HQ2 : Hid (∃ z, (ns2.zip l2)[j]? = some (s, z) ∧ rank (ns2.zip l2) j s = K) := Lib.hid ⟨z, HYZ.out, by have := HKR.out; omega⟩
                        go_wp2_with (fail)
                        go_quiet (fail)
                        go_wp2_with (fail)
                        go_roundw
                        case rel => exact ⟨j + 1, HJN.out, by go_num, Lib.hid (HBV.out.trans ((below_drewN _ _ _).mono HBV.out.size)), .inr ⟨j, HJN.out, rfl, rfl, HQ2⟩⟩
                        case measure => have := HJN.out; simp [intOf]; omega
                      · have t0 : ((K2 : Int) == 0) = false := by simp; omega
                        have HKR2 : Hid (K2 - 1 + rank (ns2.zip l2) (j + 1) s = K ∧ ((K2 - 1 : Nat) : Int) ≤ 1000000 ∧ (K2 : Int) - 1 = ((K2 - 1 : Nat) : Int)) := Lib.hid (by have := HKR.out; have := HRK.out; omega)
                        clear hk0
                        go_wp2_with (fail)
                        go_quiet (fail)
                        go_wp2_with (fail)
                        go_roundw
                        case rel => exact ⟨j + 1, HJN.out, by go_num, Lib.hid (HBV.out.trans ((below_drewN _ _ _).mono HBV.out.size)), .inl ⟨K2 - 1, HKR2.out.2.1, rfl, congrArg (Value.int .i64) HKR2.out.2.2, Lib.hid HKR2.out.1⟩⟩
                        case measure => have := HJN.out; simp [intOf]; omega
                    · have hts : (y.toList == s.toList) = false := beq_eq_false_iff_ne.2 (fun e => hsy (str_inj e).symm)
                      have hrk := rank_succ HYZ.out s
                      rw [if_neg (fun e => hsy e.symm)] at hrk
                      have HKR2 : Hid (K2 + rank (ns2.zip l2) (j + 1) s = K) := Lib.hid (by have := HKR.out; omega)
                      clear hrk hsy
                      go_wp2_with (fail)
                      go_quiet (fail)
                      go_wp2_with (fail)
                      go_roundw
                      case rel => exact ⟨j + 1, HJN.out, by go_num, Lib.hid (HBV.out.trans ((below_drewN _ _ _).mono HBV.out.size)), .inl ⟨K2, hK2, rfl, rfl, HKR2⟩⟩
                      case measure => have := HJN.out; simp [intOf]; omega
                  · have j2 : ¬ (j : Int) < (N : Int) := by omega
                    have HR2 : Hid (RES = false) := Lib.hid (by
                      cases hc : RES with
                      | false => rfl
                      | true =>
                        obtain ⟨y', hy', hs'⟩ := HR.out.1 hc i HI.out (s, x) HXX.out.1
                        simp only at hy' hs'
                        have h1 := (List.getElem?_eq_some_iff.1 hy').1
                        have h2 := rank_full (ns2.zip l2) s
                        rw [HPL.out.2] at h2
                        have h3 := HKR.out
                        rw [show j = N by omega] at h3
                        rw [← HK.out] at h1
                        omega)
                    have HB5 : Hid (Below w.heap.size w wt) := Lib.hid (HBB.out.1.trans (HBV.out.mono HBB.out.1.size))
                    clear hjN hj
                    go_wp2_with (fail)
                    go_quiet (fail)
                    go_wp2_with (fail)
                    go_ret
                    rw [HR2.out]
                    exact ⟨rfl, HB5.out.trans ((below_drewN _ _ _).mono HB5.out.size)⟩
                · by_cases hjN : j < N
                  · have j2 : (j : Int) < (N : Int) := by omega
                    clear hjN hj
                    have n37 : ¬ ((j0 : Nat) : Int) < 0 := by omega
                    have m37 : (0 : Int) ≤ (j0 : Int) := by omega
                    have m38 : (j0 : Int) < (l.length : Int) := by have := HN.out; omega
                    have HV := Lib.hid HBV.out
                    have HBVW : Hid (Below w.heap.size w wt) := Lib.hid (HBB.out.1.trans (HBV.out.mono HBB.out.1.size))
                    obtain ⟨b2, b3, c2, c3⟩ := HCD.out _ HBV.out
                    obtain ⟨z, hz, hzr⟩ := HQ.out
                    have HZ2 : Hid (l2[j0]? = some z) := Lib.hid (zip_snd2 hz)
                    obtain ⟨v, hv, hjv⟩ := HRE.out.2.2.get HZ2.out
                    obtain ⟨u, hu, hju⟩ := HRD.out.2.2.get HXX.out.2
                    obtain ⟨lg, loff, ea, d0, d1, d2, d3⟩ := raw_cells (HRD.out.2.1.below HBVW.out) hu
                    obtain ⟨mg, moff, eb, g0, g1, g2, g3⟩ := raw_cells (HRE.out.2.1.below HBVW.out) hv
                    subst ea eb
                    have HS := Lib.hid (HIH.out x (List.mem_of_getElem? HXX.out.2) z u v wt.drew A B (FitAll.mem HF.out.2.2.2.2 x (List.mem_of_getElem? HXX.out.2)) (hju.below HBVW.out.drew) (hjv.below HBVW.out.drew))
                    have HG : Hid ((grp (ns2.zip l2) s)[rank (ns.zip l) i s]? = some z) := Lib.hid (by rw [← HK.out, ← hzr]; exact rank_at hz)
                    obtain ⟨bb, hbb⟩ : ∃ b, b = sameJ x z := ⟨_, rfl⟩
                    rw [← hbb] at HS
                    have HBS := Lib.hid hbb
                    clear hz hzr hu hv hju hjv hbb
                    go_wp2_with (fail)
                    refine wp_region_still_tail 13 (by kernel_rfl) (by kernel_rfl) ?_
                    simp only [List.take_succ_cons, List.take_zero, List.drop_succ_cons, List.drop_zero]
                    repeat still_step
                    refine wpStill_nil ?_
                    go_wp2_with (fail)
                    refine HS.out.mono ?_
                    rintro e w4 ⟨rfl, hb4⟩
                    have HB4 : Hid (Below w1.heap.size w1 w4) := Lib.hid (HBV.out.drew.trans (hb4.mono HBV.out.drew.size))
                    clear hb4 b2 b3 c2 c3 d0 d1 d2 d3 g0 g1 g2 g3
                    cases bb with
                    | true =>
                      have HA2 : Hid (∀ m < i + 1, MemberIn (ns.zip l) (ns2.zip l2) m) := Lib.hid fun m hm => by
                        rcases Nat.lt_or_eq_of_le (Nat.le_of_lt_succ hm) with h | h
                        · exact HA.out m h
                        · subst h
                          intro x' hx'
                          have e1 := HXX.out.1
                          rw [hx'] at e1
                          cases e1
                          exact ⟨z, HG.out, HBS.out.symm⟩
                      go_wp2_with (fail)
                      go_roundw
                      case rel => exact ⟨i + 1, HI.out, by go_num, HA2, HB4⟩
                      case measure => have := HI.out; simp [intOf]; omega
                    | false =>
                      have HR2 : Hid (RES = false) := Lib.hid (by
                        cases hc : RES with
                        | false => rfl
                        | true =>
                          obtain ⟨y', hy', hs'⟩ := HR.out.1 hc i HI.out (s, x) HXX.out.1
                          simp only at hy' hs'
                          rw [HG.out] at hy'
                          cases hy'
                          rw [← HBS.out] at hs'
                          cases hs')
                      have HB5 : Hid (Below w.heap.size w w4) := Lib.hid (HBB.out.1.trans (HB4.out.mono HBB.out.1.size))
                      go_wp2_with (fail)
                      go_ret
                      rw [HR2.out]
                      exact ⟨rfl, HB5.out⟩
                  · have j2 : ¬ (j : Int) < (N : Int) := by omega
                    clear hjN hj
                    have n37 : ¬ ((j0 : Nat) : Int) < 0 := by omega
                    have m37 : (0 : Int) ≤ (j0 : Int) := by omega
                    have m38 : (j0 : Int) < (l.length : Int) := by have := HN.out; omega
                    have HV := Lib.hid HBV.out
                    have HBVW : Hid (Below w.heap.size w wt) := Lib.hid (HBB.out.1.trans (HBV.out.mono HBB.out.1.size))
                    obtain ⟨b2, b3, c2, c3⟩ := HCD.out _ HBV.out
                    obtain ⟨z, hz, hzr⟩ := HQ.out
                    have HZ2 : Hid (l2[j0]? = some z) := Lib.hid (zip_snd2 hz)
                    obtain ⟨v, hv, hjv⟩ := HRE.out.2.2.get HZ2.out
                    obtain ⟨u, hu, hju⟩ := HRD.out.2.2.get HXX.out.2
                    obtain ⟨lg, loff, ea, d0, d1, d2, d3⟩ := raw_cells (HRD.out.2.1.below HBVW.out) hu
                    obtain ⟨mg, moff, eb, g0, g1, g2, g3⟩ := raw_cells (HRE.out.2.1.below HBVW.out) hv
                    subst ea eb
                    have HS := Lib.hid (HIH.out x (List.mem_of_getElem? HXX.out.2) z u v wt.drew A B (FitAll.mem HF.out.2.2.2.2 x (List.mem_of_getElem? HXX.out.2)) (hju.below HBVW.out.drew) (hjv.below HBVW.out.drew))
                    have HG : Hid ((grp (ns2.zip l2) s)[rank (ns.zip l) i s]? = some z) := Lib.hid (by rw [← HK.out, ← hzr]; exact rank_at hz)
                    obtain ⟨bb, hbb⟩ : ∃ b, b = sameJ x z := ⟨_, rfl⟩
                    rw [← hbb] at HS
                    have HBS := Lib.hid hbb
                    clear hz hzr hu hv hju hjv hbb
                    go_wp2_with (fail)
                    refine wp_region_still_tail 13 (by kernel_rfl) (by kernel_rfl) ?_
                    simp only [List.take_succ_cons, List.take_zero, List.drop_succ_cons, List.drop_zero]
                    repeat still_step
                    refine wpStill_nil ?_
                    go_wp2_with (fail)
                    refine HS.out.mono ?_
                    rintro e w4 ⟨rfl, hb4⟩
                    have HB4 : Hid (Below w1.heap.size w1 w4) := Lib.hid (HBV.out.drew.trans (hb4.mono HBV.out.drew.size))
                    clear hb4 b2 b3 c2 c3 d0 d1 d2 d3 g0 g1 g2 g3
                    cases bb with
                    | true =>
                      have HA2 : Hid (∀ m < i + 1, MemberIn (ns.zip l) (ns2.zip l2) m) := Lib.hid fun m hm => by
                        rcases Nat.lt_or_eq_of_le (Nat.le_of_lt_succ hm) with h | h
                        · exact HA.out m h
                        · subst h
                          intro x' hx'
                          have e1 := HXX.out.1
                          rw [hx'] at e1
                          cases e1
                          exact ⟨z, HG.out, HBS.out.symm⟩
                      go_wp2_with (fail)
                      go_roundw
                      case rel => exact ⟨i + 1, HI.out, by go_num, HA2, HB4⟩
                      case measure => have := HI.out; simp [intOf]; omega
                    | false =>
                      have HR2 : Hid (RES = false) := Lib.hid (by
                        cases hc : RES with
                        | false => rfl
                        | true =>
                          obtain ⟨y', hy', hs'⟩ := HR.out.1 hc i HI.out (s, x) HXX.out.1
                          simp only at hy' hs'
                          rw [HG.out] at hy'
                          cases hy'
                          rw [← HBS.out] at hs'
                          cases hs')
                      have HB5 : Hid (Below w.heap.size w w4) := Lib.hid (HBB.out.1.trans (HB4.out.mono HBB.out.1.size))
                      go_wp2_with (fail)
                      go_ret
                      rw [HR2.out]
                      exact ⟨rfl, HB5.out⟩
        · have q2 : ¬ (i : Int) < (N : Int) := by omega
          have HR2 : Hid (RES = true) := Lib.hid (HR.out.2 fun m hm => HA.out m (by omega))
          have HB5 : Hid (Below w.heap.size w wr) := Lib.hid (HBB.out.1.trans (HBW.out.mono HBB.out.1.size))
          clear hlt hi
          go_wp2_with (fail)
          go_ret
          rw [HR2.out]
          exact ⟨rfl, HB5.out⟩
    · have HR2 : Hid (RES = false) := Lib.hid (by
        rw [HRES.out]
        by_cases h1 : l.length = l2.length
        · have h2 : ¬ ns.length = ns2.length := fun h => hD ⟨h1, h⟩
          simp [h1, h2]
        · simp [h1])
      by_cases hA : min (ns.length : Int) (l.length : Int) = min (ns2.length : Int) (l2.length : Int)
      · have t1 : (min (ns.length : Int) (l.length : Int) != min (ns2.length : Int) (l2.length : Int)) = false := by simpa using hA
        by_cases hB : ns.length = ns2.length
        · have t2 : ((ns.length : Int) != (ns2.length : Int)) = false := by simp; omega
          have t3 : ((l.length : Int) != (l2.length : Int)) = true := by simp; intro e; exact hD ⟨by omega, hB⟩
          clear hA hB hD HRES
          go_enter Tryz.func30, Tryz.ntmps30
          go_upto_region 1 with (fail)
          rw [HW1.out]
          go_wp2_with (fail)
          go_ret
          rw [HR2.out]
          exact ⟨rfl, HBB.out.1⟩
        · have t2 : ((ns.length : Int) != (ns2.length : Int)) = true := by simp; omega
          clear hA hB hD HRES
          go_enter Tryz.func30, Tryz.ntmps30
          go_upto_region 1 with (fail)
          rw [HW1.out]
          go_wp2_with (fail)
          go_ret
          rw [HR2.out]
          exact ⟨rfl, HBB.out.1⟩
      · have t1 : (min (ns.length : Int) (l.length : Int) != min (ns2.length : Int) (l2.length : Int)) = true := by simpa using hA
        clear hA hD HRES
        go_enter Tryz.func30, Tryz.ntmps30
        go_upto_region 1 with (fail)
        rw [HW1.out]
        go_wp2_with (fail)
        go_ret
        rw [HR2.out]
        exact ⟨rfl, HBB.out.1⟩
  · have n0 : (6 != rk) = true := by simp; omega
    have hR : Hid (RES = false) := Lib.hid (by rw [hres, sameJ_mk, if_pos (by simpa [JV.kind] using Ne.symm hrk6)])
    clear hw1 hres hf hrs1 hrs2 hl1 hl2 hbb hzz B1 B2 ih hcells hns1 hns2 hrk6
    go_enter Tryz.func30, Tryz.ntmps30
    go_upto_region 1 with (fail)
    rw [HW1.out]
    go_wp2_with (fail)
    go_ret
    rw [hR.out]
    exact ⟨rfl, HBB.out.1⟩
theorem k_same (v : JV) : KSameOk v := JV.ind (P := KSameOk) (fun k t l ns ih => by
  by_cases h : k = 6
  · subst h; exact k_sameO t l ns ih
  · exact k_sameA k t l ns h ih) v
end
end Go.Proofs.YthjcolehccbihaaGreatDoor
