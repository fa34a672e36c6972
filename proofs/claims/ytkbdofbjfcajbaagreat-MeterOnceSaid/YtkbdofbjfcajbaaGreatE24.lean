/- The walk of MeterOnce. -/
import Derived.Test.YtkbdofbjfcajbaaGreatE23
namespace Go.Proofs.YtkbdofbjfcajbaaGreat
open Go.RowKit Go.Shelf Go.Sort

theorem take_all {l : List Ev} {k : Nat} {x : Ev} (h : l[k]? = some x) (s : MSt) : runs s (l.take (k + 1)) = ingS (runs s (l.take k)) x := by rw [take_snoc h, runs_snoc]
theorem drop_rev {l : List Ev} {k : Nat} {x : Ev} (h : l[k]? = some x) (s : MSt) : runs s (l.drop k).reverse = ingS (runs s (l.drop (k + 1)).reverse) x := by
  obtain ⟨hj, he⟩ := List.getElem?_eq_some_iff.1 h
  rw [List.drop_eq_getElem_cons hj, he, List.reverse_cons, runs_snoc]
theorem rt_cells {w : World} {a : Option Addr} {cap : Nat} {L : List Tot} (h : RdAt totKind w (.slice a L.length cap) L) {j : Nat} {x : Tot} (hx : L[j]? = some x) :
    ∃ g off, a = some ⟨g, off, none⟩ ∧ w.cell? ⟨g, off + j * 3, none⟩ = some (.string x.mtr) ∧ w.cell? ⟨g, off + j * 3 + 1, none⟩ = some (.int .i64 x.qty) ∧ w.cell? ⟨g, off + j * 3 + 2, none⟩ = some (.int .i64 x.cnt) := by
  obtain ⟨a', cap', hv, hc⟩ := h
  simp only [Value.slice.injEq] at hv
  obtain ⟨rfl, -, rfl⟩ := hv
  obtain ⟨g, off, ha, hcell⟩ := hc j x hx
  have h0 := hcell 0 (by decide)
  have h1 := hcell 1 (by decide)
  have h2 := hcell 2 (by decide)
  exact ⟨g, off, ha, h0, h1, h2⟩
set_option maxRecDepth 100000 in
set_option maxHeartbeats 8000000 in
theorem l_meterOnce (w : World) (a : Option Addr) (cap : Nat) (L : List Ev) (h : RdAt evKind w (.slice a L.length cap) L) (hi : ∀ x ∈ L, IntsOk x) (ga : Option Addr) (gc : Nat) (G : List Int) (hgl : G.length ≤ 9223372036854775807)
    (hg : ∀ (j : Nat) (x : Int), G[j]? = some x → ∃ g off, ga = some ⟨g, off, none⟩ ∧ w.cell? ⟨g, off + j, none⟩ = some (.int .i64 x) ∧ -9223372036854775808 ≤ x ∧ x ≤ 9223372036854775807) (n : ByteArray) (hn : n.size ≤ 9223372036854775807) (p m q : Int) :
    Calls Tryz.prog 3 #[.slice a L.length cap, .slice ga G.length gc, .string n, .int .i64 p, .int .i64 m, .int .i64 q] w fun e w' => e = .returned (.bool true) ∧ Below w.heap.size w w' := by
  have HRD := Lib.hid h
  have HII := Lib.hid hi
  have HG := Lib.hid hg
  have HN := Lib.hid hn
  clear h hi hg
  have HF := Lib.hid (m_first w)
  go_enter Tryz.func3, Tryz.ntmps3
  go_wp2_with (fail)
  refine HF.out.mono ?_
  rintro e w1 ⟨rfl, hb1⟩
  have HB1 := Lib.hid hb1
  have HFW := Lib.hid (m_few w1 a cap L (HRD.out.below hb1))
  clear hb1
  go_upto_region 2 with (fail)
  go_cut [14] from 38 to 337 (fun b wx => wx = w1 ∧ ∃ f2 : Bool, b = .bool f2 ∧ Hid (f2 = true → L.length ≤ 100 ∧ G.length ≤ 100 ∧ ∀ x ∈ L, Short x))
  case first => as_aux_lemma =>
    go_wp2_with (fail)
    refine HFW.out.mono ?_
    rintro e w1' ⟨⟨f, rfl, hf⟩, rfl⟩
    have HFF := Lib.hid hf
    clear hf
    cases f with
    | false =>
      go_wp2_with (fail)
      go_meet
      exact ⟨rfl, false, rfl, Lib.hid (fun h => by cases h)⟩
    | true =>
      by_cases h1 : (L.length : Int) ≤ 100
      · by_cases h2 : (G.length : Int) ≤ 100
        · have HX : Hid (L.length ≤ 100 ∧ G.length ≤ 100 ∧ ∀ x ∈ L, Short x) := Lib.hid ⟨by omega, by omega, (HFF.out rfl).2⟩
          go_wp2_with (fail)
          go_meet
          exact ⟨rfl, true, by simp [h2], Lib.hid (fun _ => HX.out)⟩
        · go_wp2_with (fail)
          go_meet
          exact ⟨rfl, false, by simp [h2], Lib.hid (fun h => by cases h)⟩
      · go_wp2_with (fail)
        go_meet
        exact ⟨rfl, false, by simp [h1], Lib.hid (fun h => by cases h)⟩
  case rest =>
    obtain ⟨hw, f2, rfl, HF2⟩ := hcut
    subst hw
    have HNW := Lib.hid (m_new wc)
    go_wp2_with (fail)
    refine HNW.out.mono ?_
    rintro e w2 ⟨ma, ta, rfl, hm2, hl1, hl2, hb2⟩
    have HB2 := Lib.hid hb2
    have HM2 := Lib.hid hm2
    have HNW2 := Lib.hid (m_new w2)
    have HLT : Hid ((ma < w2.heap.size ∧ ta < w2.heap.size) ∧ wc.heap.size ≤ ma ∧ wc.heap.size ≤ ta) := Lib.hid ⟨⟨hm2.lt, hm2.tab.lt⟩, hl1, hl2⟩
    clear hm2 hl1 hl2 hb2
    go_wp2_with (fail)
    refine HNW2.out.mono ?_
    rintro e w3 ⟨mb, tb, rfl, hm3, hl3, hl4, hb3⟩
    have HT : Hid (TwoI w ma ta mb tb ms0 ms0 0 0 w3) := Lib.hid (by
      have k1 := HB1.out.size
      have k2 := HB2.out.size
      have k3 := HLT.out
      exact ⟨HM2.out.below hb3, hm3, mok0, mok0, HB1.out.trans ((HB2.out.trans (hb3.mono HB2.out.size)).mono k1), by omega, by omega, by omega, by omega, by omega, by omega⟩)
    clear hm3 hl3 hl4 hb3
    cases f2 with
    | false =>
      go_wp2_with (fail)
      go_ret
      exact ⟨rfl, HT.out.below⟩
    | true =>
      by_cases hnn : (100 : Int) < (n.size : Int)
      · go_wp2_with (fail)
        go_ret
        exact ⟨rfl, HT.out.below⟩
      have HX := Lib.hid (HF2.out rfl)
      have hll : (L.length : Int) ≤ 100 := by have := HX.out.1; omega
      have hgg : (G.length : Int) ≤ 100 := by have := HX.out.2.1; omega
      clear HF2
      go_upto_block 0 with (fail)
      clear hnn
      go_cut [17] from 80 to 91 (fun _ wx => Hid (TwoI w ma ta mb tb (runs ms0 L) ms0 100 0 wx))
      case first => as_aux_lemma =>
        go_wp2_with (fail)
        go_loopw [17] (fun iv wr => ∃ k : Nat, k ≤ L.length ∧ iv = .int .i64 k ∧ Hid (TwoI w ma ta mb tb (runs ms0 (L.take k)) ms0 k 0 wr)) (fun iv _ => L.length - (intOf iv).toNat)
        case atStart => exact ⟨0, Nat.zero_le _, rfl, HT⟩
        case round =>
          obtain ⟨k, hk, rfl, HI⟩ := hrel
          by_cases hkl : k < L.length
          · obtain ⟨x, hx⟩ : ∃ x, L[k]? = some x := ⟨_, List.getElem?_eq_getElem hkl⟩
            obtain ⟨g, off, rfl, d0, d1, d2, d3, d4⟩ := rd_cells (HRD.out.below HI.out.below) hx
            have hxl := List.mem_of_getElem? hx
            have HIG := Lib.hid (x_ingest HI.out.fst HI.out.oa (by omega) (fit_of (HII.out x hxl) (HX.out.2.2 x hxl)))
            have HTA := Lib.hid (take_all hx ms0)
            have k1 : (0 : Int) ≤ (k : Int) := by omega
            have k2 : (k : Int) < (L.length : Int) := by omega
            clear hxl hx
            go_wp2_with (fail)
            refine HIG.out.mono ?_
            rintro e w' ⟨⟨v, rfl⟩, hm, hk'⟩
            have HNX : Hid (TwoI w ma ta mb tb (runs ms0 (L.take (k + 1))) ms0 (k + 1) 0 w') := Lib.hid (by rw [HTA.out]; exact HI.out.stepA x hm hk')
            clear hm hk' d0 d1 d2 d3 d4
            go_wp2_with (fail)
            go_roundw
            case rel => exact ⟨k + 1, by omega, by go_num, HNX⟩
            case measure => simp [intOf]; omega
          · have k2 : ¬ (k : Int) < (L.length : Int) := by omega
            have hke : k = L.length := by omega
            subst hke
            rw [List.take_length] at HI
            go_wp2_with (fail)
            go_meet
            exact Lib.hid { HI.out with oa := mok_mono HI.out.oa (by omega) }
      case rest =>
        have HI : Hid (TwoI w ma ta mb tb (runs ms0 L) ms0 100 0 wc) := hcut
        clear hcut HT
        go_upto_block 2 with (fail)
        go_cut [18] from 92 to 120 (fun _ wx => ∃ A : List Ev, Hid ((∀ x, x ∈ A ↔ x ∈ L) ∧ A.length ≤ 200 ∧ TwoI w ma ta mb tb (runs ms0 A) ms0 200 0 wx))
        case first => as_aux_lemma =>
          go_wp2_with (fail)
          go_loopw [18] (fun iv wr2 => ∃ (k : Nat) (M : List Ev), k ≤ G.length ∧ iv = .int .i64 k ∧ Hid (M.length = k) ∧ Hid (TwoI w ma ta mb tb (runs ms0 (L ++ M)) ms0 (100 + k) 0 wr2 ∧ ∀ x ∈ M, x ∈ L)) (fun iv _ => G.length - (intOf iv).toNat)
          case atStart => exact ⟨0, [], Nat.zero_le _, rfl, Lib.hid rfl, Lib.hid ⟨by rw [List.append_nil]; exact HI.out, fun x hx => by cases hx⟩⟩
          case round =>
            obtain ⟨k, M, hk, rfl, HML, HJ⟩ := hrel
            have k1 : (0 : Int) ≤ (k : Int) := by omega
            have HW : Hid (∃ A : List Ev, Hid ((∀ x, x ∈ A ↔ x ∈ L) ∧ A.length ≤ 200 ∧ TwoI w ma ta mb tb (runs ms0 A) ms0 200 0 wr)) := Lib.hid ⟨L ++ M, Lib.hid ⟨fun x => by
              rw [List.mem_append]
              exact ⟨fun h => h.elim id (HJ.out.2 x), .inl⟩, by rw [List.length_append, HML.out]; omega, { HJ.out.1 with oa := mok_mono HJ.out.1.oa (by omega) }⟩⟩
            by_cases hkl : k < G.length
            · have k2 : (k : Int) < (G.length : Int) := by omega
              by_cases hlp : 0 < L.length
              · obtain ⟨z, hz⟩ : ∃ z, G[k]? = some z := ⟨_, List.getElem?_eq_getElem hkl⟩
                obtain ⟨gg, goff, rfl, c0, cb⟩ := HG.out k z hz
                have e0 := (HJ.out.1.below.cell (p := ⟨gg, goff + k, none⟩) (World.block_lt_of_cell? w _ c0)).trans c0
                obtain ⟨kd, hkd, hkd2⟩ : ∃ kd : Nat, (wrap64 (z.tmod (L.length : Int) + (L.length : Int))).tmod (L.length : Int) = (kd : Int) ∧ kd < L.length := by
                  have t1 : -(L.length : Int) < z.tmod L.length ∧ z.tmod L.length < L.length := ⟨by have := Int.lt_tmod_of_pos z (show (0 : Int) < (L.length : Int) by omega); omega, Int.tmod_lt_of_pos z (by omega)⟩
                  have e1 : wrap64 (z.tmod (L.length : Int) + L.length) = z.tmod (L.length : Int) + L.length := IntWalk.wrap64_in _ (by omega)
                  have t2 : 0 ≤ (z.tmod (L.length : Int) + L.length).tmod L.length ∧ (z.tmod (L.length : Int) + L.length).tmod L.length < L.length := ⟨Int.tmod_nonneg _ (by omega), Int.tmod_lt_of_pos _ (by omega)⟩
                  rw [e1]
                  exact ⟨((z.tmod (L.length : Int) + L.length).tmod L.length).toNat, by omega, by omega⟩
                obtain ⟨x, hx⟩ : ∃ x, L[kd]? = some x := ⟨_, List.getElem?_eq_getElem hkd2⟩
                obtain ⟨g, off, rfl, d0, d1, d2, d3, d4⟩ := rd_cells (HRD.out.below HJ.out.1.below) hx
                have hxl := List.mem_of_getElem? hx
                have HIG := Lib.hid (x_ingest HJ.out.1.fst HJ.out.1.oa (by omega) (fit_of (HII.out x hxl) (HX.out.2.2 x hxl)))
                have HXL := Lib.hid hxl
                have k3 : (0 : Int) < (L.length : Int) := by omega
                have k4 : (kd : Int) < (L.length : Int) := by omega
                have k5 : (0 : Int) ≤ (kd : Int) := by omega
                have k6 : ¬ (L.length : Int) = 0 := by omega
                clear hxl hx hz c0 cb
                go_wp2_with (fail)
                refine HIG.out.mono ?_
                rintro e w' ⟨⟨v, rfl⟩, hm, hk'⟩
                have HNX : Hid (TwoI w ma ta mb tb (runs ms0 (L ++ (M ++ [x]))) ms0 (100 + (k + 1)) 0 w' ∧ ∀ y ∈ M ++ [x], y ∈ L) := Lib.hid (by
                  refine ⟨?_, fun y hy => ?_⟩
                  · rw [← List.append_assoc, runs_snoc]; exact HJ.out.1.stepA x hm hk'
                  · rcases List.mem_append.1 hy with h1 | h1
                    · exact HJ.out.2 y h1
                    · rw [List.mem_singleton] at h1; subst h1; exact HXL.out)
                have HML2 : Hid ((M ++ [x]).length = k + 1) := Lib.hid (by rw [List.length_append, HML.out]; rfl)
                clear hm hk' d0 d1 d2 d3 d4 hkd
                go_wp2_with (fail)
                go_roundw
                case rel => exact ⟨k + 1, M ++ [x], by omega, by go_num, HML2, HNX⟩
                case measure => simp [intOf]; omega
              · have k3 : ¬ (0 : Int) < (L.length : Int) := by omega
                go_wp2_with (fail)
                go_meet
                exact HW.out
            · have k2 : ¬ (k : Int) < (G.length : Int) := by omega
              go_wp2_with (fail)
              all_goals
                go_meet
                exact HW.out
        case rest =>
          obtain ⟨A, hA⟩ := hcut
          have HA := hA
          clear hA HI HG
          go_upto_block 4 with (fail)
          go_cut [19, 20, 21] from 121 to 156 (fun uv _ _ wx => ∃ u : Bool, uv = .bool u ∧ Hid ((u = false → Alike L) ∧ TwoI w ma ta mb tb (runs ms0 A) ms0 200 0 wx))
          case first => as_aux_lemma =>
            go_wp2_with (fail)
            go_loopw [19, 20, 21] (fun uv iv _ wr => ∃ (i : Nat) (u : Bool), i ≤ L.length ∧ iv = .int .i64 i ∧ uv = .bool u ∧ Hid ((u = false → NoneTo L i 0) ∧ TwoI w ma ta mb tb (runs ms0 A) ms0 200 0 wr)) (fun _ iv _ _ => L.length - (intOf iv).toNat)
            case atStart => exact ⟨0, false, Nat.zero_le _, rfl, rfl, Lib.hid ⟨fun _ => NoneTo.start L, HA.out.2.2⟩⟩
            case round =>
              obtain ⟨i, u, hi, rfl, rfl, HU⟩ := hrel
              have i1 : (0 : Int) ≤ (i : Int) := by omega
              by_cases hil : i < L.length
              · have i2 : (i : Int) < (L.length : Int) := by omega
                obtain ⟨x, hx⟩ : ∃ x, L[i]? = some x := ⟨_, List.getElem?_eq_getElem hil⟩
                have HX1 := Lib.hid hx
                clear hx
                obtain ⟨wo, rfl⟩ : ∃ wo : World, wo = wr := ⟨_, rfl⟩
                go_wp2_with (fail)
                go_loopw [19, 21] (fun uv kv wr => ∃ (k : Nat) (u : Bool), k ≤ i ∧ kv = .int .i64 k ∧ uv = .bool u ∧ Hid ((u = false → NoneTo L i k) ∧ TwoI w ma ta mb tb (runs ms0 A) ms0 200 0 wr)) (fun _ kv _ => i - (intOf kv).toNat)
                case atStart => exact ⟨0, u, Nat.zero_le _, rfl, rfl, HU⟩
                case round =>
                  obtain ⟨k, u2, hk, rfl, rfl, HV⟩ := hrel
                  have k1 : (0 : Int) ≤ (k : Int) := by omega
                  by_cases hki : k < i
                  · have k2 : (k : Int) < (i : Int) := by omega
                    have k3 : (k : Int) < (L.length : Int) := by omega
                    have HDN : Hid (∀ n, TwoI w ma ta mb tb (runs ms0 A) ms0 200 0 (wr.drewN n)) := Lib.hid fun n => HV.out.2.read (below_drewN' wr n)
                    cases u2 with
                    | true =>
                      go_wp2_with (fail)
                      go_quiet (fail)
                      go_wp2_with (fail)
                      go_roundw
                      case rel => exact ⟨k + 1, true, by omega, by go_num, rfl, Lib.hid ⟨fun h => (by cases h), HDN.out _⟩⟩
                      case measure => simp [intOf]; omega
                    | false =>
                      obtain ⟨y, hy⟩ : ∃ y, L[k]? = some y := ⟨_, List.getElem?_eq_getElem (by omega)⟩
                      obtain ⟨g, off, rfl, d0, d1, d2, d3, d4⟩ := rd_cells (HRD.out.below HV.out.2.below) HX1.out
                      obtain ⟨g', off', hga, e0, e1, e2, e3, e4⟩ := rd_cells (HRD.out.below HV.out.2.below) hy
                      simp only [Option.some.injEq, Addr.mk.injEq, and_true] at hga
                      obtain ⟨rfl, rfl⟩ := hga
                      have HP := Lib.hid fun he => (HV.out.1 rfl).pair HX1.out hy he
                      clear hy
                      obtain ⟨xk, xa, xm, xq, xt⟩ := x
                      obtain ⟨yk, ya, ym, yq, yt⟩ := y
                      dsimp only at d0 d1 d2 d3 d4 e0 e1 e2 e3 e4
                      have FIN : Hid (∀ (b : Bool) n, (b = false → xk = yk → (⟨xk, xa, xm, xq, xt⟩ : Ev) = ⟨yk, ya, ym, yq, yt⟩) → Hid ((b = false → NoneTo L i (k + 1)) ∧ TwoI w ma ta mb tb (runs ms0 A) ms0 200 0 (wr.drewN n))) := Lib.hid fun b n hb => Lib.hid ⟨fun h => HP.out (hb h), HDN.out n⟩
                      clear HP HDN HU
                      by_cases f0 : xk = yk
                      case neg =>
                        have hne : ¬ xk.toList = yk.toList := fun e => f0 (str_inj e)
                        have HF0 := Lib.hid f0
                        clear f0
                        go_wp2_with (fail)
                        go_quiet (fail)
                        go_wp2_with (fail)
                        go_roundw
                        case rel => exact ⟨k + 1, false, by omega, by go_num, by simp [hne], FIN.out false _ (fun _ e => absurd e HF0.out)⟩
                        case measure => simp [intOf]; omega
                      subst f0
                      by_cases f1 : xa = ya
                      case neg =>
                        have hne : ¬ xa.toList = ya.toList := fun e => f1 (str_inj e)
                        clear f1
                        go_wp2_with (fail)
                        go_quiet (fail)
                        go_wp2_with (fail)
                        go_roundw
                        case rel => exact ⟨k + 1, true, by omega, by go_num, by simp [hne], FIN.out true _ (fun h => by cases h)⟩
                        case measure => simp [intOf]; omega
                      subst f1
                      by_cases f2 : xm = ym
                      case neg =>
                        have hne : ¬ xm.toList = ym.toList := fun e => f2 (str_inj e)
                        clear f2
                        go_wp2_with (fail)
                        go_quiet (fail)
                        go_wp2_with (fail)
                        go_roundw
                        case rel => exact ⟨k + 1, true, by omega, by go_num, by simp [hne], FIN.out true _ (fun h => by cases h)⟩
                        case measure => simp [intOf]; omega
                      subst f2
                      by_cases f3 : xq = yq
                      case neg =>
                        have hne : (xq == yq) = false := beq_eq_false_iff_ne.2 f3
                        clear f3
                        go_wp2_with (fail)
                        go_quiet (fail)
                        go_wp2_with (fail)
                        go_roundw
                        case rel => exact ⟨k + 1, true, by omega, by go_num, by simp [hne], FIN.out true _ (fun h => by cases h)⟩
                        case measure => simp [intOf]; omega
                      subst f3
                      by_cases f4 : xt = yt
                      case neg =>
                        have hne : (xt == yt) = false := beq_eq_false_iff_ne.2 f4
                        clear f4
                        go_wp2_with (fail)
                        go_quiet (fail)
                        go_wp2_with (fail)
                        go_roundw
                        case rel => exact ⟨k + 1, true, by omega, by go_num, by simp [hne], FIN.out true _ (fun h => by cases h)⟩
                        case measure => simp [intOf]; omega
                      subst f4
                      go_wp2_with (fail)
                      go_quiet (fail)
                      go_wp2_with (fail)
                      go_roundw
                      case rel => exact ⟨k + 1, false, by omega, by go_num, by simp, FIN.out false _ (fun _ _ => by first | rfl | trivial)⟩
                      case measure => simp [intOf]; omega
                  · have hke : k = i := by omega
                    subst hke
                    have k2 : ¬ (k : Int) < (k : Int) := by omega
                    go_wp2_with (fail)
                    go_roundw
                    case rel => exact ⟨k + 1, u2, by omega, by go_num, rfl, Lib.hid ⟨fun h => (HV.out.1 h).next, HV.out.2⟩⟩
                    case measure => simp [intOf]; omega
              · have i2 : ¬ (i : Int) < (L.length : Int) := by omega
                have hie : i = L.length := by omega
                subst hie
                go_wp2_with (fail)
                go_meet
                exact ⟨u, rfl, Lib.hid ⟨fun h => (HU.out.1 h).alike, HU.out.2⟩⟩
          case rest =>
            obtain ⟨u, rfl, HU⟩ := hcut
            go_upto_block 8 with (fail)
            go_cut [22] from 157 to 169 (fun _ wx => Hid (TwoI w ma ta mb tb (runs ms0 A) (runs ms0 L.reverse) 200 100 wx))
            case first => as_aux_lemma =>
              go_wp2_with (fail)
              go_loopw [22] (fun iv wr => ∃ k : Nat, k ≤ L.length ∧ iv = .int .i64 ((k : Int) - 1) ∧ Hid (TwoI w ma ta mb tb (runs ms0 A) (runs ms0 (L.drop k).reverse) 200 (L.length - k) wr)) (fun iv _ => (intOf iv + 1).toNat)
              case atStart => exact ⟨L.length, Nat.le_refl _, rfl, Lib.hid (by rw [List.drop_length, Nat.sub_self]; exact HU.out.2)⟩
              case round =>
                obtain ⟨k, hk, rfl, HI⟩ := hrel
                by_cases hk0 : 0 < k
                · obtain ⟨j, rfl⟩ : ∃ j, k = j + 1 := ⟨k - 1, by omega⟩
                  rw [show ((j + 1 : Nat) : Int) - 1 = (j : Int) from by omega]
                  obtain ⟨x, hx⟩ : ∃ x, L[j]? = some x := ⟨_, List.getElem?_eq_getElem (by omega)⟩
                  obtain ⟨g, off, rfl, d0, d1, d2, d3, d4⟩ := rd_cells (HRD.out.below HI.out.below) hx
                  have hxl := List.mem_of_getElem? hx
                  have HIG := Lib.hid (x_ingest HI.out.snd HI.out.ob (by omega) (fit_of (HII.out x hxl) (HX.out.2.2 x hxl)))
                  have HTA := Lib.hid (drop_rev hx ms0)
                  have k1 : (0 : Int) ≤ (j : Int) := by omega
                  have k2 : (j : Int) < (L.length : Int) := by omega
                  clear hxl hx
                  go_wp2_with (fail)
                  refine HIG.out.mono ?_
                  rintro e w' ⟨⟨v, rfl⟩, hm, hk'⟩
                  have HNX : Hid (TwoI w ma ta mb tb (runs ms0 A) (runs ms0 (L.drop j).reverse) 200 (L.length - j) w') := Lib.hid (by
                    rw [HTA.out, show L.length - j = L.length - (j + 1) + 1 from by omega]; exact HI.out.stepB x hm hk')
                  clear hm hk' d0 d1 d2 d3 d4
                  go_wp2_with (fail)
                  go_roundw
                  case rel => exact ⟨j, by omega, by go_num, HNX⟩
                  case measure => simp [intOf] <;> omega
                · obtain rfl : k = 0 := by omega
                  go_wp2_with (fail)
                  go_meet
                  exact Lib.hid { HI.out with ob := mok_mono HI.out.ob (by omega) }
            case rest =>
              have HT : Hid (TwoI w ma ta mb tb (runs ms0 A) (runs ms0 L.reverse) 200 100 wc) := hcut
              have HS : Hid (u = false → (runs ms0 A).t.ino = (runs ms0 L.reverse).t.ino) := Lib.hid fun h => runs_same (HU.out.1 h) HA.out.1 (fun x => List.mem_reverse) (by have := HA.out.2.1; omega) (by rw [List.length_reverse]; omega)
              clear hcut HU HA
              generalize runs ms0 A = S at HT HS
              generalize runs ms0 L.reverse = R at HT HS
              obtain ⟨c1, hc1⟩ : ∃ c, c = withinE n p q := ⟨_, rfl⟩
              have HTA := Lib.hid (x_tots HT.out.fst HT.out.oa (by omega) n HN.out p q)
              rw [← hc1] at HTA
              go_wp2_with (fail)
              refine HTA.out.mono ?_
              rintro e w5 ⟨av, cv, TL, hTL, rfl, hst, hlt, hb5⟩
              have HT5 := Lib.hid (HT.out.read hb5)
              have HTL := Lib.hid hTL
              have HST := Lib.hid hst
              have HLT := Lib.hid hlt
              have HTB := Lib.hid (x_tots HT5.out.snd HT5.out.ob (by omega) n HN.out p q)
              rw [← hc1] at HTB
              have HC1 := Lib.hid hc1
              clear hTL hst hb5 hc1 hlt
              go_wp2_with (fail)
              refine HTB.out.mono ?_
              rintro e w6 ⟨bv, dv, UL, hUL, rfl, hsu, hlu, hb6⟩
              have HT6 := Lib.hid (HT5.out.read hb6)
              have HST6 := Lib.hid (HST.out.rd.below hb6)
              have HSU := Lib.hid hsu
              have HSAME : Hid (u = false → TL = UL) := Lib.hid fun h => by rw [HTL.out, hUL, HS.out h]
              have ht1 : (TL.length : Int) ≤ 200 := by have := HLT.out; omega
              clear hUL hsu hb6 hlu HST HS HTA HTB HLT
              go_upto_if 187 with (fail)
              go_cut [27] from 188 to 212 (fun _ wx => Hid (Below w6.heap.size w6 wx))
              case first => as_aux_lemma =>
                cases u with
                | true =>
                  go_wp2_with (fail)
                  go_meet
                  exact Lib.hid (Below.refl _ _)
                | false =>
                  obtain rfl := HSAME.out rfl
                  go_wp2_with (fail)
                  go_loopw [27] (fun iv wr => ∃ k : Nat, k ≤ TL.length ∧ iv = .int .i64 k ∧ Hid (Below w6.heap.size w6 wr)) (fun iv _ => TL.length - (intOf iv).toNat)
                  case atStart => exact ⟨0, Nat.zero_le _, rfl, Lib.hid (Below.refl _ _)⟩
                  case round =>
                    obtain ⟨k, hk, rfl, HB⟩ := hrel
                    by_cases hkl : k < TL.length
                    · obtain ⟨t, ht⟩ : ∃ t, TL[k]? = some t := ⟨_, List.getElem?_eq_getElem hkl⟩
                      obtain ⟨tg, toff, rfl, t0, t1, t2⟩ := rt_cells (HST6.out.below HB.out) ht
                      obtain ⟨ug, uoff, rfl, u0, u1, u2⟩ := rt_cells (HSU.out.rd.below HB.out) ht
                      have HDN : Hid (∀ n, Below w6.heap.size w6 (wr.drewN n)) := Lib.hid fun n => HB.out.trans ((below_drewN' wr n).mono HB.out.size)
                      have k1 : (0 : Int) ≤ (k : Int) := by omega
                      have k2 : (k : Int) < (TL.length : Int) := by omega
                      clear ht
                      go_wp2_with (fail)
                      go_quiet (fail)
                      go_wp2_with (fail)
                      go_roundw
                      case rel => exact ⟨k + 1, by omega, by go_num, Lib.hid (HDN.out _)⟩
                      case measure => simp [intOf]; omega
                    · have k2 : ¬ (k : Int) < (TL.length : Int) := by omega
                      go_wp2_with (fail)
                      go_meet
                      exact HB
              case rest =>
                have HT := Lib.hid (HT6.out.read hcut.out)
                have HST := Lib.hid (HST6.out.below hcut.out)
                clear hcut HT5 HT6 HST6 HSU HSAME
                obtain ⟨c2, hc2⟩ : ∃ c, c = withinE n p m := ⟨_, rfl⟩
                have HTX := Lib.hid (x_tots HT.out.fst HT.out.oa (by omega) n HN.out p m)
                rw [← hc2] at HTX
                have HC2 := Lib.hid hc2
                clear hc2
                go_wp2_with (fail)
                refine HTX.out.mono ?_
                rintro e w7 ⟨xv, xc, XL, hXL, rfl, hsx, hlx, hb7⟩
                have HT7 := Lib.hid (HT.out.read hb7)
                have HST7 := Lib.hid (HST.out.below hb7)
                have HSX := Lib.hid hsx
                have HXL := Lib.hid hXL
                have hx1 : (XL.length : Int) ≤ 200 := by omega
                clear hXL hsx hlx hb7 HT HST HTX
                obtain ⟨c3, hc3⟩ : ∃ c, c = withinE n m q := ⟨_, rfl⟩
                have HTY := Lib.hid (x_tots HT7.out.fst HT7.out.oa (by omega) n HN.out m q)
                rw [← hc3] at HTY
                have HC3 := Lib.hid hc3
                clear hc3
                go_wp2_with (fail)
                refine HTY.out.mono ?_
                rintro e w8 ⟨yv, yc, YL, hYL, rfl, hsy, hly, hb8⟩
                have HT8 := Lib.hid (HT7.out.read hb8)
                have HST8 := Lib.hid (HST7.out.below hb8)
                have HSX8 := Lib.hid (HSX.out.rd.below hb8)
                have HSY8 := Lib.hid hsy.rd
                have HYL := Lib.hid hYL
                have hy1 : (YL.length : Int) ≤ 200 := by omega
                clear hYL hsy hly hb8 HT7 HST7 HSX HTY
                by_cases z1 : c1 = 0
                case neg =>
                  go_wp2_with (first | (go_at_call 11; refine (m_num _ _).mono ?_; rintro e w9 ⟨rfl, rfl⟩))
                  go_ret
                  exact ⟨rfl, HT8.out.below⟩
                by_cases z2 : c2 = 0
                case neg =>
                  subst z1
                  go_wp2_with (first | (go_at_call 11; refine (m_num _ _).mono ?_; rintro e w9 ⟨rfl, rfl⟩))
                  go_ret
                  exact ⟨rfl, HT8.out.below⟩
                by_cases z3 : c3 = 0
                case neg =>
                  subst z1
                  subst z2
                  go_wp2_with (first | (go_at_call 11; refine (m_num _ _).mono ?_; rintro e w9 ⟨rfl, rfl⟩))
                  go_ret
                  exact ⟨rfl, HT8.out.below⟩
                subst z1
                subst z2
                subst z3
                have HSP : Hid (∀ k, qtyOf k XL + qtyOf k YL = qtyOf k TL ∧ cntOf k XL + cntOf k YL = cntOf k TL) := Lib.hid fun k => by
                  rw [HXL.out, HYL.out, HTL.out]
                  exact tots_split S.t.ino HC1.out.symm HC2.out.symm HC3.out.symm k
                have HLN := Lib.hid (tots_lens S.t.ino HC1.out.symm HC2.out.symm HC3.out.symm)
                rw [← HXL.out, ← HYL.out, ← HTL.out] at HLN
                have l1 : (XL.length : Int) ≤ (TL.length : Int) := by have := HLN.out.1; omega
                have l2 : (YL.length : Int) ≤ (TL.length : Int) := by have := HLN.out.2; omega
                have HAT : Hid (∀ t ∈ TL, t.qty = qtyOf t.mtr TL ∧ t.cnt = cntOf t.mtr TL) := Lib.hid fun t ht => by
                  rw [HTL.out] at ht ⊢
                  exact tots_at ht
                have HNX : Hid (∀ t ∈ XL, 0 ≤ t.qty ∧ 0 ≤ t.cnt) := Lib.hid fun t ht => by rw [HXL.out] at ht; exact tots_bound HT8.out.oa n p m ht
                have HNY : Hid (∀ t ∈ YL, 0 ≤ t.qty ∧ 0 ≤ t.cnt) := Lib.hid fun t ht => by rw [HYL.out] at ht; exact tots_bound HT8.out.oa n m q ht
                have HBX : Hid (∀ k, (0 ≤ qtyOf k XL ∧ qtyOf k XL ≤ 300000000000000) ∧ 0 ≤ cntOf k XL ∧ cntOf k XL ≤ 200) := Lib.hid fun k => by
                  rw [HXL.out]; have := of_bound HT8.out.oa n p m k; omega
                have HBY : Hid (∀ k, (0 ≤ qtyOf k YL ∧ qtyOf k YL ≤ 300000000000000) ∧ 0 ≤ cntOf k YL ∧ cntOf k YL ≤ 200) := Lib.hid fun k => by
                  rw [HYL.out]; have := of_bound HT8.out.oa n m q k; omega
                clear HXL HYL HTL HC1 HC2 HC3 HLN
                go_wp2_with (first | (go_at_call 11; refine (m_num _ _).mono ?_; rintro e w9 ⟨rfl, rfl⟩))
                go_loopw [32, 33, 34, 35, 36] (fun iv _ _ _ _ wr => ∃ i : Nat, i ≤ TL.length ∧ iv = .int .i64 i ∧ Hid (Below w8.heap.size w8 wr)) (fun iv _ _ _ _ _ => TL.length - (intOf iv).toNat)
                case atStart => exact ⟨0, Nat.zero_le _, rfl, Lib.hid (Below.refl _ _)⟩
                case round =>
                  obtain ⟨i, hi, rfl, HB⟩ := hrel
                  have i1 : (0 : Int) ≤ (i : Int) := by omega
                  by_cases hil : i < TL.length
                  · have i2 : (i : Int) < (TL.length : Int) := by omega
                    obtain ⟨t, ht⟩ : ∃ t, TL[i]? = some t := ⟨_, List.getElem?_eq_getElem hil⟩
                    have HTT := Lib.hid ht
                    clear ht
                    obtain ⟨wo, rfl⟩ : ∃ wo : World, wo = wr := ⟨_, rfl⟩
                    go_upto_block 14 with (fail)
                    go_cut [33, 34, 35] from 242 to 325 (fun qv nv _ wx => ∃ a b : Int, qv = .int .i64 a ∧ nv = .int .i64 b ∧ Hid (a = qtyOf t.mtr XL ∧ b = cntOf t.mtr XL ∧ Below w8.heap.size w8 wx))
                    case first => as_aux_lemma =>
                      go_wp2_with (fail)
                      go_loopw [33, 34, 35] (fun qv nv kv wr => ∃ (k : Nat) (a b : Int), k ≤ XL.length ∧ kv = .int .i64 k ∧ qv = .int .i64 a ∧ nv = .int .i64 b ∧ Hid (a = qtyOf t.mtr (XL.take k) ∧ b = cntOf t.mtr (XL.take k) ∧ Below w8.heap.size w8 wr)) (fun _ _ kv _ => XL.length - (intOf kv).toNat)
                      case atStart => exact ⟨0, 0, 0, Nat.zero_le _, rfl, rfl, rfl, Lib.hid ⟨by rw [List.take_zero]; rfl, by rw [List.take_zero]; rfl, HB.out⟩⟩
                      case round =>
                        obtain ⟨k, a, b, hk, rfl, rfl, rfl, HQ⟩ := hrel
                        by_cases hkl : k < XL.length
                        · obtain ⟨r, hr⟩ : ∃ r, XL[k]? = some r := ⟨_, List.getElem?_eq_getElem hkl⟩
                          obtain ⟨tg, toff, rfl, t0, -, -⟩ := rt_cells (HST8.out.below HQ.out.2.2) HTT.out
                          obtain ⟨rg, roff, rfl, r0, r1, r2⟩ := rt_cells (HSX8.out.below HQ.out.2.2) hr
                          have HDN : Hid (∀ n, Below w8.heap.size w8 (wr.drewN n)) := Lib.hid fun n => HQ.out.2.2.trans ((below_drewN' wr n).mono HQ.out.2.2.size)
                          have k1 : (0 : Int) ≤ (k : Int) := by omega
                          have k2 : (k : Int) < (XL.length : Int) := by omega
                          have b0 := HBX.out t.mtr
                          have b1 := of_le HNX.out t.mtr k
                          have b2 := of_le HNX.out t.mtr (k + 1)
                          have b3 := HNX.out r (List.mem_of_getElem? hr)
                          rw [take_snoc hr, qtyOf_snoc, cntOf_snoc, ← HQ.out.1, ← HQ.out.2.1] at b2
                          rw [← HQ.out.1, ← HQ.out.2.1] at b1
                          have HSN : Hid (qtyOf t.mtr (XL.take (k + 1)) = a + (if r.mtr = t.mtr then r.qty else 0) ∧ cntOf t.mtr (XL.take (k + 1)) = b + (if r.mtr = t.mtr then r.cnt else 0)) := Lib.hid (by rw [take_snoc hr, qtyOf_snoc, cntOf_snoc, ← HQ.out.1, ← HQ.out.2.1]; exact ⟨rfl, rfl⟩)
                          clear hr
                          by_cases he : r.mtr = t.mtr
                          · have HSE : Hid (a + r.qty = qtyOf t.mtr (XL.take (k + 1)) ∧ b + r.cnt = cntOf t.mtr (XL.take (k + 1))) := Lib.hid (by rw [HSN.out.1, HSN.out.2, if_pos he, if_pos he]; exact ⟨rfl, rfl⟩)
                            rw [if_pos he, if_pos he] at b2
                            rw [he] at r0
                            clear he
                            go_wp2_with (fail)
                            go_quiet (fail)
                            go_wp2_with (fail)
                            go_roundw
                            case rel => exact ⟨k + 1, a + r.qty, b + r.cnt, by omega, by go_num, rfl, rfl, Lib.hid ⟨HSE.out.1, HSE.out.2, HDN.out _⟩⟩
                            case measure => simp [intOf]; omega
                          · have HSE : Hid (a = qtyOf t.mtr (XL.take (k + 1)) ∧ b = cntOf t.mtr (XL.take (k + 1))) := Lib.hid (by rw [HSN.out.1, HSN.out.2, if_neg he, if_neg he]; omega)
                            have hne : (r.mtr.toList == t.mtr.toList) = false := beq_eq_false_iff_ne.2 (fun e => he (str_inj e))
                            clear he b2
                            go_wp2_with (fail)
                            go_quiet (fail)
                            go_wp2_with (fail)
                            go_roundw
                            case rel => exact ⟨k + 1, a, b, by omega, by go_num, rfl, rfl, Lib.hid ⟨HSE.out.1, HSE.out.2, HDN.out _⟩⟩
                            case measure => simp [intOf]; omega
                        · have k2 : ¬ (k : Int) < (XL.length : Int) := by omega
                          have hke : k = XL.length := by omega
                          subst hke
                          rw [List.take_length] at HQ
                          go_wp2_with (fail)
                          go_meet
                          exact ⟨a, b, rfl, rfl, HQ⟩
                    case rest =>
                      obtain ⟨a0, b0, rfl, rfl, HA⟩ := hcut
                      go_upto_block 16 with (fail)
                      go_cut [33, 34, 36] from 242 to 325 (fun qv nv _ wx => ∃ a b : Int, qv = .int .i64 a ∧ nv = .int .i64 b ∧ Hid (a = qtyOf t.mtr XL + qtyOf t.mtr YL ∧ b = cntOf t.mtr XL + cntOf t.mtr YL ∧ Below w8.heap.size w8 wx))
                      case first => as_aux_lemma =>
                        go_wp2_with (fail)
                        go_loopw [33, 34, 36] (fun qv nv kv wr => ∃ (k : Nat) (a b : Int), k ≤ YL.length ∧ kv = .int .i64 k ∧ qv = .int .i64 a ∧ nv = .int .i64 b ∧ Hid (a = a0 + qtyOf t.mtr (YL.take k) ∧ b = b0 + cntOf t.mtr (YL.take k) ∧ Below w8.heap.size w8 wr)) (fun _ _ kv _ => YL.length - (intOf kv).toNat)
                        case atStart => exact ⟨0, a0, b0, Nat.zero_le _, rfl, rfl, rfl, Lib.hid ⟨by rw [List.take_zero]; show a0 = a0 + 0; omega, by rw [List.take_zero]; show b0 = b0 + 0; omega, HA.out.2.2⟩⟩
                        case round =>
                          obtain ⟨k, a, b, hk, rfl, rfl, rfl, HQ⟩ := hrel
                          by_cases hkl : k < YL.length
                          · obtain ⟨r, hr⟩ : ∃ r, YL[k]? = some r := ⟨_, List.getElem?_eq_getElem hkl⟩
                            obtain ⟨tg, toff, rfl, t0, -, -⟩ := rt_cells (HST8.out.below HQ.out.2.2) HTT.out
                            obtain ⟨rg, roff, rfl, r0, r1, r2⟩ := rt_cells (HSY8.out.below HQ.out.2.2) hr
                            have HDN : Hid (∀ n, Below w8.heap.size w8 (wr.drewN n)) := Lib.hid fun n => HQ.out.2.2.trans ((below_drewN' wr n).mono HQ.out.2.2.size)
                            have k1 : (0 : Int) ≤ (k : Int) := by omega
                            have k2 : (k : Int) < (YL.length : Int) := by omega
                            have q0 := HBY.out t.mtr
                            have b1 := of_le HNY.out t.mtr k
                            have b2 := of_le HNY.out t.mtr (k + 1)
                            have b3 := HNY.out r (List.mem_of_getElem? hr)
                            rw [take_snoc hr, qtyOf_snoc, cntOf_snoc] at b2
                            have a01 := HBX.out t.mtr
                            rw [← HA.out.1, ← HA.out.2.1] at a01
                            have e1 := HQ.out.1
                            have e2 := HQ.out.2.1
                            have p1 : 0 ≤ a ∧ a ≤ 600000000000000 := by omega
                            have p2 : 0 ≤ b ∧ b ≤ 400 := by omega
                            have HSN : Hid (a0 + qtyOf t.mtr (YL.take (k + 1)) = a + (if r.mtr = t.mtr then r.qty else 0) ∧ b0 + cntOf t.mtr (YL.take (k + 1)) = b + (if r.mtr = t.mtr then r.cnt else 0)) := Lib.hid (by rw [take_snoc hr, qtyOf_snoc, cntOf_snoc]; omega)
                            clear hr
                            by_cases he : r.mtr = t.mtr
                            · have HSE : Hid (a + r.qty = a0 + qtyOf t.mtr (YL.take (k + 1)) ∧ b + r.cnt = b0 + cntOf t.mtr (YL.take (k + 1))) := Lib.hid (by rw [HSN.out.1, HSN.out.2, if_pos he, if_pos he]; exact ⟨rfl, rfl⟩)
                              rw [if_pos he, if_pos he] at b2
                              have p3 : a + r.qty ≤ 600000000000000 := by omega
                              have p4 : b + r.cnt ≤ 400 := by omega
                              clear b1 b2 e1 e2 q0
                              rw [he] at r0
                              clear he
                              go_wp2_with (fail)
                              go_quiet (fail)
                              go_wp2_with (fail)
                              go_roundw
                              case rel => exact ⟨k + 1, a + r.qty, b + r.cnt, by omega, by go_num, rfl, rfl, Lib.hid ⟨HSE.out.1, HSE.out.2, HDN.out _⟩⟩
                              case measure => simp [intOf]; omega
                            · have HSE : Hid (a = a0 + qtyOf t.mtr (YL.take (k + 1)) ∧ b = b0 + cntOf t.mtr (YL.take (k + 1))) := Lib.hid (by rw [HSN.out.1, HSN.out.2, if_neg he, if_neg he]; omega)
                              have hne : (r.mtr.toList == t.mtr.toList) = false := beq_eq_false_iff_ne.2 (fun e => he (str_inj e))
                              clear he b1 b2 e1 e2 q0
                              go_wp2_with (fail)
                              go_quiet (fail)
                              go_wp2_with (fail)
                              go_roundw
                              case rel => exact ⟨k + 1, a, b, by omega, by go_num, rfl, rfl, Lib.hid ⟨HSE.out.1, HSE.out.2, HDN.out _⟩⟩
                              case measure => simp [intOf]; omega
                          · have k2 : ¬ (k : Int) < (YL.length : Int) := by omega
                            have hke : k = YL.length := by omega
                            subst hke
                            rw [List.take_length] at HQ
                            go_wp2_with (fail)
                            go_meet
                            exact ⟨a, b, rfl, rfl, Lib.hid ⟨by rw [HQ.out.1, HA.out.1], by rw [HQ.out.2.1, HA.out.2.1], HQ.out.2.2⟩⟩
                      case rest =>
                        obtain ⟨a, b, rfl, rfl, HZ⟩ := hcut
                        have ht1 := HAT.out t (List.mem_of_getElem? HTT.out)
                        obtain rfl : a = t.qty := by rw [HZ.out.1, (HSP.out t.mtr).1, ht1.1]
                        obtain rfl : b = t.cnt := by rw [HZ.out.2.1, (HSP.out t.mtr).2, ht1.2]
                        obtain ⟨tg, toff, rfl, -, t1, t2⟩ := rt_cells (HST8.out.below HZ.out.2.2) HTT.out
                        have HBN := Lib.hid HZ.out.2.2
                        clear ht1
                        go_wp2_with (fail)
                        go_roundw
                        case rel => exact ⟨i + 1, by omega, by go_num, HBN⟩
                        case measure => simp [intOf]; omega
                  · have i2 : ¬ (i : Int) < (TL.length : Int) := by omega
                    go_wp2_with (fail)
                    go_ret
                    exact ⟨rfl, HT8.out.below.trans (HB.out.mono HT8.out.below.size)⟩
end Go.Proofs.YtkbdofbjfcajbaaGreat
