/- The walks of exref's NumberForm and Atoi, exref7's Int. -/
import Derived.Test.YthjcolehccbihaaGreatDoorz34
import Derived.Test.YthjcolehccbihaaGreatDoorz38
set_option linter.unusedSimpArgs false
set_option linter.unusedVariables false
set_option linter.unusedSectionVars false
namespace Go.Proofs.YthjcolehccbihaaGreatDoor
open Go.RowKit Go.Shelf
theorem raw_size (s : ByteArray) : (raw s).length = s.size := rfl
theorem raw_tail (s : ByteArray) : raw (s.extract 1 s.size) = (raw s).tail := by
  unfold raw
  rw [ByteArray.data_extract]
  simp
  refine List.take_of_length_le ?_
  rw [List.length_tail, Array.length_toList]
  exact Nat.le_refl _
theorem raw_get {s : ByteArray} {i : Nat} {c : UInt8} (h : (raw s)[i]? = some c) (hi : i < s.size) : s[i] = c := by
  have h2 : (raw s)[i]? = some s[i] := by
    have : i < s.data.toList.length := by rw [Array.length_toList]; exact hi
    show s.data.toList[i]? = _
    rw [List.getElem?_eq_getElem this]
    rfl
  rw [h] at h2
  exact (Option.some.inj h2).symm
/-- What NumberForm refuses at once. -/
def dBad (T : List UInt8) : Bool := decide (dBody T = []) || (decide (1 < (dBody T).length) && now (dBody T) == 48) || (decide (dBody T = [48]) && decide (1 < T.length))
theorem dForm_bad (T : List UInt8) : dForm T = (!dBad T && (dBody T).all isDigit) := rfl
section
variable {w : World}
set_option maxRecDepth 100000 in
theorem k_form (s : ByteArray) (hs : s.size ≤ 1000000) : Calls Tryz.prog 54 #[.string s] w fun e w' => e = .returned (.bool (dForm (raw s))) ∧ w = w' := by
  have hsI : (s.size : Int) ≤ 1000000 := by omega
  go_enter Tryz.func54, Tryz.ntmps54
  go_upto_region 2 with (fail)
  go_cut [13] from 6 (fun c wx => c = .bool (decide (1 < s.size) && now (raw s) == 45) ∧ wx = w)
  case first =>
    by_cases h1 : 1 < s.size
    · have k1 : (1 : Int) < (s.size : Int) := by omega
      have k2 : (0 : Int) < (s.size : Int) := by omega
      have k3 : 0 < s.size := by omega
      obtain ⟨c, hc⟩ : ∃ c, (raw s)[0]? = some c := ⟨_, List.getElem?_eq_getElem (by rw [raw_size]; omega)⟩
      have hg := raw_get hc k3
      have hn : now (raw s) = c := by cases hr : raw s with
        | nil => rw [hr] at hc; simp at hc
        | cons x l => rw [hr] at hc; simpa [now] using hc
      have HT : Hid ((decide (1 < s.size) && now (raw s) == 45) = (c == 45)) := Lib.hid (by rw [hn, decide_eq_true h1]; rfl)
      by_cases h45 : c = 45
      · subst h45
        clear h1 hc hn
        go_wp2_with (fail)
        go_meet
        exact ⟨by rw [HT.out]; rfl, rfl⟩
      · have n1 : ¬ c.toNat = 45 := fun e => h45 (UInt8.toNat_inj.1 e)
        have n2 : (c.toNat == 45) = false := by simpa using n1
        have n3 : ((c.toNat : Int) == 45) = false := by simp; omega
        have HF : Hid ((c == 45) = false) := Lib.hid (by simpa using h45)
        clear h1 hc hn h45
        go_wp2_with (fail)
        go_meet
        exact ⟨by rw [HT.out, HF.out], rfl⟩
    · have k1 : ¬ (1 : Int) < (s.size : Int) := by omega
      have HT : Hid ((decide (1 < s.size) && now (raw s) == 45) = false) := Lib.hid (by rw [decide_eq_false h1]; rfl)
      clear h1
      go_wp2_with (fail)
      go_meet
      exact ⟨by rw [HT.out], rfl⟩
  case rest =>
    obtain ⟨rfl, rfl⟩ := hcut
    go_upto_if 13 with (fail)
    go_cut [3] from 6 (fun dv wx => ∃ d : ByteArray, dv = .string d ∧ wx = wc ∧ Hid (raw d = dBody (raw s) ∧ d.size ≤ 1000000))
    case first =>
      cases hb : (decide (1 < s.size) && now (raw s) == 45) with
      | true =>
        have h1 : 1 < s.size ∧ now (raw s) = 45 := by simpa using hb
        have k1 : (1 : Int) ≤ (s.size : Int) := by omega
        have HE : Hid (raw (s.extract 1 s.size) = dBody (raw s) ∧ (s.extract 1 s.size).size ≤ 1000000) := Lib.hid (by
          refine ⟨?_, ?_⟩
          · rw [raw_tail]; unfold dBody; rw [if_pos ⟨by rw [raw_size]; exact h1.1, h1.2⟩]
          · rw [← raw_size, raw_tail, List.length_tail, raw_size]; omega)
        clear hb h1
        go_wp2_with (fail)
        go_meet
        exact ⟨_, rfl, rfl, HE⟩
      | false =>
        have HE : Hid (raw s = dBody (raw s) ∧ s.size ≤ 1000000) := Lib.hid (And.intro (by
          unfold dBody
          rw [if_neg]
          rintro ⟨h1, h2⟩
          rw [raw_size] at h1
          rw [h2, decide_eq_true h1] at hb
          cases hb) hs)
        clear hb
        go_wp2_with (fail)
        go_meet
        exact ⟨_, rfl, rfl, HE⟩
    case rest =>
      obtain ⟨d, rfl, rfl, HD⟩ := hcut
      have hdI : (d.size : Int) ≤ 1000000 := by have := HD.out.2; omega
      go_upto_region 4 with (fail)
      go_cut [36] from 16 (fun c wx => c = .bool (dBad (raw s)) ∧ wx = wc)
      case first =>
        have hsz : d.size = (dBody (raw s)).length := by rw [← HD.out.1, raw_size]
        have hlT : (raw s).length = s.size := rfl
        cases hB : dBody (raw s) with
        | nil =>
          have hd0 : d = ⟨#[]⟩ := by rw [← str_of d]; exact congrArg str (HD.out.1.trans hB)
          subst hd0
          have HT : Hid (dBad (raw s) = true) := Lib.hid (by unfold dBad; rw [hB]; rfl)
          clear hsz hlT hB
          go_wp2_with (fail)
          go_meet
          exact ⟨by rw [HT.out], rfl⟩
        | cons c l =>
          have hrd : raw d = c :: l := HD.out.1.trans hB
          have hs0 : ¬ d.toList = [] := by rw [Lib.toList_data, show d.data.toList = c :: l from hrd]; simp
          have hs1 : d.toList.isEmpty = false := by rw [Lib.toList_data, show d.data.toList = c :: l from hrd]; rfl
          have k3 : 0 < d.size := by rw [hsz, hB]; simp
          have k3I : (0 : Int) < (d.size : Int) := by omega
          have hg : d[0] = c := raw_get (by rw [hrd]; rfl) k3
          have HSZ := Lib.hid hsz
          have hbad : dBad (raw s) = ((decide (1 < d.size) && c == 48) || (decide (c :: l = [48]) && decide (1 < s.size))) := by
            unfold dBad
            rw [← hsz, hB, raw_size]
            simp [now]
          have HBD := Lib.hid hbad
          have HRD := Lib.hid hrd
          by_cases hl : 1 < d.size
          · have l1 : (1 : Int) < (d.size : Int) := by omega
            have hne : ¬ c :: l = [48] := fun e => by rw [hsz, hB, e] at hl; simp at hl
            by_cases hc : c = 48
            · subst hc
              have HT : Hid (dBad (raw s) = true) := Lib.hid (by rw [hbad, decide_eq_true hl]; rfl)
              clear hsz hlT hB hrd hbad hl hne
              go_wp2_with (fail)
              go_meet
              exact ⟨by rw [HT.out], rfl⟩
            · have n1 : ¬ c.toNat = 48 := fun e => hc (UInt8.toNat_inj.1 e)
              have n2 : (c.toNat == 48) = false := by simpa using n1
              have n3 : ((c.toNat : Int) == 48) = false := by simp; omega
              have hn2 : ¬ d.toList = [48] := by rw [Lib.toList_data, show d.data.toList = c :: l from hrd]; exact hne
              have hn3 : (d.toList == [48]) = false := by simpa using hn2
              have HT : Hid (dBad (raw s) = false) := Lib.hid (by rw [hbad, decide_eq_false hne, decide_eq_true hl]; simp [hc])
              clear hsz hlT hB hrd hbad hl hne hc
              go_wp2_with (fail)
              go_meet
              exact ⟨by rw [HT.out], rfl⟩
          · have l1 : ¬ (1 : Int) < (d.size : Int) := by omega
            by_cases hc : c :: l = [48]
            · have hd1 : d.toList = [48] := by rw [Lib.toList_data, show d.data.toList = c :: l from hrd]; exact hc
              by_cases h1 : 1 < s.size
              · have m1 : (1 : Int) < (s.size : Int) := by omega
                have HT : Hid (dBad (raw s) = true) := Lib.hid (by rw [hbad, decide_eq_true hc, decide_eq_true h1]; simp)
                clear hsz hlT hB hrd hbad hl hc h1
                go_wp2_with (fail)
                go_meet
                exact ⟨by rw [HT.out], rfl⟩
              · have m1 : ¬ (1 : Int) < (s.size : Int) := by omega
                have HT : Hid (dBad (raw s) = false) := Lib.hid (by rw [hbad, decide_eq_false h1, decide_eq_false hl]; simp)
                clear hsz hlT hB hrd hbad hl hc h1
                go_wp2_with (fail)
                go_meet
                exact ⟨by rw [HT.out], rfl⟩
            · have hn2 : ¬ d.toList = [48] := by rw [Lib.toList_data, show d.data.toList = c :: l from hrd]; exact hc
              have hn3 : (d.toList == [48]) = false := by simpa using hn2
              have HT : Hid (dBad (raw s) = false) := Lib.hid (by rw [hbad, decide_eq_false hc, decide_eq_false hl]; simp)
              clear hsz hlT hB hrd hbad hl hc
              go_wp2_with (fail)
              go_meet
              exact ⟨by rw [HT.out], rfl⟩
      case rest =>
        obtain ⟨rfl, rfl⟩ := hcut
        cases hb : dBad (raw s) with
        | true =>
          have HE : Hid (dForm (raw s) = false) := Lib.hid (by rw [dForm_bad, hb]; rfl)
          clear hb
          go_wp2_with (fail)
          go_ret
          exact ⟨by rw [HE.out]; rfl, rfl⟩
        | false =>
          have HE : Hid (dForm (raw s) = (raw d).all isDigit) := Lib.hid (by rw [dForm_bad, hb, HD.out.1]; rfl)
          clear hb
          go_wp2_with (fail)
          go_loopw [4] (fun iv wr => ∃ i : Nat, wr = wc ∧ iv = .int .i64 (i : Int) ∧ i ≤ d.size ∧ Hid (((raw d).take i).all isDigit = true)) (fun iv _ => d.size - (intOf iv).toNat)
          case atStart => exact ⟨0, rfl, rfl, Nat.zero_le _, Lib.hid rfl⟩
          case round =>
            obtain ⟨i, rfl, rfl, hi, HA⟩ := hrel
            by_cases hlt : i < d.size
            · have k1 : (i : Int) < (d.size : Int) := by omega
              have k0 : (0 : Int) ≤ (i : Int) := by omega
              obtain ⟨c, hc⟩ : ∃ c, (raw d)[i]? = some c := ⟨_, List.getElem?_eq_getElem (by rw [raw_size]; exact hlt)⟩
              have hg := raw_get hc hlt
              have hdr := List.drop_eq_getElem_cons (l := raw d) (i := i) (by rw [raw_size]; exact hlt)
              have HC := Lib.hid hc
              have hod := dig_iff c
              by_cases hdg : isDigit c = true
              · have hd2 := dg_val hdg
                have n1 : ¬ c.toNat < 48 := by omega
                have n2 : ¬ 57 < c.toNat := by omega
                have n3 : ¬ (c.toNat : Int) < 48 := by omega
                have n4 : ¬ (57 : Int) < (c.toNat : Int) := by omega
                have HA2 : Hid (((raw d).take (i + 1)).all isDigit = true) := Lib.hid (by rw [List.take_add_one, hc, List.all_append, HA.out]; simp [hdg])
                have hi2 : i + 1 ≤ d.size := hlt
                clear hc hdr hod hdg hd2
                go_wp2_with (fail)
                go_roundw
                case rel => exact ⟨i + 1, trivial, by go_num, hi2, HA2⟩
                case measure => simp [intOf]; omega
              · have hF : (raw d).all isDigit = false := by
                  cases h : (raw d).all isDigit with
                  | false => rfl
                  | true => exact absurd (List.all_eq_true.1 h c (List.mem_of_getElem? hc)) hdg
                have HF : Hid (dForm (raw s) = false) := Lib.hid (by rw [HE.out, hF])
                have hcc : c.toNat < 48 ∨ 57 < c.toNat := by
                  have : isDigit c = false := by simpa using hdg
                  rw [this] at hod
                  unfold oddP at hod
                  simp at hod
                  omega
                rcases hcc with n1 | n1
                · have n3 : (c.toNat : Int) < 48 := by omega
                  clear hc hdr hod hdg hF
                  go_wp2_with (fail)
                  go_ret
                  exact ⟨by rw [HF.out]; rfl, rfl⟩
                · have n2 : ¬ c.toNat < 48 := by omega
                  have n3 : ¬ (c.toNat : Int) < 48 := by omega
                  have n4 : (57 : Int) < (c.toNat : Int) := by omega
                  clear hc hdr hod hdg hF
                  go_wp2_with (fail)
                  go_ret
                  exact ⟨by rw [HF.out]; rfl, rfl⟩
            · have k1 : ¬ (i : Int) < (d.size : Int) := by omega
              have HF : Hid (dForm (raw s) = true) := Lib.hid (by
                have h2 := HA.out
                rw [List.take_of_length_le (by rw [raw_size]; omega)] at h2
                rw [HE.out, h2])
              clear hlt
              go_wp2_with (fail)
              go_ret
              exact ⟨by rw [HF.out]; rfl, rfl⟩
/-- What Atoi answers. -/
def atoiRes (T : List UInt8) : Int × Bool := match dAtoi T with
  | none => (0, false)
  | some n => (n, true)
set_option maxRecDepth 100000 in
set_option maxHeartbeats 4000000 in
theorem k_atoi (s : ByteArray) (hs : s.size ≤ 1000000) (hf : dForm (raw s) = true) : Calls Tryz.prog 55 #[.string s] w fun e w' => e = .returned (.tuple #[.int .i64 (atoiRes (raw s)).1, .bool (atoiRes (raw s)).2]) ∧ w = w' := by
  have HF := Lib.hid (k_form (w := w) s hs)
  rw [hf] at HF
  have HFF := Lib.hid hf
  have hsI : (s.size : Int) ≤ 1000000 := by omega
  obtain ⟨c0, l0, hcl⟩ : ∃ c l, raw s = c :: l := by
    cases h : raw s with
    | nil => rw [h] at hf; exact absurd hf (by decide)
    | cons c l => exact ⟨c, l, rfl⟩
  have k3 : 0 < s.size := by rw [← raw_size, hcl]; simp
  have k3I : (0 : Int) < (s.size : Int) := by omega
  have k1I : (1 : Int) ≤ (s.size : Int) := by omega
  have hg : s[0] = c0 := raw_get (by rw [hcl]; rfl) k3
  have hnow : now (raw s) = c0 := by rw [hcl]; rfl
  have HNOW := Lib.hid hnow
  have HS := Lib.hid hs
  clear hf hcl hnow hs
  go_enter Tryz.func55, Tryz.ntmps55
  go_wp2_with (fail)
  refine HF.out.mono ?_
  rintro e w2 ⟨rfl, rfl⟩
  go_upto_region 4 with (fail)
  go_cut [5] from 14 (fun nv wx => ∃ ng : Bool, nv = .bool ng ∧ Hid (ng = decide (c0 = 45)) ∧ wx = w)
  case first =>
    by_cases hc : c0 = 45
    · subst hc
      go_wp2_with (fail)
      go_meet
      exact ⟨true, rfl, Lib.hid rfl, rfl⟩
    · have n1 : ¬ c0.toNat = 45 := fun e => hc (UInt8.toNat_inj.1 e)
      have n2 : (c0.toNat == 45) = false := by simpa using n1
      have n3 : ((c0.toNat : Int) == 45) = false := by simp; omega
      have HC : Hid (false = decide (c0 = 45)) := Lib.hid (decide_eq_false hc).symm
      clear hc
      go_wp2_with (fail)
      go_meet
      exact ⟨false, rfl, HC, rfl⟩
  case rest =>
    obtain ⟨ng, rfl, HNG, rfl⟩ := hcut
    go_upto_if 18 with (fail)
    go_cut [6] from 18 (fun dv wx => ∃ d : ByteArray, dv = .string d ∧ wx = wc ∧ Hid (raw d = dBody (raw s) ∧ d.size ≤ 1000000))
    case first =>
      cases ng with
      | true =>
        have hc : c0 = 45 := by have := HNG.out; simpa using this.symm
        have HE : Hid (raw (s.extract 1 s.size) = dBody (raw s) ∧ (s.extract 1 s.size).size ≤ 1000000) := Lib.hid (by
          have hlen : 1 < (raw s).length := by
            refine Nat.lt_of_not_le fun hle => ?_
            have h1 : raw s = [45] := by
              have hn := HNOW.out
              rw [hc] at hn
              have hl := raw_size s
              cases h : raw s with
              | nil => rw [h] at hl; simp at hl; omega
              | cons x l =>
                rw [h] at hn hle
                have hx : x = 45 := hn
                have hl0 : l = [] := List.eq_nil_of_length_eq_zero (by simp at hle; simp [hle])
                rw [hx, hl0]
            have := HFF.out
            rw [h1] at this
            exact absurd this (by decide)
          refine ⟨?_, ?_⟩
          · rw [raw_tail]; unfold dBody; rw [if_pos ⟨hlen, by rw [HNOW.out, hc]⟩]
          · have := HS.out; rw [← raw_size, raw_tail, List.length_tail, raw_size]; omega)
        clear hc
        go_wp2_with (fail)
        go_meet
        exact ⟨_, rfl, rfl, HE⟩
      | false =>
        have hc : ¬ c0 = 45 := by have := HNG.out; simpa using this.symm
        have HE : Hid (raw s = dBody (raw s) ∧ s.size ≤ 1000000) := Lib.hid (And.intro (by
          unfold dBody
          rw [if_neg]
          rintro ⟨h1, h2⟩
          rw [HNOW.out] at h2
          exact hc h2) HS.out)
        clear hc
        go_wp2_with (fail)
        go_meet
        exact ⟨_, rfl, rfl, HE⟩
    case rest =>
      obtain ⟨d, rfl, rfl, HD⟩ := hcut
      have hdI : (d.size : Int) ≤ 1000000 := by have := HD.out.2; omega
      have HDG : Hid (∀ x ∈ raw d, isDigit x = true) := Lib.hid (by
        rw [HD.out.1]
        have := HFF.out
        rw [dForm_bad] at this
        simp only [Bool.and_eq_true] at this
        exact List.all_eq_true.1 this.2)
      have HDL : Hid (d.size = (dBody (raw s)).length) := Lib.hid (by rw [← HD.out.1, raw_size])
      by_cases h19 : 19 < d.size
      · have k19 : (19 : Int) < (d.size : Int) := by omega
        have HR : Hid (atoiRes (raw s) = (0, false)) := Lib.hid (by unfold atoiRes dAtoi; rw [if_pos (by rw [← HDL.out]; exact h19)])
        clear h19
        go_wp2_with (fail)
        exact bodyPost_ret (results_tmp2 rfl _ _ _) rfl ⟨by rw [HR.out]; rfl, rfl⟩
      · have k19 : ¬ (19 : Int) < (d.size : Int) := by omega
        obtain ⟨RES, hres⟩ : ∃ r, r = dRun 0 (raw d) := ⟨_, rfl⟩
        have HRES : Hid (dAtoi (raw s) = RES.bind fun n => if c0 = 45 then some n else if n = -9223372036854775808 then none else some (-n)) := Lib.hid (by
          unfold dAtoi
          rw [if_neg (by rw [← HDL.out]; exact h19), hres, HD.out.1, HNOW.out])
        have HR0 : Hid (dRun 0 ((raw d).drop 0) = RES) := Lib.hid (by rw [hres]; rfl)
        clear h19 hres
        go_wp2_with (fail)
        go_loopw [7, 8, 9] (fun nv iv _ wr => ∃ (i : Nat) (n : Int), wr = wc ∧ iv = .int .i64 (i : Int) ∧ nv = .int .i64 n ∧ i ≤ d.size ∧ Hid (dRun n ((raw d).drop i) = RES) ∧ Hid (-9223372036854775808 ≤ n ∧ n ≤ 0)) (fun _ iv _ _ => d.size - (intOf iv).toNat)
        case atStart => exact ⟨0, 0, rfl, rfl, rfl, Nat.zero_le _, HR0, Lib.hid (by decide)⟩
        case round =>
          obtain ⟨i, n, rfl, rfl, rfl, hi, HA, HB⟩ := hrel
          by_cases hlt : i < d.size
          · have k1 : (i : Int) < (d.size : Int) := by omega
            have k0 : (0 : Int) ≤ (i : Int) := by omega
            obtain ⟨c, hc⟩ : ∃ c, (raw d)[i]? = some c := ⟨_, List.getElem?_eq_getElem (by rw [raw_size]; exact hlt)⟩
            have hgd := raw_get hc hlt
            have hcd := dg_val (HDG.out c (List.mem_of_getElem? hc))
            have x0 : (0 : Int) ≤ (c.toNat : Int) - 48 := by omega
            have x9 : (c.toNat : Int) - 48 ≤ 9 := by omega
            have x1 : (48 : Int) ≤ (c.toNat : Int) := by omega
            have x2 : (c.toNat : Int) ≤ 57 := by omega
            have hdr : (raw d).drop i = c :: (raw d).drop (i + 1) := by
              have hh := List.drop_eq_getElem_cons (l := raw d) (i := i) (by rw [raw_size]; exact hlt)
              rw [hh]
              have h2 := List.getElem?_eq_getElem (l := raw d) (i := i) (by rw [raw_size]; exact hlt)
              rw [hc] at h2
              rw [Option.some.inj h2]
            have hstep := HA.out
            rw [hdr] at hstep
            unfold dRun at hstep
            have HDR := Lib.hid hdr
            have HLT := Lib.hid hlt
            by_cases hq : n < (-9223372036854775808 + dv c).tdiv 10
            · have hq1 : n < (-9223372036854775808 + ((c.toNat : Int) - 48)).tdiv 10 := hq
              rw [if_pos hq] at hstep
              have HR : Hid (atoiRes (raw s) = (0, false)) := Lib.hid (by unfold atoiRes; rw [HRES.out, ← hstep]; rfl)
              clear hc hcd hdr hq hstep
              go_wp2_with (fail)
              exact bodyPost_ret (results_tmp2 rfl _ _ _) rfl ⟨by rw [HR.out]; rfl, rfl⟩
            · have hq1 : ¬ n < (-9223372036854775808 + ((c.toNat : Int) - 48)).tdiv 10 := hq
              rw [if_neg hq] at hstep
              have HST : Hid (dRun (10 * n - dv c) ((raw d).drop (i + 1)) = RES) := Lib.hid hstep
              have HBN : Hid (-9223372036854775808 ≤ 10 * n ∧ 10 * n ≤ 0 ∧ -9223372036854775808 ≤ 10 * n - dv c ∧ 10 * n - dv c ≤ 0) := Lib.hid (by
                have hb := HB.out
                have e : (-9223372036854775808 + dv c).tdiv 10 = -(((9223372036854775808 - (c.toNat - 48)) / 10 : Nat) : Int) := by
                  have e1 : -9223372036854775808 + dv c = -((9223372036854775808 - (c.toNat - 48) : Nat) : Int) := by unfold dv; omega
                  rw [e1, Int.neg_tdiv]; rfl
                rw [e] at hq
                have e2 : dv c = ((c.toNat - 48 : Nat) : Int) := by unfold dv; omega
                rw [e2]
                omega)
              clear hc hcd hdr hq hstep
              go_wp2_with (fail)
              go_roundw
              case rel => exact ⟨i + 1, 10 * n - dv c, trivial, by go_num, by rw [IntWalk.wrap64_in (10 * n) (by have := HBN.out; omega)]; unfold dv; rw [IntWalk.wrap64_in _ (by have := HBN.out; unfold dv at this; omega)], HLT.out, HST, Lib.hid ⟨HBN.out.2.2.1, HBN.out.2.2.2⟩⟩
              case measure => have := HLT.out; simp [intOf]; omega
          · have k1 : ¬ (i : Int) < (d.size : Int) := by omega
            have hn : RES = some n := by
              have := HA.out
              rw [List.drop_eq_nil_of_le (by rw [raw_size]; omega)] at this
              rw [← this]
              rfl
            have HN := Lib.hid hn
            clear hn hlt
            cases ng with
            | true =>
              have hc : c0 = 45 := by have := HNG.out; simpa using this.symm
              have HR : Hid (atoiRes (raw s) = (n, true)) := Lib.hid (by unfold atoiRes; rw [HRES.out, HN.out]; simp [hc])
              clear hc
              go_wp2_with (fail)
              exact bodyPost_ret (results_tmp2 rfl _ _ _) rfl ⟨by rw [HR.out]; rfl, rfl⟩
            | false =>
              have hc : ¬ c0 = 45 := by have := HNG.out; simpa using this.symm
              by_cases hmin : n = -9223372036854775808
              · have HR : Hid (atoiRes (raw s) = (0, false)) := Lib.hid (by unfold atoiRes; rw [HRES.out, HN.out]; simp [hc, hmin])
                clear hc
                subst hmin
                go_wp2_with (fail)
                exact bodyPost_ret (results_tmp2 rfl _ _ _) rfl ⟨by rw [HR.out]; rfl, rfl⟩
              · have HR : Hid (atoiRes (raw s) = (-n, true)) := Lib.hid (by unfold atoiRes; rw [HRES.out, HN.out]; simp [hc, hmin])
                have hm2 : (n == -9223372036854775808) = false := by simpa using hmin
                have hb := HB.out
                have hw : wrap64 (-n) = -n := IntWalk.wrap64_in _ (by omega)
                have hb1 : -9223372036854775808 < n := by omega
                have hb2 : n ≤ 0 := hb.2
                clear hb hc
                go_wp2_with (fail)
                exact bodyPost_ret (results_tmp2 rfl _ _ _) rfl ⟨by rw [HR.out]; simp [hw], rfl⟩
def KBox (w : World) (bx : Nat) (r : RawV) : Prop := IsBlk w bx #[.int .i64 r.k, .string r.t, .slice r.la r.ll r.lc, .slice r.na r.nl r.nc] 40
theorem kbox_new (w : World) (r : RawV) : ∃ w1, w.alloc (.cells #[.int .i64 r.k, .string r.t, .slice r.la r.ll r.lc, .slice r.na r.nl r.nc] 40) = w1 ∧ Hid (Below w.heap.size w w1 ∧ KBox w1 w.heap.size r) := ⟨_, rfl, Lib.hid ⟨(Below.refl _ _).alloc (Nat.le_refl _) _, blk_new w _⟩⟩
theorem kbox_cells {w : World} {bx : Nat} {r : RawV} (h : KBox w bx r) : (w.cell? ⟨bx, 0, none⟩ = some (.int .i64 r.k) ∧ w.cell? ⟨bx, 1, none⟩ = some (.string r.t) ∧ w.cell? ⟨bx, 2, none⟩ = some (.slice r.la r.ll r.lc) ∧ w.cell? ⟨bx, 3, none⟩ = some (.slice r.na r.nl r.nc)) ∧
    (w.frozen? ⟨bx, 0, none⟩ = false ∧ w.frozen? ⟨bx, 1, none⟩ = false ∧ w.frozen? ⟨bx, 2, none⟩ = false ∧ w.frozen? ⟨bx, 3, none⟩ = false) :=
  ⟨⟨blk_cell h 0, blk_cell h 1, blk_cell h 2, blk_cell h 3⟩, blk_free h 0, blk_free h 1, blk_free h 2, blk_free h 3⟩
theorem kbox_keeps {S : Nat → Prop} {w w' : World} {bx : Nat} {r : RawV} (h : KBox w bx r) (hk : Keeps S w w') (hn : ¬ S bx) : KBox w' bx r := hk.obj h hn
theorem kbox_below {w w' : World} {bx : Nat} {r : RawV} (h : KBox w bx r) (hb : Below w.heap.size w w') : KBox w' bx r := (hb.block _ (lt_of_block h)).trans h
theorem kbox_set {w : World} {bx : Nat} {u : RawV} (h : KBox w bx u) (r : RawV) : KBox ((((w.setCell ⟨bx, 0, none⟩ (.int .i64 r.k)).setCell ⟨bx, 1, none⟩ (.string r.t)).setCell ⟨bx, 2, none⟩ (.slice r.la r.ll r.lc)).setCell ⟨bx, 3, none⟩ (.slice r.na r.nl r.nc)) bx r :=
  blk_set (blk_set (blk_set (blk_set h 0 (.int .i64 r.k)) 1 (.string r.t)) 2 (.slice r.la r.ll r.lc)) 3 (.slice r.na r.nl r.nc)
set_option maxRecDepth 100000 in
theorem kres_cell {fn : Func} {p : Tmp} (hf : fn.results = #[.cell p 40]) {w : World} {bx : Nat} {r : RawV} (h : KBox w bx r) (tmps : Array Value) (h2 : tmps.getD p undef = .pointer (some ⟨bx, 0, none⟩)) :
    (results fn tmps).run Tryz.prog w = .ok r.val w := by
  obtain ⟨⟨c0, c1, c2, c3⟩, -⟩ := kbox_cells h
  rw [results_cell hf, h2]
  go_simp
  rfl
set_option maxRecDepth 100000 in
theorem k_int (k : Int) (T : ByteArray) (hT : T.size ≤ 1000000) (la : Option Addr) (ll lc : Nat) (na : Option Addr) (nl nc : Nat) :
    Calls Tryz.prog 26 #[.agg #[.int .i64 k, .string T, .slice la ll lc, .slice na nl nc]] w fun e w' => e = .returned (.tuple #[.int .i64 (asInt k T).1, .int .i64 ((asInt k T).2 : Int)]) ∧ Below w.heap.size w w' := by
  obtain ⟨w1, hw1, HBX⟩ := kbox_new w ⟨k, T, la, ll, lc, na, nl, nc⟩
  have HW1 := Lib.hid hw1
  obtain ⟨⟨b0, b1, b2, b3⟩, -⟩ := kbox_cells HBX.out.2
  have HI := Lib.hid (dInt_eq k T)
  have HTT := Lib.hid hT
  clear hw1 hT
  by_cases hk : k = 3
  · subst hk
    have HF := Lib.hid (k_form (w := w1) T HTT.out)
    cases hf : dForm (raw T) with
    | false =>
      rw [hf] at HF
      have HA : Hid (asInt 3 T = (0, 10)) := Lib.hid (by rw [← HI.out]; unfold dInt; rw [if_neg (by decide), if_pos hf])
      clear hf
      go_enter Tryz.func26, Tryz.ntmps26
      go_upto_region 1 with (fail)
      rw [show w.alloc (.cells #[.int .i64 3, .string T, .slice la ll lc, .slice na nl nc] 40) = w1 from HW1.out]
      go_wp2_with (fail)
      refine HF.out.mono ?_
      rintro e w2 ⟨rfl, rfl⟩
      go_wp2_with (fail)
      exact bodyPost_ret (results_tmp2 rfl _ _ _) rfl ⟨by rw [HA.out]; rfl, HBX.out.1⟩
    | true =>
      rw [hf] at HF
      have HAT := Lib.hid (k_atoi (w := w1) T HTT.out hf)
      have HA : Hid (asInt 3 T = if (atoiRes (raw T)).2 then ((atoiRes (raw T)).1, 0) else (0, 6)) := Lib.hid (by
        rw [← HI.out]; unfold dInt atoiRes
        rw [if_neg (by decide), if_neg (by rw [hf]; decide)]
        cases dAtoi (raw T) <;> rfl)
      obtain ⟨n, hn⟩ : ∃ n, n = (atoiRes (raw T)).1 := ⟨_, rfl⟩
      obtain ⟨b, hb⟩ : ∃ b, b = (atoiRes (raw T)).2 := ⟨_, rfl⟩
      rw [← hn, ← hb] at HAT HA
      clear hf hn hb
      go_enter Tryz.func26, Tryz.ntmps26
      go_upto_region 1 with (fail)
      rw [show w.alloc (.cells #[.int .i64 3, .string T, .slice la ll lc, .slice na nl nc] 40) = w1 from HW1.out]
      go_wp2_with (fail)
      refine HF.out.mono ?_
      rintro e w2 ⟨rfl, rfl⟩
      go_wp2_with (fail)
      refine HAT.out.mono ?_
      rintro e w2 ⟨rfl, rfl⟩
      cases b with
      | true =>
        have HA2 : Hid (asInt 3 T = (n, 0)) := Lib.hid (by rw [HA.out]; rfl)
        go_wp2_with (fail)
        exact bodyPost_ret (results_tmp2 rfl _ _ _) rfl ⟨by rw [HA2.out]; rfl, HBX.out.1⟩
      | false =>
        have HA2 : Hid (asInt 3 T = (0, 6)) := Lib.hid (by rw [HA.out]; rfl)
        go_wp2_with (fail)
        exact bodyPost_ret (results_tmp2 rfl _ _ _) rfl ⟨by rw [HA2.out]; rfl, HBX.out.1⟩
  · have t0 : (k != 3) = true := by simpa using hk
    have HA : Hid (asInt k T = (0, 13)) := Lib.hid (by rw [← HI.out]; unfold dInt; rw [if_pos hk])
    clear hk
    go_enter Tryz.func26, Tryz.ntmps26
    go_upto_region 1 with (fail)
    rw [show w.alloc (.cells #[.int .i64 k, .string T, .slice la ll lc, .slice na nl nc] 40) = w1 from HW1.out]
    go_wp2_with (fail)
    exact bodyPost_ret (results_tmp2 rfl _ _ _) rfl ⟨by rw [HA.out]; rfl, HBX.out.1⟩
end
end Go.Proofs.YthjcolehccbihaaGreatDoor
