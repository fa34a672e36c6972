/- The walks of json.OfInt and json.Int. -/
import Derived.Test.YthjcolehccbihaaGreatDoorz35
import Derived.Test.YthjcolehccbihaaGreatDoorz02
import Derived.Test.YthjcolehccbihaaGreatDoorz37
set_option linter.unusedSimpArgs false
set_option linter.unusedVariables false
set_option linter.unusedSectionVars false
namespace Go.Proofs.YthjcolehccbihaaGreatDoor
open Go.RowKit Go.Shelf
/-- An int as a value. -/
def ofInt (n : Int) : JV := .mk 3 (str (Lib.itoa n)) [] []
def PTab (w : World) : Prop := Lib.TabIs Tryz.prog w "internal/strconv.uint64pow10" .u64 Lib.pow10Tab
theorem PTab.below {w w' : World} (h : PTab w) (hb : Below w.heap.size w w') : PTab w' := by
  unfold PTab Lib.TabIs World.var? at *
  cases hg : Tryz.prog.globalNamed "internal/strconv.uint64pow10" with
  | none => simp [hg] at h
  | some g =>
    simp only [hg, Option.bind_some] at h ⊢
    have hlt : g < w.heap.size := by
      rcases Nat.lt_or_ge g w.heap.size with h' | h'
      · exact h'
      · rw [Array.getElem?_eq_none h'] at h; simp at h
    rw [hb.block g hlt]
    exact h
/-- What the variable strconv.ErrRange holds. -/
def ErrAt (w : World) : Prop := ∃ ev, w.cell? ⟨3, 0, none⟩ = some ev ∧ (ev = .nilIface ∨ ∃ te pe, ev = .iface te pe)
theorem ErrAt.below {w w' : World} (h : ErrAt w) (hb : Below w.heap.size w w') : ErrAt w' := by
  obtain ⟨ev, h1, h2⟩ := h
  exact ⟨ev, (World.cell?_of_block (w := w) (a := ⟨3, 0, none⟩) (hb.block 3 (World.block_lt_of_cell? w ⟨3, 0, none⟩ h1))).trans h1, h2⟩
theorem below_grown0 (w : World) (k : Nat) (os : Array Obj) : Below w.heap.size w (Sort.grow (w.drewN k) os) :=
  ⟨rfl, rfl, rfl, by show w.heap.size ≤ (w.heap ++ os).size; rw [Array.size_append]; omega, fun j hj => by show (w.heap ++ os)[j]? = w.heap[j]?; rw [Array.getElem?_append_left hj]⟩
theorem below_bytes (w : World) (e : TypeId) (s : ByteArray) : Below w.heap.size w (Lib.bytesWorld w e s) := Lib.bytesWorld_below w e s
section
variable {w : World}
set_option maxRecDepth 100000 in
theorem j_ofInt (n : Int) (h0 : -9223372036854775808 ≤ n) (h1 : n ≤ 9223372036854775807) (ht : PTab w) : Calls Tryz.prog 19 #[.int .i64 n] w fun e w' => e = .returned (.agg #[.int .i64 3, .string (str (Lib.itoa n)), .slice none 0 0, .slice none 0 0]) ∧ Below w.heap.size w w' := by
  obtain ⟨w1, hw1, HBX⟩ := jbox_zero w
  have HW1 := Lib.hid hw1
  have hcall := Tryz.strconv_Itoa n h0 h1 w1 (ht.below HBX.out.1)
  obtain ⟨S, hS⟩ : ∃ S, S = str (Lib.itoa n) := ⟨_, rfl⟩
  rw [← hS]
  rw [show (⟨(Lib.itoa n).toArray⟩ : ByteArray) = S from hS.symm] at hcall
  clear hw1 h0 h1 hS
  go_enter Tryz.func19, Tryz.ntmps19
  go_upto_region 1 with (fail)
  rw [show w.alloc (.cells #[.int .i64 0, .string ⟨#[]⟩, .slice none 0 0, .slice none 0 0] 25) = w1 from HW1.out]
  go_wp2_with (fail)
  refine hcall.mono ?_
  rintro e w2 ⟨rfl, k, os, hw2⟩
  have hb2 : Below w1.heap.size w1 w2 := by rw [hw2]; exact below_grown0 _ _ _
  have hx2 := jbox_below HBX.out.2 hb2
  have HX2 := Lib.hid hx2
  have HB2 : Hid (Below w.heap.size w w2) := Lib.hid (HBX.out.1.trans (hb2.mono HBX.out.1.size))
  obtain ⟨⟨b0, b1, b2, b3⟩, z0, z1, z2, z3⟩ := jbox_cells hx2
  clear hw2 hb2 hx2
  go_wp2_with (fail)
  have hk := keeps4 w2 w.heap.size (.int .i64 3) (.string S) (.slice none 0 0) (.slice none 0 0)
  exact bodyPost_ret (v := (⟨3, S, none, 0, 0, none, 0, 0⟩ : RawV).val) (jres_cell rfl (jbox_set HX2.out ⟨3, S, none, 0, 0, none, 0, 0⟩) _ rfl) rfl ⟨rfl, below_keeps HB2.out hk (fun i e => by have e : i = w.heap.size := e; omega) HB2.out.size⟩
theorem j_intA (x : Nat) (hx : x ≤ 1114111) : Calls Tryz.prog 48 #[.int .i32 (x : Int)] w fun e w' => e = .returned (.bool (oddP x)) ∧ w' = w := by
  unfold oddP
  by_cases h1 : x < 48
  · have t0 : decide (x < 48) = true := by simpa using h1
    have t1 : decide ((x : Int) < 48) = true := by simp; omega
    go_enter Tryz.func48, Tryz.ntmps48
    go_wp2_with (fail)
    go_ret
    exact ⟨by simp [t0], rfl⟩
  · have t0 : decide (x < 48) = false := by simpa using h1
    have t1 : decide ((x : Int) < 48) = false := by simp; omega
    have t2 : (57 : Int) < (x : Int) ↔ 57 < x := by omega
    go_enter Tryz.func48, Tryz.ntmps48
    go_wp2_with (fail)
    go_ret
    exact ⟨by simp [t0, t2], rfl⟩
theorem odd_at (w : World) : PredAtRunes Tryz.prog 48 #[] oddP w := fun W x hx _ => (j_intA (w := W) x hx).mono fun e w' h => ⟨h.1, 0, h.2⟩
/-- Atoi at digits, a sign ahead: the number, or too far. -/
theorem x_atoi (T : ByteArray) (hT : T.size ≤ 1000000) (hb : badInt (raw T) = false) (hE : ErrAt w) : Calls Tryz.prog 50 #[.string T] w fun e w' => ∃ (n : Int) (ev : Value), e = .returned (.tuple #[.int .i64 n, ev]) ∧ Below w.heap.size w w' ∧
    ((ev = .nilIface ∧ (intEnd (Lib.atoiAll (raw T))) = (n, 0)) ∨ (∃ te pe, ev = .iface te (.pointer (some ⟨pe, 0, none⟩)) ∧ (intEnd (Lib.atoiAll (raw T))) = (0, 6))) := by
  have hbw : ∀ w', (w' = w ∨ ∃ t, w' = Lib.bytesWorld w 5 t) → Below w.heap.size w w' := by
    rintro w' (rfl | ⟨t, rfl⟩)
    · exact Below.refl _ _
    · exact below_bytes _ _ _
  obtain ⟨ev, hv, hev⟩ := hE
  cases ha : Lib.atoiAll (raw T) with
  | ok v =>
    refine (Tryz.strconv_Atoi_ok T (by omega) v ha w).mono ?_
    rintro e w' ⟨rfl, hw⟩
    exact ⟨v, _, rfl, hbw w' hw, .inl ⟨rfl, rfl⟩⟩
  | range =>
    refine (Tryz.strconv_Atoi_range T (by omega) ha ev w hv hev).mono ?_
    rintro e w' ⟨N, rfl, -, -, hw⟩
    exact ⟨_, _, rfl, hw, .inr ⟨_, N, rfl, rfl⟩⟩
  | «syntax» => exact absurd ha (no_syntax hb)
set_option maxRecDepth 100000 in
theorem j_int (k : Int) (T : ByteArray) (hT : T.size ≤ 1000000) (hE : ErrAt w) (la : Option Addr) (ll lc : Nat) (na : Option Addr) (nl nc : Nat) :
    Calls Tryz.prog 20 #[.agg #[.int .i64 k, .string T, .slice la ll lc, .slice na nl nc]] w fun e w' => e = .returned (.tuple #[.int .i64 (asInt k T).1, .int .i64 ((asInt k T).2 : Int)]) ∧ Below w.heap.size w w' := by
  obtain ⟨w1, hw1, HBX⟩ := jbox_new w ⟨k, T, la, ll, lc, na, nl, nc⟩
  have HW1 := Lib.hid hw1
  obtain ⟨⟨b0, b1, b2, b3⟩, z0, z1, z2, z3⟩ := jbox_cells HBX.out.2
  clear hw1
  by_cases hk : k = 3
  · subst hk
    have HC := Lib.hid ((Tryz.strings_CutPrefix T ⟨#[45]⟩ w1).mono fun _ _ (h : _ ∧ _) => And.intro h.1 h.2.symm)
    have hA : asInt 3 T = if badInt (raw T) then (0, 10) else intEnd (Lib.atoiAll (raw T)) := rfl
    obtain ⟨p, hp⟩ : ∃ p : ByteArray, p = str (part0 (raw T)) := ⟨_, rfl⟩
    obtain ⟨bl, hbl⟩ : ∃ bl, bl = below0 (raw T) := ⟨_, rfl⟩
    have hrp : raw p = part0 (raw T) := by rw [hp]; exact str_toList _
    rw [show (⟨(Lib.trimPrefix T.data.toList (⟨#[45]⟩ : ByteArray).data.toList).toArray⟩ : ByteArray) = p from hp.symm, show Lib.hasPrefix T.data.toList (⟨#[45]⟩ : ByteArray).data.toList = bl from hbl.symm] at HC
    have hbad : badInt (raw T) = (decide (raw p = []) || !(raw p).all isDigit || ((raw p).head? == some 48 && (decide (1 < (raw p).length) || bl))) := by
      unfold badInt
      rw [← hrp, ← hbl]
    clear hp hbl hrp
    by_cases h0 : raw p = []
    · have hp0 : p = ⟨#[]⟩ := by rw [← str_of p]; exact congrArg str h0
      rw [hp0] at HC
      have hb1 : badInt (raw T) = true := by rw [hbad, h0]; rfl
      have HA : Hid (asInt 3 T = (0, 10)) := Lib.hid (by rw [hA, hb1]; rfl)
      clear hA hbad h0 hp0 hb1
      go_enter Tryz.func20, Tryz.ntmps20
      go_upto_region 1 with (fail)
      rw [show w.alloc (.cells #[.int .i64 3, .string T, .slice la ll lc, .slice na nl nc] 25) = w1 from HW1.out]
      go_wp2_with (fail)
      refine HC.out.mono ?_
      rintro e w2 ⟨rfl, rfl⟩
      go_wp2_with (fail)
      exact bodyPost_ret (results_tmp2 rfl _ _ _) rfl ⟨by rw [HA.out]; rfl, HBX.out.1⟩
    · obtain ⟨c, l, hcl⟩ : ∃ c l, raw p = c :: l := by cases hr : raw p with
        | nil => exact absurd hr h0
        | cons c l => exact ⟨c, l, rfl⟩
      have hsz : p.size = l.length + 1 := by
        show p.data.size = _
        rw [← Array.length_toList]
        exact congrArg List.length hcl
      have hs1 : p.toList.isEmpty = false := by rw [Lib.toList_data, show p.data.toList = c :: l from hcl]; rfl
      have hs0 : ¬ p.toList = [] := by rw [Lib.toList_data, show p.data.toList = c :: l from hcl]; simp
      have hCF := Tryz.strings_ContainsFunc_runes 48 #[] (fun _ _ => rfl) oddP p w1 (odd_at w1)
      rw [odd_idx, hcl] at hCF
      rw [hcl] at hbad
      cases hall : (c :: l).all isDigit with
      | false =>
        rw [hall] at hCF hbad
        have hb1 : badInt (raw T) = true := by rw [hbad]; simp
        have HA : Hid (asInt 3 T = (0, 10)) := Lib.hid (by rw [hA, hb1]; rfl)
        clear hA hbad h0 hb1 hall
        go_enter Tryz.func20, Tryz.ntmps20
        go_upto_region 1 with (fail)
        rw [show w.alloc (.cells #[.int .i64 3, .string T, .slice la ll lc, .slice na nl nc] 25) = w1 from HW1.out]
        go_wp2_with (fail)
        refine HC.out.mono ?_
        rintro e w2 ⟨rfl, rfl⟩
        go_wp2_with (fail)
        refine hCF.mono ?_
        rintro e w3 ⟨rfl, hb3⟩
        have HB3 : Hid (Below w.heap.size w w3) := Lib.hid (HBX.out.1.trans (hb3.mono HBX.out.1.size))
        clear hb3
        go_wp2_with (fail)
        exact bodyPost_ret (results_tmp2 rfl _ _ _) rfl ⟨by rw [HA.out]; rfl, HB3.out⟩
      | true =>
        rw [hall] at hCF hbad
        have hps : 0 < p.size := by omega
        have hpI : (0 : Int) < (p.size : Int) := by omega
        have hp0 : p[0] = c := by
          have h1 : (raw p)[0]? = some c := by rw [hcl]; rfl
          have h2 : (raw p)[0]? = some p[0] := by
            have : 0 < p.data.toList.length := by rw [Array.length_toList]; exact hps
            show p.data.toList[0]? = _
            rw [List.getElem?_eq_getElem this]
            rfl
          rw [h1] at h2
          exact (Option.some.inj h2).symm
        have hok : badInt (raw T) = false → Hid (asInt 3 T = intEnd (Lib.atoiAll (raw T)) ∧ badInt (raw T) = false) := fun h => Lib.hid ⟨by rw [hA, if_neg (by rw [h]; decide)], h⟩
        have hno : badInt (raw T) = true → Hid (asInt 3 T = (0, 10)) := fun h => Lib.hid (by rw [hA, h]; rfl)
        have hbad2 : badInt (raw T) = (c == 48 && (decide (1 < l.length + 1) || bl)) := by rw [hbad]; simp
        have HE := Lib.hid hE
        have HS := Lib.hid hT
        have HSZ := Lib.hid hsz
        clear hbad hA h0 hall hcl hE hT hsz
        by_cases hc : c = 48
        · subst hc
          have hc1 : p[0].toNat = 48 := by rw [hp0]; rfl
          by_cases hl : 1 < p.size
          · have HA := hno (by rw [hbad2]; have := HSZ.out; simp; omega)
            have l1 : (1 : Int) < (p.size : Int) := by omega
            clear hno hok hbad2
            go_enter Tryz.func20, Tryz.ntmps20
            go_upto_region 1 with (fail)
            rw [show w.alloc (.cells #[.int .i64 3, .string T, .slice la ll lc, .slice na nl nc] 25) = w1 from HW1.out]
            go_wp2_with (fail)
            refine HC.out.mono ?_
            rintro e w2 ⟨rfl, rfl⟩
            go_wp2_with (fail)
            refine hCF.mono ?_
            rintro e w3 ⟨rfl, hb3⟩
            have HB3 : Hid (Below w.heap.size w w3) := Lib.hid (HBX.out.1.trans (hb3.mono HBX.out.1.size))
            clear hb3
            go_wp2_with (fail)
            exact bodyPost_ret (results_tmp2 rfl _ _ _) rfl ⟨by rw [HA.out]; rfl, HB3.out⟩
          · have l1 : ¬ (1 : Int) < (p.size : Int) := by omega
            cases bl with
            | true =>
              have HA := hno (by rw [hbad2]; simp)
              clear hno hok hbad2
              go_enter Tryz.func20, Tryz.ntmps20
              go_upto_region 1 with (fail)
              rw [show w.alloc (.cells #[.int .i64 3, .string T, .slice la ll lc, .slice na nl nc] 25) = w1 from HW1.out]
              go_wp2_with (fail)
              refine HC.out.mono ?_
              rintro e w2 ⟨rfl, rfl⟩
              go_wp2_with (fail)
              refine hCF.mono ?_
              rintro e w3 ⟨rfl, hb3⟩
              have HB3 : Hid (Below w.heap.size w w3) := Lib.hid (HBX.out.1.trans (hb3.mono HBX.out.1.size))
              clear hb3
              go_wp2_with (fail)
              exact bodyPost_ret (results_tmp2 rfl _ _ _) rfl ⟨by rw [HA.out]; rfl, HB3.out⟩
            | false =>
              have HA := hok (by rw [hbad2]; have := HSZ.out; simp only [beq_self_eq_true, Bool.true_and, Bool.or_false, decide_eq_false_iff_not]; omega)
              clear hno hok hbad2
              go_enter Tryz.func20, Tryz.ntmps20
              go_upto_region 1 with (fail)
              rw [show w.alloc (.cells #[.int .i64 3, .string T, .slice la ll lc, .slice na nl nc] 25) = w1 from HW1.out]
              go_wp2_with (fail)
              refine HC.out.mono ?_
              rintro e w2 ⟨rfl, rfl⟩
              go_wp2_with (fail)
              refine hCF.mono ?_
              rintro e w3 ⟨rfl, hb3⟩
              have HB3 : Hid (Below w.heap.size w w3) := Lib.hid (HBX.out.1.trans (hb3.mono HBX.out.1.size))
              clear b0 b1 b2 b3 z0 z1 z2 z3
              obtain ⟨⟨b0, b1, b2, b3⟩, z0, z1, z2, z3⟩ := jbox_cells (jbox_below HBX.out.2 hb3)
              clear hb3
              go_wp2_with (fail)
              refine (x_atoi T HS.out HA.out.2 (HE.out.below HB3.out)).mono ?_
              rintro e w4 ⟨nn, ev, rfl, hb4, ⟨rfl, he⟩ | ⟨te, pe, rfl, he⟩⟩
              · have HB4 : Hid (Below w.heap.size w w4) := Lib.hid (HB3.out.trans (hb4.mono HB3.out.size))
                have HR : Hid (asInt 3 T = (nn, 0)) := Lib.hid (by rw [HA.out.1, he])
                clear hb4 he
                go_wp2_with (fail)
                exact bodyPost_ret (results_tmp2 rfl _ _ _) rfl ⟨by rw [HR.out]; rfl, HB4.out⟩
              · have HB4 : Hid (Below w.heap.size w w4) := Lib.hid (HB3.out.trans (hb4.mono HB3.out.size))
                have HR : Hid (asInt 3 T = (0, 6)) := Lib.hid (by rw [HA.out.1, he])
                clear hb4 he
                go_wp2_with (fail)
                exact bodyPost_ret (results_tmp2 rfl _ _ _) rfl ⟨by rw [HR.out]; rfl, HB4.out⟩
        · have hc1 : ¬ p[0].toNat = 48 := by
            rw [hp0]
            intro h
            exact hc (UInt8.toNat_inj.1 h)
          have hc2 : ¬ (p[0].toNat : Int) = 48 := by omega
          have hc3 : ((p[0].toNat : Int) == 48) = false := by simpa using hc2
          have hc4 : (p[0].toNat == 48) = false := by simpa using hc1
          have HA := hok (by rw [hbad2]; simp [hc])
          clear hno hok hbad2 hc hp0
          go_enter Tryz.func20, Tryz.ntmps20
          go_upto_region 1 with (fail)
          rw [show w.alloc (.cells #[.int .i64 3, .string T, .slice la ll lc, .slice na nl nc] 25) = w1 from HW1.out]
          go_wp2_with (fail)
          refine HC.out.mono ?_
          rintro e w2 ⟨rfl, rfl⟩
          go_wp2_with (fail)
          refine hCF.mono ?_
          rintro e w3 ⟨rfl, hb3⟩
          have HB3 : Hid (Below w.heap.size w w3) := Lib.hid (HBX.out.1.trans (hb3.mono HBX.out.1.size))
          clear b0 b1 b2 b3 z0 z1 z2 z3
          obtain ⟨⟨b0, b1, b2, b3⟩, z0, z1, z2, z3⟩ := jbox_cells (jbox_below HBX.out.2 hb3)
          clear hb3
          go_wp2_with (fail)
          refine (x_atoi T HS.out HA.out.2 (HE.out.below HB3.out)).mono ?_
          rintro e w4 ⟨nn, ev, rfl, hb4, ⟨rfl, he⟩ | ⟨te, pe, rfl, he⟩⟩
          · have HB4 : Hid (Below w.heap.size w w4) := Lib.hid (HB3.out.trans (hb4.mono HB3.out.size))
            have HR : Hid (asInt 3 T = (nn, 0)) := Lib.hid (by rw [HA.out.1, he])
            clear hb4 he
            go_wp2_with (fail)
            exact bodyPost_ret (results_tmp2 rfl _ _ _) rfl ⟨by rw [HR.out]; rfl, HB4.out⟩
          · have HB4 : Hid (Below w.heap.size w w4) := Lib.hid (HB3.out.trans (hb4.mono HB3.out.size))
            have HR : Hid (asInt 3 T = (0, 6)) := Lib.hid (by rw [HA.out.1, he])
            clear hb4 he
            go_wp2_with (fail)
            exact bodyPost_ret (results_tmp2 rfl _ _ _) rfl ⟨by rw [HR.out]; rfl, HB4.out⟩
  · have t0 : (k != 3) = true := by simpa using hk
    have HA : Hid (asInt k T = (0, 13)) := Lib.hid (by unfold asInt; rw [if_pos hk])
    clear hk
    go_enter Tryz.func20, Tryz.ntmps20
    go_upto_region 1 with (fail)
    rw [show w.alloc (.cells #[.int .i64 k, .string T, .slice la ll lc, .slice na nl nc] 25) = w1 from HW1.out]
    go_wp2_with (fail)
    exact bodyPost_ret (results_tmp2 rfl _ _ _) rfl ⟨by rw [HA.out]; rfl, HBX.out.1⟩
end
end Go.Proofs.YthjcolehccbihaaGreatDoor
