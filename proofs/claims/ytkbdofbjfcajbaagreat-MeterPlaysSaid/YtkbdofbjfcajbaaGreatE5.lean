/- The meter's checks. -/
import Derived.Test.YtkbdofbjfcajbaaGreatE4
import Derived.Test.YtkbdofbjfcajbaaGreatShelf
namespace Go.Proofs.YtkbdofbjfcajbaaGreat
open Go.RowKit Go.Shelf

/-- A rune that may not stand in a key. -/
def oddE (r : Nat) : Bool := decide (r < 33) || decide (126 < r)
def keyOk (k : ByteArray) : Bool := decide (¬ k.size = 0) && decide (k.size ≤ 40) && decide (¬ 0 ≤ Lib.idxFunc oddE true k)
def namesOk (e : Ev) : Bool := validName e.acct && validName e.mtr
def numsOk (e : Ev) : Bool := decide (0 ≤ e.qty) && decide (e.qty ≤ 1099511627776) && decide (0 ≤ e.at_) && decide (e.at_ ≤ 1099511627776)
def checkE (e : Ev) : Int := if keyOk e.key = false then 1 else if namesOk e = false then 1 else if numsOk e = false then 6 else 0
structure EvFit (e : Ev) : Prop where
  key : e.key.size ≤ 1000000
  acct : e.acct.size ≤ 1000000
  mtr : e.mtr.size ≤ 1000000
  q0 : -9223372036854775808 ≤ e.qty
  q1 : e.qty ≤ 9223372036854775807
  a0 : -9223372036854775808 ≤ e.at_
  a1 : e.at_ ≤ 9223372036854775807
theorem m_check1 (w : World) (r : Nat) : Calls Tryz.prog 39 #[.int .i32 (r : Int)] w fun e w' => e = .returned (.bool (oddE r)) ∧ w' = w := by
  by_cases h1 : (r : Int) < 33
  · have e : Hid (oddE r = true) := Lib.hid (by unfold oddE; rw [decide_eq_true (by omega : r < 33)]; rfl)
    go_enter Tryz.func39, Tryz.ntmps39
    go_wp2
    go_ret
    rw [e.out]
    exact ⟨rfl, rfl⟩
  by_cases h2 : 126 < (r : Int)
  · have e : Hid (oddE r = true) := Lib.hid (by unfold oddE; rw [decide_eq_true (by omega : 126 < r)]; simp)
    go_enter Tryz.func39, Tryz.ntmps39
    go_wp2
    go_ret
    rw [e.out]
    exact ⟨rfl, rfl⟩
  have e : Hid (oddE r = false) := Lib.hid (by unfold oddE; rw [decide_eq_false (by omega : ¬ r < 33), decide_eq_false (by omega : ¬ 126 < r)]; rfl)
  go_enter Tryz.func39, Tryz.ntmps39
  go_wp2
  go_ret
  rw [e.out]
  exact ⟨rfl, rfl⟩
/-- The end of a check: the numbers. -/
theorem numsOk_false {v : Ev} (h : v.qty < 0 ∨ 1099511627776 < v.qty ∨ v.at_ < 0 ∨ 1099511627776 < v.at_) : numsOk v = false := by
  unfold numsOk
  rcases h with h | h | h | h
  · rw [decide_eq_false (by omega : ¬ 0 ≤ v.qty)]; simp
  · rw [decide_eq_false (by omega : ¬ v.qty ≤ 1099511627776)]; simp
  · rw [decide_eq_false (by omega : ¬ 0 ≤ v.at_)]; simp
  · rw [decide_eq_false (by omega : ¬ v.at_ ≤ 1099511627776)]; simp
theorem checkE_key {v : Ev} (h : keyOk v.key = false) : checkE v = 1 := by unfold checkE; rw [if_pos h]
theorem checkE_name {v : Ev} (h : keyOk v.key = true) (h2 : namesOk v = false) : checkE v = 1 := by unfold checkE; rw [if_neg (by simp [h]), if_pos h2]
theorem checkE_num {v : Ev} (h : keyOk v.key = true) (h2 : namesOk v = true) (h3 : numsOk v = false) : checkE v = 6 := by unfold checkE; rw [if_neg (by simp [h]), if_neg (by simp [h2]), if_pos h3]
theorem checkE_ok {v : Ev} (h : keyOk v.key = true) (h2 : namesOk v = true) (h3 : numsOk v = true) : checkE v = 0 := by unfold checkE; rw [if_neg (by simp [h]), if_neg (by simp [h2]), if_neg (by simp [h3])]
theorem str_empty {k : ByteArray} (h : k.size = 0) : k.toList.isEmpty = true := by
  rw [Lib.toList_data]
  cases hl : k.data.toList with
  | nil => rfl
  | cons _ _ => exact absurd h (by show k.data.toList.length ≠ 0; rw [hl]; simp)
theorem str_some {k : ByteArray} (h : ¬ k.size = 0) : k.toList.isEmpty = false := by
  rw [Lib.toList_data]
  cases hl : k.data.toList with
  | nil => exact absurd (by show k.data.toList.length = 0; rw [hl]; rfl) h
  | cons _ _ => rfl
set_option maxRecDepth 100000 in
set_option maxHeartbeats 4000000 in
theorem m_check (w : World) (v : Ev) (hv : EvFit v) : Calls Tryz.prog 17 #[.agg #[.string v.key, .string v.acct, .string v.mtr, .int .i64 v.qty, .int .i64 v.at_]] w fun e w' => e = .returned (.int .i64 (checkE v)) ∧ Below w.heap.size w w' := by
  obtain ⟨wb, hwb, HBX⟩ := Ev.boxE_new w v
  obtain ⟨bx, hbx⟩ : ∃ bx, bx = w.heap.size := ⟨_, rfl⟩
  have HW1 := Lib.hid hwb
  have HBE := Lib.hid hbx
  have HWB : Hid (Below w.heap.size w wb) := Lib.hid HBX.out.1
  have HBW : Hid (Ev.BoxAtE wb bx v) := Lib.hid (by rw [hbx]; exact HBX.out.2)
  have HV := Lib.hid hv
  have eg := enters_of Tryz.func39 (P := Tryz.prog) (by kernel_rfl) rfl
  have HP := Lib.hid (Tryz.strings_ContainsFunc_runes 39 #[] eg oddE v.key wb (by
    intro W x hx hb
    exact (m_check1 W x).mono (by rintro e w' ⟨rfl, rfl⟩; exact ⟨rfl, 0, rfl⟩)))
  clear hwb hbx HBX hv eg
  go_enter Tryz.func17, Tryz.ntmps17
  go_upto_region 1 with fail
  rw [HW1.out, ← HBE.out]
  clear HW1 HBE
  obtain ⟨⟨x0, x1, x2, x3, x4⟩, -⟩ := Ev.boxE_cells HBW.out
  have hks : (v.key.size : Int) ≤ 1000000 := by have := HV.out.key; omega
  by_cases h0 : v.key.size = 0
  · have hE := str_empty h0
    have hk : Hid (checkE v = 1) := Lib.hid (checkE_key (by unfold keyOk; simp [h0]))
    go_wp2_with (fail)
    go_ret
    rw [hk.out]
    exact ⟨rfl, HWB.out⟩
  have hE := str_some h0
  by_cases h1 : (40 : Int) < (v.key.size : Int)
  · have hk : Hid (checkE v = 1) := Lib.hid (checkE_key (by unfold keyOk; rw [decide_eq_false (by omega : ¬ v.key.size ≤ 40)]; simp))
    clear h0
    go_wp2_with (fail)
    go_ret
    rw [hk.out]
    exact ⟨rfl, HWB.out⟩
  by_cases hi : 0 ≤ Lib.idxFunc oddE true v.key
  · have hk : Hid (checkE v = 1) := Lib.hid (checkE_key (by unfold keyOk; simp [hi]))
    rw [decide_eq_true hi] at HP
    clear h0 hi
    go_wp2_with (fail)
    refine HP.out.mono ?_
    rintro e w' ⟨rfl, hb⟩
    have HB : Hid (Below w.heap.size w w') := Lib.hid (HWB.out.trans (hb.mono HWB.out.size))
    clear hb
    go_wp2_with (fail)
    go_ret
    rw [hk.out]
    exact ⟨rfl, HB.out⟩
  have HK : Hid (keyOk v.key = true) := by
    refine Lib.hid ?_
    have h1' : v.key.size ≤ 40 := by omega
    unfold keyOk
    simp [hi, h0, h1']
  rw [decide_eq_false hi] at HP
  clear h0 hi
  go_wp2_with (fail)
  refine HP.out.mono ?_
  rintro e w5 ⟨rfl, hb⟩
  have HB : Hid (Below w.heap.size w w5) := Lib.hid (HWB.out.trans (hb.mono HWB.out.size))
  clear x0 x1 x2 x3 x4
  obtain ⟨⟨x0, x1, x2, x3, x4⟩, -⟩ := Ev.boxE_cells (Ev.boxE_below HBW.out hb)
  have HA := Lib.hid (m_valid w5 v.acct (by have := HV.out.acct; omega))
  have HM := Lib.hid (m_valid w5 v.mtr (by have := HV.out.mtr; omega))
  clear hb h1
  go_wp2_with (fail)
  refine HA.out.mono ?_
  rintro e w6 ⟨rfl, rfl⟩
  cases ha : validName v.acct with
  | false =>
    have hk : Hid (checkE v = 1) := Lib.hid (checkE_name HK.out (by unfold namesOk; rw [ha]; rfl))
    clear ha
    go_wp2_with (fail)
    go_ret
    rw [hk.out]
    exact ⟨rfl, HB.out⟩
  | true =>
    have HAT := Lib.hid ha
    clear ha
    go_wp2_with (fail)
    refine HM.out.mono ?_
    rintro e w6 ⟨rfl, rfl⟩
    cases hm : validName v.mtr with
    | false =>
      have hk : Hid (checkE v = 1) := Lib.hid (checkE_name HK.out (by unfold namesOk; rw [hm]; simp))
      clear hm
      go_wp2_with (fail)
      go_ret
      rw [hk.out]
      exact ⟨rfl, HB.out⟩
    | true =>
      have HN : Hid (namesOk v = true) := Lib.hid (by unfold namesOk; rw [HAT.out, hm]; rfl)
      clear hm
      by_cases n0 : v.qty < 0
      · have hk : Hid (checkE v = 6) := Lib.hid (checkE_num HK.out HN.out (numsOk_false (.inl n0)))
        go_wp2_with (fail)
        go_ret
        rw [hk.out]
        exact ⟨rfl, HB.out⟩
      by_cases n1 : 1099511627776 < v.qty
      · have hk : Hid (checkE v = 6) := Lib.hid (checkE_num HK.out HN.out (numsOk_false (.inr (.inl n1))))
        go_wp2_with (fail)
        go_ret
        rw [hk.out]
        exact ⟨rfl, HB.out⟩
      by_cases n2 : v.at_ < 0
      · have hk : Hid (checkE v = 6) := Lib.hid (checkE_num HK.out HN.out (numsOk_false (.inr (.inr (.inl n2)))))
        go_wp2_with (fail)
        go_ret
        rw [hk.out]
        exact ⟨rfl, HB.out⟩
      by_cases n3 : 1099511627776 < v.at_
      · have hk : Hid (checkE v = 6) := Lib.hid (checkE_num HK.out HN.out (numsOk_false (.inr (.inr (.inr n3)))))
        go_wp2_with (fail)
        go_ret
        rw [hk.out]
        exact ⟨rfl, HB.out⟩
      have hk : Hid (checkE v = 0) := Lib.hid (checkE_ok HK.out HN.out (by unfold numsOk; rw [decide_eq_true (by omega : 0 ≤ v.qty), decide_eq_true (by omega : v.qty ≤ 1099511627776), decide_eq_true (by omega : 0 ≤ v.at_), decide_eq_true (by omega : v.at_ ≤ 1099511627776)]; rfl))
      go_wp2_with (fail)
      go_ret
      rw [hk.out]
      exact ⟨rfl, HB.out⟩
/-- The error of an account and a time. -/
def withinE (acct : ByteArray) (a b : Int) : Int := if validName acct = false then 1 else if a < 0 ∨ 1099511627777 < a ∨ b < 0 ∨ 1099511627777 < b ∨ b < a then 6 else 0
set_option maxRecDepth 100000 in
set_option maxHeartbeats 4000000 in
theorem m_within (w : World) (n : ByteArray) (hn : n.size ≤ 9223372036854775807) (a b : Int) : Calls Tryz.prog 28 #[.string n, .int .i64 a, .int .i64 b] w fun e w' => e = .returned (.int .i64 (withinE n a b)) ∧ w = w' := by
  have HM := Lib.hid (m_valid w n hn)
  clear hn
  go_enter Tryz.func28, Tryz.ntmps28
  go_wp2_with (fail)
  refine HM.out.mono ?_
  rintro e w6 ⟨rfl, rfl⟩
  cases hm : validName n with
  | false =>
    have hk : Hid (withinE n a b = 1) := Lib.hid (by unfold withinE; rw [if_pos hm])
    clear hm
    go_wp2_with (fail)
    go_ret
    rw [hk.out]
    exact ⟨rfl, rfl⟩
  | true =>
    have H6 : Hid (a < 0 ∨ 1099511627777 < a ∨ b < 0 ∨ 1099511627777 < b ∨ b < a → withinE n a b = 6) := Lib.hid fun h => by unfold withinE; rw [if_neg (by simp [hm]), if_pos h]
    have H0 : Hid (¬ (a < 0 ∨ 1099511627777 < a ∨ b < 0 ∨ 1099511627777 < b ∨ b < a) → withinE n a b = 0) := Lib.hid fun h => by unfold withinE; rw [if_neg (by simp [hm]), if_neg h]
    clear hm
    by_cases n0 : a < 0
    · go_wp2_with (fail)
      go_ret
      rw [H6.out (by omega)]
      exact ⟨rfl, rfl⟩
    by_cases n1 : 1099511627777 < a
    · go_wp2_with (fail)
      go_ret
      rw [H6.out (by omega)]
      exact ⟨rfl, rfl⟩
    by_cases n2 : b < 0
    · go_wp2_with (fail)
      go_ret
      rw [H6.out (by omega)]
      exact ⟨rfl, rfl⟩
    by_cases n3 : 1099511627777 < b
    · go_wp2_with (fail)
      go_ret
      rw [H6.out (by omega)]
      exact ⟨rfl, rfl⟩
    by_cases n4 : b < a
    · go_wp2_with (fail)
      go_ret
      rw [H6.out (by omega)]
      exact ⟨rfl, rfl⟩
    have hk := Lib.hid (H0.out (by omega))
    go_wp2_with (fail)
    go_ret
    rw [hk.out]
    exact ⟨rfl, rfl⟩
end Go.Proofs.YtkbdofbjfcajbaaGreat
