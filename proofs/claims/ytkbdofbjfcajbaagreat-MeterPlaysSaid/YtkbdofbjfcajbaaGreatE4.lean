/- The meter's small functions: names. -/
import Derived.Test.YtkbdofbjfcajbaaGreatE3
namespace Go.Proofs.YtkbdofbjfcajbaaGreat
open Go.RowKit

/-- A byte that may not stand in a name. -/
def badCh (c : UInt8) : Bool := (decide ((c.toNat : Int) < 97) || decide (122 < (c.toNat : Int))) && (decide ((c.toNat : Int) < 48) || decide (57 < (c.toNat : Int))) && ((c.toNat : Int) != 45)
def validName (n : ByteArray) : Bool := decide (¬ n.size = 0) && decide (n.size ≤ 30) && decide (97 ≤ (n.get! 0).toNat) && decide ((n.get! 0).toNat ≤ 122) && n.data.toList.all (fun c => !badCh c)
set_option maxRecDepth 100000 in
set_option maxHeartbeats 4000000 in
theorem m_valid (w : World) (n : ByteArray) (hn : n.size ≤ 9223372036854775807) : Calls Tryz.prog 41 #[.string n] w fun e w' => e = .returned (.bool (validName n)) ∧ w = w' := by
  by_cases h0 : n.size = 0
  · have : n = ⟨#[]⟩ := by
      obtain ⟨⟨l⟩⟩ := n
      have : l.length = 0 := h0
      rw [List.length_eq_zero_iff] at this; subst this; rfl
    subst this
    go_enter Tryz.func41, Tryz.ntmps41
    go_wp2_with (fail)
    go_ret
    exact ⟨rfl, rfl⟩
  have hE : n.toList.isEmpty = false := by
    rw [Lib.toList_data]
    cases hl : n.data.toList with
    | nil => exact absurd (by show n.data.toList.length = 0; rw [hl]; rfl) h0
    | cons _ _ => rfl
  by_cases h1 : 30 < n.size
  · have h1' : (30 : Int) < n.size := by omega
    have hk : validName n = false := by unfold validName; rw [decide_eq_false (by omega : ¬ n.size ≤ 30)]; simp
    rw [hk]
    have hn' : (n.size : Int) ≤ 9223372036854775807 := by omega
    clear h0 h1 hk hn
    go_enter Tryz.func41, Tryz.ntmps41
    go_wp2_with (fail)
    go_ret
    exact ⟨rfl, rfl⟩
  have h1' : (n.size : Int) ≤ 30 := by omega
  have h0' : (0 : Int) < n.size := by omega
  have gx : ∀ i (hi : i < n.size), n.get! i = n[i] := fun i hi => getElem!_pos n.data i hi
  by_cases ha : ((n[0]'(by omega)).toNat : Int) < 97
  · have hk : Hid (validName n = false) := Lib.hid (by unfold validName; rw [gx 0 (by omega), decide_eq_false (by omega : ¬ 97 ≤ (n[0]'(by omega)).toNat)]; simp)
    clear gx
    go_enter Tryz.func41, Tryz.ntmps41
    go_wp2_with (fail)
    go_ret
    rw [hk.out]
    exact ⟨rfl, rfl⟩
  by_cases hb : 122 < ((n[0]'(by omega)).toNat : Int)
  · have hk : Hid (validName n = false) := Lib.hid (by unfold validName; rw [gx 0 (by omega), decide_eq_false (by omega : ¬ (n[0]'(by omega)).toNat ≤ 122)]; simp)
    clear gx
    go_enter Tryz.func41, Tryz.ntmps41
    go_wp2_with (fail)
    go_ret
    rw [hk.out]
    exact ⟨rfl, rfl⟩
  have HO : Hid (∀ i (hi : i < n.size), badCh (n[i]'hi) = true → validName n = false) := Lib.hid fun i hi h => by
    have h2 : n.data.toList.all (fun c => !badCh c) = false := by
      rw [List.all_eq_false]
      exact ⟨n[i]'hi, by show n.data[i] ∈ _; simp, by simp [h]⟩
    unfold validName
    rw [h2]; simp
  have HA : Hid ((∀ i (hi : i < n.size), badCh (n[i]'hi) = false) → validName n = true) := Lib.hid fun h => by
    have h2 : n.data.toList.all (fun c => !badCh c) = true := by
      rw [List.all_eq_true]
      intro c hc
      obtain ⟨i, hi⟩ := List.getElem?_of_mem hc
      have hil : i < n.data.size := by have := (List.getElem?_eq_some_iff.1 hi).1; simpa using this
      have e : n.data.toList[i]? = some (n[i]'hil) := by
        rw [List.getElem?_eq_getElem (by simpa using hil)]; rfl
      rw [e] at hi
      rw [← Option.some.inj hi, h i hil]
      rfl
    unfold validName
    rw [h2, gx 0 (by omega), decide_eq_true h0, decide_eq_true (by omega : n.size ≤ 30), decide_eq_true (by omega : 97 ≤ (n[0]'(by omega)).toNat), decide_eq_true (by omega : (n[0]'(by omega)).toNat ≤ 122)]
    rfl
  clear gx
  go_enter Tryz.func41, Tryz.ntmps41
  go_wp2_with (fail)
  go_loop [3] (fun i => ∃ k : Nat, k ≤ n.size ∧ i = .int .i64 k ∧ Hid (∀ j (hj : j < n.size), j < k → badCh (n[j]'hj) = false)) (fun i => n.size - (intOf i).toNat)
  case atStart => exact ⟨0, Nat.zero_le _, rfl, Lib.hid fun j hj h => by omega⟩
  case round =>
    obtain ⟨k, hk, rfl, HK⟩ := hrel
    by_cases hlt : k < n.size
    · have k1 : (0 : Int) ≤ (k : Int) := by omega
      have k2 : (k : Int) < (n.size : Int) := by omega
      have hcase : (((n[k]'hlt).toNat : Int) < 45) ∨ (((n[k]'hlt).toNat : Int) = 45) ∨ (45 < ((n[k]'hlt).toNat : Int) ∧ ((n[k]'hlt).toNat : Int) < 48) ∨ (48 ≤ ((n[k]'hlt).toNat : Int) ∧ ((n[k]'hlt).toNat : Int) ≤ 57) ∨ (57 < ((n[k]'hlt).toNat : Int) ∧ ((n[k]'hlt).toNat : Int) < 97) ∨ (97 ≤ ((n[k]'hlt).toNat : Int) ∧ ((n[k]'hlt).toNat : Int) ≤ 122) ∨ (122 < ((n[k]'hlt).toNat : Int)) := by omega
      have hun : badCh (n[k]'hlt) = true ↔ ((((n[k]'hlt).toNat : Int) < 97 ∨ 122 < ((n[k]'hlt).toNat : Int)) ∧ (((n[k]'hlt).toNat : Int) < 48 ∨ 57 < ((n[k]'hlt).toNat : Int)) ∧ ¬ ((n[k]'hlt).toNat : Int) = 45) := by
        unfold badCh
        simp only [Bool.and_eq_true, Bool.or_eq_true, decide_eq_true_eq, bne_iff_ne]
        omega
      have HUN := Lib.hid hun
      clear hun
      rcases hcase with hc | hc | hc | hc | hc | hc | hc
      · skip
        have f0 : ((n[k]'hlt).toNat : Int) < 97 := by omega
        have f1 : ((n[k]'hlt).toNat : Int) < 48 := by omega
        have e1 : (((n[k]'hlt).toNat : Int) != 45) = true := bne_iff_ne.2 (by omega)
        have ho : Hid (validName n = false) := Lib.hid (HO.out k hlt (HUN.out.2 (by omega)))
        clear hc
        go_wp2_with (fail)
        go_ret
        rw [ho.out]
        exact ⟨rfl, rfl⟩
      · skip
        have f0 : ((n[k]'hlt).toNat : Int) < 97 := by omega
        have f1 : ((n[k]'hlt).toNat : Int) < 48 := by omega
        have e1 : (((n[k]'hlt).toNat : Int) != 45) = false := by rw [hc]; rfl
        have hno : Hid (badCh (n[k]'hlt) = false) := Lib.hid (by rw [Bool.eq_false_iff]; intro h; have := HUN.out.1 h; omega)
        go_wp2_with (fail)
        go_round
        case rel =>
          refine ⟨k + 1, by omega, by go_num, Lib.hid fun j hj h => ?_⟩
          by_cases e : j = k
          · subst e; exact hno.out
          · exact HK.out j hj (by omega)
        case measure => simp [intOf]; omega
      · skip
        have f0 : ((n[k]'hlt).toNat : Int) < 97 := by omega
        have f1 : ((n[k]'hlt).toNat : Int) < 48 := by omega
        have e1 : (((n[k]'hlt).toNat : Int) != 45) = true := bne_iff_ne.2 (by omega)
        have ho : Hid (validName n = false) := Lib.hid (HO.out k hlt (HUN.out.2 (by omega)))
        clear hc
        go_wp2_with (fail)
        go_ret
        rw [ho.out]
        exact ⟨rfl, rfl⟩
      · skip
        have f0 : ((n[k]'hlt).toNat : Int) < 97 := by omega
        have f1 : 48 ≤ ((n[k]'hlt).toNat : Int) := by omega
        have f2 : ((n[k]'hlt).toNat : Int) ≤ 57 := by omega
        have f3 : ¬ ((n[k]'hlt).toNat : Int) < 48 := by omega
        have f4 : ¬ 57 < ((n[k]'hlt).toNat : Int) := by omega
        have hno : Hid (badCh (n[k]'hlt) = false) := Lib.hid (by rw [Bool.eq_false_iff]; intro h; have := HUN.out.1 h; omega)
        go_wp2_with (fail)
        go_round
        case rel =>
          refine ⟨k + 1, by omega, by go_num, Lib.hid fun j hj h => ?_⟩
          by_cases e : j = k
          · subst e; exact hno.out
          · exact HK.out j hj (by omega)
        case measure => simp [intOf]; omega
      · skip
        have f0 : ((n[k]'hlt).toNat : Int) < 97 := by omega
        have f1 : 57 < ((n[k]'hlt).toNat : Int) := by omega
        have f2 : ¬ ((n[k]'hlt).toNat : Int) < 48 := by omega
        have e1 : (((n[k]'hlt).toNat : Int) != 45) = true := bne_iff_ne.2 (by omega)
        have ho : Hid (validName n = false) := Lib.hid (HO.out k hlt (HUN.out.2 (by omega)))
        clear hc
        go_wp2_with (fail)
        go_ret
        rw [ho.out]
        exact ⟨rfl, rfl⟩
      · skip
        have f0 : 97 ≤ ((n[k]'hlt).toNat : Int) := by omega
        have f1 : ((n[k]'hlt).toNat : Int) ≤ 122 := by omega
        have f2 : ¬ ((n[k]'hlt).toNat : Int) < 97 := by omega
        have f3 : ¬ 122 < ((n[k]'hlt).toNat : Int) := by omega
        have hno : Hid (badCh (n[k]'hlt) = false) := Lib.hid (by rw [Bool.eq_false_iff]; intro h; have := HUN.out.1 h; omega)
        go_wp2_with (fail)
        go_round
        case rel =>
          refine ⟨k + 1, by omega, by go_num, Lib.hid fun j hj h => ?_⟩
          by_cases e : j = k
          · subst e; exact hno.out
          · exact HK.out j hj (by omega)
        case measure => simp [intOf]; omega
      · skip
        have f0 : 122 < ((n[k]'hlt).toNat : Int) := by omega
        have f1 : 57 < ((n[k]'hlt).toNat : Int) := by omega
        have f2 : ¬ ((n[k]'hlt).toNat : Int) < 97 := by omega
        have f3 : ¬ ((n[k]'hlt).toNat : Int) < 48 := by omega
        have e1 : (((n[k]'hlt).toNat : Int) != 45) = true := bne_iff_ne.2 (by omega)
        have ho : Hid (validName n = false) := Lib.hid (HO.out k hlt (HUN.out.2 (by omega)))
        clear hc
        go_wp2_with (fail)
        go_ret
        rw [ho.out]
        exact ⟨rfl, rfl⟩

    · obtain rfl : k = n.size := by omega
      have ho : Hid (validName n = true) := Lib.hid (HA.out fun j hj => HK.out j hj hj)
      go_wp2_with (fail)
      go_ret
      rw [ho.out]
      exact ⟨rfl, rfl⟩
set_option maxRecDepth 100000 in
set_option maxHeartbeats 4000000 in
theorem hm_valid (w : World) (n : ByteArray) (hn : n.size ≤ 9223372036854775807) : Calls Tryz.prog 42 #[.string n] w fun e w' => e = .returned (.bool (validName n)) ∧ w = w' := by
  by_cases h0 : n.size = 0
  · have : n = ⟨#[]⟩ := by
      obtain ⟨⟨l⟩⟩ := n
      have : l.length = 0 := h0
      rw [List.length_eq_zero_iff] at this; subst this; rfl
    subst this
    go_enter Tryz.func42, Tryz.ntmps42
    go_wp2_with (fail)
    go_ret
    exact ⟨rfl, rfl⟩
  have hE : n.toList.isEmpty = false := by
    rw [Lib.toList_data]
    cases hl : n.data.toList with
    | nil => exact absurd (by show n.data.toList.length = 0; rw [hl]; rfl) h0
    | cons _ _ => rfl
  by_cases h1 : 30 < n.size
  · have h1' : (30 : Int) < n.size := by omega
    have hk : validName n = false := by unfold validName; rw [decide_eq_false (by omega : ¬ n.size ≤ 30)]; simp
    rw [hk]
    have hn' : (n.size : Int) ≤ 9223372036854775807 := by omega
    clear h0 h1 hk hn
    go_enter Tryz.func42, Tryz.ntmps42
    go_wp2_with (fail)
    go_ret
    exact ⟨rfl, rfl⟩
  have h1' : (n.size : Int) ≤ 30 := by omega
  have h0' : (0 : Int) < n.size := by omega
  have gx : ∀ i (hi : i < n.size), n.get! i = n[i] := fun i hi => getElem!_pos n.data i hi
  by_cases ha : ((n[0]'(by omega)).toNat : Int) < 97
  · have hk : Hid (validName n = false) := Lib.hid (by unfold validName; rw [gx 0 (by omega), decide_eq_false (by omega : ¬ 97 ≤ (n[0]'(by omega)).toNat)]; simp)
    clear gx
    go_enter Tryz.func42, Tryz.ntmps42
    go_wp2_with (fail)
    go_ret
    rw [hk.out]
    exact ⟨rfl, rfl⟩
  by_cases hb : 122 < ((n[0]'(by omega)).toNat : Int)
  · have hk : Hid (validName n = false) := Lib.hid (by unfold validName; rw [gx 0 (by omega), decide_eq_false (by omega : ¬ (n[0]'(by omega)).toNat ≤ 122)]; simp)
    clear gx
    go_enter Tryz.func42, Tryz.ntmps42
    go_wp2_with (fail)
    go_ret
    rw [hk.out]
    exact ⟨rfl, rfl⟩
  have HO : Hid (∀ i (hi : i < n.size), badCh (n[i]'hi) = true → validName n = false) := Lib.hid fun i hi h => by
    have h2 : n.data.toList.all (fun c => !badCh c) = false := by
      rw [List.all_eq_false]
      exact ⟨n[i]'hi, by show n.data[i] ∈ _; simp, by simp [h]⟩
    unfold validName
    rw [h2]; simp
  have HA : Hid ((∀ i (hi : i < n.size), badCh (n[i]'hi) = false) → validName n = true) := Lib.hid fun h => by
    have h2 : n.data.toList.all (fun c => !badCh c) = true := by
      rw [List.all_eq_true]
      intro c hc
      obtain ⟨i, hi⟩ := List.getElem?_of_mem hc
      have hil : i < n.data.size := by have := (List.getElem?_eq_some_iff.1 hi).1; simpa using this
      have e : n.data.toList[i]? = some (n[i]'hil) := by
        rw [List.getElem?_eq_getElem (by simpa using hil)]; rfl
      rw [e] at hi
      rw [← Option.some.inj hi, h i hil]
      rfl
    unfold validName
    rw [h2, gx 0 (by omega), decide_eq_true h0, decide_eq_true (by omega : n.size ≤ 30), decide_eq_true (by omega : 97 ≤ (n[0]'(by omega)).toNat), decide_eq_true (by omega : (n[0]'(by omega)).toNat ≤ 122)]
    rfl
  clear gx
  go_enter Tryz.func42, Tryz.ntmps42
  go_wp2_with (fail)
  go_loop [3] (fun i => ∃ k : Nat, k ≤ n.size ∧ i = .int .i64 k ∧ Hid (∀ j (hj : j < n.size), j < k → badCh (n[j]'hj) = false)) (fun i => n.size - (intOf i).toNat)
  case atStart => exact ⟨0, Nat.zero_le _, rfl, Lib.hid fun j hj h => by omega⟩
  case round =>
    obtain ⟨k, hk, rfl, HK⟩ := hrel
    by_cases hlt : k < n.size
    · have k1 : (0 : Int) ≤ (k : Int) := by omega
      have k2 : (k : Int) < (n.size : Int) := by omega
      have hcase : (((n[k]'hlt).toNat : Int) < 45) ∨ (((n[k]'hlt).toNat : Int) = 45) ∨ (45 < ((n[k]'hlt).toNat : Int) ∧ ((n[k]'hlt).toNat : Int) < 48) ∨ (48 ≤ ((n[k]'hlt).toNat : Int) ∧ ((n[k]'hlt).toNat : Int) ≤ 57) ∨ (57 < ((n[k]'hlt).toNat : Int) ∧ ((n[k]'hlt).toNat : Int) < 97) ∨ (97 ≤ ((n[k]'hlt).toNat : Int) ∧ ((n[k]'hlt).toNat : Int) ≤ 122) ∨ (122 < ((n[k]'hlt).toNat : Int)) := by omega
      have hun : badCh (n[k]'hlt) = true ↔ ((((n[k]'hlt).toNat : Int) < 97 ∨ 122 < ((n[k]'hlt).toNat : Int)) ∧ (((n[k]'hlt).toNat : Int) < 48 ∨ 57 < ((n[k]'hlt).toNat : Int)) ∧ ¬ ((n[k]'hlt).toNat : Int) = 45) := by
        unfold badCh
        simp only [Bool.and_eq_true, Bool.or_eq_true, decide_eq_true_eq, bne_iff_ne]
        omega
      have HUN := Lib.hid hun
      clear hun
      rcases hcase with hc | hc | hc | hc | hc | hc | hc
      · skip
        have f0 : ((n[k]'hlt).toNat : Int) < 97 := by omega
        have f1 : ((n[k]'hlt).toNat : Int) < 48 := by omega
        have e1 : (((n[k]'hlt).toNat : Int) != 45) = true := bne_iff_ne.2 (by omega)
        have ho : Hid (validName n = false) := Lib.hid (HO.out k hlt (HUN.out.2 (by omega)))
        clear hc
        go_wp2_with (fail)
        go_ret
        rw [ho.out]
        exact ⟨rfl, rfl⟩
      · skip
        have f0 : ((n[k]'hlt).toNat : Int) < 97 := by omega
        have f1 : ((n[k]'hlt).toNat : Int) < 48 := by omega
        have e1 : (((n[k]'hlt).toNat : Int) != 45) = false := by rw [hc]; rfl
        have hno : Hid (badCh (n[k]'hlt) = false) := Lib.hid (by rw [Bool.eq_false_iff]; intro h; have := HUN.out.1 h; omega)
        go_wp2_with (fail)
        go_round
        case rel =>
          refine ⟨k + 1, by omega, by go_num, Lib.hid fun j hj h => ?_⟩
          by_cases e : j = k
          · subst e; exact hno.out
          · exact HK.out j hj (by omega)
        case measure => simp [intOf]; omega
      · skip
        have f0 : ((n[k]'hlt).toNat : Int) < 97 := by omega
        have f1 : ((n[k]'hlt).toNat : Int) < 48 := by omega
        have e1 : (((n[k]'hlt).toNat : Int) != 45) = true := bne_iff_ne.2 (by omega)
        have ho : Hid (validName n = false) := Lib.hid (HO.out k hlt (HUN.out.2 (by omega)))
        clear hc
        go_wp2_with (fail)
        go_ret
        rw [ho.out]
        exact ⟨rfl, rfl⟩
      · skip
        have f0 : ((n[k]'hlt).toNat : Int) < 97 := by omega
        have f1 : 48 ≤ ((n[k]'hlt).toNat : Int) := by omega
        have f2 : ((n[k]'hlt).toNat : Int) ≤ 57 := by omega
        have f3 : ¬ ((n[k]'hlt).toNat : Int) < 48 := by omega
        have f4 : ¬ 57 < ((n[k]'hlt).toNat : Int) := by omega
        have hno : Hid (badCh (n[k]'hlt) = false) := Lib.hid (by rw [Bool.eq_false_iff]; intro h; have := HUN.out.1 h; omega)
        go_wp2_with (fail)
        go_round
        case rel =>
          refine ⟨k + 1, by omega, by go_num, Lib.hid fun j hj h => ?_⟩
          by_cases e : j = k
          · subst e; exact hno.out
          · exact HK.out j hj (by omega)
        case measure => simp [intOf]; omega
      · skip
        have f0 : ((n[k]'hlt).toNat : Int) < 97 := by omega
        have f1 : 57 < ((n[k]'hlt).toNat : Int) := by omega
        have f2 : ¬ ((n[k]'hlt).toNat : Int) < 48 := by omega
        have e1 : (((n[k]'hlt).toNat : Int) != 45) = true := bne_iff_ne.2 (by omega)
        have ho : Hid (validName n = false) := Lib.hid (HO.out k hlt (HUN.out.2 (by omega)))
        clear hc
        go_wp2_with (fail)
        go_ret
        rw [ho.out]
        exact ⟨rfl, rfl⟩
      · skip
        have f0 : 97 ≤ ((n[k]'hlt).toNat : Int) := by omega
        have f1 : ((n[k]'hlt).toNat : Int) ≤ 122 := by omega
        have f2 : ¬ ((n[k]'hlt).toNat : Int) < 97 := by omega
        have f3 : ¬ 122 < ((n[k]'hlt).toNat : Int) := by omega
        have hno : Hid (badCh (n[k]'hlt) = false) := Lib.hid (by rw [Bool.eq_false_iff]; intro h; have := HUN.out.1 h; omega)
        go_wp2_with (fail)
        go_round
        case rel =>
          refine ⟨k + 1, by omega, by go_num, Lib.hid fun j hj h => ?_⟩
          by_cases e : j = k
          · subst e; exact hno.out
          · exact HK.out j hj (by omega)
        case measure => simp [intOf]; omega
      · skip
        have f0 : 122 < ((n[k]'hlt).toNat : Int) := by omega
        have f1 : 57 < ((n[k]'hlt).toNat : Int) := by omega
        have f2 : ¬ ((n[k]'hlt).toNat : Int) < 97 := by omega
        have f3 : ¬ ((n[k]'hlt).toNat : Int) < 48 := by omega
        have e1 : (((n[k]'hlt).toNat : Int) != 45) = true := bne_iff_ne.2 (by omega)
        have ho : Hid (validName n = false) := Lib.hid (HO.out k hlt (HUN.out.2 (by omega)))
        clear hc
        go_wp2_with (fail)
        go_ret
        rw [ho.out]
        exact ⟨rfl, rfl⟩

    · obtain rfl : k = n.size := by omega
      have ho : Hid (validName n = true) := Lib.hid (HA.out fun j hj => HK.out j hj hj)
      go_wp2_with (fail)
      go_ret
      rw [ho.out]
      exact ⟨rfl, rfl⟩
end Go.Proofs.YtkbdofbjfcajbaaGreat
