/- What the decoder of UTF-8 says of the letter at the front. Plain Lean. -/
import Derived.Test.YthjcolehccbihaaGreatDoorJa
import Derived.Lib.TrimUEq
import Derived.Lib.ValidU
import Derived.Shelf.Unicode.DecodeSlow
set_option linter.unusedSimpArgs false
set_option linter.unusedVariables false
namespace Go.Proofs.YthjcolehccbihaaGreatDoor
open Go.Lib

theorem lead_nat (c : UInt8) : leadLen c = if c.toNat < 128 then 1 else if c.toNat < 194 then 0 else if c.toNat < 224 then 2 else if c.toNat < 240 then 3 else if c.toNat < 245 then 4 else 0 := rfl
theorem second_nat (c d : UInt8) : okSecond c d = decide ((if c.toNat = 224 then 160 else if c.toNat = 240 then 144 else 128) ≤ d.toNat ∧ d.toNat ≤ if c.toNat = 237 then 159 else if c.toNat = 244 then 143 else 191) := by
  unfold okSecond lowSecond highSecond
  have e1 : (c = 224) = (c.toNat = 224) := propext (u8eq c 224)
  have e2 : (c = 240) = (c.toNat = 240) := propext (u8eq c 240)
  have e3 : (c = 237) = (c.toNat = 237) := propext (u8eq c 237)
  have e4 : (c = 244) = (c.toNat = 244) := propext (u8eq c 244)
  simp only [u8le, e1, e2, e3, e4]
  rw [Bool.eq_iff_iff]
  simp only [Bool.and_eq_true, decide_eq_true_eq]
  constructor
  · rintro ⟨h1, h2⟩
    constructor
    · split at h1
      · rename_i h; rw [if_pos h]; exact h1
      · rename_i h; rw [if_neg h]; split at h1
        · rename_i h; rw [if_pos h]; exact h1
        · rename_i h; rw [if_neg h]; exact h1
    · split at h2
      · rename_i h; rw [if_pos h]; exact h2
      · rename_i h; rw [if_neg h]; split at h2
        · rename_i h; rw [if_pos h]; exact h2
        · rename_i h; rw [if_neg h]; exact h2
  · rintro ⟨h1, h2⟩
    constructor
    · split at h1
      · rename_i h; rw [if_pos h]; exact h1
      · rename_i h; rw [if_neg h]; split at h1
        · rename_i h; rw [if_pos h]; exact h1
        · rename_i h; rw [if_neg h]; exact h1
    · split at h2
      · rename_i h; rw [if_pos h]; exact h2
      · rename_i h; rw [if_neg h]; split at h2
        · rename_i h; rw [if_pos h]; exact h2
        · rename_i h; rw [if_neg h]; exact h2
theorem cont_nat (d : UInt8) : isCont d = decide (128 ≤ d.toNat ∧ d.toNat ≤ 191) := by
  unfold isCont
  rw [Bool.eq_iff_iff]
  simp only [Bool.and_eq_true, decide_eq_true_eq, u8le]
  exact Iff.rfl
/-- What a decoder hands back, where a letter of k bytes stands at the front; 0: none does. -/
def DecOk (k : Nat) (p : Nat × Nat) : Prop := if k = 0 then p = (65533, 1) else p.2 = k ∧ p ≠ (65533, 1)
theorem dec_ok (n b0 b1 b2 b3 k : Nat) (h0 : b0 < 256) (h1 : b1 < 256) (h2 : b2 < 256) (h3 : b3 < 256) (hn : 1 ≤ n)
    (hk : k = if b0 < 128 then 1 else if b0 < 194 then 0 else if b0 < 224 then (if 2 ≤ n ∧ 128 ≤ b1 ∧ b1 ≤ 191 then 2 else 0)
      else if b0 < 240 then (if 3 ≤ n ∧ ((if b0 = 224 then 160 else 128) ≤ b1 ∧ b1 ≤ if b0 = 237 then 159 else 191) ∧ 128 ≤ b2 ∧ b2 ≤ 191 then 3 else 0)
      else if b0 < 245 then (if 4 ≤ n ∧ ((if b0 = 240 then 144 else 128) ≤ b1 ∧ b1 ≤ if b0 = 244 then 143 else 191) ∧ (128 ≤ b2 ∧ b2 ≤ 191) ∧ 128 ≤ b3 ∧ b3 ≤ 191 then 4 else 0) else 0) : DecOk k (decodeN n b0 b1 b2 b3) := by
  subst hk
  unfold decodeN
  by_cases a1 : b0 < 128
  · rw [if_pos a1, if_pos a1]
    refine ⟨rfl, fun e => ?_⟩
    injection e with e; omega
  rw [if_neg a1, if_neg a1]
  by_cases a2 : b0 < 194
  · rw [if_pos a2]
    have : ¬ (b0 / 16 = 14 ∧ (1 < n ∧ b1 / 64 = 2) ∧ (2 < n ∧ b2 / 64 = 2)) := by omega
    have : ¬ (b0 / 8 = 30 ∧ (1 < n ∧ b1 / 64 = 2) ∧ (2 < n ∧ b2 / 64 = 2) ∧ (3 < n ∧ b3 / 64 = 2)) := by omega
    rw [if_neg ‹¬ (b0 / 16 = 14 ∧ _)›, if_neg this]
    split
    · rw [if_neg (by omega)]; rfl
    · rfl
  rw [if_neg a2]
  by_cases a3 : b0 < 224
  · rw [if_pos a3]
    have b1' : ¬ (b0 / 16 = 14 ∧ (1 < n ∧ b1 / 64 = 2) ∧ (2 < n ∧ b2 / 64 = 2)) := by omega
    have b2' : ¬ (b0 / 8 = 30 ∧ (1 < n ∧ b1 / 64 = 2) ∧ (2 < n ∧ b2 / 64 = 2) ∧ (3 < n ∧ b3 / 64 = 2)) := by omega
    rw [if_neg b1', if_neg b2']
    by_cases a4 : 2 ≤ n ∧ 128 ≤ b1 ∧ b1 ≤ 191
    · rw [if_pos a4, if_pos (by omega), if_pos (by omega)]
      exact ⟨rfl, fun e => by injection e with _ e; omega⟩
    · rw [if_neg a4, if_neg (by omega)]; rfl
  rw [if_neg a3]
  by_cases a4 : b0 < 240
  · rw [if_pos a4]
    have c1 : ¬ (b0 / 32 = 6 ∧ (1 < n ∧ b1 / 64 = 2)) := by omega
    have c2 : ¬ (b0 / 8 = 30 ∧ (1 < n ∧ b1 / 64 = 2) ∧ (2 < n ∧ b2 / 64 = 2) ∧ (3 < n ∧ b3 / 64 = 2)) := by omega
    rw [if_neg c1, if_neg c2]
    by_cases a5 : 3 ≤ n ∧ ((if b0 = 224 then 160 else 128) ≤ b1 ∧ b1 ≤ if b0 = 237 then 159 else 191) ∧ 128 ≤ b2 ∧ b2 ≤ 191
    · rw [if_pos a5]
      obtain ⟨x1, ⟨x2, x3⟩, x4, x5⟩ := a5
      have y1 : 128 ≤ b1 ∧ b1 ≤ 191 ∧ (b0 = 224 → 160 ≤ b1) ∧ (b0 = 237 → b1 ≤ 159) := by
        split at x2 <;> split at x3 <;> omega
      rw [if_pos (by omega), if_pos (by omega)]
      exact ⟨rfl, fun e => by injection e with _ e; omega⟩
    · rw [if_neg a5]
      have y1 : ¬ (3 ≤ n ∧ (128 ≤ b1 ∧ b1 ≤ 191 ∧ (b0 = 224 → 160 ≤ b1) ∧ (b0 = 237 → b1 ≤ 159)) ∧ 128 ≤ b2 ∧ b2 ≤ 191) := by
        rintro ⟨z1, ⟨z2, z3, z4, z5⟩, z6, z7⟩
        exact a5 ⟨z1, ⟨by split; exact z4 ‹_›; exact z2, by split; exact z5 ‹_›; exact z3⟩, z6, z7⟩
      split
      · rw [if_neg (by omega)]; rfl
      · rfl
  rw [if_neg a4]
  have c1 : ¬ (b0 / 32 = 6 ∧ (1 < n ∧ b1 / 64 = 2)) := by omega
  have c2 : ¬ (b0 / 16 = 14 ∧ (1 < n ∧ b1 / 64 = 2) ∧ (2 < n ∧ b2 / 64 = 2)) := by omega
  rw [if_neg c1, if_neg c2]
  by_cases a5 : b0 < 245
  · rw [if_pos a5]
    by_cases a6 : 4 ≤ n ∧ ((if b0 = 240 then 144 else 128) ≤ b1 ∧ b1 ≤ if b0 = 244 then 143 else 191) ∧ (128 ≤ b2 ∧ b2 ≤ 191) ∧ 128 ≤ b3 ∧ b3 ≤ 191
    · rw [if_pos a6]
      obtain ⟨x1, ⟨x2, x3⟩, x4, x5⟩ := a6
      have y1 : 128 ≤ b1 ∧ b1 ≤ 191 ∧ (b0 = 240 → 144 ≤ b1) ∧ (b0 = 244 → b1 ≤ 143) := by
        split at x2 <;> split at x3 <;> omega
      rw [if_pos (by omega), if_pos (by omega)]
      exact ⟨rfl, fun e => by injection e with _ e; omega⟩
    · rw [if_neg a6]
      have y1 : ¬ (4 ≤ n ∧ (128 ≤ b1 ∧ b1 ≤ 191 ∧ (b0 = 240 → 144 ≤ b1) ∧ (b0 = 244 → b1 ≤ 143)) ∧ (128 ≤ b2 ∧ b2 ≤ 191) ∧ 128 ≤ b3 ∧ b3 ≤ 191) := by
        rintro ⟨z1, ⟨z2, z3, z4, z5⟩, z6, z7⟩
        exact a6 ⟨z1, ⟨by split; exact z4 ‹_›; exact z2, by split; exact z5 ‹_›; exact z3⟩, z6, z7⟩
      split
      · rw [if_neg (by omega)]; rfl
      · rfl
  · rw [if_neg a5]
    split
    · rw [if_neg (by omega)]; rfl
    · rfl
theorem decL_ok (c : UInt8) (l : List UInt8) : DecOk (seqLen (c :: l)) (decodeL (c :: l)) := by
  rw [decodeL_N]
  refine dec_ok _ _ _ _ _ _ (UInt8.toNat_lt _) (UInt8.toNat_lt _) (UInt8.toNat_lt _) (UInt8.toNat_lt _) (by simp) ?_
  have e0 : (c :: l).getD 0 0 = c := rfl
  rw [e0]
  simp only [seqLen, lead_nat]
  have hz : (0 : UInt8).toNat = 0 := rfl
  by_cases a1 : c.toNat < 128
  · simp [a1]
  by_cases a2 : c.toNat < 194
  · simp [a1, a2]
  by_cases a3 : c.toNat < 224
  · simp only [a1, a2, a3, if_false, if_true]
    cases l with
    | nil => simp
    | cons d l =>
      have e1 : (c :: d :: l).getD 1 0 = d := rfl
      simp only [e1, second_nat, List.length_cons]
      have n224 : ¬ c.toNat = 224 := by omega
      have n240 : ¬ c.toNat = 240 := by omega
      have n237 : ¬ c.toNat = 237 := by omega
      have n244 : ¬ c.toNat = 244 := by omega
      simp only [n224, n240, n237, n244, if_false]
      simp
  by_cases a4 : c.toNat < 240
  · simp only [a1, a2, a3, a4, if_false, if_true]
    match l with
    | [] => simp
    | [d] => simp
    | d :: e :: l =>
      have e1 : (c :: d :: e :: l).getD 1 0 = d := rfl
      have e2 : (c :: d :: e :: l).getD 2 0 = e := rfl
      simp only [e1, e2, second_nat, cont_nat, List.length_cons]
      have n240 : ¬ c.toNat = 240 := by omega
      have n244 : ¬ c.toNat = 244 := by omega
      simp only [n240, n244, if_false]
      simp
  by_cases a5 : c.toNat < 245
  · simp only [a1, a2, a3, a4, a5, if_false, if_true]
    match l with
    | [] => simp
    | [d] => simp
    | [d, e] => simp
    | d :: e :: f :: l =>
      have e1 : (c :: d :: e :: f :: l).getD 1 0 = d := rfl
      have e2 : (c :: d :: e :: f :: l).getD 2 0 = e := rfl
      have e3 : (c :: d :: e :: f :: l).getD 3 0 = f := rfl
      simp only [e1, e2, e3, second_nat, cont_nat, List.length_cons]
      have n224 : ¬ c.toNat = 224 := by omega
      have n237 : ¬ c.toNat = 237 := by omega
      simp only [n224, n237, if_false]
      simp [and_assoc]
  · simp [a1, a2, a3, a4, a5]
theorem decGo_ok {l : List UInt8} (h : l ≠ []) : DecOk (seqLen l) (decodeGo (str l)) := by
  cases l with
  | nil => exact absurd rfl h
  | cons c l =>
    have : decodeGo (str (c :: l)) = decodeL (c :: l) := by unfold decodeGo decodeL; rw [if_neg (by simp [str, ByteArray.size])]; rfl
    rw [this]
    exact decL_ok c l
theorem validGo_eq : ∀ (n : Nat) (l : List UInt8), l.length ≤ n → validGoD n l = validN n l
  | 0, l, h => by
    have : l = [] := List.length_eq_zero_iff.1 (by omega)
    subst this; rfl
  | n + 1, [], _ => by simp [validGoD, validN]
  | n + 1, c :: l, h => by
    have hd := decL_ok c l
    unfold DecOk at hd
    simp only [validGoD, validN]
    rw [if_neg (by simp)]
    by_cases h0 : seqLen (c :: l) = 0
    · rw [if_pos h0] at hd
      rw [hd, if_pos ⟨rfl, rfl⟩, if_pos h0]
    · rw [if_neg h0] at hd
      rw [if_neg (fun e => hd.2 (Prod.ext e.1 e.2)), if_neg h0, hd.1]
      exact validGo_eq n _ (by simp at h ⊢; omega)
/-- utf8.ValidString's answer. -/
theorem validD_eq (l : List UInt8) : validD l = valid l := validGo_eq _ _ (Nat.le_refl _)
end Go.Proofs.YthjcolehccbihaaGreatDoor
