/- Ints as texts and back, plain. -/
import Derived.Test.YthjcolehccbihaaGreatDoorz00
import Derived.Lib.ItoaMem
import Derived.Lib.ItoaLen
import Derived.Lib.AtoiAllCases
import Derived.Shelf.GgClosure.StringsIndexFunc
import Derived.Laws.RangeAny
import Derived.Lib.Strings
set_option linter.unusedSimpArgs false
set_option linter.unusedVariables false
namespace Go.Proofs.YthjcolehccbihaaGreatDoor
open Go
theorem u8_all {P : UInt8 → Prop} (h : ∀ n : Fin 256, P (UInt8.ofNat n.val)) (c : UInt8) : P c := by
  have := h ⟨c.toNat, c.toNat_lt⟩
  simpa using this
/-- The last m digits of a number. -/
def lowD (u m : Nat) : List UInt8 := (List.range m).map fun t => Lib.dg u (m - 1 - t)
theorem lowD_succ (u m : Nat) : lowD u (m + 1) = Lib.dg u m :: lowD u m := by
  unfold lowD
  rw [List.range_succ_eq_map, List.map_cons, List.map_map]
  congr 1
  refine List.map_congr_left fun t ht => ?_
  show Lib.dg u (m + 1 - 1 - (t + 1)) = Lib.dg u (m - 1 - t)
  congr 1
  omega
theorem lowD_length (u m : Nat) : (lowD u m).length = m := by simp [lowD]
theorem decDigits_low (u : Nat) : Lib.decDigits u = lowD u (Lib.nDigits u) := Lib.decDigits_eq u
theorem nDigits_is {u m : Nat} (hm : 1 ≤ m) (h0 : 10 ^ (m - 1) ≤ u) (h1 : u < 10 ^ m) : Lib.nDigits u = m := by
  have := Lib.nDigits_unique (m - 1) u h0 (by rw [show m - 1 + 1 = m by omega]; exact h1)
  omega
theorem itoa_small (n : Int) (h0 : -9223372036854775808 ≤ n) (h1 : n ≤ 9223372036854775807) : (Lib.itoa n).length ≤ 21 := Lib.itoa_length_le n h0 h1
theorem dg_val {c : UInt8} (h : isDigit c = true) : 48 ≤ c.toNat ∧ c.toNat ≤ 57 := by
  exact u8_all (P := fun c => isDigit c = true → 48 ≤ c.toNat ∧ c.toNat ≤ 57) (by decide +kernel) c h
/-- The first so many digits in base 10000. -/
def chunks (u m : Nat) : List Int := (List.range m).map fun j => ((u / 10000 ^ j % 10000 : Nat) : Int)
theorem chunks_succ (u m : Nat) : chunks u (m + 1) = chunks u m ++ [((u / 10000 ^ m % 10000 : Nat) : Int)] := by
  unfold chunks
  rw [List.range_succ, List.map_append]
  rfl
theorem chunks_length (u m : Nat) : (chunks u m).length = m := by simp [chunks]
theorem chunks_at (u m i : Nat) (h : i < m) : (chunks u m)[i]? = some ((u / 10000 ^ i % 10000 : Nat) : Int) := by
  simp [chunks, h]
/-- How many there are. -/
structure Top (u m : Nat) : Prop where
  all : u / 10000 ^ m = 0
  top : m ≠ 0 → u / 10000 ^ (m - 1) ≠ 0
theorem Top.last {u m : Nat} (h : Top u m) (hm : m ≠ 0) : u / 10000 ^ (m - 1) % 10000 ≠ 0 ∧ u / 10000 ^ (m - 1) < 10000 := by
  have h1 := h.top hm
  have h2 := h.all
  have e : 10000 ^ m = 10000 ^ (m - 1) * 10000 := by rw [← Nat.pow_succ, show (m - 1).succ = m by omega]
  rw [e, ← Nat.div_div_eq_div_mul] at h2
  omega
theorem pow_4 (i : Nat) : 10 ^ (4 * i) = 10000 ^ i := by rw [Nat.pow_mul]
/-- What is left of a digit in base 10000 behind k digits; its next one. -/
theorem chunk_dg (u i k : Nat) (hk : k < 4) : u / 10000 ^ i % 10000 / 10 ^ k % 10 = u / 10 ^ (4 * i + k) % 10 := by
  rw [Nat.pow_add, pow_4, ← Nat.div_div_eq_div_mul]
  generalize u / 10000 ^ i = x
  have : k = 0 ∨ k = 1 ∨ k = 2 ∨ k = 3 := by omega
  rcases this with rfl | rfl | rfl | rfl <;> simp <;> omega
theorem chunk_next (x k : Nat) : x / 10 ^ k / 10 = x / 10 ^ (k + 1) := by rw [Nat.pow_succ, Nat.div_div_eq_div_mul]
theorem chunk_end (x : Nat) (h : x < 10000) : x / 10 ^ 4 = 0 := by omega
/-- Where the top one is used up, all digits are there. -/
theorem top_digits {u m k : Nat} (h : Top u m) (hm : m ≠ 0) (hk : k ≤ 4) (h0 : u / 10000 ^ (m - 1) % 10000 / 10 ^ k = 0) (h1 : k ≠ 0 → u / 10000 ^ (m - 1) % 10000 / 10 ^ (k - 1) ≠ 0) : lowD u (4 * (m - 1) + k) = Lib.decDigits u := by
  obtain ⟨a, b⟩ := h.last hm
  have e : u / 10000 ^ (m - 1) % 10000 = u / 10000 ^ (m - 1) := Nat.mod_eq_of_lt b
  rw [e] at h0 h1 a
  have hk0 : k ≠ 0 := by
    rintro rfl
    rw [Nat.pow_zero, Nat.div_one] at h0
    exact a h0
  have hk1 := h1 hk0
  have ep : ∀ j, u / 10000 ^ (m - 1) / 10 ^ j = u / 10 ^ (4 * (m - 1) + j) := fun j => by rw [Nat.pow_add, pow_4, Nat.div_div_eq_div_mul]
  rw [ep] at h0 hk1
  rw [decDigits_low, nDigits_is (m := 4 * (m - 1) + k) (by omega)]
  · rw [show 4 * (m - 1) + k - 1 = 4 * (m - 1) + (k - 1) by omega]
    refine Nat.le_of_not_lt fun hlt => hk1 (Nat.div_eq_of_lt hlt)
  · refine Nat.lt_of_not_le fun hle => ?_
    have := Nat.div_pos hle (Nat.pow_pos (by decide))
    omega
theorem top_nil {u : Nat} (h : Top u 0) : u = 0 := by have := h.all; simpa using this
theorem itoa_text (n : Int) : Lib.itoa n = (if n < 0 then [45] else []) ++ Lib.decDigits n.natAbs := by
  unfold Lib.itoa
  split
  · rfl
  · rw [List.nil_append]; congr 1; omega
def oddP (x : Nat) : Bool := decide (x < 48) || decide (57 < x)
theorem dig_iff (c : UInt8) : isDigit c = !oddP c.toNat := by
  exact u8_all (P := fun c => isDigit c = !oddP c.toNat) (by decide +kernel) c
theorem odd_from (s : ByteArray) : ∀ (f pos : Nat), s.size ≤ pos + f →
    decide (0 ≤ Lib.idxFuncFrom oddP true s f pos) = !((raw s).drop pos).all isDigit
  | 0, pos, h => by
    rw [Lib.idxFuncFrom, List.drop_eq_nil_of_le (by show s.data.toList.length ≤ pos; rw [Array.length_toList]; exact h)]
    rfl
  | f + 1, pos, h => by
    unfold Lib.idxFuncFrom
    by_cases hp : pos < s.size
    · have hp2 : pos < (raw s).length := by show pos < s.data.toList.length; rw [Array.length_toList]; exact hp
      obtain ⟨c, hc⟩ : ∃ c, c = s[pos]'hp := ⟨_, rfl⟩
      have hd : (raw s).drop pos = c :: (raw s).drop (pos + 1) := by
        rw [List.drop_eq_getElem_cons hp2, hc]
        congr 1
      rw [if_pos hp, hd, List.all_cons, dig_iff]
      have hda := decode_ascii s pos hp
      have hdh := decode_high s pos hp
      rw [← hc] at hda hdh
      clear hc
      by_cases ha : c.toNat < 128
      · rw [hda ha]
        simp only
        cases ho : oddP c.toNat with
        | true =>
          rw [if_pos rfl]
          simp
        | false =>
          rw [if_neg (by decide), odd_from s f (pos + 1) (by omega)]
          simp
      · have hh := (hdh (by omega)).1
        have h1 : oddP (Utf8.decode s pos).1 = true := by simp [oddP]; omega
        have h2 : oddP c.toNat = true := by simp [oddP]; omega
        rw [if_pos h1, h2]
        simp
    · rw [if_neg hp, List.drop_eq_nil_of_le (by show s.data.toList.length ≤ pos; rw [Array.length_toList]; exact Nat.le_of_not_lt hp)]
      rfl
theorem odd_idx (s : ByteArray) : decide (0 ≤ Lib.idxFunc oddP true s) = !(raw s).all isDigit := by
  have := odd_from s s.size 0 (by omega)
  rw [List.drop_zero] at this
  exact this
def below0 (T : List UInt8) : Bool := Lib.hasPrefix T [45]
def part0 (T : List UInt8) : List UInt8 := Lib.trimPrefix T [45]
def badInt (T : List UInt8) : Bool := decide (part0 T = []) || !(part0 T).all isDigit || ((part0 T).head? == some 48 && (decide (1 < (part0 T).length) || below0 T))
def intEnd : Lib.NumEnd Int → Int × Nat
  | .ok n => (n, 0)
  | _ => (0, 6)
def asInt (k : Int) (T : ByteArray) : Int × Nat :=
  if k ≠ 3 then (0, 13) else if badInt (raw T) then (0, 10) else intEnd (Lib.atoiAll (raw T))
end Go.Proofs.YthjcolehccbihaaGreatDoor
