/- Ints as texts and back, plain. -/
import Derived.Test.YthjcolehccbihaaGreatDoorJa
import Derived.Lib.ItoaMem
import Derived.Lib.ItoaLen
import Derived.Lib.AtoiAllCases
import Derived.Shelf.GgClosure.StringsIndexFunc
import Derived.Laws.RangeAny
import Derived.Lib.Strings
set_option linter.unusedSimpArgs false
set_option linter.unusedVariables false
namespace Go.Proofs.YthjcolehccbihaaGreatDoor
open Go

theorem u8_all {P : UInt8 → Prop} (h : ∀ n : Fin 256, P (UInt8.ofNat n.val)) (c : UInt8) : P c := by
  have := h ⟨c.toNat, c.toNat_lt⟩
  simpa using this
/-! ### Digits -/
/-- The last m digits of a number. -/
def lowD (u m : Nat) : List UInt8 := (List.range m).map fun t => Lib.dg u (m - 1 - t)
theorem lowD_succ (u m : Nat) : lowD u (m + 1) = Lib.dg u m :: lowD u m := by
  unfold lowD
  rw [List.range_succ_eq_map, List.map_cons, List.map_map]
  congr 1
  refine List.map_congr_left fun t ht => ?_
  show Lib.dg u (m + 1 - 1 - (t + 1)) = Lib.dg u (m - 1 - t)
  congr 1
  omega
theorem lowD_length (u m : Nat) : (lowD u m).length = m := by simp [lowD]
theorem decDigits_low (u : Nat) : Lib.decDigits u = lowD u (Lib.nDigits u) := Lib.decDigits_eq u
theorem dg_isDigit (u j : Nat) : isDigit (Lib.dg u j) = true := by
  have h : ∀ i : Fin 10, isDigit (UInt8.ofNat (48 + i.val)) = true := by decide
  exact h ⟨u / 10 ^ j % 10, Nat.mod_lt _ (by decide)⟩
theorem lowD_digits (u m : Nat) : ∀ c ∈ lowD u m, isDigit c = true := by
  intro c hc
  obtain ⟨t, _, rfl⟩ := List.mem_map.1 hc
  exact dg_isDigit _ _
theorem dec_digits (u : Nat) : ∀ c ∈ Lib.decDigits u, isDigit c = true := by rw [decDigits_low]; exact lowD_digits _ _
theorem digits_all : ∀ l : List UInt8, (∀ c ∈ l, isDigit c = true) → digits l = []
  | [], _ => rfl
  | c :: l, h => by rw [digits, if_pos (h c List.mem_cons_self)]; exact digits_all l fun d hd => h d (List.mem_cons_of_mem _ hd)
theorem nDigits_le : ∀ u : Nat, u ≠ 0 → 10 ^ (Lib.nDigits u - 1) ≤ u := by
  intro u
  induction u using Nat.strongRecOn with
  | _ u ih =>
    intro h0
    by_cases h : u < 10
    · rw [Lib.nDigits_small h]; simp; omega
    · rw [Lib.nDigits_big h]
      have := ih (u / 10) (by omega) (by omega)
      have hp := Lib.nDigits_pos (u / 10)
      rw [show Lib.nDigits (u / 10) + 1 - 1 = Lib.nDigits (u / 10) - 1 + 1 by omega, Nat.pow_succ]
      omega
theorem nDigits_is {u m : Nat} (hm : 1 ≤ m) (h0 : 10 ^ (m - 1) ≤ u) (h1 : u < 10 ^ m) : Lib.nDigits u = m := by
  have := Lib.nDigits_unique (m - 1) u h0 (by rw [show m - 1 + 1 = m by omega]; exact h1)
  omega
/-- A number's digits: the first, and the others; the first is no 0, but where it is all. -/
theorem dec_cons (u : Nat) : ∃ c l, Lib.decDigits u = c :: l ∧ isDigit c = true ∧ (∀ d ∈ l, isDigit d = true) ∧ ((u = 0 ∧ c = 48 ∧ l = []) ∨ (u ≠ 0 ∧ c ≠ 48)) := by
  have hd := dec_digits u
  have hp := Lib.nDigits_pos u
  have e : Lib.decDigits u = Lib.dg u (Lib.nDigits u - 1) :: lowD u (Lib.nDigits u - 1) := by
    rw [decDigits_low]
    obtain ⟨k, hk⟩ : ∃ k, Lib.nDigits u = k + 1 := ⟨Lib.nDigits u - 1, by omega⟩
    rw [hk, lowD_succ]
    simp
  refine ⟨_, _, e, dg_isDigit _ _, lowD_digits _ _, ?_⟩
  by_cases h0 : u = 0
  · subst h0
    exact .inl ⟨rfl, by rw [Lib.nDigits_small (by decide)]; decide, by rw [Lib.nDigits_small (by decide)]; rfl⟩
  · refine .inr ⟨h0, ?_⟩
    have h1 := nDigits_le u h0
    have h2 := Lib.lt_pow_nDigits u
    have h3 : 0 < u / 10 ^ (Lib.nDigits u - 1) := Nat.div_pos h1 (Nat.pow_pos (by decide))
    have h4 : u / 10 ^ (Lib.nDigits u - 1) < 10 := by
      rw [Nat.div_lt_iff_lt_mul (Nat.pow_pos (by decide)), Nat.mul_comm, ← Nat.pow_succ, show (Lib.nDigits u - 1).succ = Lib.nDigits u by omega]
      exact h2
    unfold Lib.dg
    have h : ∀ i : Fin 10, i.val ≠ 0 → UInt8.ofNat (48 + i.val % 10) ≠ 48 := by decide
    exact h ⟨_, h4⟩ (Nat.pos_iff_ne_zero.1 h3)

/-! ### An int's text is a number's -/
theorem dig_no {c : UInt8} (h : isDigit c = true) : (c == 45) = false ∧ (c == 46) = false ∧ isE c = false := by
  exact u8_all (P := fun c => isDigit c = true → (c == 45) = false ∧ (c == 46) = false ∧ isE c = false) (by decide +kernel) c h
theorem whole_dec (u : Nat) : numWhole (Lib.decDigits u) = .ok () [] := by
  obtain ⟨c, l, e, hc, hl, h | h⟩ := dec_cons u
  · obtain ⟨-, rfl, rfl⟩ := h
    rw [e]; rfl
  · rw [e]
    have h48 : (c == 48) = false := by simpa using h.2
    simp [numWhole, mayBe, h48, some1, hc, digits_all l hl]
theorem rest_dec (u : Nat) : numRest (Lib.decDigits u) = .ok () [] := by
  have h := whole_dec u
  obtain ⟨c, l, e, hc, hl, -⟩ := dec_cons u
  have h45 := (dig_no hc).1
  have hm : (mayBe (· == 45) (Lib.decDigits u)).2 = Lib.decDigits u := by rw [e]; simp [mayBe, h45]
  unfold numRest
  rw [hm, h]
  rfl
theorem rest_neg (u : Nat) : numRest (45 :: Lib.decDigits u) = .ok () [] := by
  have h := whole_dec u
  unfold numRest
  rw [show (mayBe (· == 45) (45 :: Lib.decDigits u)).2 = Lib.decDigits u from rfl, h]
  rfl
theorem rest_itoa (n : Int) : numRest (Lib.itoa n) = .ok () [] := by
  unfold Lib.itoa
  split
  · exact rest_neg _
  · exact rest_dec _
theorem itoa_small (n : Int) (h0 : -9223372036854775808 ≤ n) (h1 : n ≤ 9223372036854775807) : (Lib.itoa n).length ≤ 21 := Lib.itoa_length_le n h0 h1
theorem number_itoa {n : Int} (h0 : -9223372036854775808 ≤ n) (h1 : n ≤ 9223372036854775807) : number (Lib.itoa n) = .ok (.mk 3 (str (Lib.itoa n)) [] []) [] := by
  have h := itoa_small n h0 h1
  unfold number
  rw [rest_itoa]
  simp only [Out.andThen_ok, List.length_nil, Nat.sub_zero, List.take_length]
  rw [if_neg (by omega)]
theorem literal_itoa {n : Int} (h0 : -9223372036854775808 ≤ n) (h1 : n ≤ 9223372036854775807) : literal (Lib.itoa n) = true := by
  unfold literal
  rw [number_itoa h0 h1]
/-! ### Back to the int -/
theorem dg_val {c : UInt8} (h : isDigit c = true) : 48 ≤ c.toNat ∧ c.toNat ≤ 57 := by
  exact u8_all (P := fun c => isDigit c = true → 48 ≤ c.toNat ∧ c.toNat ≤ 57) (by decide +kernel) c h
theorem dg_toNat (u j : Nat) : (Lib.dg u j).toNat = 48 + u / 10 ^ j % 10 := by
  unfold Lib.dg
  have : u / 10 ^ j % 10 < 10 := Nat.mod_lt _ (by decide)
  rw [UInt8.toNat_ofNat']
  omega
theorem parse_low (u : Nat) (hu : u < 18446744073709551616) : ∀ m, Lib.parseUint10 (u / 10 ^ m) (lowD u m) = .ok u
  | 0 => by rw [show lowD u 0 = [] from rfl, Lib.parseUint10]; simp
  | m + 1 => by
    have hv := dg_toNat u m
    have hd : u / 10 ^ m % 10 < 10 := Nat.mod_lt _ (by decide)
    have e : u / 10 ^ (m + 1) * 10 + u / 10 ^ m % 10 = u / 10 ^ m := by
      rw [Nat.pow_succ, ← Nat.div_div_eq_div_mul]
      omega
    have hle : u / 10 ^ m ≤ u := Nat.div_le_self _ _
    rw [lowD_succ, Lib.parseUint10, if_pos (by omega), if_neg (by omega), hv, show 48 + u / 10 ^ m % 10 - 48 = u / 10 ^ m % 10 by omega, e, if_neg (by omega)]
    exact parse_low u hu m
theorem parse_dec (u : Nat) (hu : u < 18446744073709551616) : Lib.parseMag (Lib.decDigits u) = .ok u := by
  obtain ⟨c, l, e, -⟩ := dec_cons u
  unfold Lib.parseMag
  rw [if_neg (by rw [e]; simp)]
  have h := parse_low u hu (Lib.nDigits u)
  rw [Nat.div_eq_of_lt (Lib.lt_pow_nDigits u), ← decDigits_low] at h
  exact h
theorem atoi_itoa {n : Int} (h0 : -9223372036854775808 ≤ n) (h1 : n ≤ 9223372036854775807) : Lib.atoiAll (Lib.itoa n) = .ok n := by
  unfold Lib.itoa
  split
  · rename_i h
    rw [Lib.atoiAll_minus, parse_dec _ (by omega)]
    simp only [Lib.signed]
    split
    · omega
    · congr 1; omega
  · rename_i h
    have hp := parse_dec n.toNat (by omega)
    obtain ⟨c, l, e, hc, -⟩ := dec_cons n.toNat
    have := dg_val hc
    rw [e] at hp ⊢
    rw [Lib.atoiAll_plain c l (by omega) (by omega), hp]
    simp only [Lib.signless]
    split
    · omega
    · congr 1; omega

/-! ### In base 10000 -/
/-- The first so many digits in base 10000. -/
def chunks (u m : Nat) : List Int := (List.range m).map fun j => ((u / 10000 ^ j % 10000 : Nat) : Int)
theorem chunks_succ (u m : Nat) : chunks u (m + 1) = chunks u m ++ [((u / 10000 ^ m % 10000 : Nat) : Int)] := by
  unfold chunks
  rw [List.range_succ, List.map_append]
  rfl
theorem chunks_length (u m : Nat) : (chunks u m).length = m := by simp [chunks]
theorem chunks_at (u m i : Nat) (h : i < m) : (chunks u m)[i]? = some ((u / 10000 ^ i % 10000 : Nat) : Int) := by
  simp [chunks, h]
/-- How many there are. -/
structure Top (u m : Nat) : Prop where
  all : u / 10000 ^ m = 0
  top : m ≠ 0 → u / 10000 ^ (m - 1) ≠ 0
theorem Top.last {u m : Nat} (h : Top u m) (hm : m ≠ 0) : u / 10000 ^ (m - 1) % 10000 ≠ 0 ∧ u / 10000 ^ (m - 1) < 10000 := by
  have h1 := h.top hm
  have h2 := h.all
  have e : 10000 ^ m = 10000 ^ (m - 1) * 10000 := by rw [← Nat.pow_succ, show (m - 1).succ = m by omega]
  rw [e, ← Nat.div_div_eq_div_mul] at h2
  omega
theorem pow_4 (i : Nat) : 10 ^ (4 * i) = 10000 ^ i := by rw [Nat.pow_mul]
/-- What is left of a digit in base 10000 behind k digits; its next one. -/
theorem chunk_dg (u i k : Nat) (hk : k < 4) : u / 10000 ^ i % 10000 / 10 ^ k % 10 = u / 10 ^ (4 * i + k) % 10 := by
  rw [Nat.pow_add, pow_4, ← Nat.div_div_eq_div_mul]
  generalize u / 10000 ^ i = x
  have : k = 0 ∨ k = 1 ∨ k = 2 ∨ k = 3 := by omega
  rcases this with rfl | rfl | rfl | rfl <;> simp <;> omega
theorem chunk_next (x k : Nat) : x / 10 ^ k / 10 = x / 10 ^ (k + 1) := by rw [Nat.pow_succ, Nat.div_div_eq_div_mul]
theorem chunk_end (x : Nat) (h : x < 10000) : x / 10 ^ 4 = 0 := by omega
/-- Where the top one is used up, all digits are there. -/
theorem top_digits {u m k : Nat} (h : Top u m) (hm : m ≠ 0) (hk : k ≤ 4) (h0 : u / 10000 ^ (m - 1) % 10000 / 10 ^ k = 0) (h1 : k ≠ 0 → u / 10000 ^ (m - 1) % 10000 / 10 ^ (k - 1) ≠ 0) : lowD u (4 * (m - 1) + k) = Lib.decDigits u := by
  obtain ⟨a, b⟩ := h.last hm
  have e : u / 10000 ^ (m - 1) % 10000 = u / 10000 ^ (m - 1) := Nat.mod_eq_of_lt b
  rw [e] at h0 h1 a
  have hk0 : k ≠ 0 := by
    rintro rfl
    rw [Nat.pow_zero, Nat.div_one] at h0
    exact a h0
  have hk1 := h1 hk0
  have ep : ∀ j, u / 10000 ^ (m - 1) / 10 ^ j = u / 10 ^ (4 * (m - 1) + j) := fun j => by rw [Nat.pow_add, pow_4, Nat.div_div_eq_div_mul]
  rw [ep] at h0 hk1
  rw [decDigits_low, nDigits_is (m := 4 * (m - 1) + k) (by omega)]
  · rw [show 4 * (m - 1) + k - 1 = 4 * (m - 1) + (k - 1) by omega]
    refine Nat.le_of_not_lt fun hlt => hk1 (Nat.div_eq_of_lt hlt)
  · refine Nat.lt_of_not_le fun hle => ?_
    have := Nat.div_pos hle (Nat.pow_pos (by decide))
    omega
theorem top_nil {u : Nat} (h : Top u 0) : u = 0 := by have := h.all; simpa using this
theorem itoa_text (n : Int) : Lib.itoa n = (if n < 0 then [45] else []) ++ Lib.decDigits n.natAbs := by
  unfold Lib.itoa
  split
  · rfl
  · rw [List.nil_append]; congr 1; omega

/-! ### What is no digit -/
def oddP (x : Nat) : Bool := decide (x < 48) || decide (57 < x)
theorem dig_iff (c : UInt8) : isDigit c = !oddP c.toNat := by
  exact u8_all (P := fun c => isDigit c = !oddP c.toNat) (by decide +kernel) c
theorem odd_from (s : ByteArray) : ∀ (f pos : Nat), s.size ≤ pos + f →
    decide (0 ≤ Lib.idxFuncFrom oddP true s f pos) = !((raw s).drop pos).all isDigit
  | 0, pos, h => by
    rw [Lib.idxFuncFrom, List.drop_eq_nil_of_le (by show s.data.toList.length ≤ pos; rw [Array.length_toList]; exact h)]
    rfl
  | f + 1, pos, h => by
    unfold Lib.idxFuncFrom
    by_cases hp : pos < s.size
    · have hp2 : pos < (raw s).length := by show pos < s.data.toList.length; rw [Array.length_toList]; exact hp
      obtain ⟨c, hc⟩ : ∃ c, c = s[pos]'hp := ⟨_, rfl⟩
      have hd : (raw s).drop pos = c :: (raw s).drop (pos + 1) := by
        rw [List.drop_eq_getElem_cons hp2, hc]
        congr 1
      rw [if_pos hp, hd, List.all_cons, dig_iff]
      have hda := decode_ascii s pos hp
      have hdh := decode_high s pos hp
      rw [← hc] at hda hdh
      clear hc
      by_cases ha : c.toNat < 128
      · rw [hda ha]
        simp only
        cases ho : oddP c.toNat with
        | true =>
          rw [if_pos rfl]
          simp
        | false =>
          rw [if_neg (by decide), odd_from s f (pos + 1) (by omega)]
          simp
      · have hh := (hdh (by omega)).1
        have h1 : oddP (Utf8.decode s pos).1 = true := by simp [oddP]; omega
        have h2 : oddP c.toNat = true := by simp [oddP]; omega
        rw [if_pos h1, h2]
        simp
    · rw [if_neg hp, List.drop_eq_nil_of_le (by show s.data.toList.length ≤ pos; rw [Array.length_toList]; exact Nat.le_of_not_lt hp)]
      rfl
theorem odd_idx (s : ByteArray) : decide (0 ≤ Lib.idxFunc oddP true s) = !(raw s).all isDigit := by
  have := odd_from s s.size 0 (by omega)
  rw [List.drop_zero] at this
  exact this

/-! ### json.Int, plain -/
def below0 (T : List UInt8) : Bool := Lib.hasPrefix T [45]
def part0 (T : List UInt8) : List UInt8 := Lib.trimPrefix T [45]
def badInt (T : List UInt8) : Bool := decide (part0 T = []) || !(part0 T).all isDigit || ((part0 T).head? == some 48 && (decide (1 < (part0 T).length) || below0 T))
def intEnd : Lib.NumEnd Int → Int × Nat
  | .ok n => (n, 0)
  | _ => (0, 6)
def asInt (k : Int) (T : ByteArray) : Int × Nat :=
  if k ≠ 3 then (0, 13) else if badInt (raw T) then (0, 10) else intEnd (Lib.atoiAll (raw T))
theorem badInt_itoa (n : Int) : badInt (Lib.itoa n) = false := by
  have hall : ∀ u, (Lib.decDigits u).all isDigit = true := fun u => List.all_eq_true.2 (dec_digits u)
  unfold Lib.itoa
  split
  · rename_i h
    obtain ⟨c, l, e, hc, hl, h1 | h1⟩ := dec_cons n.natAbs
    · omega
    · have h48 : c ≠ 48 := h1.2
      have := hall n.natAbs
      rw [e] at this ⊢
      simp [badInt, below0, part0, Lib.hasPrefix, Lib.trimPrefix, List.isPrefixOf, this, h48] at this ⊢
      try exact this
  · obtain ⟨c, l, e, hc, hl, h1⟩ := dec_cons n.toNat
    have h45 := (dig_no hc).1
    have h45' : c ≠ 45 := by simpa using h45
    have := hall n.toNat
    have hb : below0 (c :: l) = false := by simp [below0, Lib.hasPrefix, List.isPrefixOf]; exact fun h => h45' h.symm
    have hp : part0 (c :: l) = c :: l := by unfold part0 Lib.trimPrefix; rw [show Lib.hasPrefix (c :: l) [45] = false from hb]; rfl
    rw [e] at this ⊢
    unfold badInt
    rw [hp, hb, this]
    rcases h1 with ⟨-, rfl, rfl⟩ | ⟨-, h48⟩
    · rfl
    · simp [h48]
theorem int_itoa {n : Int} (h0 : -9223372036854775808 ≤ n) (h1 : n ≤ 9223372036854775807) : asInt 3 (str (Lib.itoa n)) = (n, 0) := by
  unfold asInt
  rw [raw, str_toList, badInt_itoa, atoi_itoa h0 h1]
  rfl
end Go.Proofs.YthjcolehccbihaaGreatDoor
