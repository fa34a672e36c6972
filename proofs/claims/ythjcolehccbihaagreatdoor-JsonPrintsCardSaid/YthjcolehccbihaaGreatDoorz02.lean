/- The document's numbers (exref7.reader.number, exref7.Literal; exref.NumberForm, exref.Atoi), plain. -/
import Derived.Test.YthjcolehccbihaaGreatDoorz01
import Derived.WalkKit
import Derived.Deep.QuietTactic
set_option linter.unusedSimpArgs false
set_option linter.unusedVariables false
namespace Go.Proofs.YthjcolehccbihaaGreatDoor
/-- The byte at the front; 0: there is none. -/
def now (l : List UInt8) : UInt8 := l.headD 0
/-- What is left, and whether it was given up. -/
abbrev DSt := List UInt8 × Bool
def dDigits (s : DSt) : DSt := (digits s.1, s.2 || !isDigit (now s.1))
def dSign (l : List UInt8) : List UInt8 := if now l = 45 then l.tail else l
def dWhole (l : List UInt8) : DSt := if now l = 48 then (l.tail, false) else dDigits (l, false)
def dFrac (s : DSt) : DSt := if !s.2 && now s.1 == 46 then dDigits (s.1.tail, s.2) else s
def dPlus (l : List UInt8) : List UInt8 := if now l = 43 ∨ now l = 45 then l.tail else l
def dExp (s : DSt) : DSt := if !s.2 && isE (now s.1) then dDigits (dPlus s.1.tail, s.2) else s
def dRest (l : List UInt8) : DSt := dExp (dFrac (dWhole (dSign l)))
def dNum (l : List UInt8) : DSt := ((dRest l).1, (dRest l).2 || decide (40 < l.length - (dRest l).1.length))
def dLit (l : List UInt8) : Bool := !(dNum l).2 && (dNum l).1.isEmpty && !l.isEmpty
/-- The same end. -/
def Rel (o : Out Unit) (s : DSt) : Prop := match o with
  | .ok _ r => s = (r, false)
  | .bad _ _ => s.2 = true
theorem mayBe_now {p : UInt8 → Bool} (h0 : p 0 = false) (l : List UInt8) : mayBe p l = if p (now l) then (true, l.tail) else (false, l) := by
  cases l with
  | nil => simp [mayBe, now, h0]
  | cons c l => rfl
theorem rel_digits (l : List UInt8) : Rel (some1 l) (dDigits (l, false)) := by
  cases l with
  | nil => simp [some1, Rel, dDigits, now, isDigit]
  | cons c l =>
    unfold some1 dDigits
    simp only [now, List.headD_cons]
    cases h : isDigit c with
    | true => simp [Rel, digits, h]
    | false => simp [Rel]
theorem rel_whole (l : List UInt8) : Rel (numWhole l) (dWhole l) := by
  unfold numWhole dWhole
  rw [mayBe_now (by decide)]
  by_cases h : now l = 48
  · simp [h, Rel]
  · simp [h]
    exact rel_digits l
theorem rel_frac (l : List UInt8) : Rel (numFrac l) (dFrac (l, false)) := by
  unfold numFrac dFrac
  rw [mayBe_now (by decide)]
  by_cases h : now l = 46
  · simp [h]
    exact rel_digits _
  · simp [h, Rel]
theorem rel_exp (l : List UInt8) : Rel (numExp l) (dExp (l, false)) := by
  unfold numExp dExp
  rw [mayBe_now (by decide)]
  cases h : isE (now l) with
  | true =>
    simp
    have e : (mayBe isSign l.tail).2 = dPlus l.tail := by
      rw [mayBe_now (by decide)]
      unfold dPlus isSign
      by_cases h1 : now l.tail = 43 <;> by_cases h2 : now l.tail = 45 <;> simp [h1, h2]
    rw [e]
    exact rel_digits _
  | false => simp [Rel]
theorem dFrac_bad {s : DSt} (h : s.2 = true) : (dFrac s).2 = true := by simp [dFrac, h]
theorem dExp_bad {s : DSt} (h : s.2 = true) : (dExp s).2 = true := by simp [dExp, h]
theorem rel_rest (l : List UInt8) : Rel (numRest l) (dRest l) := by
  unfold numRest dRest
  have e : (mayBe (· == 45) l).2 = dSign l := by
    rw [mayBe_now (by decide)]
    unfold dSign
    by_cases h : now l = 45 <;> simp [h]
  rw [e]
  have h1 := rel_whole (dSign l)
  cases ho : numWhole (dSign l) with
  | bad p q =>
    rw [ho] at h1
    exact dExp_bad (dFrac_bad h1)
  | ok x r =>
    rw [ho] at h1
    rw [show dWhole (dSign l) = (r, false) from h1]
    have h2 := rel_frac r
    simp only [Out.andThen_ok]
    cases ho2 : numFrac r with
    | bad p q =>
      rw [ho2] at h2
      exact dExp_bad h2
    | ok x2 r2 =>
      rw [ho2] at h2
      rw [show dFrac (r, false) = (r2, false) from h2]
      exact rel_exp r2
theorem dLit_eq (l : List UInt8) : dLit l = literal l := by
  unfold dLit literal number dNum
  have h := rel_rest l
  cases ho : numRest l with
  | bad p q =>
    rw [ho] at h
    simp [show (dRest l).2 = true from h]
  | ok x r =>
    rw [ho] at h
    rw [show dRest l = (r, false) from h]
    simp only [Out.andThen_ok]
    by_cases h40 : 40 < l.length - r.length
    · simp [h40]
    · rw [if_neg h40]
      cases r with
      | cons c r => simp
      | nil =>
        have hne : l ≠ [] := by
          rintro rfl
          simp [numRest, numWhole, mayBe, some1] at ho
        simp only [List.length_nil, Nat.sub_zero] at h40 ⊢
        simp [h40, hne]
/-- exref.NumberForm. -/
def dBody (T : List UInt8) : List UInt8 := if 1 < T.length ∧ now T = 45 then T.tail else T
def dForm (T : List UInt8) : Bool := !(decide (dBody T = []) || (decide (1 < (dBody T).length) && now (dBody T) == 48) || (decide (dBody T = [48]) && decide (1 < T.length))) && (dBody T).all isDigit
theorem dForm_eq (T : List UInt8) : dForm T = !badInt T := by
  cases T with
  | nil => rfl
  | cons c l =>
    by_cases hc : c = 45
    · subst hc
      have hp : part0 (45 :: l) = l := by simp [part0, Lib.trimPrefix, Lib.hasPrefix, List.isPrefixOf]
      have hb : below0 (45 :: l) = true := by simp [below0, Lib.hasPrefix, List.isPrefixOf]
      unfold dForm badInt
      rw [hp, hb]
      cases l with
      | nil => rfl
      | cons d m =>
        have hd : dBody (45 :: d :: m) = d :: m := by simp [dBody, now]
        rw [hd]
        by_cases h48 : d = 48
        · subst h48
          cases m <;> simp [now]
        · have : (d == 48) = false := by simpa using h48
          simp [now, h48, this]
    · have hb : below0 (c :: l) = false := by simp [below0, Lib.hasPrefix, List.isPrefixOf]; exact fun h => hc h.symm
      have hp : part0 (c :: l) = c :: l := by unfold part0 Lib.trimPrefix; rw [show Lib.hasPrefix (c :: l) [45] = false from hb]; rfl
      have hd : dBody (c :: l) = c :: l := by simp [dBody, now, hc]
      unfold dForm badInt
      rw [hp, hb, hd]
      by_cases h48 : c = 48
      · subst h48
        cases l <;> simp [now]
      · have : (c == 48) = false := by simpa using h48
        simp [now, h48, this]
def dv (c : UInt8) : Int := (c.toNat : Int) - 48
/-- Its loop: below 0; none: too far. -/
def dRun : Int → List UInt8 → Option Int
  | n, [] => some n
  | n, c :: l => if n < (-9223372036854775808 + dv c).tdiv 10 then none else dRun (10 * n - dv c) l
def dAtoi (T : List UInt8) : Option Int :=
  if 19 < (dBody T).length then none
  else (dRun 0 (dBody T)).bind fun n => if now T = 45 then some n else if n = -9223372036854775808 then none else some (-n)
/-- What digits say, so much ahead. -/
def valOf : Nat → List UInt8 → Nat
  | a, [] => a
  | a, c :: l => valOf (a * 10 + (c.toNat - 48)) l
theorem valOf_ge : ∀ (l : List UInt8) (a : Nat), a ≤ valOf a l
  | [], a => Nat.le_refl _
  | c :: l, a => Nat.le_trans (by omega) (valOf_ge l (a * 10 + (c.toNat - 48)))
theorem dRun_eq : ∀ (l : List UInt8) (a : Nat), (∀ c ∈ l, isDigit c = true) → a ≤ 9223372036854775808 → dRun (-(a : Int)) l = if valOf a l ≤ 9223372036854775808 then some (-(valOf a l : Int)) else none
  | [], a, _, ha => by unfold dRun valOf; rw [if_pos ha]
  | c :: l, a, h, ha => by
    have hc := dg_val (h c List.mem_cons_self)
    have hv : dv c = ((c.toNat - 48 : Nat) : Int) := by unfold dv; omega
    unfold dRun valOf
    rw [hv]
    have hq : ((-9223372036854775808 + ((c.toNat - 48 : Nat) : Int)).tdiv 10) = -(((9223372036854775808 - (c.toNat - 48)) / 10 : Nat) : Int) := by
      rw [show -9223372036854775808 + ((c.toNat - 48 : Nat) : Int) = -(((9223372036854775808 - (c.toNat - 48)) : Nat) : Int) by omega, Int.neg_tdiv]
      rfl
    rw [hq]
    by_cases hf : a * 10 + (c.toNat - 48) ≤ 9223372036854775808
    · rw [if_neg (by omega), show 10 * -(a : Int) - ((c.toNat - 48 : Nat) : Int) = -((a * 10 + (c.toNat - 48) : Nat) : Int) by omega]
      exact dRun_eq l _ (fun d hd => h d (List.mem_cons_of_mem _ hd)) hf
    · have := valOf_ge l (a * 10 + (c.toNat - 48))
      rw [if_pos (by omega), if_neg (by omega)]
theorem parse_val : ∀ (l : List UInt8) (a : Nat), (∀ c ∈ l, isDigit c = true) → a < 18446744073709551616 →
    (valOf a l < 18446744073709551616 → Lib.parseUint10 a l = .ok (valOf a l)) ∧ (18446744073709551616 ≤ valOf a l → Lib.parseUint10 a l = .range)
  | [], a, _, ha => by
    have e : valOf a [] = a := rfl
    rw [e]
    exact ⟨fun _ => by rw [Lib.parseUint10], fun h => absurd h (Nat.not_le.2 ha)⟩
  | c :: l, a, h, ha => by
    have hc := dg_val (h c List.mem_cons_self)
    have hge := valOf_ge l (a * 10 + (c.toNat - 48))
    unfold Lib.parseUint10 valOf
    rw [if_pos (by omega)]
    by_cases h1 : 1844674407370955162 ≤ a
    · rw [if_pos h1]
      exact ⟨fun h => by omega, fun _ => rfl⟩
    · rw [if_neg h1]
      by_cases h2 : 18446744073709551616 ≤ a * 10 + (c.toNat - 48)
      · rw [if_pos h2]
        exact ⟨fun h => by omega, fun _ => rfl⟩
      · rw [if_neg h2]
        exact parse_val l _ (fun d hd => h d (List.mem_cons_of_mem _ hd)) (by omega)
theorem valOf_big : ∀ (l : List UInt8) (a : Nat), a * 10 ^ l.length ≤ valOf a l
  | [], a => by show a * 10 ^ 0 ≤ a; omega
  | c :: l, a => by
    unfold valOf
    refine Nat.le_trans ?_ (valOf_big l _)
    rw [List.length_cons, Nat.pow_succ, show a * (10 ^ l.length * 10) = (a * 10) * 10 ^ l.length by rw [Nat.mul_comm (10 ^ l.length), Nat.mul_assoc]]
    exact Nat.mul_le_mul_right _ (by omega)
theorem body_of {t : List UInt8} (hb : badInt t = false) : part0 t ≠ [] ∧ (∀ c ∈ part0 t, isDigit c = true) ∧ (t = 45 :: part0 t ∨ t = part0 t) := by
  unfold badInt at hb
  simp only [Bool.or_eq_false_iff, decide_eq_false_iff_not, Bool.not_eq_false', List.all_eq_true] at hb
  refine ⟨hb.1.1, hb.1.2, ?_⟩
  cases t with
  | nil => exact .inr rfl
  | cons c l =>
    by_cases hc : c = 45
    · subst hc
      exact .inl (by simp [part0, Lib.trimPrefix, Lib.hasPrefix, List.isPrefixOf])
    · have hbl : below0 (c :: l) = false := by simp [below0, Lib.hasPrefix, List.isPrefixOf]; exact fun h => hc h.symm
      exact .inr (by unfold part0 Lib.trimPrefix; rw [show Lib.hasPrefix (c :: l) [45] = false from hbl]; rfl)
theorem mag_of {B : List UInt8} (hne : B ≠ []) (hdig : ∀ c ∈ B, isDigit c = true) : Lib.parseMag B = if valOf 0 B < 18446744073709551616 then .ok (valOf 0 B) else .range := by
  unfold Lib.parseMag
  rw [if_neg hne]
  have := parse_val B 0 hdig (by decide)
  split
  · exact this.1 (by assumption)
  · exact this.2 (by omega)
/-- Digits are no spoilt number. -/
theorem no_syntax {t : List UInt8} (hb : badInt t = false) : Lib.atoiAll t ≠ .«syntax» := by
  obtain ⟨hne, hdig, h⟩ := body_of hb
  have hm := mag_of hne hdig
  rcases h with h | h
  · rw [h, Lib.atoiAll_minus, hm]
    split
    · simp only [Lib.signed]; split <;> simp
    · simp [Lib.signed]
  · obtain ⟨c, l, hcl⟩ : ∃ c l, part0 t = c :: l := by cases hp : part0 t with
      | nil => exact absurd hp hne
      | cons c l => exact ⟨c, l, rfl⟩
    have hc := dg_val (hdig c (by rw [hcl]; exact List.mem_cons_self))
    rw [h, hcl, Lib.atoiAll_plain c l (by omega) (by omega), ← hcl, hm]
    split
    · simp only [Lib.signless]; split <;> simp
    · simp [Lib.signless]
/-- exref7.Int says what json.Int says. -/
def dInt (k : Int) (T : ByteArray) : Int × Nat :=
  if k ≠ 3 then (0, 13) else if dForm (raw T) = false then (0, 10) else match dAtoi (raw T) with
    | none => (0, 6)
    | some n => (n, 0)
theorem dInt_eq (k : Int) (T : ByteArray) : dInt k T = asInt k T := by
  unfold dInt asInt
  by_cases hk : k = 3
  · subst hk
    simp only [ne_eq, not_true_eq_false, if_false, if_true]
    rw [dForm_eq]
    cases hb : badInt (raw T) with
    | true => rfl
    | false =>
      simp only [Bool.not_false, if_false, Bool.true_eq_false]
      generalize raw T = t at hb
      have hbody : part0 t = dBody t ∧ dBody t ≠ [] ∧ (∀ c ∈ dBody t, isDigit c = true) ∧ (now (dBody t) = 48 → dBody t = [48]) ∧ ((now t = 45 ∧ t = 45 :: dBody t) ∨ (now t ≠ 45 ∧ t = dBody t)) := by
        have hf := dForm_eq t
        rw [hb] at hf
        unfold dForm at hf
        simp only [Bool.and_eq_true, Bool.not_eq_true', Bool.or_eq_false_iff, Bool.not_false, decide_eq_false_iff_not, List.all_eq_true] at hf
        obtain ⟨⟨⟨h1, h2⟩, h3⟩, h4⟩ := hf
        cases t with
        | nil => exact absurd rfl h1
        | cons c l =>
          by_cases hc : c = 45
          · subst hc
            cases l with
            | nil =>
              have := h4 45 (by simp [dBody])
              exact absurd this (by decide)
            | cons d m =>
              have hd : dBody (45 :: d :: m) = d :: m := by simp [dBody, now]
              rw [hd] at h1 h2 h3 h4 ⊢
              refine ⟨by simp [part0, Lib.trimPrefix, Lib.hasPrefix, List.isPrefixOf], h1, h4, fun h => ?_, .inl ⟨rfl, rfl⟩⟩
              have hd48 : d = 48 := h
              subst hd48
              cases m with
              | nil => rfl
              | cons x m => simp [now] at h2
          · have hd : dBody (c :: l) = c :: l := by simp [dBody, now, hc]
            have hbl : below0 (c :: l) = false := by simp [below0, Lib.hasPrefix, List.isPrefixOf]; exact fun h => hc h.symm
            have hp : part0 (c :: l) = c :: l := by unfold part0 Lib.trimPrefix; rw [show Lib.hasPrefix (c :: l) [45] = false from hbl]; rfl
            rw [hd] at h1 h2 h3 h4 ⊢
            refine ⟨hp, h1, h4, fun h => ?_, .inr ⟨hc, rfl⟩⟩
            have hd48 : c = 48 := h
            subst hd48
            cases l with
            | nil => rfl
            | cons x m => simp [now] at h2
      obtain ⟨-, hne, hdig, h48, hcase⟩ := hbody
      generalize hB : dBody t = B at hne hdig h48 hcase
      have hmag : Lib.parseMag B = if valOf 0 B < 18446744073709551616 then .ok (valOf 0 B) else .range := by
        unfold Lib.parseMag
        rw [if_neg hne]
        have := parse_val B 0 hdig (by decide)
        split
        · exact this.1 (by assumption)
        · exact this.2 (by omega)
      have hlong : 19 < B.length → 9223372036854775808 < valOf 0 B := by
        intro hl
        cases B with
        | nil => exact absurd rfl hne
        | cons c l =>
          have hc := dg_val (hdig c List.mem_cons_self)
          have hc48 : c.toNat ≠ 48 := by
            intro h
            have : c = 48 := UInt8.toNat_inj.1 h
            have := h48 this
            rw [this] at hl
            simp at hl
          have hb2 := valOf_big l (0 * 10 + (c.toNat - 48))
          have hp : 10 ^ 19 ≤ 10 ^ l.length := Nat.pow_le_pow_right (by decide) (by simp at hl; omega)
          have h1 : 1 * 10 ^ l.length ≤ (0 * 10 + (c.toNat - 48)) * 10 ^ l.length := Nat.mul_le_mul_right _ (by omega)
          show _ < valOf (0 * 10 + (c.toNat - 48)) l
          have : (10 : Nat) ^ 19 = 10000000000000000000 := by decide
          omega
      have hrun := dRun_eq B 0 hdig (by decide)
      simp only [Int.natCast_zero, Int.neg_zero] at hrun
      unfold dAtoi
      rw [hB, hrun]
      simp only [Bool.false_eq_true, if_false]
      rcases hcase with ⟨hn, ht⟩ | ⟨hn, ht⟩
      · rw [ht, Lib.atoiAll_minus, hmag]
        by_cases h1 : valOf 0 B ≤ 9223372036854775808
        · rw [if_pos h1, if_pos (show valOf 0 B < 18446744073709551616 by omega), if_neg (by omega)]
          simp only [Option.bind_some]
          rw [if_pos (show now (45 :: B) = 45 from rfl)]
          simp [Lib.signed, intEnd, show ¬ 9223372036854775808 < valOf 0 B by omega]
        · rw [if_neg h1]
          simp only [Option.bind_none, ite_self]
          by_cases h2 : valOf 0 B < 18446744073709551616
          · rw [if_pos h2]
            simp [Lib.signed, intEnd, show 9223372036854775808 < valOf 0 B by omega]
          · rw [if_neg h2]
            simp [Lib.signed, intEnd]
      · obtain ⟨c, l, hcl⟩ : ∃ c l, B = c :: l := by cases B with
          | nil => exact absurd rfl hne
          | cons c l => exact ⟨c, l, rfl⟩
        have hc := dg_val (hdig c (by rw [hcl]; exact List.mem_cons_self))
        have ha : Lib.atoiAll t = Lib.signless (Lib.parseMag B) := by rw [ht, hcl]; exact Lib.atoiAll_plain c l (by omega) (by omega)
        rw [ha, hmag]
        by_cases h1 : valOf 0 B ≤ 9223372036854775808
        · rw [if_pos h1, if_pos (show valOf 0 B < 18446744073709551616 by omega), if_neg (by omega)]
          simp only [Option.bind_some]
          rw [if_neg hn]
          by_cases h3 : valOf 0 B = 9223372036854775808
          · rw [if_pos (by omega)]
            simp [Lib.signless, intEnd, h3]
          · rw [if_neg (by omega)]
            simp [Lib.signless, intEnd, show ¬ 9223372036854775808 ≤ valOf 0 B by omega]
        · rw [if_neg h1]
          simp only [Option.bind_none, ite_self]
          by_cases h2 : valOf 0 B < 18446744073709551616
          · rw [if_pos h2]
            simp [Lib.signless, intEnd, show 9223372036854775808 ≤ valOf 0 B by omega]
          · rw [if_neg h2]
            simp [Lib.signless, intEnd]
  · rw [if_pos hk, if_pos hk]
end Go.Proofs.YthjcolehccbihaaGreatDoor
namespace Go.Proofs.YthjcolehccbihaaGreatDoor
open Go.RowKit
/-- All blocks that were there, but those of S, are as they were; the streams too. -/
structure Keeps (S : Nat → Prop) (w w' : World) : Prop where
  os : w'.os = w.os
  tape : w'.tape = w.tape
  output : w'.output = w.output
  size : w.heap.size ≤ w'.heap.size
  block : ∀ k, k < w.heap.size → ¬ S k → w'.heap[k]? = w.heap[k]?
theorem Keeps.refl (S : Nat → Prop) (w : World) : Keeps S w w := ⟨rfl, rfl, rfl, Nat.le_refl _, fun _ _ _ => rfl⟩
theorem Keeps.mono {S T : Nat → Prop} {w w' : World} (h : Keeps S w w') (hs : ∀ k, k < w.heap.size → S k → T k) : Keeps T w w' :=
  ⟨h.os, h.tape, h.output, h.size, fun k hk hn => h.block k hk (fun hS => hn (hs k hk hS))⟩
theorem Keeps.trans {S T : Nat → Prop} {a b c : World} (h : Keeps S a b) (k : Keeps T b c) (hT : ∀ i, i < a.heap.size → T i → S i) : Keeps S a c :=
  ⟨k.os.trans h.os, k.tape.trans h.tape, k.output.trans h.output, Nat.le_trans h.size k.size,
    fun i hi hn => (k.block i (Nat.lt_of_lt_of_le hi h.size) (fun ht => hn (hT i hi ht))).trans (h.block i hi hn)⟩
theorem Keeps.trans' {S : Nat → Prop} {a b c : World} (h : Keeps S a b) (k : Keeps S b c) : Keeps S a c := h.trans k (fun _ _ h => h)
theorem Keeps.drew {S : Nat → Prop} {a w : World} (h : Keeps S a w) : Keeps S a w.drew := ⟨h.os, h.tape, h.output, h.size, h.block⟩
theorem Keeps.drewN {S : Nat → Prop} {a w : World} (h : Keeps S a w) (n : Nat) : Keeps S a (w.drewN n) := ⟨h.os, h.tape, h.output, h.size, h.block⟩
theorem Keeps.alloc {S : Nat → Prop} {a w : World} (h : Keeps S a w) (o : Obj) : Keeps S a (w.alloc o) :=
  ⟨h.os, h.tape, h.output, by have := h.size; simp; omega, fun k hk hn => (Below.heap_alloc _ _ _ (Nat.lt_of_lt_of_le hk h.size)).trans (h.block k hk hn)⟩
theorem Keeps.setCell {S : Nat → Prop} {a w : World} (h : Keeps S a w) {p : Addr} (hp : p.block < a.heap.size → S p.block) (u : Value) : Keeps S a (w.setCell p u) :=
  ⟨h.os, h.tape, h.output, by simpa [World.setCell] using h.size, fun k hk hn => by
    have hne : k ≠ p.block := fun e => hn (e ▸ hp (e ▸ hk))
    exact (Below.heap_setCell _ _ _ _ hne).trans (h.block k hk hn)⟩
theorem Keeps.below {S : Nat → Prop} {a w w' : World} (h : Keeps S a w) (k : Below a.heap.size w w') : Keeps S a w' :=
  ⟨k.os.trans h.os, k.tape.trans h.tape, k.output.trans h.output, Nat.le_trans h.size k.size, fun i hi hn => (k.block i hi).trans (h.block i hi hn)⟩
theorem Keeps.of_below {w w' : World} (k : Below w.heap.size w w') : Keeps (fun _ => False) w w' :=
  ⟨k.os, k.tape, k.output, k.size, fun i hi _ => k.block i hi⟩
theorem below_keeps {B : Nat} {S : Nat → Prop} {a w w' : World} (h : Below B a w) (k : Keeps S w w') (hs : ∀ i, S i → B ≤ i) (hB : B ≤ w.heap.size) : Below B a w' :=
  h.trans ⟨k.os, k.tape, k.output, k.size, fun i hi => k.block i (Nat.lt_of_lt_of_le hi hB) (fun hS => by have := hs i hS; omega)⟩
theorem Keeps.grown {S : Nat → Prop} {a w w' : World} {row : Option Nat} (h : Keeps S a w) (hg : w.grownBy w' row) (hr : ∀ k, row = some k → k < a.heap.size → S k) : Keeps S a w' :=
  ⟨hg.os.trans h.os, hg.tape.trans h.tape, hg.output.trans h.output, Nat.le_trans h.size hg.size,
    fun k hk hn => (hg.block k (Nat.lt_of_lt_of_le hk h.size) (fun e => hn (hr k e.symm hk))).trans (h.block k hk hn)⟩
theorem Keeps.cell {S : Nat → Prop} {w w' : World} (h : Keeps S w w') {p : Addr} (hp : p.block < w.heap.size) (hn : ¬ S p.block) : w'.cell? p = w.cell? p :=
  World.cell?_of_block (w := w) (h.block p.block hp hn)
theorem Keeps.frozen {S : Nat → Prop} {w w' : World} (h : Keeps S w w') {p : Addr} (hp : p.block < w.heap.size) (hn : ¬ S p.block) : w'.frozen? p = w.frozen? p :=
  World.frozen?_of_block (w := w) (h.block p.block hp hn)
theorem Keeps.obj {S : Nat → Prop} {w w' : World} (h : Keeps S w w') {b : Nat} {o : Obj} (hb : w.heap[b]? = some o) (hn : ¬ S b) : w'.heap[b]? = some o :=
  (h.block b (lt_of_block hb) hn).trans hb
/-- A block of cells, none frozen. -/
abbrev IsBlk (w : World) (b : Nat) (cs : Array Value) (t : TypeId) : Prop := w.heap[b]? = some (.cells cs t (0, 0))
theorem blk_cell {w : World} {b : Nat} {cs : Array Value} {t : TypeId} (h : IsBlk w b cs t) (i : Nat) : w.cell? ⟨b, i, none⟩ = cs[i]? := by simp [World.cell?, h]
theorem blk_free {w : World} {b : Nat} {cs : Array Value} {t : TypeId} (h : IsBlk w b cs t) (i : Nat) : w.frozen? ⟨b, i, none⟩ = false := by simp [World.frozen?, h]
theorem blk_set {w : World} {b : Nat} {cs : Array Value} {t : TypeId} (h : IsBlk w b cs t) (i : Nat) (u : Value) : IsBlk (w.setCell ⟨b, i, none⟩ u) b (cs.setIfInBounds i u) t := by
  have hlt := lt_of_block h
  have h0 : w.heap[b]? = some (.cells cs t (0, 0)) := h
  have h' : w.heap[b] = .cells cs t (0, 0) := by simpa [Array.getElem?_eq_getElem hlt] using h0
  show (w.heap.modify b _)[b]? = _
  rw [Array.getElem?_eq_getElem (by simpa using hlt), Array.getElem_modify_self, h']
  rfl
theorem blk_new (w : World) (o : Obj) : (w.alloc o).heap[w.heap.size]? = some o := by show (w.heap.push o)[w.heap.size]? = some o; simp
end Go.Proofs.YthjcolehccbihaaGreatDoor
