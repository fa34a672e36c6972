/- JSON in plain data: a number's text and a quoted string's are read back, whatever stands behind them. Plain Lean. -/
import Derived.Test.YthjcolehccbihaaDoorJb
namespace Go.Proofs.YthjcolehccbihaaDoor
open Go.Lib (encodeRune)

/-- What may stand behind a number. -/
def NumEnd (l : List UInt8) : Prop := ∀ c r, l = c :: r → isDigit c = false ∧ (c == 46) = false ∧ isE c = false
theorem NumEnd.nil : NumEnd [] := fun c r h => by cases h
theorem digits_end {r : List UInt8} (h : NumEnd r) : digits r = r := by
  cases r with
  | nil => rfl
  | cons c r => unfold digits; rw [(h c r rfl).1]; rfl
theorem digits_append {r : List UInt8} (h : NumEnd r) : ∀ l, digits (l ++ r) = digits l ++ r
  | [] => by rw [List.nil_append, digits_end h]; rfl
  | c :: l => by
    rw [List.cons_append]
    simp only [digits]
    by_cases hc : isDigit c = true
    · rw [if_pos hc, if_pos hc]; exact digits_append h l
    · rw [if_neg hc, if_neg hc]; rfl
theorem some1_append {r : List UInt8} (h : NumEnd r) {l : List UInt8} {x : Unit} {r' : List UInt8} (hl : some1 l = .ok x r') : some1 (l ++ r) = .ok x (r' ++ r) := by
  cases l with
  | nil => cases hl
  | cons c l =>
    simp only [some1, List.cons_append] at hl ⊢
    split at hl
    · rename_i hc; rw [if_pos hc]; injection hl with _ h2; rw [digits_append h, h2]
    · cases hl
theorem mayBe_append (p : UInt8 → Bool) {r : List UInt8} {l : List UInt8} (h : l = [] → ∀ c r', r = c :: r' → p c = false) : mayBe p (l ++ r) = ((mayBe p l).1, (mayBe p l).2 ++ r) := by
  cases l with
  | nil =>
    cases r with
    | nil => rfl
    | cons c r => simp [mayBe, h rfl c r rfl]
  | cons c l => simp only [mayBe, List.cons_append]; split <;> rfl
theorem numWhole_append {r : List UInt8} (h : NumEnd r) {l : List UInt8} {x : Unit} {r' : List UInt8} (hl : numWhole l = .ok x r') : numWhole (l ++ r) = .ok x (r' ++ r) := by
  have hne : l ≠ [] := by intro e; subst e; cases hl
  unfold numWhole at hl ⊢
  rw [mayBe_append _ (fun e => absurd e hne)]
  split at hl
  · rename_i hc; simp only [hc, if_true]; injection hl with _ h2; rw [h2]
  · rename_i hc; simp only [hc]; exact some1_append h hl
theorem numFrac_append {r : List UInt8} (h : NumEnd r) {l : List UInt8} {x : Unit} {r' : List UInt8} (hl : numFrac l = .ok x r') : numFrac (l ++ r) = .ok x (r' ++ r) := by
  unfold numFrac at hl ⊢
  rw [mayBe_append _ (fun _ c r' e => (h c r' e).2.1)]
  split at hl
  · rename_i hc; simp only [hc, if_true]; exact some1_append h hl
  · rename_i hc; simp only [hc]; injection hl with _ h2; rw [h2]; rfl
theorem numExp_append {r : List UInt8} (h : NumEnd r) {l : List UInt8} {x : Unit} {r' : List UInt8} (hl : numExp l = .ok x r') : numExp (l ++ r) = .ok x (r' ++ r) := by
  unfold numExp at hl ⊢
  rw [mayBe_append isE (fun _ c r' e => (h c r' e).2.2)]
  split at hl
  · rename_i hc
    simp only [hc, if_true]
    rw [mayBe_append isSign]
    · exact some1_append h hl
    · intro e; rw [e] at hl; cases hl
  · rename_i hc; simp only [hc]; injection hl with _ h2; rw [h2]; rfl
theorem numRest_append {r : List UInt8} (h : NumEnd r) {l : List UInt8} {x : Unit} {r' : List UInt8} (hl : numRest l = .ok x r') : numRest (l ++ r) = .ok x (r' ++ r) := by
  unfold numRest at hl ⊢
  have hne : l ≠ [] := by intro e; subst e; cases hl
  rw [mayBe_append _ (fun e => absurd e hne)]
  dsimp only
  cases h1 : numWhole (mayBe (· == 45) l).2 with
  | bad p e => rw [h1] at hl; cases hl
  | ok y l1 =>
    rw [h1] at hl; rw [numWhole_append h h1]
    simp only [Out.andThen_ok] at hl ⊢
    cases h2 : numFrac l1 with
    | bad p e => rw [h2] at hl; cases hl
    | ok y l2 =>
      rw [h2] at hl; rw [numFrac_append h h2]
      simp only [Out.andThen_ok] at hl ⊢
      exact numExp_append h hl
theorem literal_rest {s : List UInt8} (h : literal s = true) : numRest s = .ok () [] ∧ s.length ≤ 40 := by
  unfold literal number at h
  cases hn : numRest s with
  | bad p e => rw [hn] at h; simp at h
  | ok x r =>
    rw [hn] at h
    simp only [Out.andThen_ok] at h
    split at h
    · rename_i heq
      split at heq
      · cases heq
      · rename_i hlen
        injection heq with _ h2
        subst h2
        exact ⟨rfl, by simpa using hlen⟩
    · cases h
theorem number_read {s r : List UInt8} (h : literal s = true) (hr : NumEnd r) : number (s ++ r) = .ok (.mk 3 (str s) [] []) r := by
  obtain ⟨h1, h2⟩ := literal_rest h
  have h3 := numRest_append hr h1
  unfold number
  rw [h3]
  simp only [Out.andThen_ok, List.nil_append, List.length_append, Nat.add_sub_cancel]
  rw [if_neg (by omega)]
  simp
/-- A number's text begins so. -/
theorem literal_head {s : List UInt8} (h : literal s = true) : ∃ c l, s = c :: l ∧ (c = 45 ∨ isDigit c = true) := by
  obtain ⟨h1, _⟩ := literal_rest h
  cases s with
  | nil => cases h1
  | cons c l =>
    refine ⟨c, l, rfl, ?_⟩
    by_cases hc : c = 45
    · exact .inl hc
    · refine .inr ?_
      have hm : mayBe (· == 45) (c :: l) = (false, c :: l) := by simp [mayBe, hc]
      unfold numRest at h1
      rw [hm] at h1
      dsimp only at h1
      by_cases h0 : c = 48
      · subst h0; decide
      · have hw : numWhole (c :: l) = some1 (c :: l) := by unfold numWhole; simp [mayBe, h0]
        rw [hw] at h1
        simp only [some1] at h1
        by_cases hd : isDigit c = true
        · exact hd
        · rw [if_neg hd] at h1; cases h1

/-! Letters -/
theorem u8lt (a b : UInt8) : a < b ↔ a.toNat < b.toNat := Iff.rfl
theorem u8le (a b : UInt8) : a ≤ b ↔ a.toNat ≤ b.toNat := Iff.rfl
theorem u8eq (a b : UInt8) : a = b ↔ a.toNat = b.toNat := ⟨fun h => by rw [h], fun h => UInt8.toNat_inj.1 h⟩
theorem quote_big {c : UInt8} (h : 128 ≤ c) : quoteByte c = [c] := by
  unfold quoteByte
  have h' : 128 ≤ c.toNat := h
  have h1 : ¬ (c = 34 ∨ c = 92) := by rintro (rfl | rfl) <;> exact absurd h' (by decide)
  have h2 : ¬ (c < 32 ∨ c = 127) := by
    rintro (h2 | rfl)
    · have : c.toNat < 32 := h2
      omega
    · exact absurd h' (by decide)
  rw [if_neg h1, if_neg h2]
/-- What stands behind a first byte in a letter is no sign. -/
theorem okSecond_big {c d : UInt8} (h : okSecond c d = true) : 128 ≤ d := by
  unfold okSecond lowSecond at h
  simp only [Bool.and_eq_true, decide_eq_true_eq] at h
  have := h.1
  split at this
  · exact Nat.le_trans (by decide) this
  · split at this
    · exact Nat.le_trans (by decide) this
    · exact this
theorem isCont_big {d : UInt8} (h : isCont d = true) : 128 ≤ d := by
  unfold isCont at h
  simp only [Bool.and_eq_true, decide_eq_true_eq] at h
  exact h.1
/-- The letter at the front: its bytes, all of them great where it is no ASCII. -/
theorem seqLen_parts {c : UInt8} {l : List UInt8} (h : seqLen (c :: l) ≠ 0) :
    (leadLen c = 1 ∧ seqLen (c :: l) = 1) ∨ (leadLen c = 2 ∧ ∃ d m, l = d :: m ∧ okSecond c d = true ∧ seqLen (c :: l) = 2) ∨
    (leadLen c = 3 ∧ ∃ d e m, l = d :: e :: m ∧ okSecond c d = true ∧ isCont e = true ∧ seqLen (c :: l) = 3) ∨
    (leadLen c = 4 ∧ ∃ d e f m, l = d :: e :: f :: m ∧ okSecond c d = true ∧ isCont e = true ∧ isCont f = true ∧ seqLen (c :: l) = 4) := by
  simp only [seqLen] at h ⊢
  by_cases h1 : leadLen c = 1
  · exact .inl ⟨h1, by rw [if_pos h1]⟩
  · rw [if_neg h1] at h
    simp only [if_neg h1]
    by_cases h2 : leadLen c = 2
    · rw [if_pos h2] at h
      simp only [if_pos h2]
      cases l with
      | nil => exact absurd rfl h
      | cons d m =>
        dsimp only at h ⊢
        by_cases h3 : okSecond c d = true
        · exact .inr (.inl ⟨h2, d, m, rfl, h3, by rw [if_pos h3]⟩)
        · rw [if_neg h3] at h; exact absurd rfl h
    · rw [if_neg h2] at h
      simp only [if_neg h2]
      by_cases h3 : leadLen c = 3
      · rw [if_pos h3] at h
        simp only [if_pos h3]
        match l, h with
        | d :: e :: m, h =>
          dsimp only at h ⊢
          by_cases h4 : (okSecond c d && isCont e) = true
          · obtain ⟨h5, h6⟩ : okSecond c d = true ∧ isCont e = true := by simpa using h4
            exact .inr (.inr (.inl ⟨h3, d, e, m, rfl, h5, h6, by rw [if_pos h4]⟩))
          · rw [if_neg h4] at h; exact absurd rfl h
        | [d], h => exact absurd rfl h
        | [], h => exact absurd rfl h
      · rw [if_neg h3] at h
        simp only [if_neg h3]
        by_cases h4 : leadLen c = 4
        · rw [if_pos h4] at h
          simp only [if_pos h4]
          match l, h with
          | d :: e :: f :: m, h =>
            dsimp only at h ⊢
            by_cases h5 : (okSecond c d && isCont e && isCont f) = true
            · obtain ⟨⟨h6, h7⟩, h8⟩ : (okSecond c d = true ∧ isCont e = true) ∧ isCont f = true := by simpa using h5
              exact .inr (.inr (.inr ⟨h4, d, e, f, m, rfl, h6, h7, h8, by rw [if_pos h5]⟩))
            · rw [if_neg h5] at h; exact absurd rfl h
          | [d, e], h => exact absurd rfl h
          | [d], h => exact absurd rfl h
          | [], h => exact absurd rfl h
        · rw [if_neg h4] at h; exact absurd rfl h
theorem seqLen_append {c : UInt8} {l : List UInt8} (h : seqLen (c :: l) ≠ 0) (r : List UInt8) : seqLen (c :: l ++ r) = seqLen (c :: l) := by
  rcases seqLen_parts h with ⟨h1, h2⟩ | ⟨h1, d, m, rfl, h2, h3⟩ | ⟨h1, d, e, m, rfl, h2, h3, h4⟩ | ⟨h1, d, e, f, m, rfl, h2, h3, h4, h5⟩
  · rw [h2]; simp [seqLen, h1]
  · rw [h3]; simp [seqLen, h1, h2]
  · rw [h4]; simp [seqLen, h1, h2, h3]
  · rw [h5]; simp [seqLen, h1, h2, h3, h4]
theorem not_cut {l : List UInt8} (h : seqLen l ≠ 0) : cutOff l = false := by
  cases l with
  | nil => exact absurd rfl h
  | cons c l =>
    have hd : decide (l.length + 1 < leadLen c) = false := by
      rcases seqLen_parts h with ⟨h1, h2⟩ | ⟨h1, d, m, rfl, h2, h3⟩ | ⟨h1, d, e, m, rfl, h2, h3, h4⟩ | ⟨h1, d, e, f, m, rfl, h2, h3, h4, h5⟩ <;> (rw [h1]; simp)
    simp only [cutOff, hd, Bool.false_and]
theorem leadLen_one {c : UInt8} : leadLen c = 1 ↔ c < 128 := by
  unfold leadLen
  constructor
  · intro h
    split at h
    · assumption
    · split at h
      · cases h
      · split at h
        · cases h
        · split at h
          · cases h
          · split at h <;> cases h
  · intro h; rw [if_pos h]
/-- The bytes of a letter that is no ASCII are quoted as they are. -/
theorem quote_seq {c : UInt8} {l : List UInt8} (h : seqLen (c :: l) ≠ 0) (hc : ¬ c < 128) :
    ((c :: l).take (seqLen (c :: l))).flatMap quoteByte = (c :: l).take (seqLen (c :: l)) := by
  have hb : 128 ≤ c := by have : ¬ c.toNat < 128 := hc; exact Nat.le_of_not_lt this
  rcases seqLen_parts h with ⟨h1, h2⟩ | ⟨h1, d, m, rfl, h2, h3⟩ | ⟨h1, d, e, m, rfl, h2, h3, h4⟩ | ⟨h1, d, e, f, m, rfl, h2, h3, h4, h5⟩
  · exact absurd (leadLen_one.1 h1) hc
  · rw [h3]; simp [quote_big hb, quote_big (okSecond_big h2)]
  · rw [h4]; simp [quote_big hb, quote_big (okSecond_big h2), quote_big (isCont_big h3)]
  · rw [h5]; simp [quote_big hb, quote_big (okSecond_big h2), quote_big (isCont_big h3), quote_big (isCont_big h4)]
/-- A letter that is cut short, or spoilt, stays so with a sign behind it. -/
theorem seqLen_spoilt {c : UInt8} {l : List UInt8} (h : seqLen (c :: l) = 0) (r : List UInt8) : seqLen (c :: (l.flatMap quoteByte ++ 34 :: r)) = 0 := by
  by_cases hc : seqLen (c :: (l.flatMap quoteByte ++ 34 :: r)) = 0
  · exact hc
  · exfalso
    have hq : ∀ d m, l.flatMap quoteByte ++ 34 :: r = d :: m → 128 ≤ d → ∃ l', l = d :: l' ∧ m = l'.flatMap quoteByte ++ 34 :: r := by
      intro d m hm hd
      cases l with
      | nil => simp only [List.flatMap_nil, List.nil_append, List.cons.injEq] at hm; rw [← hm.1] at hd; exact absurd hd (by decide)
      | cons x l' =>
        by_cases hx : 128 ≤ x
        · simp only [List.flatMap_cons, quote_big hx, List.cons_append, List.nil_append, List.cons.injEq] at hm
          exact ⟨l', by rw [hm.1], hm.2.symm⟩
        · exfalso
          simp only [List.flatMap_cons, quoteByte] at hm
          split at hm
          · simp only [List.cons_append, List.cons.injEq] at hm; rw [← hm.1] at hd; exact absurd hd (by decide)
          · split at hm
            · simp only [List.cons_append, List.cons.injEq] at hm; rw [← hm.1] at hd; exact absurd hd (by decide)
            · simp only [List.cons_append, List.cons.injEq] at hm; rw [hm.1] at hx; exact hx hd
    have hq2 : ∀ (l : List UInt8) d m, l.flatMap quoteByte ++ 34 :: r = d :: m → 128 ≤ d → ∃ l', l = d :: l' ∧ m = l'.flatMap quoteByte ++ 34 :: r := by
      intro l d m hm hd
      cases l with
      | nil => simp only [List.flatMap_nil, List.nil_append, List.cons.injEq] at hm; rw [← hm.1] at hd; exact absurd hd (by decide)
      | cons x l' =>
        by_cases hx : 128 ≤ x
        · simp only [List.flatMap_cons, quote_big hx, List.cons_append, List.nil_append, List.cons.injEq] at hm
          exact ⟨l', by rw [hm.1], hm.2.symm⟩
        · exfalso
          simp only [List.flatMap_cons, quoteByte] at hm
          split at hm
          · simp only [List.cons_append, List.cons.injEq] at hm; rw [← hm.1] at hd; exact absurd hd (by decide)
          · split at hm
            · simp only [List.cons_append, List.cons.injEq] at hm; rw [← hm.1] at hd; exact absurd hd (by decide)
            · simp only [List.cons_append, List.cons.injEq] at hm; rw [hm.1] at hx; exact hx hd
    rcases seqLen_parts hc with ⟨h1, h2⟩ | ⟨h1, d, m, e1, h2, h3⟩ | ⟨h1, d, e, m, e1, h2, h3, h4⟩ | ⟨h1, d, e, f, m, e1, h2, h3, h4, h5⟩
    · simp [seqLen, h1] at h
    · obtain ⟨l', rfl, _⟩ := hq2 _ _ _ e1 (okSecond_big h2)
      simp [seqLen, h1, h2] at h
    · obtain ⟨l', rfl, e2⟩ := hq2 _ _ _ e1 (okSecond_big h2)
      obtain ⟨l'', rfl, _⟩ := hq2 _ _ _ e2.symm (isCont_big h3)
      simp [seqLen, h1, h2, h3] at h
    · obtain ⟨l', rfl, e2⟩ := hq2 _ _ _ e1 (okSecond_big h2)
      obtain ⟨l'', rfl, e3⟩ := hq2 _ _ _ e2.symm (isCont_big h3)
      obtain ⟨l3, rfl, _⟩ := hq2 _ _ _ e3.symm (isCont_big h4)
      simp [seqLen, h1, h2, h3, h4] at h
/-! Strings -/
theorem small_all (p : UInt8 → Bool) (h : (List.range 128).all (fun n => p n.toUInt8) = true) {c : UInt8} (hc : c < 128) : p c = true := by
  have := List.all_eq_true.1 h c.toNat (List.mem_range.2 hc)
  simpa using this
/-- One sign, quoted, is read as that sign. -/
theorem sign_read (n : Nat) (out l : List UInt8) {c : UInt8} (hc : c < 128) : textN (n + 1) out (quoteByte c ++ l) = textN n (out ++ [c]) l := by
  unfold quoteByte
  by_cases h1 : c = 34 ∨ c = 92
  · rw [if_pos h1]
    rcases h1 with rfl | rfl
    · simp [textN, escaped, markVal]; rfl
    · simp [textN, escaped, markVal]; rfl
  · rw [if_neg h1]
    by_cases h2 : c < 32 ∨ c = 127
    · rw [if_pos h2]
      have hx : hexVal (hexChar (c.toNat / 16)) = some (c.toNat / 16) ∧ hexVal (hexChar (c.toNat % 16)) = some (c.toNat % 16) ∧ encodeRune (c.toNat : Int) = [c] := by
        have := small_all (fun c => (hexVal (hexChar (c.toNat / 16)) == some (c.toNat / 16)) && (hexVal (hexChar (c.toNat % 16)) == some (c.toNat % 16)) && (encodeRune (c.toNat : Int) == [c])) (by decide +kernel) hc
        simp only [Bool.and_eq_true, beq_iff_eq] at this
        exact ⟨this.1.1, this.1.2, this.2⟩
      have hz : hexVal 48 = some 0 := by decide
      have hm : markVal 117 = none := by decide
      have hlt : c.toNat < 128 := hc
      have e1 : 16 * (16 * (16 * (16 * 0 + 0) + 0) + c.toNat / 16) + c.toNat % 16 = c.toNat := by omega
      simp only [List.cons_append, List.nil_append, textN, escaped, hm, fourN, hz, hx.1, hx.2.1, Out.andThen_ok, e1]
      have e2 : c.toNat < 0xd800 ∨ 0xe000 ≤ c.toNat := .inl (by omega)
      simp only [if_true, if_pos e2, Out.andThen_ok, hx.2.2]
      rfl
    · rw [if_neg h2]
      have h3 : ¬ c < 32 := fun h => h2 (.inl h)
      have h4 : ¬ c = 34 := fun h => h1 (.inl h)
      have h5 : ¬ c = 92 := fun h => h1 (.inr h)
      have hl := leadLen_one.2 hc
      simp [textN, h3, h4, h5, cutOff, hl, seqLen]
theorem sign_len (c : UInt8) : 1 ≤ (quoteByte c).length ∧ (quoteByte c).length ≤ 6 := by
  unfold quoteByte
  split
  · simp
  · split <;> simp
/-- A letter that is no ASCII is read as it is. -/
theorem seq_read (n : Nat) (out : List UInt8) {c : UInt8} {l : List UInt8} (h : seqLen (c :: l) ≠ 0) (hc : ¬ c < 128) :
    textN (n + 1) out (c :: l) = textN n (out ++ (c :: l).take (seqLen (c :: l))) ((c :: l).drop (seqLen (c :: l))) := by
  have hc' : ¬ c.toNat < 128 := hc
  have h3 : ¬ c < 32 := fun h => hc' (Nat.lt_trans h (by decide))
  have h4 : ¬ c = 34 := fun h => hc (by rw [h]; decide)
  have h5 : ¬ c = 92 := fun h => hc (by rw [h]; decide)
  simp only [textN, if_neg h3, if_neg h4, if_neg h5, not_cut h, if_neg h]
  rfl
/-- A quoted text is read back, if it is UTF-8; else it is refused. -/
theorem quote_read (r : List UInt8) : ∀ (k : Nat) (s : List UInt8) (n : Nat) (out : List UInt8), s.length ≤ k → s.length < n →
    (validN k s = true → textN n out (s.flatMap quoteByte ++ 34 :: r) = .ok (out ++ s) r) ∧ (validN k s = false → ∃ p, textN n out (s.flatMap quoteByte ++ 34 :: r) = .bad p 11)
  | k, [], n, out, _, hn => by
    obtain ⟨n, rfl⟩ : ∃ m, n = m + 1 := ⟨n - 1, by simp at hn; omega⟩
    refine ⟨fun _ => by simp [textN], fun h => ?_⟩
    cases k <;> simp [validN] at h
  | 0, c :: l, n, out, hk, hn => by simp at hk
  | k + 1, c :: l, n, out, hk, hn => by
    obtain ⟨n, rfl⟩ : ∃ m, n = m + 1 := ⟨n - 1, by simp at hn; omega⟩
    simp only [List.length_cons] at hk hn
    by_cases h0 : seqLen (c :: l) = 0
    · have hv : validN (k + 1) (c :: l) = false := by simp only [validN, h0, if_true]
      refine ⟨fun h => (by rw [hv] at h; cases h), fun _ => ?_⟩
      have hc : ¬ c < 128 := by
        intro hc
        have := leadLen_one.2 hc
        simp [seqLen, this] at h0
      have hc' : ¬ c.toNat < 128 := hc
      have hb : 128 ≤ c := Nat.le_of_not_lt hc'
      have h3 : ¬ c < 32 := fun h => hc' (Nat.lt_trans h (by decide))
      have h4 : ¬ c = 34 := fun h => hc (by rw [h]; decide)
      have h5 : ¬ c = 92 := fun h => hc (by rw [h]; decide)
      have hs := seqLen_spoilt h0 r
      simp only [List.flatMap_cons, quote_big hb, List.cons_append, List.nil_append, textN, if_neg h3, if_neg h4, if_neg h5, hs, if_true]
      split
      · exact ⟨_, rfl⟩
      · exact ⟨_, rfl⟩
    · have hv : validN (k + 1) (c :: l) = validN k ((c :: l).drop (seqLen (c :: l))) := by simp only [validN, if_neg h0]
      rw [hv]
      by_cases hc : c < 128
      · have h1 : seqLen (c :: l) = 1 := by simp [seqLen, leadLen_one.2 hc]
        rw [h1]
        simp only [List.drop_succ_cons, List.drop_zero, List.flatMap_cons, List.append_assoc]
        rw [sign_read n out _ hc]
        have := quote_read r k l n (out ++ [c]) (by omega) (by omega)
        simpa [List.append_assoc] using this
      · have hsplit : (c :: l).flatMap quoteByte = (c :: l).take (seqLen (c :: l)) ++ ((c :: l).drop (seqLen (c :: l))).flatMap quoteByte := by
          conv => lhs; rw [← List.take_append_drop (seqLen (c :: l)) (c :: l)]
          rw [List.flatMap_append, quote_seq h0 hc]
        have h1 : 1 ≤ seqLen (c :: l) := by omega
        have hle := seqLen_le (c :: l)
        obtain ⟨m, hm⟩ : ∃ m, seqLen (c :: l) = m + 1 := ⟨seqLen (c :: l) - 1, by omega⟩
        have ht : (c :: l).take (seqLen (c :: l)) = c :: l.take m := by rw [hm]; rfl
        have hb : seqLen ((c :: l).take (seqLen (c :: l)) ++ (((c :: l).drop (seqLen (c :: l))).flatMap quoteByte ++ 34 :: r)) = seqLen (c :: l) := by
          have hh : seqLen ((c :: l).take (seqLen (c :: l))) = seqLen (c :: l) := by
            clear hsplit ht hm hle h1 hv
            rcases seqLen_parts h0 with ⟨h1, h2⟩ | ⟨h1, d, m, rfl, h2, h3⟩ | ⟨h1, d, e, m, rfl, h2, h3, h4⟩ | ⟨h1, d, e, f, m, rfl, h2, h3, h4, h5⟩
            · rw [h2]; simp [seqLen, h1]
            · rw [h3]; simp [seqLen, h1, h2]
            · rw [h4]; simp [seqLen, h1, h2, h3]
            · rw [h5]; simp [seqLen, h1, h2, h3, h4]
          rw [ht] at hh ⊢
          rw [seqLen_append (by rw [hh]; exact h0), hh]
        have hlen : ((c :: l).take (seqLen (c :: l))).length = seqLen (c :: l) := by rw [List.length_take]; omega
        have hstep : textN (n + 1) out ((c :: l).take (seqLen (c :: l)) ++ (((c :: l).drop (seqLen (c :: l))).flatMap quoteByte ++ 34 :: r)) =
            textN n (out ++ (c :: l).take (seqLen (c :: l))) (((c :: l).drop (seqLen (c :: l))).flatMap quoteByte ++ 34 :: r) := by
          have h9 := hb
          rw [ht, List.cons_append] at h9 ⊢
          rw [seq_read n out (by rw [h9]; exact h0) hc, h9, ← List.cons_append, ← ht]
          rw [List.take_append_of_le_length (by rw [hlen]; omega), List.take_of_length_le (by rw [hlen]; omega), List.drop_append_of_le_length (by rw [hlen]; omega), List.drop_of_length_le (by rw [hlen]; omega)]
          rfl
        rw [hsplit, List.append_assoc, hstep]
        have hd : ((c :: l).drop (seqLen (c :: l))).length = l.length + 1 - seqLen (c :: l) := by simp
        have := quote_read r k ((c :: l).drop (seqLen (c :: l))) n (out ++ (c :: l).take (seqLen (c :: l))) (by rw [hd]; omega) (by rw [hd]; omega)
        simpa [List.append_assoc, List.take_append_drop] using this
theorem quote_len (s : List UInt8) : s.length ≤ (s.flatMap quoteByte).length := by
  induction s with
  | nil => simp
  | cons c s ih => have := (sign_len c).1; simp only [List.flatMap_cons, List.length_append, List.length_cons]; omega
/-- What is quoted is read back. -/
theorem text_quoted {s : List UInt8} (h : valid s = true) (r : List UInt8) : text (s.flatMap quoteByte ++ 34 :: r) = .ok s r := by
  have := (quote_read r s.length s (s.flatMap quoteByte ++ 34 :: r |>.length.succ) [] (Nat.le_refl _) (by have := quote_len s; rw [Nat.succ_eq_add_one, List.length_append]; omega)).1 h
  exact this
theorem text_spoilt {s : List UInt8} (h : valid s = false) (r : List UInt8) : ∃ p, text (s.flatMap quoteByte ++ 34 :: r) = .bad p 11 := by
  have := (quote_read r s.length s (s.flatMap quoteByte ++ 34 :: r |>.length.succ) [] (Nat.le_refl _) (by have := quote_len s; rw [Nat.succ_eq_add_one, List.length_append]; omega)).2 h
  exact this
end Go.Proofs.YthjcolehccbihaaDoor
