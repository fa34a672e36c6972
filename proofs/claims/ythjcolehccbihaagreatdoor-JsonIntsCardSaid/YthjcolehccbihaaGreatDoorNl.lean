/- What is read of a number is a number's text; what is read of a text is UTF-8. Plain; no program in it. -/
import Derived.Test.YthjcolehccbihaaGreatDoorNj
import Derived.Test.YthjcolehccbihaaGreatDoorLa
set_option linter.unusedSimpArgs false
set_option linter.unusedVariables false
namespace Go.Proofs.YthjcolehccbihaaGreatDoor
open Go.Lib (encodeRune encodeRuneZ encodeRuneZ_one encodeRuneZ_two encodeRuneZ_three encodeRuneZ_four)

theorem suf_split {r l : List UInt8} (h : r <:+ l) : ∃ s, l = s ++ r := by obtain ⟨s, e⟩ := h; exact ⟨s, e.symm⟩
/-- No digit at the front. -/
def ND (m : List UInt8) : Prop := ∀ c r, m = c :: r → isDigit c = false
theorem nd_nil : ND [] := fun c r h => by cases h
theorem nd_cons {c : UInt8} (h : isDigit c = false) (m : List UInt8) : ND (c :: m) := fun _ _ e => by cases e; exact h
theorem digits_cut {r : List UInt8} : ∀ s, digits (s ++ r) = r → digits s = []
  | [], _ => rfl
  | c :: s, h => by
    rw [List.cons_append] at h
    unfold digits at h ⊢
    split at h
    · rename_i hc
      rw [if_pos hc]
      exact digits_cut s h
    · have := congrArg List.length h
      simp at this
      omega
theorem digits_put {m : List UInt8} (hm : ND m) : ∀ s, digits s = [] → digits (s ++ m) = m
  | [], _ => by
    cases m with
    | nil => rfl
    | cons c r => unfold digits; rw [List.nil_append]; dsimp only; rw [hm c r rfl]; rfl
  | c :: s, h => by
    rw [List.cons_append]
    unfold digits at h ⊢
    split at h
    · rename_i hc
      rw [if_pos hc]
      exact digits_put hm s h
    · cases h
theorem some1_cut {s r : List UInt8} {x : Unit} (h : some1 (s ++ r) = .ok x r) : s ≠ [] ∧ ∀ m, ND m → some1 (s ++ m) = .ok x m := by
  cases s with
  | nil =>
    exfalso
    have := (some1_fits ([] ++ r) x r h).2
    rw [List.nil_append] at this
    omega
  | cons c s =>
    refine ⟨by simp, fun m hm => ?_⟩
    rw [List.cons_append] at h ⊢
    unfold some1 at h ⊢
    dsimp only at h ⊢
    split at h
    · rename_i hc
      rw [if_pos hc]
      injection h with _ h2
      rw [digits_put hm s (digits_cut s h2)]
    · cases h
theorem mayBe_eq (p : UInt8 → Bool) (c : UInt8) (l : List UInt8) : mayBe p (c :: l) = if p c then (true, l) else (false, c :: l) := rfl
theorem mayBe_split (p : UInt8 → Bool) (l : List UInt8) : ((mayBe p l).1 = true ∧ ∃ c, p c = true ∧ l = c :: (mayBe p l).2) ∨ ((mayBe p l).1 = false ∧ (mayBe p l).2 = l ∧ ∀ c r, l = c :: r → p c = false) := by
  cases l with
  | nil => exact .inr ⟨rfl, rfl, fun c r h => by cases h⟩
  | cons c l =>
    rw [mayBe_eq]
    by_cases h : p c = true
    · rw [if_pos h]; exact .inl ⟨rfl, c, h, rfl⟩
    · rw [if_neg h]; exact .inr ⟨rfl, rfl, fun c' r e => by cases e; simpa using h⟩
theorem mayBe_yes {p : UInt8 → Bool} {c : UInt8} (h : p c = true) (l : List UInt8) : mayBe p (c :: l) = (true, l) := by rw [mayBe_eq, if_pos h]
theorem mayBe_none {p : UInt8 → Bool} {l : List UInt8} (h : ∀ c r, l = c :: r → p c = false) : mayBe p l = (false, l) := by
  cases l with
  | nil => rfl
  | cons c l => rw [mayBe_eq, if_neg (by rw [h c l rfl]; decide)]
theorem numWhole_cut {s r : List UInt8} {x : Unit} (h : numWhole (s ++ r) = .ok x r) : s ≠ [] ∧ ∀ m, ND m → numWhole (s ++ m) = .ok x m := by
  unfold numWhole at h
  rcases mayBe_split (· == 48) (s ++ r) with ⟨h1, c, hc, h2⟩ | ⟨h1, h2, h3⟩
  · rw [h1, if_pos rfl] at h
    injection h with _ h4
    rw [h4] at h2
    have hs : s = [c] := by
      have e : s ++ r = [c] ++ r := h2
      exact List.append_cancel_right e
    subst hs
    refine ⟨by simp, fun m _ => ?_⟩
    unfold numWhole
    rw [List.singleton_append, mayBe_yes (p := (· == 48)) hc, if_pos rfl]
  · rw [h1, h2, if_neg (by decide)] at h
    obtain ⟨h4, h5⟩ := some1_cut h
    refine ⟨h4, fun m hm => ?_⟩
    unfold numWhole
    have : ∀ c r', s ++ m = c :: r' → (c == 48) = false := fun c r' e => by
      cases s with
      | nil => exact absurd rfl h4
      | cons d s =>
        have e2 : d = c := by rw [List.cons_append] at e; injection e
        exact h3 c (s ++ r) (by rw [← e2]; rfl)
    rw [mayBe_none this, if_neg (fun h => by cases h)]
    exact h5 m hm
theorem numFrac_cut {s r : List UInt8} {x : Unit} (h : numFrac (s ++ r) = .ok x r) : (s = [] ∨ ∃ s', s = 46 :: s') ∧ ∀ m, ND m → (∀ c r', m = c :: r' → (c == 46) = false) → numFrac (s ++ m) = .ok x m := by
  unfold numFrac at h
  rcases mayBe_split (· == 46) (s ++ r) with ⟨h1, c, hc, h2⟩ | ⟨h1, h2, h3⟩
  · rw [h1, if_pos rfl] at h
    have hc' : c = 46 := by simpa using hc
    subst hc'
    cases s with
    | nil =>
      exfalso
      rw [List.nil_append] at h2 h
      have := (some1_fits _ x r h).2
      have h4 := congrArg List.length h2
      simp only [List.length_cons] at h4
      omega
    | cons d s =>
      rw [List.cons_append] at h2
      injection h2 with e1 e2
      subst e1
      rw [List.cons_append, ← e2] at h
      obtain ⟨-, h5⟩ := some1_cut h
      refine ⟨.inr ⟨s, rfl⟩, fun m hm _ => ?_⟩
      unfold numFrac
      rw [List.cons_append, mayBe_yes (by decide), if_pos rfl]
      exact h5 m hm
  · rw [h1, if_neg (by decide)] at h
    injection h with _ h4
    have hs : s = [] := by
      have e : s ++ r = [] ++ r := h4
      exact List.append_cancel_right e
    subst hs
    refine ⟨.inl rfl, fun m _ hd => ?_⟩
    unfold numFrac
    rw [List.nil_append, mayBe_none hd, if_neg (fun h => by cases h)]
theorem numExp_cut {s r : List UInt8} {x : Unit} (h : numExp (s ++ r) = .ok x r) : (s = [] ∨ ∃ c s', s = c :: s' ∧ isE c = true) ∧ numExp s = .ok x [] := by
  unfold numExp at h
  rcases mayBe_split isE (s ++ r) with ⟨h1, c, hc, h2⟩ | ⟨h1, h2, h3⟩
  · rw [h1, if_pos rfl] at h
    cases s with
    | nil =>
      exfalso
      rw [List.nil_append] at h2 h
      have h4 := congrArg List.length h2
      have h5 := (some1_fits _ x r h).2
      have h6 := suf_len (mayBe_suf isSign (mayBe isE r).2)
      simp only [List.length_cons] at h4
      omega
    | cons d s =>
      rw [List.cons_append] at h2
      injection h2 with e1 e2
      subst e1
      rw [List.cons_append, ← e2] at h
      refine ⟨.inr ⟨d, s, rfl, hc⟩, ?_⟩
      unfold numExp
      rw [mayBe_yes hc, if_pos rfl]
      rcases mayBe_split isSign (s ++ r) with ⟨g1, c2, hc2, g2⟩ | ⟨g1, g2, g3⟩
      · cases s with
        | nil =>
          exfalso
          rw [List.nil_append] at g2 h
          have h4 := congrArg List.length g2
          have h5 := (some1_fits _ x r h).2
          simp only [List.length_cons] at h4
          omega
        | cons d2 s =>
          rw [List.cons_append] at g2
          injection g2 with e3 e4
          subst e3
          rw [List.cons_append, ← e4] at h
          obtain ⟨-, h5⟩ := some1_cut h
          rw [mayBe_yes hc2]
          have := h5 [] nd_nil
          rw [List.append_nil] at this
          exact this
      · rw [g2] at h
        obtain ⟨h4, h5⟩ := some1_cut h
        have : ∀ c r', s = c :: r' → isSign c = false := fun c r' e => g3 c (r' ++ r) (by rw [e]; rfl)
        rw [mayBe_none this]
        have := h5 [] nd_nil
        rw [List.append_nil] at this
        exact this
  · rw [h1, if_neg (by decide)] at h
    injection h with _ h4
    have hs : s = [] := by
      have e : s ++ r = [] ++ r := h4
      exact List.append_cancel_right e
    subst hs
    exact ⟨.inl rfl, by cases x; rfl⟩
theorem e_nodigit {c : UInt8} (h : isE c = true) : isDigit c = false ∧ (c == 46) = false := by
  unfold isE at h
  simp only [Bool.or_eq_true, beq_iff_eq] at h
  rcases h with rfl | rfl <;> decide
theorem numRest_cut {s r : List UInt8} {x : Unit} (h : numRest (s ++ r) = .ok x r) : numRest s = .ok x [] := by
  unfold numRest at h
  obtain ⟨_, l2, h1, h2⟩ := Out.of_andThen h
  obtain ⟨_, l3, h3, h4⟩ := Out.of_andThen h2
  obtain ⟨w, ew⟩ := suf_split (numWhole_fits _ _ _ h1).1
  obtain ⟨f, ef⟩ := suf_split (numFrac_fits _ _ _ h3).1
  obtain ⟨e, ee⟩ := suf_split (numExp_fits _ _ _ h4).1
  rw [ew] at h1
  rw [ef] at h3
  rw [ee] at h4
  obtain ⟨hw, gw⟩ := numWhole_cut h1
  obtain ⟨hf, gf⟩ := numFrac_cut h3
  obtain ⟨he, ge⟩ := numExp_cut h4
  have nde : ND e ∧ ∀ c r', e = c :: r' → (c == 46) = false := by
    rcases he with rfl | ⟨c, e', rfl, hc⟩
    · exact ⟨nd_nil, fun c r h => by cases h⟩
    · exact ⟨nd_cons (e_nodigit hc).1 _, fun c' r' h => by cases h; exact (e_nodigit hc).2⟩
  have ndf : ND (f ++ e) := by
    rcases hf with rfl | ⟨f', rfl⟩
    · exact nde.1
    · exact nd_cons (by decide) _
  have main : numWhole (w ++ (f ++ e)) = .ok () (f ++ e) := gw _ ndf
  have main2 : numFrac (f ++ e) = .ok () e := gf _ nde.1 nde.2
  have tail : ∀ z, z = w ++ (f ++ e) → ((numWhole z).andThen fun _ l => (numFrac l).andThen fun _ l => numExp l) = .ok x [] := fun z hz => by
    rw [hz, main, Out.andThen_ok, main2, Out.andThen_ok, ge]
  unfold numRest
  rcases mayBe_split (· == 45) (s ++ r) with ⟨g1, c, hc, g2⟩ | ⟨g1, g2, g3⟩
  · rw [ew, ef, ee] at g2
    have hs : s = c :: (w ++ (f ++ e)) := by
      have : s ++ r = (c :: (w ++ (f ++ e))) ++ r := by rw [g2]; simp
      exact List.append_cancel_right this
    rw [hs, mayBe_yes (p := (· == 45)) hc]
    exact tail _ rfl
  · rw [g2, ef, ee] at ew
    have hs : s = w ++ (f ++ e) := by
      have : s ++ r = (w ++ (f ++ e)) ++ r := by rw [ew]; simp
      exact List.append_cancel_right this
    have hno : ∀ c r', s = c :: r' → (c == 45) = false := fun c r' e => g3 c (r' ++ r) (by rw [e]; rfl)
    rw [mayBe_none hno]
    exact tail _ hs
/-- What is read as a number is a number's text. -/
theorem number_literal {l : List UInt8} {v : JV} {r : List UInt8} (h : number l = .ok v r) : ∃ s, l = s ++ r ∧ v = .mk 3 (str s) [] [] ∧ literal s = true := by
  unfold number at h
  obtain ⟨x, l1, h1, h2⟩ := Out.of_andThen h
  split at h2
  · cases h2
  rename_i hlen
  cases h2
  obtain ⟨s, hs⟩ := suf_split (numRest_fits _ _ _ h1).1
  have hl : l.length - r.length = s.length := by rw [hs, List.length_append]; omega
  rw [hl] at hlen
  have htk : l.take (l.length - r.length) = s := by rw [hl, hs, List.take_left]
  refine ⟨s, hs, by rw [htk], ?_⟩
  rw [hs] at h1
  have := numRest_cut h1
  unfold literal number
  rw [this, Out.andThen_ok]
  simp only [List.length_nil, Nat.sub_zero]
  rw [if_neg hlen]
end Go.Proofs.YthjcolehccbihaaGreatDoor
/- What is read of a text is UTF-8. Plain; no program in it. -/
namespace Go.Proofs.YthjcolehccbihaaGreatDoor
open Go.Lib (encodeRune encodeRuneZ encodeRuneZ_one encodeRuneZ_two encodeRuneZ_three encodeRuneZ_four)

theorem validN_more : ∀ (n m : Nat) (l : List UInt8), l.length ≤ n → l.length ≤ m → validN n l = validN m l
  | 0, m, l, h1, _ => by
    have : l = [] := List.length_eq_zero_iff.1 (by omega)
    subst this
    cases m <;> rfl
  | n + 1, 0, l, _, h2 => by
    have : l = [] := List.length_eq_zero_iff.1 (by omega)
    subst this
    rfl
  | n + 1, m + 1, [], _, _ => rfl
  | n + 1, m + 1, c :: l, h1, h2 => by
    simp only [validN]
    split
    · rfl
    · rename_i hs
      refine validN_more n m _ ?_ ?_
      · rw [List.length_drop]; simp only [List.length_cons] at h1 ⊢; omega
      · rw [List.length_drop]; simp only [List.length_cons] at h2 ⊢; omega
theorem valid_cons {c : UInt8} {l : List UInt8} : valid (c :: l) = true ↔ seqLen (c :: l) ≠ 0 ∧ valid ((c :: l).drop (seqLen (c :: l))) = true := by
  have e : valid (c :: l) = if seqLen (c :: l) = 0 then false else validN l.length ((c :: l).drop (seqLen (c :: l))) := rfl
  rw [e]
  by_cases h : seqLen (c :: l) = 0
  · rw [if_pos h]; simp [h]
  · rw [if_neg h]
    have : validN l.length ((c :: l).drop (seqLen (c :: l))) = valid ((c :: l).drop (seqLen (c :: l))) := validN_more _ _ _ (by rw [List.length_drop]; simp only [List.length_cons]; omega) (Nat.le_refl _)
    rw [this]
    simp [h]
theorem valid_app : ∀ (k : Nat) (a b : List UInt8), a.length ≤ k → valid a = true → valid b = true → valid (a ++ b) = true
  | _, [], b, _, _, hb => hb
  | 0, c :: a, b, hk, _, _ => by simp at hk
  | k + 1, c :: a, b, hk, ha, hb => by
    obtain ⟨h1, h2⟩ := valid_cons.1 ha
    have hle := seqLen_le (c :: a)
    have hs := seqLen_append h1 b
    rw [List.cons_append] at hs
    rw [List.cons_append, valid_cons, hs]
    refine ⟨h1, ?_⟩
    rw [← List.cons_append, List.drop_append_of_le_length hle]
    refine valid_app k _ b ?_ h2 hb
    rw [List.length_drop]
    simp only [List.length_cons] at hk ⊢
    omega
theorem valid_one {c : UInt8} {l : List UInt8} (h : seqLen (c :: l) = (c :: l).length) : valid (c :: l) = true := by
  rw [valid_cons]
  refine ⟨by rw [h]; simp, ?_⟩
  rw [h, List.drop_length]
  rfl
theorem valid_take {c : UInt8} {l : List UInt8} (h : seqLen (c :: l) ≠ 0) : valid ((c :: l).take (seqLen (c :: l))) = true := by
  rcases seqLen_parts h with ⟨h1, h2⟩ | ⟨h1, d, m, rfl, h2, h3⟩ | ⟨h1, d, e, m, rfl, h2, h3, h4⟩ | ⟨h1, d, e, f, m, rfl, h2, h3, h4, h5⟩
  · rw [h2]; exact valid_one (by simp [seqLen, h1])
  · rw [h3]; exact valid_one (by simp [seqLen, h1, h2])
  · rw [h4]; exact valid_one (by simp [seqLen, h1, h2, h3])
  · rw [h5]; exact valid_one (by simp [seqLen, h1, h2, h3, h4])
theorem byte_nat {n : Nat} (h : n < 256) : (n.toUInt8).toNat = n := by
  rw [Nat.toUInt8, UInt8.toNat_ofNat']
  omega
theorem lead_two {c : UInt8} (h1 : 194 ≤ c.toNat) (h2 : c.toNat < 224) : leadLen c = 2 := by
  unfold leadLen
  rw [if_neg (by rw [u8lt]; show ¬ c.toNat < 128; omega), if_neg (by rw [u8lt]; show ¬ c.toNat < 194; omega), if_pos (by rw [u8lt]; exact h2)]
theorem lead_three {c : UInt8} (h1 : 224 ≤ c.toNat) (h2 : c.toNat < 240) : leadLen c = 3 := by
  unfold leadLen
  rw [if_neg (by rw [u8lt]; show ¬ c.toNat < 128; omega), if_neg (by rw [u8lt]; show ¬ c.toNat < 194; omega), if_neg (by rw [u8lt]; show ¬ c.toNat < 224; omega), if_pos (by rw [u8lt]; exact h2)]
theorem lead_four {c : UInt8} (h1 : 240 ≤ c.toNat) (h2 : c.toNat < 245) : leadLen c = 4 := by
  unfold leadLen
  rw [if_neg (by rw [u8lt]; show ¬ c.toNat < 128; omega), if_neg (by rw [u8lt]; show ¬ c.toNat < 194; omega), if_neg (by rw [u8lt]; show ¬ c.toNat < 224; omega), if_neg (by rw [u8lt]; show ¬ c.toNat < 240; omega), if_pos (by rw [u8lt]; exact h2)]
theorem cont_of {c : UInt8} (h1 : 128 ≤ c.toNat) (h2 : c.toNat ≤ 191) : isCont c = true := by
  unfold isCont
  rw [decide_eq_true (show (128 : UInt8) ≤ c from h1), decide_eq_true (show c ≤ (191 : UInt8) from h2)]
  rfl
theorem second_of {c d : UInt8} (h1 : 128 ≤ d.toNat) (h2 : d.toNat ≤ 191) (ha : c.toNat = 224 → 160 ≤ d.toNat) (hb : c.toNat = 240 → 144 ≤ d.toNat) (hc : c.toNat = 237 → d.toNat ≤ 159) (hd : c.toNat = 244 → d.toNat ≤ 143) : okSecond c d = true := by
  unfold okSecond
  have e1 : lowSecond c ≤ d := by
    unfold lowSecond
    split
    · rename_i h; exact (u8le _ _).2 (ha ((u8eq _ _).1 h))
    · split
      · rename_i h; exact (u8le _ _).2 (hb ((u8eq _ _).1 h))
      · exact (u8le _ _).2 h1
  have e2 : d ≤ highSecond c := by
    unfold highSecond
    split
    · rename_i h; exact (u8le _ _).2 (hc ((u8eq _ _).1 h))
    · split
      · rename_i h; exact (u8le _ _).2 (hd ((u8eq _ _).1 h))
      · exact (u8le _ _).2 h2
  rw [decide_eq_true e1, decide_eq_true e2]
  rfl
theorem rune_valid {r : Nat} (h : r < 0x110000) (hs : r < 0xd800 ∨ 0xe000 ≤ r) : valid (encodeRune (r : Int)) = true := by
  unfold encodeRune
  by_cases h1 : r ≤ 127
  · rw [encodeRuneZ_one (by omega) (by omega)]
    simp only [List.map_cons, List.map_nil, Int.toNat_natCast]
    refine valid_one ?_
    have : leadLen r.toUInt8 = 1 := leadLen_one.2 ((u8lt _ _).2 (by rw [byte_nat (by omega)]; show r < 128; omega))
    simp [seqLen, this]
  by_cases h2 : r ≤ 2047
  · rw [encodeRuneZ_two (by omega) (by omega)]
    have a1 : (192 + (r : Int) / 64).toNat = 192 + r / 64 := by omega
    have a2 : (128 + (r : Int) % 64).toNat = 128 + r % 64 := by omega
    simp only [List.map_cons, List.map_nil, a1, a2]
    refine valid_one ?_
    have b1 := byte_nat (n := 192 + r / 64) (by omega)
    have b2 := byte_nat (n := 128 + r % 64) (by omega)
    have l1 := lead_two (c := (192 + r / 64).toUInt8) (by omega) (by omega)
    have l2 := second_of (c := (192 + r / 64).toUInt8) (d := (128 + r % 64).toUInt8) (by omega) (by omega) (by omega) (by omega) (by omega) (by omega)
    generalize (192 + r / 64).toUInt8 = c at l1 l2 ⊢
    generalize (128 + r % 64).toUInt8 = d at l2 ⊢
    simp [seqLen, l1, l2]
  by_cases h3 : r ≤ 65535
  · rw [encodeRuneZ_three (by omega)]
    have a1 : (224 + (r : Int) / 4096).toNat = 224 + r / 4096 := by omega
    have a2 : (128 + (r : Int) / 64 % 64).toNat = 128 + r / 64 % 64 := by omega
    have a3 : (128 + (r : Int) % 64).toNat = 128 + r % 64 := by omega
    simp only [List.map_cons, List.map_nil, a1, a2, a3]
    refine valid_one ?_
    have b1 := byte_nat (n := 224 + r / 4096) (by omega)
    have b2 := byte_nat (n := 128 + r / 64 % 64) (by omega)
    have b3 := byte_nat (n := 128 + r % 64) (by omega)
    have l1 := lead_three (c := (224 + r / 4096).toUInt8) (by omega) (by omega)
    have l2 := second_of (c := (224 + r / 4096).toUInt8) (d := (128 + r / 64 % 64).toUInt8) (by omega) (by omega) (by omega) (by omega) (by omega) (by omega)
    have l3 := cont_of (c := (128 + r % 64).toUInt8) (by omega) (by omega)
    generalize (224 + r / 4096).toUInt8 = c at l1 l2 ⊢
    generalize (128 + r / 64 % 64).toUInt8 = d at l2 ⊢
    generalize (128 + r % 64).toUInt8 = e at l3 ⊢
    simp [seqLen, l1, l2, l3]
  · rw [encodeRuneZ_four (by omega) (by omega)]
    have a1 : (240 + (r : Int) / 262144).toNat = 240 + r / 262144 := by omega
    have a2 : (128 + (r : Int) / 4096 % 64).toNat = 128 + r / 4096 % 64 := by omega
    have a3 : (128 + (r : Int) / 64 % 64).toNat = 128 + r / 64 % 64 := by omega
    have a4 : (128 + (r : Int) % 64).toNat = 128 + r % 64 := by omega
    simp only [List.map_cons, List.map_nil, a1, a2, a3, a4]
    refine valid_one ?_
    have b1 := byte_nat (n := 240 + r / 262144) (by omega)
    have b2 := byte_nat (n := 128 + r / 4096 % 64) (by omega)
    have b3 := byte_nat (n := 128 + r / 64 % 64) (by omega)
    have b4 := byte_nat (n := 128 + r % 64) (by omega)
    have l1 := lead_four (c := (240 + r / 262144).toUInt8) (by omega) (by omega)
    have l2 := second_of (c := (240 + r / 262144).toUInt8) (d := (128 + r / 4096 % 64).toUInt8) (by omega) (by omega) (by omega) (by omega) (by omega) (by omega)
    have l3 := cont_of (c := (128 + r / 64 % 64).toUInt8) (by omega) (by omega)
    have l4 := cont_of (c := (128 + r % 64).toUInt8) (by omega) (by omega)
    generalize (240 + r / 262144).toUInt8 = c at l1 l2 ⊢
    generalize (128 + r / 4096 % 64).toUInt8 = d at l2 ⊢
    generalize (128 + r / 64 % 64).toUInt8 = e at l3 ⊢
    generalize (128 + r % 64).toUInt8 = f at l4 ⊢
    simp [seqLen, l1, l2, l3, l4]
/-! What an escape stands for -/
theorem hexVal_lt {c : UInt8} {v : Nat} (h : hexVal c = some v) : v < 16 := by
  unfold hexVal at h
  split at h
  · rename_i hc; cases h; have a := (u8le _ _).1 hc.1; have b := (u8le _ _).1 hc.2; have e : (57 : UInt8).toNat = 57 := rfl; omega
  split at h
  · rename_i hc; cases h; have a := (u8le _ _).1 hc.1; have b := (u8le _ _).1 hc.2; have e : (102 : UInt8).toNat = 102 := rfl; omega
  split at h
  · rename_i hc; cases h; have a := (u8le _ _).1 hc.1; have b := (u8le _ _).1 hc.2; have e : (70 : UInt8).toNat = 70 := rfl; omega
  · cases h
theorem fourN_lt {pl : Nat} : ∀ (n x : Nat) (l : List UInt8) (v : Nat) (r : List UInt8), fourN pl n x l = .ok v r → v < 16 ^ n * (x + 1)
  | 0, x, l, v, r, h => by simp only [fourN] at h; cases h; omega
  | n + 1, x, [], v, r, h => by simp [fourN] at h
  | n + 1, x, c :: l, v, r, h => by
    simp only [fourN] at h
    split at h
    · cases h
    · rename_i d hd
      have h1 := fourN_lt n _ _ _ _ h
      have h2 := hexVal_lt hd
      have h3 : 16 ^ n * (16 * x + d + 1) ≤ 16 ^ n * (16 * (x + 1)) := Nat.mul_le_mul_left _ (by omega)
      have h4 : 16 ^ n * (16 * (x + 1)) = 16 ^ (n + 1) * (x + 1) := by rw [Nat.pow_succ, Nat.mul_assoc]
      omega
theorem four_bound {pl : Nat} {l : List UInt8} {v : Nat} {r : List UInt8} (h : fourN pl 4 0 l = .ok v r) : v < 65536 := by
  have := fourN_lt 4 0 l v r h
  simpa using this
theorem markVal_lt {c : UInt8} {v : Nat} (h : markVal c = some v) : v < 128 := by
  unfold markVal at h
  repeat' split at h
  all_goals first | (cases h; omega) | cases h
theorem escaped_ok {pl : Nat} {l : List UInt8} {x : Nat} {r : List UInt8} (h : escaped pl l = .ok x r) : x < 0x110000 ∧ (x < 0xd800 ∨ 0xe000 ≤ x) := by
  cases l with
  | nil => simp [escaped] at h
  | cons c l =>
    simp only [escaped] at h
    split at h
    · rename_i v hv
      cases h
      have := markVal_lt hv
      omega
    · split at h
      · obtain ⟨y, l1, h1, h2⟩ := Out.of_andThen h
        have hy := four_bound h1
        split at h2
        · cases h2
          omega
        split at h2
        · cases h2
        · unfold second at h2
          obtain ⟨_, l2, h3, h4⟩ := Out.of_andThen h2
          obtain ⟨_, l3, h5, h6⟩ := Out.of_andThen h4
          obtain ⟨z, l4, h7, h8⟩ := Out.of_andThen h6
          split at h8
          · cases h8
          · rename_i hz
            injection h8 with e1 _
            rw [← e1]
            omega
      · cases h
theorem textN_valid : ∀ (n : Nat) (out l t r : List UInt8), textN n out l = .ok t r → valid out = true → valid t = true
  | 0, _, _, _, _, h, _ => by simp [textN] at h
  | _ + 1, _, [], _, _, h, _ => by simp [textN] at h
  | n + 1, out, c :: l, t, r, h, hv => by
    unfold textN at h
    split at h
    · cases h
    split at h
    · cases h
      exact hv
    split at h
    · obtain ⟨x, l', h1, h2⟩ := Out.of_andThen h
      obtain ⟨h3, h4⟩ := escaped_ok h1
      exact textN_valid n _ _ _ _ h2 (valid_app _ _ _ (Nat.le_refl _) hv (rune_valid h3 h4))
    split at h
    · cases h
    split at h
    · cases h
    · rename_i hs
      exact textN_valid n _ _ _ _ h (valid_app _ _ _ (Nat.le_refl _) hv (valid_take hs))
theorem text_valid {l t r : List UInt8} (h : text l = .ok t r) : valid t = true := textN_valid _ _ _ _ _ h rfl
end Go.Proofs.YthjcolehccbihaaGreatDoor
/- What is read may be printed, and is not much longer then. Plain; no program in it. -/
namespace Go.Proofs.YthjcolehccbihaaGreatDoor
open Go.Lib (encodeRune encodeRuneZ encodeRuneZ_one)

theorem escaped_len {pl : Nat} {l : List UInt8} {x : Nat} {r : List UInt8} (h : escaped pl l = .ok x r) : (encodeRune (x : Int)).length + r.length ≤ l.length + 1 := by
  have h4 := rune_len (x : Int)
  cases l with
  | nil => simp [escaped] at h
  | cons c l =>
    simp only [escaped] at h
    simp only [List.length_cons]
    split at h
    · rename_i v hv
      have hm := markVal_lt hv
      injection h with e1 e2
      subst e1 e2
      unfold encodeRune
      rw [encodeRuneZ_one (by omega) (by omega)]
      simp only [List.map_cons, List.map_nil, List.length_cons, List.length_nil]
      omega
    · split at h
      · obtain ⟨y, l1, h1, h2⟩ := Out.of_andThen h
        have hf := (fourN_fits _ _ _ _ _ _ h1).2
        split at h2
        · injection h2 with e1 e2
          subst e2
          omega
        split at h2
        · cases h2
        · have hg := (second_fits _ _ _ _ _ h2).2
          omega
      · cases h
theorem textN_len : ∀ (n : Nat) (out l t r : List UInt8), textN n out l = .ok t r → t.length + r.length + 1 ≤ out.length + l.length
  | 0, _, _, _, _, h => by simp [textN] at h
  | _ + 1, _, [], _, _, h => by simp [textN] at h
  | n + 1, out, c :: l, t, r, h => by
    unfold textN at h
    split at h
    · cases h
    split at h
    · cases h
      simp only [List.length_cons]
      omega
    split at h
    · obtain ⟨x, l', h1, h2⟩ := Out.of_andThen h
      have h3 := textN_len n _ _ _ _ h2
      have h4 := escaped_len h1
      rw [List.length_append] at h3
      simp only [List.length_cons]
      omega
    split at h
    · cases h
    split at h
    · cases h
    · have h3 := textN_len n _ _ _ _ h
      have h4 := seqLen_le (c :: l)
      rw [List.length_append, List.length_take, List.length_drop] at h3
      omega
theorem text_len {l t r : List UInt8} (h : text l = .ok t r) : t.length + r.length + 1 ≤ l.length := by
  have := textN_len _ _ _ _ _ h
  simpa using this
/-- How much a list of texts takes, a comma behind each. -/
def sumL (L : List (List UInt8)) : Nat := (L.map fun x => x.length + 1).sum
theorem sumL_cons (x : List UInt8) (L : List (List UInt8)) : sumL (x :: L) = x.length + 1 + sumL L := by simp [sumL]
theorem commas_sum : ∀ L : List (List UInt8), L ≠ [] → (commas L).length + 1 = sumL L
  | [], h => absurd rfl h
  | [x], _ => by simp [commas, sumL]
  | x :: y :: l, _ => by
    have := commas_sum (y :: l) (by simp)
    rw [sumL_cons, ← this]
    simp only [commas, List.length_append, List.length_cons]
    omega
theorem sumL_perm {L M : List (List UInt8)} (h : L.Perm M) : sumL L = sumL M := by
  induction h with
  | nil => rfl
  | cons x _ ih => rw [sumL_cons, sumL_cons, ih]
  | swap x y l => simp only [sumL_cons]; omega
  | trans _ _ ih1 ih2 => rw [ih1, ih2]
theorem begins_ok {D : Nat} {l : List UInt8} {v : JV} {r : List UInt8} (h : value D l = .ok v r) : begins l = true := by
  have hs : ∀ c l, scalar (c :: l) = .ok v r → begins (c :: l) = true := fun c l h => by
    unfold scalar at h
    dsimp only at h
    unfold begins
    simp only [Bool.or_eq_true, beq_iff_eq]
    split at h
    · rename_i e; simp [e]
    split at h
    · rename_i e; rcases e with e | e
      · simp [e]
      · simp [e]
    split at h
    · rename_i e; simp [e]
    split at h
    · rename_i e; simp [e]
    split at h
    · rename_i e; simp [e]
    · cases h
  cases l with
  | nil => cases D <;> simp [value, scalar] at h
  | cons c l =>
    cases D with
    | zero =>
      unfold value at h
      dsimp only at h
      split at h
      · cases h
      · exact hs _ _ h
    | succ D =>
      unfold value at h
      dsimp only at h
      split at h
      · rename_i e; simp [begins, e]
      split at h
      · rename_i e; simp [begins, e]
      · exact hs _ _ h
section
variable {val : List UInt8 → Out JV} {d : Nat}
theorem elemsN_chk (hbeg : ∀ l v r, val l = .ok v r → begins l = true) (hval : ∀ l v r, val l = .ok v r → chk d v = 0 ∧ (lay v).length + 6 * r.length ≤ 6 * l.length) : ∀ (n : Nat) (acc : List JV) (l : List UInt8) (vs : List JV) (r : List UInt8), elemsN val n acc l = .ok vs r → acc.length ≤ 1000 → (∀ v ∈ acc, chk d v = 0) →
    vs.length ≤ 1000 ∧ (∀ v ∈ vs, chk d v = 0) ∧ ∃ new, vs = acc ++ new ∧ new ≠ [] ∧ sumL (new.map lay) + 6 * r.length ≤ 6 * l.length
  | 0, _, _, _, _, h, _, _ => by simp [elemsN] at h
  | n + 1, acc, l, vs, r, h, hl, ha => by
    unfold elemsN at h
    split at h
    · cases h
    rename_i hno
    obtain ⟨v, l1, h1, h2⟩ := Out.of_andThen h
    have hb := suf_len (blanks_suf l)
    obtain ⟨hv, hs⟩ := hval _ _ _ h1
    have hbg := hbeg _ _ _ h1
    have hlt : acc.length < 1000 := by
      rcases Nat.lt_or_eq_of_le hl with h | h
      · exact h
      · exact absurd ⟨h, hbg⟩ hno
    have hb1 := suf_len (blanks_suf l1)
    have hacc : ∀ x ∈ acc ++ [v], chk d x = 0 := fun x hx => by
      rcases List.mem_append.1 hx with hx | hx
      · exact ha x hx
      · rw [List.mem_singleton.1 hx]; exact hv
    have hal : (acc ++ [v]).length ≤ 1000 := by rw [List.length_append]; simp only [List.length_cons, List.length_nil]; omega
    cases hr : blanks l1 with
    | nil => rw [hr] at h2; cases h2
    | cons c r' =>
      rw [hr] at h2 hb1
      simp only [List.length_cons] at hb1
      dsimp only at h2
      split at h2
      · cases h2
        refine ⟨hal, hacc, [v], rfl, by simp, ?_⟩
        simp only [List.map_cons, List.map_nil, sumL_cons]
        have : sumL [] = 0 := rfl
        omega
      · split at h2
        · obtain ⟨g1, g2, new, g3, g4, g5⟩ := elemsN_chk hbeg hval n _ _ _ _ h2 hal hacc
          refine ⟨g1, g2, v :: new, by rw [g3]; simp, by simp, ?_⟩
          rw [List.map_cons, sumL_cons]
          omega
        · cases h2
theorem array_chk (hd : d < 32) (hbeg : ∀ l v r, val l = .ok v r → begins l = true) (hval : ∀ l v r, val l = .ok v r → chk (d + 1) v = 0 ∧ (lay v).length + 6 * r.length ≤ 6 * l.length) {l : List UInt8} {v : JV} {r : List UInt8} (h : array val l = .ok v r) :
    chk d v = 0 ∧ (lay v).length + 6 * r.length ≤ 6 * (l.length + 1) := by
  unfold array at h
  have hb := suf_len (blanks_suf l)
  have own : ∀ n, n ≤ 1000 → Own d 5 ByteArray.empty n [] := fun n hn => ⟨by decide, by decide, (fun h => by cases h), (fun h => by cases h), fun _ => hd, fun _ => hn, (fun h => by cases h)⟩
  rcases mayBe_split (· == 93) (blanks l) with ⟨g1, c, hc, g2⟩ | ⟨g1, g2, g3⟩
  · rw [g1, if_pos rfl] at h
    injection h with e1 e2
    subst e1
    rw [e2] at g2
    have := congrArg List.length g2
    simp only [List.length_cons] at this
    refine ⟨chk_zero.2 ⟨own 0 (by decide), fun _ v hv => by cases hv⟩, ?_⟩
    rw [lay_array]
    simp only [List.map_nil, commas, List.nil_append, List.length_cons, List.length_nil]
    omega
  · rw [g1, if_neg (fun h => by cases h)] at h
    obtain ⟨vs, l1, h1, h2⟩ := Out.of_andThen h
    injection h2 with e1 e2
    subst e1 e2
    obtain ⟨k1, k2, new, k3, k4, k5⟩ := elemsN_chk hbeg hval _ _ _ _ _ h1 (by simp) (by simp)
    rw [List.nil_append] at k3
    subst k3
    refine ⟨chk_zero.2 ⟨own _ k1, fun _ => k2⟩, ?_⟩
    have := commas_sum (vs.map lay) (by simpa using k4)
    rw [lay_array]
    simp only [List.length_cons, List.length_append, List.length_nil]
    omega
theorem membersN_chk (hval : ∀ l v r, val l = .ok v r → chk d v = 0 ∧ (lay v).length + 6 * r.length ≤ 6 * l.length) : ∀ (n : Nat) (acc : List JV) (names : List ByteArray) (l : List UInt8) (vs : List JV × List ByteArray) (r : List UInt8), membersN val n acc names l = .ok vs r → acc.length ≤ 1000 → acc.length = names.length →
    (names.map raw).Nodup → (∀ s ∈ names, valid (raw s) = true) → (∀ v ∈ acc, chk d v = 0) → vs.1.length ≤ 1000 ∧ vs.1.length = vs.2.length ∧ (vs.2.map raw).Nodup ∧ (∀ s ∈ vs.2, valid (raw s) = true) ∧ (∀ v ∈ vs.1, chk d v = 0) ∧
    ∃ new : List (ByteArray × JV), vs.1 = acc ++ new.map (·.2) ∧ vs.2 = names ++ new.map (·.1) ∧ new ≠ [] ∧ sumL (new.map fun p => layPair (raw p.1, lay p.2)) + 6 * r.length ≤ 6 * l.length
  | 0, _, _, _, _, _, h, _, _, _, _, _ => by simp [membersN] at h
  | n + 1, acc, names, l, vs, r, h, hl, hlen, hnd, hvd, ha => by
    unfold membersN at h
    have hb := suf_len (blanks_suf l)
    cases hr0 : blanks l with
    | nil => rw [hr0] at h; cases h
    | cons c l1 =>
      rw [hr0] at h hb
      simp only [List.length_cons] at hb
      dsimp only at h
      split at h
      · cases h
      split at h
      · cases h
      rename_i hne
      obtain ⟨name, l2, h1, h2⟩ := Out.of_andThen h
      have ht := text_len h1
      have hval2 := text_valid h1
      split at h2
      · cases h2
      rename_i hnm
      obtain ⟨_, l3, h3, h4⟩ := Out.of_andThen h2
      have hmf := (musts_fits [58] _ _ l3 h3).2
      have hb2 := suf_len (blanks_suf l2)
      obtain ⟨v, l4, h5, h6⟩ := Out.of_andThen h4
      have hb3 := suf_len (blanks_suf l3)
      simp only [List.length_cons, List.length_nil] at hmf
      obtain ⟨hv, hs⟩ := hval _ _ _ h5
      have hb4 := suf_len (blanks_suf l4)
      have hrs : raw (str name) = name := str_toList name
      have hacc : ∀ x ∈ acc ++ [v], chk d x = 0 := fun x hx => by
        rcases List.mem_append.1 hx with hx | hx
        · exact ha x hx
        · rw [List.mem_singleton.1 hx]; exact hv
      have hnames : ∀ s ∈ names ++ [str name], valid (raw s) = true := fun s hx => by
        rcases List.mem_append.1 hx with hx | hx
        · exact hvd s hx
        · rw [List.mem_singleton.1 hx, hrs]; exact hval2
      have hlen2 : (acc ++ [v]).length = (names ++ [str name]).length := by simp [hlen]
      have hal : (acc ++ [v]).length ≤ 1000 := by rw [List.length_append]; simp only [List.length_cons, List.length_nil]; omega
      have hnd2 : ((names ++ [str name]).map raw).Nodup := by
        rw [List.map_append, List.nodup_append]
        refine ⟨hnd, by simp, fun a ha b hb e => hnm ?_⟩
        simp only [List.map_cons, List.map_nil, List.mem_singleton] at hb
        rw [hb, hrs] at e
        rw [← e]
        exact ha
      have hq : (layPair (raw (str name), lay v)).length ≤ 6 * name.length + 3 + (lay v).length := by
        rw [hrs]
        have := quote_size name
        unfold layPair
        simp only [List.length_append, List.length_cons]
        omega
      cases hr : blanks l4 with
      | nil => rw [hr] at h6; cases h6
      | cons c2 r' =>
        rw [hr] at h6 hb4
        simp only [List.length_cons] at hb4
        dsimp only at h6
        split at h6
        · cases h6
          refine ⟨hal, hlen2, hnd2, hnames, hacc, [(str name, v)], rfl, rfl, by simp, ?_⟩
          simp only [List.map_cons, List.map_nil, sumL_cons]
          have : sumL [] = 0 := rfl
          omega
        · split at h6
          · obtain ⟨g1, g2, g3, g4, g5, new, g6, g7, g8, g9⟩ := membersN_chk hval n _ _ _ _ _ h6 hal hlen2 hnd2 hnames hacc
            refine ⟨g1, g2, g3, g4, g5, (str name, v) :: new, by rw [g6]; simp, by rw [g7]; simp, by simp, ?_⟩
            rw [List.map_cons, sumL_cons]
            dsimp only
            omega
          · cases h6
theorem object_chk (hd : d < 32) (hval : ∀ l v r, val l = .ok v r → chk (d + 1) v = 0 ∧ (lay v).length + 6 * r.length ≤ 6 * l.length) {l : List UInt8} {v : JV} {r : List UInt8} (h : object val l = .ok v r) :
    chk d v = 0 ∧ (lay v).length + 6 * r.length ≤ 6 * (l.length + 1) := by
  unfold object at h
  have hb := suf_len (blanks_suf l)
  have own : ∀ n (names : List ByteArray), n ≤ 1000 → names.length = n → (names.map raw).Nodup → (∀ s ∈ names, valid (raw s) = true) → Own d 6 ByteArray.empty n names := fun n names hn h1 h2 h3 =>
    ⟨by decide, by decide, (fun h => by cases h), (fun h => by cases h), fun _ => hd, fun _ => hn, fun _ => ⟨h3, h1, (distinct_nodup _).2 h2⟩⟩
  rcases mayBe_split (· == 125) (blanks l) with ⟨g1, c, hc, g2⟩ | ⟨g1, g2, g3⟩
  · rw [g1, if_pos rfl] at h
    injection h with e1 e2
    subst e1
    rw [e2] at g2
    have := congrArg List.length g2
    simp only [List.length_cons] at this
    refine ⟨chk_zero.2 ⟨own 0 [] (by decide) rfl (by simp) (by simp), fun _ v hv => by cases hv⟩, ?_⟩
    rw [lay_object]
    simp only [pairsOf, List.map_nil, List.zip_nil_left, sortP, commas, List.nil_append, List.length_cons, List.length_nil]
    omega
  · rw [g1, if_neg (fun h => by cases h)] at h
    obtain ⟨vs, l1, h1, h2⟩ := Out.of_andThen h
    injection h2 with e1 e2
    subst e1 e2
    obtain ⟨k1, k2, k3, k4, k5, new, k6, k7, k8, k9⟩ := membersN_chk hval _ _ _ _ _ _ h1 (by simp) rfl (by simp) (by simp) (by simp)
    rw [List.nil_append] at k6 k7
    refine ⟨chk_zero.2 ⟨own _ _ k1 k2.symm k3 k4, fun _ => k5⟩, ?_⟩
    rw [lay_object]
    have hp : ((pairsOf vs.2 vs.1).map fun p => layPair (p.1, lay p.2)).Perm (new.map fun p => layPair (raw p.1, lay p.2)) := by
      have e : (vs.2.map raw).zip vs.1 = new.map fun p => (raw p.1, p.2) := by
        rw [k6, k7, List.map_map]
        exact List.zip_map'
      unfold pairsOf
      rw [e]
      have := (sortP_perm (new.map fun p => (raw p.1, p.2))).map fun p => layPair (p.1, lay p.2)
      rw [List.map_map] at this
      exact this
    have hs := sumL_perm hp
    have hne : ((pairsOf vs.2 vs.1).map fun p => layPair (p.1, lay p.2)) ≠ [] := fun e => by
      have := hp.length_eq
      rw [e] at this
      simp only [List.length_nil, List.length_map] at this
      exact k8 (List.length_eq_zero_iff.1 this.symm)
    have := commas_sum _ hne
    simp only [List.length_cons, List.length_append, List.length_nil]
    omega
end
theorem own_plain {d : Nat} {k : Int} {t : ByteArray} (h0 : 0 ≤ k) (h5 : k < 5) (h3 : k = 3 → literal (raw t) = true) (h4 : k = 4 → valid (raw t) = true) : chk d (.mk k t [] []) = 0 :=
  chk_zero.2 ⟨⟨h0, by omega, h3, h4, (fun h => by omega), (fun h => by omega), (fun h => by omega)⟩, fun h => by omega⟩
theorem scalar_chk {d : Nat} {l : List UInt8} {v : JV} {r : List UInt8} (h : scalar l = .ok v r) : chk d v = 0 ∧ (lay v).length + 6 * r.length ≤ 6 * l.length := by
  cases l with
  | nil => simp [scalar] at h
  | cons c l =>
    have word : ∀ (w : List UInt8) (k : Int), 0 ≤ k → k ≤ 2 → w.length ≤ 5 → 4 ≤ w.length → (lay (.mk k ByteArray.empty [] [])).length ≤ 5 → ((musts w (c :: l)).andThen fun _ r => Out.ok (.mk k ByteArray.empty [] []) r) = .ok v r → chk d v = 0 ∧ (lay v).length + 6 * r.length ≤ 6 * (c :: l).length := fun w k h0 h2 hw1 hw2 hl h => by
      obtain ⟨_, l1, g1, g2⟩ := Out.of_andThen h
      have := (musts_fits _ _ _ _ g1).2
      injection g2 with e1 e2
      subst e1 e2
      exact ⟨own_plain h0 (by omega) (fun h => by omega) (fun h => by omega), by omega⟩
    unfold scalar at h
    dsimp only at h
    split at h
    · obtain ⟨t, l1, h1, h2⟩ := Out.of_andThen h
      injection h2 with e1 e2
      subst e1 e2
      have hl := text_len h1
      have hr : raw (str t) = t := str_toList t
      refine ⟨own_plain (by decide) (by decide) (fun h => by cases h) (fun _ => by rw [hr]; exact text_valid h1), ?_⟩
      rw [lay_text, hr]
      have := quote_size t
      simp only [List.length_cons]
      omega
    split at h
    · obtain ⟨s, e, rfl, hs⟩ := number_literal h
      have hr : raw (str s) = s := str_toList s
      refine ⟨own_plain (by decide) (by decide) (fun _ => by rw [hr]; exact hs) (fun h => by cases h), ?_⟩
      rw [lay_number, hr, e, List.length_append]
      omega
    split at h
    · exact word wNull 0 (by decide) (by decide) (by decide) (by decide) (by decide) h
    split at h
    · exact word wFalse 1 (by decide) (by decide) (by decide) (by decide) (by decide) h
    split at h
    · exact word wTrue 2 (by decide) (by decide) (by decide) (by decide) (by decide) h
    · cases h
theorem value_chk : ∀ (D d : Nat) (l : List UInt8) (v : JV) (r : List UInt8), d + D = 32 → value D l = .ok v r → chk d v = 0 ∧ (lay v).length + 6 * r.length ≤ 6 * l.length
  | 0, d, [], v, r, _, h => scalar_chk h
  | 0, d, c :: l, v, r, _, h => by
    unfold value at h
    dsimp only at h
    split at h
    · cases h
    · exact scalar_chk h
  | D + 1, d, [], v, r, _, h => scalar_chk h
  | D + 1, d, c :: l, v, r, hD, h => by
    unfold value at h
    dsimp only at h
    split at h
    · exact object_chk (by omega) (fun l v r h => value_chk D (d + 1) l v r (by omega) h) h
    split at h
    · exact array_chk (by omega) (fun l v r h => begins_ok h) (fun l v r h => value_chk D (d + 1) l v r (by omega) h) h
    · exact scalar_chk h
/-- What is read is printed, and read it is what was printed. -/
theorem parse_chk {b : List UInt8} (hb : b.length ≤ 4000) : chk 0 (parse b).1 = 0 ∧ (lay (parse b).1).length ≤ 24000 + 4 := by
  have hz : chk 0 JV.zero = 0 ∧ (lay JV.zero).length ≤ 24000 + 4 := ⟨own_plain (by decide) (by decide) (fun h => by cases h) (fun h => by cases h), by decide⟩
  unfold parse
  split
  · exact hz
  cases ho : parseOut b with
  | bad p e => exact hz
  | ok v r =>
    unfold parseOut at ho
    obtain ⟨x, l, h1, h2⟩ := Out.of_andThen ho
    split at h2
    · injection h2 with e1 e2
      subst e1
      obtain ⟨g1, g2⟩ := value_chk 32 0 _ _ _ (by decide) h1
      have := suf_len (blanks_suf b)
      exact ⟨g1, by show (lay x).length ≤ _; omega⟩
    · cases h2
end Go.Proofs.YthjcolehccbihaaGreatDoor
