/- Blanks round the marks of a text that stand outside of its strings: it is read as the same value. Plain; no program in it. -/
import Derived.Test.YthjcolehccbihaaGreatDoorNt
set_option linter.unusedSectionVars false
set_option linter.unusedSimpArgs false
set_option linter.unusedVariables false
namespace Go.Proofs.YthjcolehccbihaaGreatDoor
open Go.Lib (encodeRune)

theorem blanks_c (c : UInt8) (l : List UInt8) : blanks (c :: l) = if isBlank c = true then blanks l else c :: l := rfl
theorem digits_c (c : UInt8) (l : List UInt8) : digits (c :: l) = if isDigit c = true then digits l else c :: l := rfl
theorem mayBe_c (p : UInt8 → Bool) (c : UInt8) (l : List UInt8) : mayBe p (c :: l) = if p c = true then (true, l) else (false, c :: l) := rfl
theorem some1_c (c : UInt8) (l : List UInt8) : some1 (c :: l) = if isDigit c = true then .ok () (digits l) else .bad (l.length + 1) 11 := rfl
theorem mustIs_c (x : UInt8) (pl : Nat) (c : UInt8) (l : List UInt8) : mustIs x pl (c :: l) = if c = x then .ok () l else .bad pl 11 := rfl
theorem musts_c (c : UInt8) (w : List UInt8) (d : UInt8) (l : List UInt8) : musts (c :: w) (d :: l) = if d = c then musts w l else .bad (l.length + 1) 11 := rfl
theorem musts_n (l : List UInt8) : musts [] l = .ok () l := rfl
theorem fourN_c (pl n x : Nat) (c : UInt8) (l : List UInt8) : fourN pl (n + 1) x (c :: l) = match hexVal c with | none => .bad pl 11 | some v => fourN pl n (16 * x + v) l := rfl
theorem escaped_c (pl : Nat) (c : UInt8) (l : List UInt8) : escaped pl (c :: l) = match markVal c with
    | some r => .ok r l
    | none => if c = 117 then (fourN pl 4 0 l).andThen fun x l => if x < 0xd800 ∨ 0xe000 ≤ x then .ok x l else if 0xdc00 ≤ x then .bad pl 11 else second pl x l
      else .bad pl 11 := rfl
theorem textN_c (n : Nat) (out : List UInt8) (c : UInt8) (l : List UInt8) : textN (n + 1) out (c :: l) =
    if c < 32 then .bad (l.length + 1) 11 else if c = 34 then .ok out l
    else if c = 92 then (escaped (l.length + 1) l).andThen fun r l => textN n (out ++ encodeRune r) l
    else if cutOff (c :: l) then .bad 0 11
    else if seqLen (c :: l) = 0 then .bad (l.length + 1) 11
    else textN n (out ++ (c :: l).take (seqLen (c :: l))) ((c :: l).drop (seqLen (c :: l))) := rfl
theorem scalar_c (c : UInt8) (l : List UInt8) : scalar (c :: l) =
    if c = 34 then (text l).andThen fun t r => .ok (.mk 4 (str t) [] []) r
    else if c = 45 ∨ isDigit c = true then number (c :: l)
    else if c = 110 then (musts wNull (c :: l)).andThen fun _ r => .ok (.mk 0 ByteArray.empty [] []) r
    else if c = 102 then (musts wFalse (c :: l)).andThen fun _ r => .ok (.mk 1 ByteArray.empty [] []) r
    else if c = 116 then (musts wTrue (c :: l)).andThen fun _ r => .ok (.mk 2 ByteArray.empty [] []) r
    else .bad (l.length + 1) 11 := rfl
theorem value_0 (c : UInt8) (l : List UInt8) : value 0 (c :: l) = if c = 123 ∨ c = 91 then .bad (l.length + 1) 20 else scalar (c :: l) := rfl
theorem value_s (d : Nat) (c : UInt8) (l : List UInt8) : value (d + 1) (c :: l) = if c = 123 then object (value d) l else if c = 91 then array (value d) l else scalar (c :: l) := rfl
theorem seqLen_c (c : UInt8) (l : List UInt8) : seqLen (c :: l) = if leadLen c = 1 then 1 else if leadLen c = 2 then (match l with | d :: _ => if okSecond c d then 2 else 0 | [] => 0)
    else if leadLen c = 3 then (match l with | d :: e :: _ => if okSecond c d && isCont e then 3 else 0 | _ => 0)
    else if leadLen c = 4 then (match l with | d :: e :: f :: _ => if okSecond c d && isCont e && isCont f then 4 else 0 | _ => 0) else 0 := rfl
def isMark (c : UInt8) : Bool := c == 123 || c == 125 || c == 91 || c == 93 || c == 44 || c == 58
/-- exlaw7.spread; 0: outside of a string, 1: within, else: behind a backslash. -/
def spr : Nat → List UInt8 → List UInt8
  | _, [] => []
  | 0, c :: l => if c = 34 then c :: spr 1 l else if isMark c = true then 32 :: 9 :: c :: 10 :: 13 :: spr 0 l else c :: spr 0 l
  | 1, c :: l => if c = 92 then c :: spr 2 l else if c = 34 then c :: spr 0 l else c :: spr 1 l
  | _ + 2, c :: l => c :: spr 1 l
theorem spr_nil (n : Nat) : spr n [] = [] := by unfold spr; rfl
theorem mark_ne {c : UInt8} (h : isMark c = true) : c ≠ 34 := by rintro rfl; exact absurd h (by decide)
theorem spr0_mark {c : UInt8} {l : List UInt8} (h : isMark c = true) : spr 0 (c :: l) = 32 :: 9 :: c :: 10 :: 13 :: spr 0 l := by
  conv => lhs; unfold spr
  rw [if_neg (mark_ne h), if_pos h]
theorem spr0_quote (l : List UInt8) : spr 0 (34 :: l) = 34 :: spr 1 l := by
  conv => lhs; unfold spr
  rw [if_pos rfl]
theorem spr0_else {c : UInt8} {l : List UInt8} (h : c ≠ 34) (h2 : isMark c = false) : spr 0 (c :: l) = c :: spr 0 l := by
  conv => lhs; unfold spr
  rw [if_neg h, if_neg (by simp [h2])]
theorem spr1_else {c : UInt8} {l : List UInt8} (h : c ≠ 92) (h2 : c ≠ 34) : spr 1 (c :: l) = c :: spr 1 l := by
  conv => lhs; unfold spr
  rw [if_neg h, if_neg h2]
theorem spr1_back (l : List UInt8) : spr 1 (92 :: l) = 92 :: spr 2 l := by
  conv => lhs; unfold spr
  rw [if_pos rfl]
theorem spr1_end (l : List UInt8) : spr 1 (34 :: l) = 34 :: spr 0 l := by
  conv => lhs; unfold spr
  rw [if_neg (by decide), if_pos rfl]
theorem spr2_cons (c : UInt8) (l : List UInt8) : spr 2 (c :: l) = c :: spr 1 l := by conv => lhs; unfold spr
theorem spr_len : ∀ (l : List UInt8) (n : Nat), l.length ≤ (spr n l).length ∧ (spr n l).length ≤ 5 * l.length
  | [], n => by rw [spr_nil]; simp
  | c :: l, 0 => by
    have h0 := spr_len l 0
    have h1 := spr_len l 1
    by_cases h : c = 34
    · subst h; rw [spr0_quote]; simp only [List.length_cons]; omega
    by_cases h2 : isMark c = true
    · rw [spr0_mark h2]; simp only [List.length_cons]; omega
    · rw [spr0_else h (by simpa using h2)]; simp only [List.length_cons]; omega
  | c :: l, 1 => by
    have h0 := spr_len l 0
    have h1 := spr_len l 1
    have h2 := spr_len l 2
    by_cases h : c = 92
    · subst h; rw [spr1_back]; simp only [List.length_cons]; omega
    by_cases h3 : c = 34
    · subst h3; rw [spr1_end]; simp only [List.length_cons]; omega
    · rw [spr1_else h h3]; simp only [List.length_cons]; omega
  | c :: l, n + 2 => by
    have h1 := spr_len l 1
    have : spr (n + 2) (c :: l) = c :: spr 1 l := by conv => lhs; unfold spr
    rw [this]; simp only [List.length_cons]; omega
/-- A byte that goes over as it is, outside of strings. -/
def Plain (c : UInt8) : Prop := c ≠ 34 ∧ isMark c = false
instance (c : UInt8) : Decidable (Plain c) := inferInstanceAs (Decidable (_ ∧ _))
theorem Plain.of {p : UInt8 → Bool} (h : ∀ c ∈ [34, 123, 125, 91, 93, 44, 58], p c = false) {c : UInt8} (hc : p c = true) : Plain c := by
  refine ⟨fun e => ?_, ?_⟩
  · subst e; rw [h 34 (by simp)] at hc; cases hc
  · cases hm : isMark c with
    | false => rfl
    | true =>
      simp only [isMark, Bool.or_eq_true, beq_iff_eq] at hm
      have : p c = false := h c (by rcases hm with ((((rfl | rfl) | rfl) | rfl) | rfl) | rfl <;> simp)
      rw [this] at hc; cases hc
theorem blank_plain {c : UInt8} (h : isBlank c = true) : Plain c := Plain.of (p := isBlank) (by decide) h
theorem blanks_blanks : ∀ l, blanks (blanks l) = blanks l
  | [] => rfl
  | c :: l => by
    rw [blanks_c]
    by_cases h : isBlank c = true
    · rw [if_pos h]; exact blanks_blanks l
    · rw [if_neg h, blanks_c, if_neg h]
theorem blanks_not {l : List UInt8} {c : UInt8} {r : List UInt8} (h : blanks l = c :: r) : isBlank c = false := by
  induction l with
  | nil => simp [blanks] at h
  | cons d l ih =>
    rw [blanks_c] at h
    split at h
    · exact ih h
    · injection h with e _
      subst e
      simpa using ‹¬ isBlank d = true›
theorem blanks_spread : ∀ l, blanks (spr 0 (blanks l)) = blanks (spr 0 l)
  | [] => rfl
  | c :: l => by
    by_cases h : isBlank c = true
    · have hp := blank_plain h
      rw [spr0_else hp.1 hp.2]
      rw [blanks_c c l, if_pos h, blanks_c, if_pos h]
      exact blanks_spread l
    · have : blanks (c :: l) = c :: l := by rw [blanks_c, if_neg h]
      rw [this]
theorem skip {c : UInt8} (h : isBlank c = true) (l : List UInt8) : blanks (c :: l) = blanks l := by
  rw [blanks_c, if_pos h]
theorem stay {c : UInt8} (h : isBlank c = false) (l : List UInt8) : blanks (c :: l) = c :: l := by
  rw [blanks_c, if_neg (by simp [h])]
theorem after_mark (l : List UInt8) : blanks (10 :: 13 :: l) = blanks l := by rw [skip (by decide), skip (by decide)]
theorem head_mark {c : UInt8} {l r : List UInt8} (h : isMark c = true) (hl : blanks l = c :: r) : blanks (spr 0 l) = c :: 10 :: 13 :: spr 0 r := by
  rw [← blanks_spread, hl, spr0_mark h, skip (by decide), skip (by decide), stay (blanks_not hl)]
theorem head_quote {l r : List UInt8} (hl : blanks l = 34 :: r) : blanks (spr 0 l) = 34 :: spr 1 r := by
  rw [← blanks_spread, hl, spr0_quote, stay (by decide)]
theorem head_else {c : UInt8} {l r : List UInt8} (hp : Plain c) (hl : blanks l = c :: r) : blanks (spr 0 l) = c :: spr 0 r := by
  rw [← blanks_spread, hl, spr0_else hp.1 hp.2, stay (blanks_not hl)]
theorem head_nil {l : List UInt8} (hl : blanks l = []) : blanks (spr 0 l) = [] := by
  rw [← blanks_spread, hl]; rfl
/-- Of whatever begins, the first byte stays. -/
theorem head_same (l : List UInt8) : (blanks (spr 0 l)).head? = (blanks l).head? := by
  cases h : blanks l with
  | nil => rw [head_nil h]
  | cons c r =>
    by_cases h1 : c = 34
    · subst h1; rw [head_quote h]; rfl
    by_cases h2 : isMark c = true
    · rw [head_mark h2 h]; rfl
    · rw [head_else ⟨h1, by simpa using h2⟩ h]; rfl
theorem begins_head (l m : List UInt8) (h : l.head? = m.head?) : begins l = begins m := by
  cases l <;> cases m <;> simp_all [begins]
/-! Numbers -/
def Eats (l r : List UInt8) : Prop := ∃ p, l = p ++ r ∧ spr 0 l = p ++ spr 0 r
theorem Eats.refl (l : List UInt8) : Eats l l := ⟨[], rfl, rfl⟩
theorem Eats.trans {a b c : List UInt8} (h : Eats a b) (k : Eats b c) : Eats a c := by
  obtain ⟨p, h1, h2⟩ := h
  obtain ⟨q, k1, k2⟩ := k
  exact ⟨p ++ q, by rw [h1, k1, List.append_assoc], by rw [h2, k2, List.append_assoc]⟩
theorem Eats.one {c : UInt8} (h : Plain c) (l : List UInt8) : Eats (c :: l) l := ⟨[c], rfl, by rw [spr0_else h.1 h.2]; rfl⟩
theorem digit_plain {c : UInt8} (h : isDigit c = true) : Plain c := Plain.of (p := isDigit) (by decide) h
/-- What no test takes stays such. -/
theorem other {p : UInt8 → Bool} (h34 : p 34 = false) (h32 : p 32 = false) {c : UInt8} (hc : p c = false) (l : List UInt8) : ∃ d m, spr 0 (c :: l) = d :: m ∧ p d = false := by
  by_cases h1 : c = 34
  · subst h1; exact ⟨_, _, spr0_quote l, h34⟩
  by_cases h2 : isMark c = true
  · exact ⟨_, _, spr0_mark h2, h32⟩
  · exact ⟨_, _, spr0_else h1 (by simpa using h2), hc⟩
theorem digits_spr : ∀ l, Eats l (digits l) ∧ digits (spr 0 l) = spr 0 (digits l)
  | [] => ⟨Eats.refl _, rfl⟩
  | c :: l => by
    obtain ⟨h1, h2⟩ := digits_spr l
    cases h : isDigit c with
    | true =>
      have hp := digit_plain h
      have e : digits (c :: l) = digits l := by rw [digits_c, if_pos h]
      rw [e]
      refine ⟨(Eats.one hp l).trans h1, ?_⟩
      rw [spr0_else hp.1 hp.2]
      rw [digits_c, if_pos h]
      exact h2
    | false =>
      have e : digits (c :: l) = c :: l := by rw [digits_c, if_neg (by simp [h])]
      rw [e]
      refine ⟨Eats.refl _, ?_⟩
      obtain ⟨d, m, e1, e2⟩ := other (p := isDigit) (by decide) (by decide) h l
      rw [e1]
      rw [digits_c, if_neg (by simp [e2])]
theorem mayBe_spr {p : UInt8 → Bool} (hp : ∀ c ∈ [34, 123, 125, 91, 93, 44, 58], p c = false) (h32 : p 32 = false) (l : List UInt8) : mayBe p (spr 0 l) = ((mayBe p l).1, spr 0 (mayBe p l).2) ∧ Eats l (mayBe p l).2 := by
  cases l with
  | nil => exact ⟨rfl, Eats.refl _⟩
  | cons c l =>
    cases h : p c with
    | true =>
      have hq := Plain.of hp h
      have e : mayBe p (c :: l) = (true, l) := by rw [mayBe_c, if_pos h]
      rw [e]
      refine ⟨?_, Eats.one hq l⟩
      rw [spr0_else hq.1 hq.2]
      rw [mayBe_c, if_pos h]
    | false =>
      have e : mayBe p (c :: l) = (false, c :: l) := by rw [mayBe_c, if_neg (by simp [h])]
      rw [e]
      refine ⟨?_, Eats.refl _⟩
      obtain ⟨d, m, e1, e2⟩ := other (hp 34 (by simp)) h32 h l
      show mayBe p (spr 0 (c :: l)) = (false, spr 0 (c :: l))
      rw [e1]
      rw [mayBe_c, if_neg (by simp [e2])]
theorem some1_spr {l r : List UInt8} (h : some1 l = .ok () r) : some1 (spr 0 l) = .ok () (spr 0 r) ∧ Eats l r := by
  cases l with
  | nil => cases h
  | cons c l =>
    rw [some1_c] at h
    split at h
    · rename_i hd
      injection h with _ h
      subst h
      have hp := digit_plain hd
      obtain ⟨h1, h2⟩ := digits_spr l
      refine ⟨?_, (Eats.one hp l).trans h1⟩
      rw [spr0_else hp.1 hp.2]
      rw [some1_c, if_pos hd, h2]
    · cases h
theorem numWhole_spr {l r : List UInt8} (h : numWhole l = .ok () r) : numWhole (spr 0 l) = .ok () (spr 0 r) ∧ Eats l r := by
  obtain ⟨h1, h2⟩ := mayBe_spr (p := (· == 48)) (by decide) (by decide) l
  unfold numWhole at h ⊢
  rw [h1]
  split at h
  · rename_i hm
    injection h with _ h
    subst h
    exact ⟨by simp only; rw [if_pos hm], h2⟩
  · rename_i hm
    simp only
    rw [if_neg hm]
    exact some1_spr h
theorem numFrac_spr {l r : List UInt8} (h : numFrac l = .ok () r) : numFrac (spr 0 l) = .ok () (spr 0 r) ∧ Eats l r := by
  obtain ⟨h1, h2⟩ := mayBe_spr (p := (· == 46)) (by decide) (by decide) l
  unfold numFrac at h ⊢
  rw [h1]
  split at h
  · rename_i hm
    obtain ⟨h3, h4⟩ := some1_spr h
    exact ⟨by simp only; rw [if_pos hm]; exact h3, h2.trans h4⟩
  · rename_i hm
    injection h with _ h
    subst h
    exact ⟨by simp only; rw [if_neg hm], Eats.refl _⟩
theorem numExp_spr {l r : List UInt8} (h : numExp l = .ok () r) : numExp (spr 0 l) = .ok () (spr 0 r) ∧ Eats l r := by
  obtain ⟨h1, h2⟩ := mayBe_spr (p := isE) (by decide) (by decide) l
  unfold numExp at h ⊢
  rw [h1]
  split at h
  · rename_i hm
    obtain ⟨h5, h6⟩ := mayBe_spr (p := isSign) (by decide) (by decide) (mayBe isE l).2
    obtain ⟨h3, h4⟩ := some1_spr h
    refine ⟨?_, h2.trans (h6.trans h4)⟩
    simp only
    rw [if_pos hm, h5]
    exact h3
  · rename_i hm
    injection h with _ h
    subst h
    exact ⟨by simp only; rw [if_neg hm], Eats.refl _⟩
theorem numRest_spr {l r : List UInt8} (h : numRest l = .ok () r) : numRest (spr 0 l) = .ok () (spr 0 r) ∧ Eats l r := by
  obtain ⟨h1, h2⟩ := mayBe_spr (p := (· == 45)) (by decide) (by decide) l
  unfold numRest at h ⊢
  rw [h1]
  obtain ⟨_, m1, h3, h⟩ := Out.of_andThen h
  obtain ⟨_, m2, h4, h⟩ := Out.of_andThen h
  obtain ⟨h3, k3⟩ := numWhole_spr h3
  obtain ⟨h4, k4⟩ := numFrac_spr h4
  obtain ⟨h5, k5⟩ := numExp_spr h
  refine ⟨?_, h2.trans (k3.trans (k4.trans k5))⟩
  simp only
  rw [h3, Out.andThen_ok, h4, Out.andThen_ok, h5]
theorem number_spr {l r : List UInt8} {v : JV} (h : number l = .ok v r) : number (spr 0 l) = .ok v (spr 0 r) := by
  unfold number at h ⊢
  obtain ⟨_, m, h1, h⟩ := Out.of_andThen h
  obtain ⟨h2, p, e1, e2⟩ := numRest_spr h1
  rw [h2, Out.andThen_ok]
  split at h
  · cases h
  · rename_i hn
    injection h with e3 e4
    subst e4
    have l1 : l.length - m.length = p.length := by rw [e1, List.length_append]; omega
    have l2 : (spr 0 l).length - (spr 0 m).length = p.length := by rw [e2, List.length_append]; omega
    have t1 : l.take p.length = p := by rw [e1]; exact List.take_left
    have t2 : (spr 0 l).take p.length = p := by rw [e2]; exact List.take_left
    rw [l1] at hn
    rw [l1, t1] at e3
    rw [l2, t2, if_neg hn, e3]
/-! Texts -/
theorem hex_ne {c : UInt8} {v : Nat} (h : hexVal c = some v) : c ≠ 92 ∧ c ≠ 34 := by
  constructor <;> (rintro rfl; simp [hexVal] at h)
theorem fourN_spr {pl pl' : Nat} : ∀ (n x : Nat) (l : List UInt8) (v : Nat) (r : List UInt8), fourN pl n x l = .ok v r → fourN pl' n x (spr 1 l) = .ok v (spr 1 r)
  | 0, x, l, v, r, h => by
    unfold fourN at h ⊢
    injection h with e1 e2
    subst e1 e2
    rfl
  | n + 1, x, [], v, r, h => by cases h
  | n + 1, x, c :: l, v, r, h => by
    rw [fourN_c] at h
    cases hc : hexVal c with
    | none => rw [hc] at h; cases h
    | some u =>
      rw [hc] at h
      obtain ⟨a, b⟩ := hex_ne hc
      rw [spr1_else a b]
      rw [fourN_c, hc]
      exact fourN_spr n _ l v r h
theorem second_spr {pl pl' x y : Nat} {l r : List UInt8} (h : second pl x l = .ok y r) : second pl' x (spr 1 l) = .ok y (spr 1 r) := by
  unfold second at h ⊢
  obtain ⟨_, m1, h1, hA⟩ := Out.of_andThen h
  obtain ⟨_, m2, h2, hB⟩ := Out.of_andThen hA
  obtain ⟨z, m3, h3, hC⟩ := Out.of_andThen hB
  clear h hA hB
  have e1 : l = 92 :: m1 := by
    cases l with
    | nil => cases h1
    | cons c l =>
      rw [mustIs_c] at h1
      split at h1
      · rename_i e; injection h1 with _ e2; rw [e, e2]
      · cases h1
  have e2 : m1 = 117 :: m2 := by
    cases m1 with
    | nil => cases h2
    | cons c l =>
      rw [mustIs_c] at h2
      split at h2
      · rename_i e; injection h2 with _ e2; rw [e, e2]
      · cases h2
  subst e1 e2
  have h4 := fourN_spr (pl' := pl') _ _ _ _ _ h3
  rw [spr1_back, spr2_cons]
  simp only [mustIs, if_true, Out.andThen_ok]
  rw [h4, Out.andThen_ok]
  split at hC
  · cases hC
  · rename_i hc
    rw [if_neg hc]
    have e := Out.ok.inj hC
    rw [← e.1, ← e.2]
theorem escaped_spr {pl pl' x : Nat} {l r : List UInt8} (h : escaped pl l = .ok x r) : escaped pl' (spr 2 l) = .ok x (spr 1 r) := by
  cases l with
  | nil => cases h
  | cons c l =>
    rw [spr2_cons]
    rw [escaped_c] at h ⊢
    cases hm : markVal c with
    | some y =>
      rw [hm] at h
      injection h with e1 e2
      subst e1 e2
      rfl
    | none =>
      rw [hm] at h
      simp only at h ⊢
      split at h
      · rename_i hc
        rw [if_pos hc]
        obtain ⟨z, m, h1, h⟩ := Out.of_andThen h
        rw [fourN_spr (pl' := pl') _ _ _ _ _ h1, Out.andThen_ok]
        split at h
        · rename_i hz
          injection h with e1 e2
          subst e1 e2
          rw [if_pos hz]
        · rename_i hz
          rw [if_neg hz]
          split at h
          · cases h
          · rename_i hz2
            rw [if_neg hz2]
            exact second_spr h
      · cases h
theorem cont_ne {d : UInt8} (h : 128 ≤ d.toNat) : d ≠ 92 ∧ d ≠ 34 := by
  constructor <;> (rintro rfl; simp at h)
theorem okSecond_ge {c d : UInt8} (h : okSecond c d = true) : 128 ≤ d.toNat := by
  unfold okSecond lowSecond at h
  simp only [Bool.and_eq_true, decide_eq_true_eq] at h
  have h1 := UInt8.le_iff_toNat_le.1 h.1
  split at h1
  · simp at h1; omega
  · split at h1
    · simp at h1; omega
    · simpa using h1
theorem isCont_ge {d : UInt8} (h : isCont d = true) : 128 ≤ d.toNat := by
  unfold isCont at h
  simp only [Bool.and_eq_true, decide_eq_true_eq] at h
  have := UInt8.le_iff_toNat_le.1 h.1
  simpa using this
theorem cutOff_c (c : UInt8) (l : List UInt8) : cutOff (c :: l) = (decide (l.length + 1 < leadLen c) && (match l with | [] => true | [d] => okSecond c d | d :: e :: _ => okSecond c d && isCont e)) := rfl
theorem cut_false {c : UInt8} {l : List UInt8} (h : leadLen c ≤ l.length + 1) : cutOff (c :: l) = false := by
  rw [cutOff_c, show decide (l.length + 1 < leadLen c) = false by simp; omega]
  rfl
theorem seq_spr {c : UInt8} {l : List UInt8} (h0 : seqLen (c :: l) ≠ 0) :
    seqLen (c :: spr 1 l) = seqLen (c :: l) ∧ (c :: spr 1 l).take (seqLen (c :: l)) = (c :: l).take (seqLen (c :: l)) ∧ (c :: spr 1 l).drop (seqLen (c :: l)) = spr 1 ((c :: l).drop (seqLen (c :: l))) ∧ cutOff (c :: spr 1 l) = false := by
  rw [seqLen_c] at h0
  by_cases c1 : leadLen c = 1
  · have e : ∀ m, seqLen (c :: m) = 1 := fun m => by rw [seqLen_c, if_pos c1]
    rw [e, e]
    exact ⟨rfl, rfl, rfl, cut_false (by omega)⟩
  rw [if_neg c1] at h0
  by_cases c2 : leadLen c = 2
  · rw [if_pos c2] at h0
    match l, h0 with
    | d :: l, h0 =>
      have hd : okSecond c d = true := Decidable.byContradiction fun h => by simp [h] at h0
      obtain ⟨a, b⟩ := cont_ne (okSecond_ge hd)
      have e : ∀ m, seqLen (c :: d :: m) = 2 := fun m => by rw [seqLen_c, if_neg c1, if_pos c2]; simp [hd]
      rw [spr1_else a b, e, e]
      exact ⟨rfl, rfl, rfl, cut_false (by simp only [List.length_cons]; omega)⟩
    | [], h0 => exact absurd rfl h0
  rw [if_neg c2] at h0
  by_cases c3 : leadLen c = 3
  · rw [if_pos c3] at h0
    match l, h0 with
    | d :: f :: l, h0 =>
      have hd : okSecond c d = true ∧ isCont f = true := by
        refine Decidable.byContradiction fun h => ?_
        have : (okSecond c d && isCont f) = false := by
          rw [Bool.and_eq_false_iff]
          cases h1 : okSecond c d <;> cases h2 : isCont f <;> simp_all
        simp [this] at h0
      obtain ⟨a, b⟩ := cont_ne (okSecond_ge hd.1)
      obtain ⟨a2, b2⟩ := cont_ne (isCont_ge hd.2)
      have e : ∀ m, seqLen (c :: d :: f :: m) = 3 := fun m => by rw [seqLen_c, if_neg c1, if_neg c2, if_pos c3]; simp [hd.1, hd.2]
      rw [spr1_else a b, spr1_else a2 b2, e, e]
      exact ⟨rfl, rfl, rfl, cut_false (by simp only [List.length_cons]; omega)⟩
    | [], h0 => exact absurd rfl h0
    | [_], h0 => exact absurd rfl h0
  rw [if_neg c3] at h0
  by_cases c4 : leadLen c = 4
  · rw [if_pos c4] at h0
    match l, h0 with
    | d :: f :: g :: l, h0 =>
      have hd : okSecond c d = true ∧ isCont f = true ∧ isCont g = true := by
        refine Decidable.byContradiction fun h => ?_
        have : (okSecond c d && isCont f && isCont g) = false := by
          cases h1 : okSecond c d <;> cases h2 : isCont f <;> cases h3 : isCont g <;> simp_all
        simp [this] at h0
      obtain ⟨a, b⟩ := cont_ne (okSecond_ge hd.1)
      obtain ⟨a2, b2⟩ := cont_ne (isCont_ge hd.2.1)
      obtain ⟨a3, b3⟩ := cont_ne (isCont_ge hd.2.2)
      have e : ∀ m, seqLen (c :: d :: f :: g :: m) = 4 := fun m => by rw [seqLen_c, if_neg c1, if_neg c2, if_neg c3, if_pos c4]; simp [hd.1, hd.2.1, hd.2.2]
      rw [spr1_else a b, spr1_else a2 b2, spr1_else a3 b3, e, e]
      exact ⟨rfl, rfl, rfl, cut_false (by simp only [List.length_cons]; omega)⟩
    | [], h0 => exact absurd rfl h0
    | [_], h0 => exact absurd rfl h0
    | [_, _], h0 => exact absurd rfl h0
  rw [if_neg c4] at h0
  exact absurd rfl h0
theorem textN_spr : ∀ (n : Nat) (out l t r : List UInt8), textN n out l = .ok t r → ∀ m, n ≤ m → textN m out (spr 1 l) = .ok t (spr 0 r)
  | 0, _, _, _, _, h, _, _ => by cases h
  | n + 1, out, [], t, r, h, _, _ => by cases h
  | n + 1, out, c :: l, t, r, h, 0, hm => absurd hm (by omega)
  | n + 1, out, c :: l, t, r, h, m + 1, hm => by
    rw [textN_c] at h
    split at h
    · cases h
    rename_i hc
    split at h
    · rename_i e
      subst e
      injection h with e1 e2
      subst e1 e2
      rw [spr1_end]
      rw [textN_c, if_neg hc, if_pos rfl]
    rename_i h34
    split at h
    · rename_i e
      subst e
      obtain ⟨x, l1, h1, h2⟩ := Out.of_andThen h
      rw [spr1_back]
      rw [textN_c, if_neg hc, if_neg h34, if_pos rfl, escaped_spr h1, Out.andThen_ok]
      exact textN_spr n _ _ _ _ h2 m (by omega)
    rename_i h92
    split at h
    · cases h
    split at h
    · cases h
    rename_i h0
    obtain ⟨e1, e2, e3, e4⟩ := seq_spr h0
    rw [spr1_else h92 h34]
    rw [textN_c, if_neg hc, if_neg h34, if_neg h92, e4, if_neg (by decide), e1, if_neg h0, e2, e3]
    exact textN_spr n _ _ _ _ h m (by omega)
theorem text_spr {l t r : List UInt8} (h : text l = .ok t r) : text (spr 1 l) = .ok t (spr 0 r) :=
  textN_spr _ _ _ _ _ h _ (by have := (spr_len l 1).1; omega)
/-! Values -/
theorem musts_spr : ∀ (w l : List UInt8) (r : List UInt8), (∀ c ∈ w, Plain c) → musts w l = .ok () r → musts w (spr 0 l) = .ok () (spr 0 r)
  | [], l, r, _, h => by rw [musts_n] at h ⊢; injection h with _ h; rw [h]
  | _ :: _, [], r, _, h => by cases h
  | c :: w, d :: l, r, hp, h => by
    rw [musts_c] at h
    split at h
    · rename_i e
      subst e
      have hc := hp d (by simp)
      rw [spr0_else hc.1 hc.2]
      rw [musts_c, if_pos rfl]
      exact musts_spr w l r (fun x hx => hp x (by simp [hx])) h
    · cases h
theorem word_spr {w l r : List UInt8} {v x : JV} (hw : ∀ c ∈ w, Plain c) (h : ((musts w l).andThen fun _ r => Out.ok v r) = .ok x r) : ((musts w (spr 0 l)).andThen fun _ r => Out.ok v r) = .ok x (spr 0 r) := by
  obtain ⟨_, m, h1, h2⟩ := Out.of_andThen h
  rw [musts_spr _ _ _ hw h1]
  injection h2 with e1 e2
  subst e1 e2
  rfl
theorem scalar_spr {l r : List UInt8} {v : JV} (h : scalar l = .ok v r) : scalar (blanks (spr 0 l)) = .ok v (spr 0 r) := by
  cases l with
  | nil => cases h
  | cons c l =>
    rw [scalar_c] at h
    split at h
    · rename_i e
      subst e
      obtain ⟨t, m, h1, h2⟩ := Out.of_andThen h
      injection h2 with e1 e2
      subst e1 e2
      rw [spr0_quote, stay (by decide)]
      rw [scalar_c, if_pos rfl, text_spr h1]
      rfl
    rename_i h34
    have key : Plain c → isBlank c = false → blanks (spr 0 (c :: l)) = c :: spr 0 l := fun hp hb => by rw [spr0_else hp.1 hp.2, stay hb]
    split at h
    · rename_i hn
      have hp : Plain c := by
        rcases hn with rfl | hd
        · exact ⟨by decide, by decide⟩
        · exact digit_plain hd
      have hb : isBlank c = false := by
        rcases hn with rfl | hd
        · decide
        · cases hb : isBlank c with
          | false => rfl
          | true =>
            simp only [isBlank, Bool.or_eq_true, beq_iff_eq] at hb
            rcases hb with ((rfl | rfl) | rfl) | rfl <;> exact absurd hd (by decide)
      have := number_spr h
      rw [spr0_else hp.1 hp.2] at this
      rw [key hp hb]
      rw [scalar_c, if_neg h34, if_pos hn]
      exact this
    rename_i hn
    split at h
    · rename_i e
      subst e
      have := word_spr (by decide) h
      rw [spr0_else (by decide) (by decide)] at this
      rw [key ⟨by decide, by decide⟩ (by decide)]
      rw [scalar_c, if_neg (by decide), if_neg hn, if_pos rfl]
      exact this
    rename_i h1
    split at h
    · rename_i e
      subst e
      have := word_spr (by decide) h
      rw [spr0_else (by decide) (by decide)] at this
      rw [key ⟨by decide, by decide⟩ (by decide)]
      rw [scalar_c, if_neg (by decide), if_neg hn, if_neg (by decide), if_pos rfl]
      exact this
    rename_i h2
    split at h
    · rename_i e
      subst e
      have := word_spr (by decide) h
      rw [spr0_else (by decide) (by decide)] at this
      rw [key ⟨by decide, by decide⟩ (by decide)]
      rw [scalar_c, if_neg (by decide), if_neg hn, if_neg (by decide), if_neg (by decide), if_pos rfl]
      exact this
    · cases h
theorem end_spr {c : UInt8} (hc : isMark c = true) (hb : isBlank c = false) (l : List UInt8) : (∃ r, blanks l = c :: r ∧ mayBe (· == c) (blanks l) = (true, r) ∧ mayBe (· == c) (blanks (spr 0 l)) = (true, 10 :: 13 :: spr 0 r)) ∨ ((mayBe (· == c) (blanks l)).1 = false ∧ (mayBe (· == c) (blanks (spr 0 l))).1 = false) := by
  cases hx : blanks l with
  | nil => right; rw [head_nil hx]; exact ⟨rfl, rfl⟩
  | cons d r =>
    by_cases h : d = c
    · left
      subst h
      rw [head_mark hc hx]
      exact ⟨r, rfl, by simp [mayBe], by simp [mayBe]⟩
    · right
      have hs := head_same l
      rw [hx] at hs
      refine ⟨by simp [mayBe, h], ?_⟩
      cases hy : blanks (spr 0 l) with
      | nil => rfl
      | cons e q =>
        rw [hy] at hs
        simp only [List.head?_cons, Option.some.injEq] at hs
        subst hs
        simp [mayBe, h]
section
variable {val : List UInt8 → Out JV} (hval : ∀ l v r, val l = .ok v r → ∃ r', val (blanks (spr 0 l)) = .ok v r' ∧ blanks r' = blanks (spr 0 r))
include hval
theorem elemsN_spr : ∀ (n : Nat) (acc : List JV) (l : List UInt8) (vs : List JV) (r : List UInt8), elemsN val n acc l = .ok vs r → ∀ l' m, blanks l' = blanks (spr 0 l) → n ≤ m → ∃ r', elemsN val m acc l' = .ok vs r' ∧ blanks r' = blanks (spr 0 r)
  | 0, _, _, _, _, h, _, _, _, _ => by cases h
  | n + 1, acc, l, vs, r, h, l', 0, hl, hm => absurd hm (by omega)
  | n + 1, acc, l, vs, r, h, l', m + 1, hl, hm => by
    unfold elemsN at h
    split at h
    · cases h
    rename_i hc
    obtain ⟨v, l1, h1, h2⟩ := Out.of_andThen h
    obtain ⟨r1, k1, k2⟩ := hval _ _ _ h1
    rw [blanks_spread] at k1
    have hb : begins (blanks l') = begins (blanks l) := by rw [hl]; exact begins_head _ _ (head_same l)
    unfold elemsN
    rw [hb, if_neg hc, hl, k1, Out.andThen_ok]
    cases hx : blanks l1 with
    | nil => rw [hx] at h2; cases h2
    | cons c q =>
      rw [hx] at h2
      simp only at h2
      split at h2
      · rename_i e
        subst e
        injection h2 with e1 e2
        subst e1 e2
        rw [k2, head_mark (by decide) hx]
        exact ⟨_, rfl, after_mark _⟩
      · split at h2
        · rename_i e1 e
          subst e
          rw [k2, head_mark (by decide) hx]
          exact elemsN_spr n _ _ _ _ h2 _ m (after_mark _) (by omega)
        · cases h2
theorem membersN_spr : ∀ (n : Nat) (acc : List JV) (names : List ByteArray) (l : List UInt8) (vs : List JV × List ByteArray) (r : List UInt8), membersN val n acc names l = .ok vs r → ∀ l' m, blanks l' = blanks (spr 0 l) → n ≤ m → ∃ r', membersN val m acc names l' = .ok vs r' ∧ blanks r' = blanks (spr 0 r)
  | 0, _, _, _, _, _, h, _, _, _, _ => by cases h
  | n + 1, acc, names, l, vs, r, h, l', 0, hl, hm => absurd hm (by omega)
  | n + 1, acc, names, l, vs, r, h, l', m + 1, hl, hm => by
    unfold membersN at h
    cases hb : blanks l with
    | nil => rw [hb] at h; cases h
    | cons c l1 =>
      rw [hb] at h
      simp only at h
      split at h
      · cases h
      rename_i hc
      have hc : c = 34 := Decidable.byContradiction hc
      subst hc
      split at h
      · cases h
      rename_i h1000
      obtain ⟨name, l2, h1, h⟩ := Out.of_andThen h
      split at h
      · cases h
      rename_i hin
      obtain ⟨_, l3, h2, h⟩ := Out.of_andThen h
      obtain ⟨v, l4, h3, h4⟩ := Out.of_andThen h
      have h58 : blanks l2 = 58 :: l3 := by
        cases hx : blanks l2 with
        | nil => rw [hx] at h2; cases h2
        | cons d q =>
          rw [hx] at h2
          rw [musts_c] at h2
          split at h2
          · rename_i e
            rw [musts_n] at h2
            injection h2 with _ e2
            rw [e, e2]
          · cases h2
      obtain ⟨r1, k1, k2⟩ := hval _ _ _ h3
      rw [blanks_spread] at k1
      unfold membersN
      rw [hl, head_quote hb]
      simp only
      rw [if_neg (by decide), if_neg h1000, text_spr h1, Out.andThen_ok, if_neg hin, head_mark (by decide) h58]
      simp only [musts, if_true, Out.andThen_ok]
      rw [after_mark, k1, Out.andThen_ok]
      cases hx : blanks l4 with
      | nil => rw [hx] at h4; cases h4
      | cons c q =>
        rw [hx] at h4
        simp only at h4
        split at h4
        · rename_i e
          subst e
          injection h4 with e1 e2
          subst e1 e2
          rw [k2, head_mark (by decide) hx]
          exact ⟨_, rfl, after_mark _⟩
        · split at h4
          · rename_i e1 e
            subst e
            rw [k2, head_mark (by decide) hx]
            exact membersN_spr n _ _ _ _ _ h4 _ m (after_mark _) (by omega)
          · cases h4
theorem array_spr {l l' r : List UInt8} {v : JV} (h : array val l = .ok v r) (hl : blanks l' = blanks (spr 0 l)) (hlen : l.length ≤ l'.length) : ∃ r', array val l' = .ok v r' ∧ blanks r' = blanks (spr 0 r) := by
  unfold array at h ⊢
  rw [hl]
  rcases end_spr (c := 93) (by decide) (by decide) l with ⟨q, -, h1, h2⟩ | ⟨h1, h2⟩
  · rw [h1] at h
    rw [h2]
    simp only [if_true] at h ⊢
    injection h with e1 e2
    subst e1 e2
    exact ⟨_, rfl, after_mark _⟩
  · rw [h1] at h
    rw [h2]
    rw [if_neg (by decide)] at h ⊢
    obtain ⟨vs, m, h3, h4⟩ := Out.of_andThen h
    injection h4 with e1 e2
    subst e1 e2
    obtain ⟨r', k1, k2⟩ := elemsN_spr hval _ _ _ _ _ h3 (blanks (spr 0 l)) (l'.length + 1) (by rw [blanks_blanks, blanks_spread]) (by omega)
    exact ⟨r', by rw [k1]; rfl, k2⟩
theorem object_spr {l l' r : List UInt8} {v : JV} (h : object val l = .ok v r) (hl : blanks l' = blanks (spr 0 l)) (hlen : l.length ≤ l'.length) : ∃ r', object val l' = .ok v r' ∧ blanks r' = blanks (spr 0 r) := by
  unfold object at h ⊢
  rw [hl]
  rcases end_spr (c := 125) (by decide) (by decide) l with ⟨q, -, h1, h2⟩ | ⟨h1, h2⟩
  · rw [h1] at h
    rw [h2]
    simp only [if_true] at h ⊢
    injection h with e1 e2
    subst e1 e2
    exact ⟨_, rfl, after_mark _⟩
  · rw [h1] at h
    rw [h2]
    rw [if_neg (by decide)] at h ⊢
    obtain ⟨vs, m, h3, h4⟩ := Out.of_andThen h
    injection h4 with e1 e2
    subst e1 e2
    obtain ⟨r', k1, k2⟩ := membersN_spr hval _ _ _ _ _ _ h3 (blanks (spr 0 l)) (l'.length + 1) (by rw [blanks_blanks, blanks_spread]) (by omega)
    exact ⟨r', by rw [k1]; rfl, k2⟩
end
theorem scalar_head {c : UInt8} {l r : List UInt8} {v : JV} (h : scalar (c :: l) = .ok v r) : isMark c = false := by
  cases hm : isMark c with
  | false => rfl
  | true =>
    simp only [isMark, Bool.or_eq_true, beq_iff_eq] at hm
    rcases hm with ((((rfl | rfl) | rfl) | rfl) | rfl) | rfl <;> cases h
theorem value_spr : ∀ (D : Nat) (l : List UInt8) (v : JV) (r : List UInt8), value D l = .ok v r → ∃ r', value D (blanks (spr 0 l)) = .ok v r' ∧ blanks r' = blanks (spr 0 r) := by
  have key : ∀ (D : Nat) (l : List UInt8) (v : JV) (r : List UInt8), scalar l = .ok v r → (∀ c m, c ≠ 123 ∧ c ≠ 91 → value D (c :: m) = scalar (c :: m)) → ∃ r', value D (blanks (spr 0 l)) = .ok v r' ∧ blanks r' = blanks (spr 0 r) := by
    intro D l v r h hD
    have h1 := scalar_spr h
    cases hx : blanks (spr 0 l) with
    | nil => rw [hx] at h1; cases h1
    | cons c m =>
      rw [hx] at h1
      have hm := scalar_head h1
      refine ⟨_, (hD c m ⟨?_, ?_⟩).trans h1, rfl⟩
      · rintro rfl; exact absurd hm (by decide)
      · rintro rfl; exact absurd hm (by decide)
  intro D
  induction D with
  | zero =>
    intro l v r h
    cases l with
    | nil => cases h
    | cons c l =>
      rw [value_0] at h
      split at h
      · cases h
      · refine key 0 _ v r h fun c m hc => ?_
        have := hc
        rw [value_0, if_neg (fun h => h.elim this.1 this.2)]
  | succ D ih =>
    intro l v r h
    cases l with
    | nil => cases h
    | cons c l =>
      rw [value_s] at h
      split at h
      · rename_i e
        subst e
        rw [spr0_mark (by decide), skip (by decide), skip (by decide), stay (by decide)]
        obtain ⟨r', k1, k2⟩ := object_spr ih h (l' := 10 :: 13 :: spr 0 l) (after_mark _) (by have := (spr_len l 0).1; simp only [List.length_cons]; omega)
        refine ⟨r', ?_, k2⟩
        rw [value_s, if_pos rfl]
        exact k1
      split at h
      · rename_i e
        subst e
        rw [spr0_mark (by decide), skip (by decide), skip (by decide), stay (by decide)]
        obtain ⟨r', k1, k2⟩ := array_spr ih h (l' := 10 :: 13 :: spr 0 l) (after_mark _) (by have := (spr_len l 0).1; simp only [List.length_cons]; omega)
        refine ⟨r', ?_, k2⟩
        rw [value_s, if_neg (by decide), if_pos rfl]
        exact k1
      · refine key (D + 1) _ v r h fun c m hc => ?_
        have := hc
        rw [value_s, if_neg this.1, if_neg this.2]
/-! No reading is given up without an error -/
def Out.Nz {α : Type} (o : Out α) : Prop := ∀ p e, o = .bad p e → e ≠ 0
theorem Out.Nz.ok {α : Type} {x : α} {r : List UInt8} : (Out.ok x r).Nz := by intro p e h; cases h
theorem Out.Nz.bad {α : Type} {p e : Nat} (h : e ≠ 0) : (Out.bad p e : Out α).Nz := by intro p' e' h'; injection h' with _ h'; rw [← h']; exact h
theorem Out.Nz.bind {α β : Type} {o : Out α} {f : α → List UInt8 → Out β} (h : o.Nz) (hf : ∀ x r, o = .ok x r → (f x r).Nz) : (o.andThen f).Nz := by
  cases o with
  | ok x r => exact hf x r rfl
  | bad p e => exact .bad (h p e rfl)
theorem fourN_nz (pl : Nat) : ∀ n x l, (fourN pl n x l).Nz
  | 0, x, l => .ok
  | n + 1, x, [] => .bad (by decide)
  | n + 1, x, c :: l => by
    rw [fourN_c]
    split
    · exact .bad (by decide)
    · exact fourN_nz pl n _ l
theorem mustIs_nz (c : UInt8) (pl : Nat) : ∀ l, (mustIs c pl l).Nz
  | [] => .bad (by decide)
  | d :: l => by
    rw [mustIs_c]
    split
    · exact .ok
    · exact .bad (by decide)
theorem second_nz (pl x : Nat) (l : List UInt8) : (second pl x l).Nz := by
  unfold second
  refine (mustIs_nz _ _ _).bind fun _ _ _ => (mustIs_nz _ _ _).bind fun _ _ _ => (fourN_nz _ _ _ _).bind fun _ _ _ => ?_
  split
  · exact .bad (by decide)
  · exact .ok
theorem escaped_nz (pl : Nat) : ∀ l, (escaped pl l).Nz
  | [] => .bad (by decide)
  | c :: l => by
    rw [escaped_c]
    split
    · exact .ok
    split
    · refine (fourN_nz _ _ _ _).bind fun _ _ _ => ?_
      split
      · exact .ok
      split
      · exact .bad (by decide)
      · exact second_nz _ _ _
    · exact .bad (by decide)
theorem textN_nz : ∀ (n : Nat) (out l : List UInt8), l.length < n → (textN n out l).Nz
  | 0, _, _, h => absurd h (by omega)
  | n + 1, out, [], _ => .bad (by decide)
  | n + 1, out, c :: l, h => by
    simp only [List.length_cons] at h
    rw [textN_c]
    split
    · exact .bad (by decide)
    split
    · exact .ok
    split
    · refine (escaped_nz _ _).bind fun x r hr => ?_
      have := (escaped_fits _ _ x r hr).2
      exact textN_nz n _ _ (by omega)
    split
    · exact .bad (by decide)
    split
    · exact .bad (by decide)
    · rename_i h0
      refine textN_nz n _ _ ?_
      rw [List.length_drop]
      simp only [List.length_cons]
      omega
theorem text_nz (l : List UInt8) : (text l).Nz := textN_nz _ _ _ (by omega)
theorem some1_nz : ∀ l, (some1 l).Nz
  | [] => .bad (by decide)
  | c :: l => by
    rw [some1_c]
    split
    · exact .ok
    · exact .bad (by decide)
theorem number_nz (l : List UInt8) : (number l).Nz := by
  unfold number numRest
  refine Out.Nz.bind (Out.Nz.bind ?_ fun _ m _ => Out.Nz.bind ?_ fun _ m2 _ => ?_) fun _ _ _ => ?_
  · unfold numWhole; split
    · exact .ok
    · exact some1_nz _
  · unfold numFrac; split
    · exact some1_nz _
    · exact .ok
  · unfold numExp; split
    · exact some1_nz _
    · exact .ok
  · split
    · exact .bad (by decide)
    · exact .ok
theorem musts_nz : ∀ w l, (musts w l).Nz
  | [], _ => .ok
  | _ :: _, [] => .bad (by decide)
  | c :: w, d :: l => by
    rw [musts_c]
    split
    · exact musts_nz w l
    · exact .bad (by decide)
theorem scalar_nz : ∀ l, (scalar l).Nz
  | [] => .bad (by decide)
  | c :: l => by
    rw [scalar_c]
    split
    · exact (text_nz _).bind fun _ _ _ => .ok
    split
    · exact number_nz _
    split
    · exact (musts_nz _ _).bind fun _ _ _ => .ok
    split
    · exact (musts_nz _ _).bind fun _ _ _ => .ok
    split
    · exact (musts_nz _ _).bind fun _ _ _ => .ok
    · exact .bad (by decide)
section
variable {val : List UInt8 → Out JV} (hval : ∀ l, (val l).Nz) (hfit : ∀ l, (val l).Fits 1 l)
include hval hfit
theorem elemsN_nz : ∀ (n : Nat) (acc : List JV) (l : List UInt8), l.length < n → (elemsN val n acc l).Nz
  | 0, _, _, h => absurd h (by omega)
  | n + 1, acc, l, h => by
    unfold elemsN
    split
    · exact .bad (by decide)
    refine (hval _).bind fun v l1 h1 => ?_
    have h2 := (hfit _ v l1 h1).2
    have h3 := suf_len (blanks_suf l)
    have h4 := suf_len (blanks_suf l1)
    split
    · exact .bad (by decide)
    · rename_i c r hr
      rw [hr] at h4
      simp only [List.length_cons] at h4
      split
      · exact .ok
      split
      · exact elemsN_nz n _ _ (by omega)
      · exact .bad (by decide)
theorem membersN_nz : ∀ (n : Nat) (acc : List JV) (names : List ByteArray) (l : List UInt8), l.length < n → (membersN val n acc names l).Nz
  | 0, _, _, _, h => absurd h (by omega)
  | n + 1, acc, names, l, h => by
    unfold membersN
    split
    · exact .bad (by decide)
    rename_i c l1 hl
    have h0 := suf_len (blanks_suf l)
    rw [hl] at h0
    simp only [List.length_cons] at h0
    split
    · exact .bad (by decide)
    split
    · exact .bad (by decide)
    refine (text_nz _).bind fun name l2 h2 => ?_
    have h2 := (text_fits _ name l2 h2).2
    split
    · exact .bad (by decide)
    refine (musts_nz _ _).bind fun _ l3 h3 => ?_
    have h3 := (musts_fits _ _ _ l3 h3).2
    have h3' := suf_len (blanks_suf l2)
    refine (hval _).bind fun v l4 h4 => ?_
    have h4 := (hfit _ v l4 h4).2
    have h4' := suf_len (blanks_suf l3)
    have h5 := suf_len (blanks_suf l4)
    split
    · exact .bad (by decide)
    · rename_i c r hr
      rw [hr] at h5
      simp only [List.length_cons] at h5
      split
      · exact .ok
      split
      · exact membersN_nz n _ _ _ (by omega)
      · exact .bad (by decide)
theorem array_nz (l : List UInt8) : (array val l).Nz := by
  unfold array
  split
  · exact .ok
  · exact (elemsN_nz hval hfit _ _ _ (by have := suf_len (blanks_suf l); omega)).bind fun _ _ _ => .ok
theorem object_nz (l : List UInt8) : (object val l).Nz := by
  unfold object
  split
  · exact .ok
  · exact (membersN_nz hval hfit _ _ _ _ (by have := suf_len (blanks_suf l); omega)).bind fun _ _ _ => .ok
end
theorem value_nz : ∀ (D : Nat) (l : List UInt8), (value D l).Nz
  | 0, [] => scalar_nz []
  | 0, c :: l => by
    rw [value_0]
    split
    · exact .bad (by decide)
    · exact scalar_nz _
  | D + 1, [] => scalar_nz []
  | D + 1, c :: l => by
    rw [value_s]
    split
    · exact object_nz (value_nz D) (value_fits D) l
    split
    · exact array_nz (value_nz D) (value_fits D) l
    · exact scalar_nz _
theorem parseOut_nz (b : List UInt8) : (parseOut b).Nz := by
  unfold parseOut
  refine (value_nz _ _).bind fun _ _ _ => ?_
  split
  · exact .ok
  · exact .bad (by decide)
theorem parse_spr {b : List UInt8} (hb : b.length ≤ 4000) (h : (parse b).2.2 = 0) : parse (spr 0 b) = parse b := by
  have hl := (spr_len b 0).2
  unfold parse at h ⊢
  rw [if_neg (by omega)] at h ⊢
  rw [if_neg (by omega)]
  cases ho : parseOut b with
  | ok v r =>
    have ho' := ho
    unfold parseOut at ho'
    obtain ⟨x, l, h1, h2⟩ := Out.of_andThen ho'
    split at h2
    · rename_i hn
      injection h2 with e1 e2
      subst e1 e2
      obtain ⟨r', k1, k2⟩ := value_spr 32 _ _ _ h1
      rw [blanks_spread] at k1
      have : parseOut (spr 0 b) = .ok x [] := by
        unfold parseOut
        rw [k1, Out.andThen_ok, k2, head_nil hn, if_pos rfl]
      rw [this]
    · cases h2
  | bad p e =>
    rw [ho] at h
    exact absurd h (parseOut_nz b p e ho)
end Go.Proofs.YthjcolehccbihaaGreatDoor
/- What is read is neat, however deep: an object has as many names as members. Plain; no program in it. -/
set_option linter.unusedSimpArgs false
set_option linter.unusedVariables false
namespace Go.Proofs.YthjcolehccbihaaGreatDoor

mutual
def Neat : JV → Prop
  | .mk k _ l ns => (k = 6 → ns.length = l.length) ∧ NeatAll l
def NeatAll : List JV → Prop
  | [] => True
  | v :: l => Neat v ∧ NeatAll l
end
theorem neatAll_iff : ∀ l, NeatAll l ↔ ∀ v ∈ l, Neat v
  | [] => by simp [NeatAll]
  | v :: l => by simp [NeatAll, neatAll_iff l]
theorem neat_flat (k : Int) (t : ByteArray) : Neat (.mk k t [] []) := by simp [Neat, NeatAll]
section
variable {val : List UInt8 → Out JV} (hval : ∀ l v r, val l = .ok v r → Neat v)
include hval
theorem elemsN_neat : ∀ (n : Nat) (acc : List JV) (l : List UInt8) (vs : List JV) (r : List UInt8), elemsN val n acc l = .ok vs r → (∀ v ∈ acc, Neat v) → ∀ v ∈ vs, Neat v
  | 0, _, _, _, _, h, _ => by cases h
  | n + 1, acc, l, vs, r, h, ha => by
    unfold elemsN at h
    split at h
    · cases h
    obtain ⟨v, l1, h1, h2⟩ := Out.of_andThen h
    have hv := hval _ _ _ h1
    have hacc : ∀ x ∈ acc ++ [v], Neat x := fun x hx => by
      rcases List.mem_append.1 hx with hx | hx
      · exact ha x hx
      · rw [List.mem_singleton.1 hx]; exact hv
    split at h2
    · cases h2
    split at h2
    · injection h2 with e1 _
      rw [← e1]; exact hacc
    split at h2
    · exact elemsN_neat n _ _ _ _ h2 hacc
    · cases h2
theorem membersN_neat : ∀ (n : Nat) (acc : List JV) (names : List ByteArray) (l : List UInt8) (vs : List JV × List ByteArray) (r : List UInt8), membersN val n acc names l = .ok vs r → (∀ v ∈ acc, Neat v) → names.length = acc.length → (∀ v ∈ vs.1, Neat v) ∧ vs.2.length = vs.1.length
  | 0, _, _, _, _, _, h, _, _ => by cases h
  | n + 1, acc, names, l, vs, r, h, ha, hn => by
    unfold membersN at h
    split at h
    · cases h
    split at h
    · cases h
    split at h
    · cases h
    obtain ⟨name, l2, h1, h⟩ := Out.of_andThen h
    split at h
    · cases h
    obtain ⟨_, l3, h2, h⟩ := Out.of_andThen h
    obtain ⟨v, l4, h3, h4⟩ := Out.of_andThen h
    have hv := hval _ _ _ h3
    have hacc : ∀ x ∈ acc ++ [v], Neat x := fun x hx => by
      rcases List.mem_append.1 hx with hx | hx
      · exact ha x hx
      · rw [List.mem_singleton.1 hx]; exact hv
    have hlen : (names ++ [str name]).length = (acc ++ [v]).length := by simp [hn]
    split at h4
    · cases h4
    split at h4
    · injection h4 with e1 _
      rw [← e1]; exact ⟨hacc, hlen⟩
    split at h4
    · exact membersN_neat n _ _ _ _ _ h4 hacc hlen
    · cases h4
theorem array_neat {l r : List UInt8} {v : JV} (h : array val l = .ok v r) : Neat v := by
  unfold array at h
  split at h
  · injection h with e _
    rw [← e]; exact neat_flat _ _
  · obtain ⟨vs, l1, h1, h2⟩ := Out.of_andThen h
    injection h2 with e _
    rw [← e]
    simp only [Neat, neatAll_iff]
    exact ⟨fun h => by simp at h, elemsN_neat hval _ _ _ _ _ h1 (by simp)⟩
theorem object_neat {l r : List UInt8} {v : JV} (h : object val l = .ok v r) : Neat v := by
  unfold object at h
  split at h
  · injection h with e _
    rw [← e]; exact neat_flat _ _
  · obtain ⟨vs, l1, h1, h2⟩ := Out.of_andThen h
    injection h2 with e _
    rw [← e]
    have := membersN_neat hval _ _ _ _ _ _ h1 (by simp) rfl
    simp only [Neat, neatAll_iff]
    exact ⟨fun _ => this.2, this.1⟩
end
theorem scalar_neat {l r : List UInt8} {v : JV} (h : scalar l = .ok v r) : Neat v := by
  cases l with
  | nil => cases h
  | cons c l =>
    have key : ∀ {w l : List UInt8} {k : Int} {v : JV} {r : List UInt8}, ((musts w l).andThen fun _ r => Out.ok (.mk k ByteArray.empty [] []) r) = .ok v r → Neat v := fun h => by
      obtain ⟨_, _, _, h2⟩ := Out.of_andThen h
      injection h2 with e _
      rw [← e]; exact neat_flat _ _
    rw [scalar_c] at h
    split at h
    · obtain ⟨_, _, _, h2⟩ := Out.of_andThen h
      injection h2 with e _
      rw [← e]; exact neat_flat _ _
    split at h
    · unfold number at h
      obtain ⟨_, _, _, h2⟩ := Out.of_andThen h
      split at h2
      · cases h2
      · injection h2 with e _
        rw [← e]; exact neat_flat _ _
    split at h
    · exact key h
    split at h
    · exact key h
    split at h
    · exact key h
    · cases h
theorem value_neat : ∀ (D : Nat) (l : List UInt8) (v : JV) (r : List UInt8), value D l = .ok v r → Neat v
  | 0, [], v, r, h => scalar_neat (l := []) h
  | 0, c :: l, v, r, h => by
    rw [value_0] at h
    split at h
    · cases h
    · exact scalar_neat h
  | D + 1, [], v, r, h => scalar_neat (l := []) h
  | D + 1, c :: l, v, r, h => by
    rw [value_s] at h
    split at h
    · exact object_neat (value_neat D) h
    split at h
    · exact array_neat (value_neat D) h
    · exact scalar_neat h
theorem parse_neat (b : List UInt8) : Neat (parse b).1 := by
  have hz : Neat JV.zero := neat_flat _ _
  unfold parse
  split
  · exact hz
  cases ho : parseOut b with
  | bad p e => exact hz
  | ok v r =>
    unfold parseOut at ho
    obtain ⟨x, l, h1, h2⟩ := Out.of_andThen ho
    split at h2
    · injection h2 with e _
      rw [← e]; exact value_neat _ _ _ _ h1
    · cases h2
end Go.Proofs.YthjcolehccbihaaGreatDoor
/- A value whose objects' members stand the other way round: it is laid as the same text, and is alike. Plain; no program in it but for what Fit says. -/
set_option linter.unusedSimpArgs false
set_option linter.unusedVariables false
namespace Go.Proofs.YthjcolehccbihaaGreatDoor

mutual
/-- exlaw7.turned. -/
def turnJ : JV → JV
  | .mk k t l ns => if k = 6 then .mk 6 t (turnAll l).reverse ns.reverse else .mk k t (turnAll l) []
def turnAll : List JV → List JV
  | [] => []
  | v :: l => turnJ v :: turnAll l
end
theorem turnAll_map : ∀ l, turnAll l = l.map turnJ
  | [] => rfl
  | v :: l => by simp only [turnAll, List.map_cons, turnAll_map l]
theorem turn_obj (t : ByteArray) (l : List JV) (ns : List ByteArray) : turnJ (.mk 6 t l ns) = .mk 6 t (l.map turnJ).reverse ns.reverse := by
  simp only [turnJ, turnAll_map]
  rw [if_pos trivial]
theorem turn_else {k : Int} (h : k ≠ 6) (t : ByteArray) (l : List JV) (ns : List ByteArray) : turnJ (.mk k t l ns) = .mk k t (l.map turnJ) [] := by
  simp only [turnJ, turnAll_map]
  rw [if_neg h]
theorem zip_rev {α β : Type} (a : List α) (b : List β) (h : a.length = b.length) : a.reverse.zip b.reverse = (a.zip b).reverse := by
  induction a generalizing b with
  | nil => simp
  | cons x a ih =>
    cases b with
    | nil => simp at h
    | cons y b =>
      simp only [List.length_cons] at h
      rw [List.reverse_cons, List.reverse_cons, List.zip_append (by simp; omega), ih b (by omega)]
      simp
theorem turn_zip (ns : List ByteArray) (l : List JV) (h : ns.length = l.length) : (ns.reverse.zip (l.map turnJ).reverse).Perm ((ns.zip l).map fun x => (x.1, turnJ x.2)) := by
  rw [zip_rev _ _ (by simpa using h), zip_map_snd]
  exact List.reverse_perm _
theorem turn_chk : ∀ (v : JV) (d : Nat), chk d v = 0 → chk d (turnJ v) = 0 := JV.ind (P := fun v => ∀ d, chk d v = 0 → chk d (turnJ v) = 0) fun k t l ns ih d h => by
  obtain ⟨o, hl⟩ := chk_zero.1 h
  have hch : 5 ≤ k → ∀ v ∈ l.map turnJ, chk (d + 1) v = 0 := fun h5 v hv => by
    obtain ⟨x, hx, rfl⟩ := List.mem_map.1 hv
    exact ih x hx (d + 1) (hl h5 x hx)
  by_cases h6 : k = 6
  · subst h6
    rw [turn_obj]
    obtain ⟨n1, n2, n3⟩ := o.names rfl
    refine chk_zero.2 ⟨?_, fun h5 v hv => hch h5 v (List.mem_reverse.1 hv)⟩
    exact ⟨o.k0, o.k6, o.num, o.txt, o.deep, by simpa using o.many, fun _ => ⟨fun s hs => n1 s (List.mem_reverse.1 hs), by simp [n2], by
      rw [distinct_nodup, List.map_reverse]
      exact (List.reverse_perm _).nodup_iff.2 ((distinct_nodup _).1 n3)⟩⟩
  · rw [turn_else h6]
    exact chk_zero.2 ⟨⟨o.k0, o.k6, o.num, o.txt, o.deep, by simpa using o.many, fun h => absurd h h6⟩, hch⟩
theorem turn_lay : ∀ (v : JV) (d : Nat), chk d v = 0 → lay (turnJ v) = lay v := JV.ind (P := fun v => ∀ d, chk d v = 0 → lay (turnJ v) = lay v) fun k t l ns ih d h => by
  obtain ⟨o, hl⟩ := chk_zero.1 h
  have a := o.k0
  have b := o.k6
  by_cases h6 : k = 6
  · subst h6
    rw [turn_obj]
    obtain ⟨n1, n2, n3⟩ := o.names rfl
    rw [lay_object, lay_object]
    have hd : (ns.map raw).Nodup := (distinct_nodup _).1 n3
    have r1 : Rises (pairsOf ns.reverse (l.map turnJ).reverse) := pairs_rises (by simp [n2]) (by rw [distinct_nodup, List.map_reverse]; exact (List.reverse_perm _).nodup_iff.2 hd)
    have r2 : Rises ((pairsOf ns l).map fun p => (p.1, turnJ p.2)) := List.pairwise_map.2 (pairs_rises n2 n3)
    have hp : (pairsOf ns.reverse (l.map turnJ).reverse).Perm ((pairsOf ns l).map fun p => (p.1, turnJ p.2)) := by
      refine (sortP_perm _).trans ?_
      rw [List.map_reverse, zip_rev _ _ (by simpa using n2), zip_map_snd]
      exact (List.reverse_perm _).trans ((sortP_perm _).symm.map _)
    rw [rises_unique _ _ r1 r2 hp, List.map_map]
    congr 3
    refine List.map_congr_left fun p hp => ?_
    have := (mem_pairs hp).2
    show layPair (p.1, lay (turnJ p.2)) = layPair (p.1, lay p.2)
    rw [ih p.2 this (d + 1) (hl (by decide) _ this)]
  · rw [turn_else h6]
    by_cases h2 : k ≤ 2
    · rw [(lay_word k a h2 _ _ _).1, (lay_word k a h2 t l ns).1]
    by_cases h3 : k = 3
    · subst h3; rw [lay_number, lay_number]
    by_cases h4 : k = 4
    · subst h4; rw [lay_text, lay_text]
    · obtain rfl : k = 5 := by omega
      rw [lay_array, lay_array, List.map_map]
      congr 3
      exact List.map_congr_left fun v hv => ih v hv (d + 1) (hl (by decide) v hv)
theorem turn_same : ∀ (v : JV) (d : Nat), chk d v = 0 → sameJ v (turnJ v) = true := JV.ind (P := fun v => ∀ d, chk d v = 0 → sameJ v (turnJ v) = true) fun k t l ns ih d h => by
  obtain ⟨o, hl⟩ := chk_zero.1 h
  have a := o.k0
  have b := o.k6
  by_cases h6 : k = 6
  · subst h6
    rw [turn_obj]
    obtain ⟨n1, n2, n3⟩ := o.names rfl
    have hnd : ((ns.zip l).map (·.1)).Nodup := by
      rw [zip_fst _ _ n2]
      exact (List.pairwise_map.1 ((distinct_nodup _).1 n3)).imp fun h e => h (congrArg _ e)
    have hnd2 : (((ns.zip l).map fun x => (x.1, turnJ x.2)).map (·.1)).Nodup := by
      rw [List.map_map]
      exact hnd
    have hg : ∀ k, grp (ns.reverse.zip (l.map turnJ).reverse) k = (grp (ns.zip l) k).map turnJ := fun k => by
      rw [← grp_perm (turn_zip ns l n2).symm hnd2 k, grp_map]
    have hin : ∀ k, ∀ x ∈ grp (ns.zip l) k, x ∈ l := fun k x hx => (List.of_mem_zip (grp_mem hx)).2
    rw [sameJ_mk, if_neg (by simp [JV.kind]), if_neg (by decide), if_neg (by decide), if_pos rfl]
    simp only [JV.list, JV.names, List.length_map, List.length_reverse, n2, decide_true, Bool.true_and]
    rw [sameObj_iff]
    intro k _
    rw [hg]
    have := eqL_map (fun x => x) turnJ (grp (ns.zip l) k) fun x hx => ih x (hin k x hx) (d + 1) (hl (by decide) _ (hin k x hx))
    simpa using this
  · rw [turn_else h6, sameJ_mk, if_neg (by simp [JV.kind])]
    split
    · simp [JV.text]
    split
    · rename_i h5
      have := eqL_map (fun x => x) turnJ l fun x hx => ih x hx (d + 1) (hl (by omega) x hx)
      simpa [JV.list] using this
    · rfl
theorem turn_fit : ∀ v : JV, v.Fit → (turnJ v).Fit := JV.ind (P := fun v => v.Fit → (turnJ v).Fit) fun k t l ns ih h => by
  simp only [JV.Fit] at h
  obtain ⟨h1, h2, h3, h4, h5⟩ := h
  have hm : ∀ v ∈ l.map turnJ, v.Fit := fun v hv => by
    obtain ⟨x, hx, rfl⟩ := List.mem_map.1 hv
    exact ih x hx (FitAll.mem h5 x hx)
  by_cases h6 : k = 6
  · subst h6
    rw [turn_obj]
    simp only [JV.Fit]
    exact ⟨h1, by simpa using h2, fun s hs => h3 s (List.mem_reverse.1 hs), by simpa using h4, fitAll_of _ fun v hv => hm v (List.mem_reverse.1 hv)⟩
  · rw [turn_else h6]
    simp only [JV.Fit]
    exact ⟨h1, by simp, fun s hs => by simp at hs, by simpa using h4, fitAll_of _ hm⟩
end Go.Proofs.YthjcolehccbihaaGreatDoor
/- A value under way whose members stand the other way round: what stands in memory. -/
set_option linter.unusedSimpArgs false
set_option linter.unusedVariables false
namespace Go.Proofs.YthjcolehccbihaaGreatDoor
open Go.RowKit Go.Shelf

theorem types_apart {W : World} {g b : Nat} {cs ds : Array Value} {T U : TypeId} (h1 : IsBlk W g cs T) (h2 : IsBlk W b ds U) (hT : T ≠ U) : g ≠ b := by
  rintro rfl
  have := h1.symm.trans h2
  simp only [Option.some.injEq, Obj.cells.injEq] at this
  exact hT this.2.1
/-- A value under way: its box at b3, its list and its names so far; all of it newer than w. -/
structure TurnI (w wr : World) (b3 : Nat) (k : Int) (t : ByteArray) (ns : List ByteArray) (lv nv : Value) (acc : List JV) : Prop where
  box : IsBlk wr b3 #[.int .i64 k, .string t, lv, nv] 25
  lst : ∃ rs, SlAt rawKind 25 wr lv rs ∧ JsAt wr (fun g => w.heap.size ≤ g ∧ lv.ownBlock ≠ some g ∧ nv.ownBlock ≠ some g ∧ g ≠ b3) acc rs
  nms : SlAt textKind 9 wr nv ns
  lown : ∀ g, lv.ownBlock = some g → w.heap.size ≤ g ∧ g ≠ b3
  nown : ∀ g, nv.ownBlock = some g → w.heap.size ≤ g
  below : Below w.heap.size w wr
  ge : w.heap.size ≤ b3
section
variable {w wr : World} {b3 : Nat} {k : Int} {t : ByteArray} {ns : List ByteArray} {lv nv : Value} {acc : List JV}
theorem TurnI.on {wy : World} (h : TurnI w wr b3 k t ns lv nv acc) (hb : Below wr.heap.size wr wy) : TurnI w wy b3 k t ns lv nv acc := by
  obtain ⟨rs, h1, h2⟩ := h.lst
  exact ⟨(hb.block _ (lt_of_block h.box)).trans h.box, ⟨rs, h1.below hb, h2.below hb⟩, h.nms.below hb, h.lown, h.nown, h.below.trans (hb.mono h.below.size), h.ge⟩
/-- Where the list's row lies, where the names' row lies, where the box: three places. -/
theorem TurnI.apart (h : TurnI w wr b3 k t ns lv nv acc) : (∀ g, lv.ownBlock = some g → g < wr.heap.size ∧ g ≠ b3) ∧ (∀ g, nv.ownBlock = some g → g < wr.heap.size ∧ g ≠ b3) ∧ (∀ g, lv.ownBlock = some g → nv.ownBlock = some g → False) := by
  obtain ⟨rs, h1, _⟩ := h.lst
  refine ⟨fun g hg => ?_, fun g hg => ?_, fun g hg hn => ?_⟩
  · obtain ⟨cur, hc⟩ := h1.own g hg
    exact ⟨lt_of_block hc, (h.lown g hg).2⟩
  · obtain ⟨cur, hc⟩ := h.nms.own g hg
    exact ⟨lt_of_block hc, types_apart hc h.box (by decide)⟩
  · obtain ⟨cur, hc⟩ := h.nms.own g hn
    obtain ⟨cur2, hc2⟩ := h1.own g hg
    exact types_apart hc hc2 (by decide) rfl
theorem TurnI.push (h : TurnI w wr b3 k t ns lv nv acc) {wy : World} (hy : Below wr.heap.size wr wy) {x : JV} {q : RawV} (hx : JAt wy (fun g => wr.heap.size ≤ g) x q) (hn : acc.length + 1 ≤ 1000000) (cs : Array Value) (hcs : cs = q.cells.toArray) (ty : TypeId) :
    ∃ a' c' wu, (Builtin.append_ #[22, 22] ty #[lv, .slice (some ⟨wy.heap.size, 0, none⟩) 1 1]).run Tryz.prog (wy.alloc (.cells cs 25)) = .ok (.slice a' (acc.length + 1) c') wu ∧ IsBlk wu b3 #[.int .i64 k, .string t, lv, nv] 25 ∧ Below w.heap.size w wu ∧
      TurnI w (wu.setCell ⟨b3, 2, none⟩ (.slice a' (acc.length + 1) c')) b3 k t ns (.slice a' (acc.length + 1) c') nv (acc ++ [x]) := by
  have hyy := h.on hy
  have hb3 : b3 < wr.heap.size := lt_of_block h.box
  have hsz := hy.size
  have hwz := h.below.size
  obtain ⟨ap1, ap2, ap3⟩ := h.apart
  obtain ⟨rs, h3, h4⟩ := hyy.lst
  have h4' := h4.lt
  have hal : Below wy.heap.size wy (wy.alloc (.cells cs 25)) := (Below.refl _ _).alloc (Nat.le_refl _) _
  have hz1 : (wy.alloc (.cells cs 25)).heap.size = wy.heap.size + 1 := by simp
  have ha := hyy.on hal
  have hq := rd_new (ek := rawKind) wy q cs hcs 25
  have hlen : rs.length = acc.length := h4.length
  obtain ⟨v', wu, hrun, hsl, hku, hown⟩ := append_raw (h3.below hal) hq (by rw [hlen]; simp; omega) ty
  obtain ⟨a', c', hv'⟩ := hsl.shape
  have hl1 : (rs ++ [q]).length = acc.length + 1 := by rw [List.length_append, hlen]; rfl
  rw [hl1] at hv'
  subst hv'
  have hbu := hku.obj (w := wy.alloc (.cells cs 25)) ha.box (fun e => (h.lown _ e).2 rfl)
  have hset : Keeps (Only b3) wu (wu.setCell ⟨b3, 2, none⟩ (.slice a' (acc.length + 1) c')) := keeps_set _ _ _ _
  have hvn : ∀ g, (Value.slice a' (acc.length + 1) c').ownBlock = some g → w.heap.size ≤ g ∧ g ≠ b3 := fun g hg => by
    rcases hown g hg with e | e
    · exact h.lown g e
    · rw [hz1] at e
      exact ⟨by omega, by omega⟩
  have hbw : Below w.heap.size w wu := below_keeps ha.below hku (fun i e => (h.lown i e).1) ha.below.size
  refine ⟨a', c', wu, hrun, hbu, hbw, ?_, ⟨rs ++ [q], hsl.keeps hset (fun g hg e => (hvn g hg).2 e), ?_⟩, ?_, hvn, h.nown, ?_, h.ge⟩
  · exact blk_set hbu 2 _
  · have key : ∀ g, g < wy.heap.size → lv.ownBlock ≠ some g → (Value.slice a' (acc.length + 1) c').ownBlock ≠ some g := fun g hg h1 h2 => by
      rcases hown g h2 with e | e
      · exact h1 e
      · rw [hz1] at e; omega
    have old := ((h4'.below hal).keeps hku (fun g hg e => hg.1.2.1 e)).keeps hset (fun g hg e => hg.1.2.2.2 e)
    have new := ((hx.lt.below hal).keeps hku (fun g hg e => by have := (ap1 g e).1; have := hg.1; omega)).keeps hset (fun g hg e => by have e : g = b3 := e; have := hg.1; omega)
    have old2 := old.mono (A' := fun g => w.heap.size ≤ g ∧ (Value.slice a' (acc.length + 1) c').ownBlock ≠ some g ∧ nv.ownBlock ≠ some g ∧ g ≠ b3) (fun g hg => ⟨hg.1.1, key g hg.2 hg.1.2.1, hg.1.2.2.1, hg.1.2.2.2⟩)
    have new2 := new.mono (A' := fun g => w.heap.size ≤ g ∧ (Value.slice a' (acc.length + 1) c').ownBlock ≠ some g ∧ nv.ownBlock ≠ some g ∧ g ≠ b3) (fun g hg => ⟨by have := hg.1; omega, key g hg.2 (fun e => by have := (ap1 g e).1; have := hg.1; omega), fun e => by have := (ap2 g e).1; have := hg.1; omega, by have := hg.1; omega⟩)
    exact old2.snoc new2
  · have hn1 : SlAt textKind 9 wu nv ns := ha.nms.keeps hku (fun g hg e => ap3 g e hg)
    exact hn1.keeps hset (fun g hg e => (ap2 g hg).2 e)
  · exact below_keeps hbw hset (fun i e => by have e : i = b3 := e; have := h.ge; omega) hbw.size
theorem TurnI.pushName (h : TurnI w wr b3 k t ns lv nv acc) {wy : World} (hy : Below wr.heap.size wr wy) (s : ByteArray) (hn : ns.length + 1 ≤ 1000000) (ty : TypeId) :
    ∃ a' c' wu, (Builtin.append_ #[23, 23] ty #[nv, .slice (some ⟨wy.heap.size, 0, none⟩) 1 1]).run Tryz.prog (wy.alloc (.cells #[.string s] 9)) = .ok (.slice a' (ns.length + 1) c') wu ∧ IsBlk wu b3 #[.int .i64 k, .string t, lv, nv] 25 ∧ Below w.heap.size w wu ∧
      TurnI w (wu.setCell ⟨b3, 3, none⟩ (.slice a' (ns.length + 1) c')) b3 k t (ns ++ [s]) lv (.slice a' (ns.length + 1) c') acc := by
  have hyy := h.on hy
  have hb3 : b3 < wr.heap.size := lt_of_block h.box
  have hsz := hy.size
  have hwz := h.below.size
  obtain ⟨ap1, ap2, ap3⟩ := h.apart
  obtain ⟨rs, h3, h4⟩ := hyy.lst
  have h4' := h4.lt
  have hal : Below wy.heap.size wy (wy.alloc (.cells #[.string s] 9)) := (Below.refl _ _).alloc (Nat.le_refl _) _
  have hz1 : (wy.alloc (.cells #[.string s] 9)).heap.size = wy.heap.size + 1 := by simp
  have ha := hyy.on hal
  have hq := rd_new (ek := textKind) wy s #[.string s] rfl 9
  obtain ⟨v', wu, hrun, hsl, hku, hown⟩ := append_str (hyy.nms.below hal) hq (by simp; omega) ty
  obtain ⟨a', c', hv'⟩ := hsl.shape
  have hl1 : (ns ++ [s]).length = ns.length + 1 := by rw [List.length_append]; rfl
  rw [hl1] at hv'
  subst hv'
  have hbu := hku.obj (w := wy.alloc (.cells #[.string s] 9)) ha.box (fun e => (ap2 _ e).2 rfl)
  have hset : Keeps (Only b3) wu (wu.setCell ⟨b3, 3, none⟩ (.slice a' (ns.length + 1) c')) := keeps_set _ _ _ _
  have hvn : ∀ g, (Value.slice a' (ns.length + 1) c').ownBlock = some g → w.heap.size ≤ g ∧ g ≠ b3 := fun g hg => by
    rcases hown g hg with e | e
    · exact ⟨h.nown g e, (ap2 g e).2⟩
    · rw [hz1] at e
      exact ⟨by omega, by omega⟩
  have hbw : Below w.heap.size w wu := below_keeps ha.below hku (fun i e => h.nown i e) ha.below.size
  have h3u : SlAt rawKind 25 wu lv rs := (h3.below hal).keeps hku (fun g hg e => ap3 g hg e)
  refine ⟨a', c', wu, hrun, hbu, hbw, ?_, ⟨rs, h3u.keeps hset (fun g hg e => (h.lown g hg).2 e), ?_⟩, ?_, h.lown, fun g hg => (hvn g hg).1, ?_, h.ge⟩
  · exact blk_set hbu 3 _
  · have old := ((h4'.below hal).keeps hku (fun g hg e => hg.1.2.2.1 e)).keeps hset (fun g hg e => hg.1.2.2.2 e)
    exact old.mono (fun g hg => ⟨hg.1.1, hg.1.2.1, fun h2 => by
      rcases hown g h2 with e | e
      · exact hg.1.2.2.1 e
      · rw [hz1] at e; have := hg.2; omega, hg.1.2.2.2⟩)
  · exact hsl.keeps hset (fun g hg e => (hvn g hg).2 e)
  · exact below_keeps hbw hset (fun i e => by have e : i = b3 := e; have := h.ge; omega) hbw.size
theorem TurnI.start {W : World} (hb : IsBlk W b3 #[.int .i64 k, .string t, .slice none 0 0, .slice none 0 0] 25) (hw : Below w.heap.size w W) (hg : w.heap.size ≤ b3) :
    TurnI w W b3 k t [] (.slice none 0 0) (.slice none 0 0) [] :=
  ⟨hb, ⟨[], SlAt.nil, by simp only [JsAt]⟩, SlAt.nil, (fun g hg => by cases hg), (fun g hg => by cases hg), hw, hg⟩
theorem TurnI.fin {a1 : Option Addr} {c1 : Nat} {a2 : Option Addr} {c2 n m : Nat} (h : TurnI w wr b3 k t ns (.slice a1 n c1) (.slice a2 m c2) acc) : JAt wr (fun g => w.heap.size ≤ g) (.mk k t acc ns) ⟨k, t, a1, n, c1, a2, m, c2⟩ := by
  obtain ⟨rs, h3, h4⟩ := h.lst
  simp only [JAt, RawV.lv, RawV.nv]
  exact ⟨trivial, trivial, ⟨h.nms.rd, fun _ g hg => h.nown g hg, h.nms.le_cap rfl⟩, rs, ⟨h3.rd, fun _ g hg => (h.lown g hg).1⟩, h4.mono fun g hg => hg.1⟩
end
end Go.Proofs.YthjcolehccbihaaGreatDoor
