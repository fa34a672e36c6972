/- JSON in plain data: what a reading leaves is an end of what it was given, and shorter. Plain Lean. -/
import Derived.Test.YthjcolehccbihaaDoorJa
namespace Go.Proofs.YthjcolehccbihaaDoor

/-- Where it comes to something, what is left is an end of l, so many bytes shorter at least. -/
def Out.Fits {α : Type} (k : Nat) (l : List UInt8) (o : Out α) : Prop := ∀ x r, o = .ok x r → r <:+ l ∧ r.length + k ≤ l.length
theorem Out.Fits.ok {α : Type} {k : Nat} {l r : List UInt8} {x : α} (h : r <:+ l) (hk : r.length + k ≤ l.length) : (Out.ok x r).Fits k l := by
  intro x' r' e; cases e; exact ⟨h, hk⟩
theorem Out.Fits.bad {α : Type} {k : Nat} {l : List UInt8} {p e : Nat} : (Out.bad p e : Out α).Fits k l := by intro x' r' h; cases h
theorem Out.Fits.bind {α β : Type} {k m : Nat} {l : List UInt8} {o : Out α} {f : α → List UInt8 → Out β} (h : o.Fits k l) (hf : ∀ x r, o = .ok x r → (f x r).Fits m r) : (o.andThen f).Fits (k + m) l := by
  cases o with
  | bad p e => exact .bad
  | ok x r =>
    intro y r' e
    obtain ⟨h1, h2⟩ := h x r rfl
    obtain ⟨h3, h4⟩ := hf x r rfl y r' e
    exact ⟨h3.trans h1, by omega⟩
theorem Out.Fits.le {α : Type} {k m : Nat} {l : List UInt8} {o : Out α} (h : o.Fits k l) (hm : m ≤ k) : o.Fits m l := fun x r e => ⟨(h x r e).1, by have := (h x r e).2; omega⟩
theorem Out.Fits.grow {α : Type} {k m : Nat} {l l' : List UInt8} {o : Out α} (h : o.Fits k l) (hs : l <:+ l') (hm : l.length + m ≤ l'.length) : o.Fits (k + m) l' :=
  fun x r e => ⟨(h x r e).1.trans hs, by have := (h x r e).2; omega⟩
theorem suf_cons (c : UInt8) (l : List UInt8) : l <:+ c :: l := ⟨[c], rfl⟩
theorem suf_len {a b : List UInt8} (h : a <:+ b) : a.length ≤ b.length := h.length_le

theorem blanks_suf : ∀ l, blanks l <:+ l
  | [] => List.suffix_refl _
  | c :: l => by
    unfold blanks
    split
    · exact (blanks_suf l).trans (suf_cons c l)
    · exact List.suffix_refl _
theorem digits_suf : ∀ l, digits l <:+ l
  | [] => List.suffix_refl _
  | c :: l => by
    unfold digits
    split
    · exact (digits_suf l).trans (suf_cons c l)
    · exact List.suffix_refl _
theorem mayBe_suf (p : UInt8 → Bool) : ∀ l, (mayBe p l).2 <:+ l
  | [] => List.suffix_refl _
  | c :: l => by
    unfold mayBe; dsimp only
    split
    · exact suf_cons c l
    · exact List.suffix_refl _
theorem fourN_fits (pl : Nat) : ∀ n x l, (fourN pl n x l).Fits n l
  | 0, x, l => .ok (List.suffix_refl _) (by omega)
  | n + 1, x, [] => .bad
  | n + 1, x, c :: l => by
    unfold fourN
    split
    · exact .bad
    · exact ((fourN_fits pl n _ l).grow (suf_cons c l) (m := 1) (by simp)).le (by omega)
theorem mustIs_fits (c : UInt8) (pl : Nat) : ∀ l, (mustIs c pl l).Fits 1 l
  | [] => .bad
  | d :: l => by
    unfold mustIs; dsimp only
    split
    · exact .ok (suf_cons _ _) (by simp)
    · exact .bad
theorem second_fits (pl x : Nat) (l : List UInt8) : (second pl x l).Fits 1 l := by
  unfold second
  refine ((mustIs_fits 92 pl l).bind (m := 0) fun _ r _ => ?_).le (by omega)
  refine ((mustIs_fits 117 pl r).bind (m := 0) fun _ r _ => ?_).le (by omega)
  refine ((fourN_fits pl 4 0 r).bind (m := 0) fun y r _ => ?_).le (by omega)
  split
  · exact .bad
  · exact .ok (List.suffix_refl _) (by omega)
theorem escaped_fits (pl : Nat) : ∀ l, (escaped pl l).Fits 1 l
  | [] => .bad
  | c :: l => by
    unfold escaped; dsimp only
    split
    · exact .ok (suf_cons _ _) (by simp)
    · split
      · refine ((((fourN_fits pl 4 0 l).bind (m := 0) fun x r _ => ?_).le (Nat.zero_le _)).grow (suf_cons c l) (m := 1) (by simp)).le (by omega)
        split
        · exact .ok (List.suffix_refl _) (by omega)
        · split
          · exact .bad
          · exact (second_fits pl x r).le (by omega)
      · exact .bad
theorem seqLen_le : ∀ l, seqLen l ≤ l.length
  | [] => Nat.zero_le _
  | c :: l => by
    unfold seqLen; dsimp only
    split
    · simp
    · split
      · split
        · split <;> simp
        · simp
      · split
        · split
          · split <;> simp
          · simp
        · split
          · split
            · split <;> simp
            · simp
          · simp
theorem seqLen_le4 : ∀ l, seqLen l ≤ 4
  | [] => Nat.zero_le _
  | c :: l => by
    unfold seqLen; dsimp only
    split
    · omega
    · split
      · split
        · split <;> omega
        · omega
      · split
        · split
          · split <;> omega
          · omega
        · split
          · split
            · split <;> omega
            · omega
          · omega
theorem textN_fits : ∀ n out l, (textN n out l).Fits 1 l
  | 0, _, _ => .bad
  | _ + 1, _, [] => .bad
  | n + 1, out, c :: l => by
    unfold textN
    split
    · exact .bad
    · split
      · exact .ok (suf_cons _ _) (by simp)
      · split
        · refine (((escaped_fits _ l).bind (m := 1) fun r l _ => textN_fits n _ l).grow (suf_cons c l) (m := 1) (by simp)).le (by omega)
        · split
          · exact .bad
          · split
            · exact .bad
            · rename_i h
              refine ((textN_fits n _ ((c :: l).drop (seqLen (c :: l)))).grow (List.drop_suffix _ _) (m := 0) ?_).le (by omega)
              simp
theorem text_fits (l : List UInt8) : (text l).Fits 1 l := textN_fits _ _ _
theorem some1_fits : ∀ l, (some1 l).Fits 1 l
  | [] => .bad
  | c :: l => by
    unfold some1; dsimp only
    split
    · exact .ok ((digits_suf l).trans (suf_cons c l)) (by have := suf_len (digits_suf l); simp; omega)
    · exact .bad
theorem numWhole_fits (l : List UInt8) : (numWhole l).Fits 1 l := by
  unfold numWhole
  split
  · rename_i h
    cases l with
    | nil => simp [mayBe] at h
    | cons c l =>
      have h2 : (c == 48) = true := by
        unfold mayBe at h; dsimp only at h
        split at h
        · assumption
        · simp at h
      have e : mayBe (· == 48) (c :: l) = (true, l) := by unfold mayBe; dsimp only; rw [if_pos h2]
      rw [e]; exact .ok (suf_cons _ _) (by simp)
  · exact some1_fits l
theorem numFrac_fits (l : List UInt8) : (numFrac l).Fits 0 l := by
  unfold numFrac
  split
  · exact ((some1_fits _).grow (mayBe_suf _ l) (m := 0) (by have := suf_len (mayBe_suf (· == 46) l); omega)).le (by omega)
  · exact .ok (List.suffix_refl _) (by omega)
theorem numExp_fits (l : List UInt8) : (numExp l).Fits 0 l := by
  unfold numExp
  split
  · have h := (mayBe_suf isSign (mayBe isE l).2).trans (mayBe_suf isE l)
    exact ((some1_fits _).grow h (m := 0) (by have := suf_len h; omega)).le (by omega)
  · exact .ok (List.suffix_refl _) (by omega)
theorem numRest_fits (l : List UInt8) : (numRest l).Fits 1 l := by
  unfold numRest
  have h := mayBe_suf (· == 45) l
  refine ((((numWhole_fits _).bind (m := 0) fun _ r _ => ?_)).grow h (m := 0) (by have := suf_len h; omega)).le (by omega)
  exact ((numFrac_fits r).bind (m := 0) fun _ r _ => numExp_fits r).le (by omega)
theorem number_fits (l : List UInt8) : (number l).Fits 1 l := by
  unfold number
  refine ((numRest_fits l).bind (m := 0) fun _ r _ => ?_).le (by omega)
  split
  · exact .bad
  · exact .ok (List.suffix_refl _) (by omega)
theorem musts_fits : ∀ w l, (musts w l).Fits w.length l
  | [], l => .ok (List.suffix_refl _) (by simp)
  | _ :: _, [] => .bad
  | c :: w, d :: l => by
    unfold musts
    split
    · exact ((musts_fits w l).grow (suf_cons d l) (m := 1) (by simp)).le (by simp)
    · exact .bad
theorem blanks_fits {α : Type} {k : Nat} {l : List UInt8} {o : Out α} (h : o.Fits k (blanks l)) : o.Fits k l :=
  (h.grow (blanks_suf l) (m := 0) (by have := suf_len (blanks_suf l); omega)).le (by omega)
section
variable {val : List UInt8 → Out JV} (hval : ∀ l, (val l).Fits 1 l)
include hval
theorem elemsN_fits : ∀ n acc l, (elemsN val n acc l).Fits 1 l
  | 0, _, _ => .bad
  | n + 1, acc, l => by
    unfold elemsN
    split
    · exact .bad
    · refine ((blanks_fits (hval _)).bind (m := 0) fun v r _ => ?_).le (by omega)
      refine blanks_fits ?_
      split
      · exact .bad
      · rename_i c r' e
        split
        · exact .ok (by rw [e]; exact suf_cons _ _) (by rw [e]; simp)
        · split
          · rw [e]; exact ((elemsN_fits n _ r').grow (suf_cons _ _) (m := 0) (by simp)).le (by omega)
          · exact .bad
theorem membersN_fits : ∀ n acc names l, (membersN val n acc names l).Fits 1 l
  | 0, _, _, _ => .bad
  | n + 1, acc, names, l => by
    unfold membersN
    refine blanks_fits ?_
    split
    · exact .bad
    · rename_i c l1 e
      split
      · exact .bad
      · split
        · exact .bad
        · rw [e]
          refine (((text_fits l1).bind (m := 0) fun name r _ => ?_).grow (suf_cons _ _) (m := 0) (by simp)).le (by omega)
          split
          · exact .bad
          · refine ((blanks_fits (musts_fits [58] _)).bind (m := 0) fun _ r _ => ?_).le (by omega)
            refine ((blanks_fits (hval _)).bind (m := 0) fun v r _ => ?_).le (by omega)
            refine blanks_fits ?_
            split
            · exact .bad
            · rename_i c r' e
              split
              · exact .ok (by rw [e]; exact suf_cons _ _) (by rw [e]; simp)
              · split
                · rw [e]; exact ((membersN_fits n _ _ r').grow (suf_cons _ _) (m := 0) (by simp)).le (by omega)
                · exact .bad
theorem array_fits (l : List UInt8) : (array val l).Fits 0 l := by
  unfold array
  split
  · exact .ok ((mayBe_suf _ _).trans (blanks_suf l)) (by have := suf_len ((mayBe_suf (· == 93) (blanks l)).trans (blanks_suf l)); omega)
  · exact ((blanks_fits (elemsN_fits hval _ _ _)).bind (m := 0) fun _ r _ => .ok (List.suffix_refl _) (by omega)).le (by omega)
theorem object_fits (l : List UInt8) : (object val l).Fits 0 l := by
  unfold object
  split
  · exact .ok ((mayBe_suf _ _).trans (blanks_suf l)) (by have := suf_len ((mayBe_suf (· == 125) (blanks l)).trans (blanks_suf l)); omega)
  · exact ((blanks_fits (membersN_fits hval _ _ _ _)).bind (m := 0) fun _ r _ => .ok (List.suffix_refl _) (by omega)).le (by omega)
end
theorem word_fits (w : List UInt8) (hw : 1 ≤ w.length) (v : JV) (l : List UInt8) : ((musts w l).andThen fun _ r => Out.ok v r).Fits 1 l :=
  ((musts_fits w l).bind (m := 0) fun _ r _ => .ok (List.suffix_refl _) (by omega)).le (by omega)
theorem scalar_fits : ∀ l, (scalar l).Fits 1 l
  | [] => .bad
  | c :: l => by
    unfold scalar; dsimp only
    split
    · exact (((text_fits l).bind (m := 0) fun t r _ => .ok (List.suffix_refl _) (by omega)).grow (suf_cons c l) (m := 0) (by simp)).le (by omega)
    · split
      · exact number_fits _
      · split
        · exact word_fits wNull (by decide) _ _
        · split
          · exact word_fits wFalse (by decide) _ _
          · split
            · exact word_fits wTrue (by decide) _ _
            · exact .bad
theorem value_fits : ∀ d l, (value d l).Fits 1 l
  | 0, [] => scalar_fits []
  | 0, c :: l => by
    unfold value
    split
    · rename_i h; cases h
    · rename_i c' r h; injection h with h1 h2; subst h1 h2
      split
      · exact .bad
      · exact scalar_fits _
  | d + 1, [] => scalar_fits []
  | d + 1, c :: l => by
    unfold value
    split
    · rename_i h; cases h
    · rename_i c' r h; injection h with h1 h2; subst h1 h2
      split
      · exact ((object_fits (value_fits d) _).grow (suf_cons _ _) (m := 1) (by simp)).le (by omega)
      · split
        · exact ((array_fits (value_fits d) _).grow (suf_cons _ _) (m := 1) (by simp)).le (by omega)
        · exact scalar_fits _
/-- An end of a text, by its place. -/
theorem suf_drop {l b : List UInt8} (h : l <:+ b) : l = b.drop (b.length - l.length) := by
  obtain ⟨p, rfl⟩ := h
  simp
end Go.Proofs.YthjcolehccbihaaDoor
