/- What is read: how great its parts are; the names of an object. Plain; no program in it. -/
import Derived.Test.YthjcolehccbihaaGreatDoorz32
import Derived.Test.YthjcolehccbihaaGreatDoorz30
import Derived.Lib.QuoteLoop
set_option linter.unusedSimpArgs false
set_option linter.unusedVariables false
namespace Go.Proofs.YthjcolehccbihaaGreatDoor
open Go.Lib (encodeRune)
open Go.RowKit Go.Shelf
/-- A value that was read, in its box; all that comes is newer. -/
structure HasV (w wr : World) (xb : Nat) (q : RawV) (v : JV) : Prop where
  box : JBox wr xb q
  val : JAt wr (fun g => w.heap.size ≤ g) v q
  below : Below w.heap.size w wr
theorem HasV.on {w wr wy : World} {xb : Nat} {q : RawV} {v : JV} (h : HasV w wr xb q v) (hb : Below wr.heap.size wr wy) : HasV w wy xb q v := ⟨jbox_below h.box hb, h.val.below hb, h.below.trans (hb.mono h.below.size)⟩
end Go.Proofs.YthjcolehccbihaaGreatDoor
set_option linter.unusedSimpArgs false
set_option linter.unusedVariables false
namespace Go.Proofs.YthjcolehccbihaaGreatDoor
open Go.Lib (encodeRune encodeRuneZ encodeRuneZ_one encodeRuneZ_two encodeRuneZ_three encodeRuneZ_four)
end Go.Proofs.YthjcolehccbihaaGreatDoor
namespace Go.Proofs.YthjcolehccbihaaGreatDoor
open Go.Lib (encodeRune encodeRuneZ encodeRuneZ_one encodeRuneZ_two encodeRuneZ_three encodeRuneZ_four)
theorem validN_more : ∀ (n m : Nat) (l : List UInt8), l.length ≤ n → l.length ≤ m → validN n l = validN m l
  | 0, m, l, h1, _ => by
    have : l = [] := List.length_eq_zero_iff.1 (by omega)
    subst this
    cases m <;> rfl
  | n + 1, 0, l, _, h2 => by
    have : l = [] := List.length_eq_zero_iff.1 (by omega)
    subst this
    rfl
  | n + 1, m + 1, [], _, _ => rfl
  | n + 1, m + 1, c :: l, h1, h2 => by
    simp only [validN]
    split
    · rfl
    · rename_i hs
      refine validN_more n m _ ?_ ?_
      · rw [List.length_drop]; simp only [List.length_cons] at h1 ⊢; omega
      · rw [List.length_drop]; simp only [List.length_cons] at h2 ⊢; omega
theorem valid_cons {c : UInt8} {l : List UInt8} : valid (c :: l) = true ↔ seqLen (c :: l) ≠ 0 ∧ valid ((c :: l).drop (seqLen (c :: l))) = true := by
  have e : valid (c :: l) = if seqLen (c :: l) = 0 then false else validN l.length ((c :: l).drop (seqLen (c :: l))) := rfl
  rw [e]
  by_cases h : seqLen (c :: l) = 0
  · rw [if_pos h]; simp [h]
  · rw [if_neg h]
    have : validN l.length ((c :: l).drop (seqLen (c :: l))) = valid ((c :: l).drop (seqLen (c :: l))) := validN_more _ _ _ (by rw [List.length_drop]; simp only [List.length_cons]; omega) (Nat.le_refl _)
    rw [this]
    simp [h]
theorem lead_two {c : UInt8} (h1 : 194 ≤ c.toNat) (h2 : c.toNat < 224) : leadLen c = 2 := by
  unfold leadLen
  rw [if_neg (by rw [u8lt]; show ¬ c.toNat < 128; omega), if_neg (by rw [u8lt]; show ¬ c.toNat < 194; omega), if_pos (by rw [u8lt]; exact h2)]
theorem lead_three {c : UInt8} (h1 : 224 ≤ c.toNat) (h2 : c.toNat < 240) : leadLen c = 3 := by
  unfold leadLen
  rw [if_neg (by rw [u8lt]; show ¬ c.toNat < 128; omega), if_neg (by rw [u8lt]; show ¬ c.toNat < 194; omega), if_neg (by rw [u8lt]; show ¬ c.toNat < 224; omega), if_pos (by rw [u8lt]; exact h2)]
theorem lead_four {c : UInt8} (h1 : 240 ≤ c.toNat) (h2 : c.toNat < 245) : leadLen c = 4 := by
  unfold leadLen
  rw [if_neg (by rw [u8lt]; show ¬ c.toNat < 128; omega), if_neg (by rw [u8lt]; show ¬ c.toNat < 194; omega), if_neg (by rw [u8lt]; show ¬ c.toNat < 224; omega), if_neg (by rw [u8lt]; show ¬ c.toNat < 240; omega), if_pos (by rw [u8lt]; exact h2)]
end Go.Proofs.YthjcolehccbihaaGreatDoor
namespace Go.Proofs.YthjcolehccbihaaGreatDoor
open Go.Lib (encodeRune encodeRuneZ encodeRuneZ_one)
/-- How much a list of texts takes, a comma behind each. -/
def sumL (L : List (List UInt8)) : Nat := (L.map fun x => x.length + 1).sum
theorem sumL_cons (x : List UInt8) (L : List (List UInt8)) : sumL (x :: L) = x.length + 1 + sumL L := by simp [sumL]
theorem commas_sum : ∀ L : List (List UInt8), L ≠ [] → (commas L).length + 1 = sumL L
  | [], h => absurd rfl h
  | [x], _ => by simp [commas, sumL]
  | x :: y :: l, _ => by
    have := commas_sum (y :: l) (by simp)
    rw [sumL_cons, ← this]
    simp only [commas, List.length_append, List.length_cons]
    omega
theorem sumL_perm {L M : List (List UInt8)} (h : L.Perm M) : sumL L = sumL M := by
  induction h with
  | nil => rfl
  | cons x _ ih => rw [sumL_cons, sumL_cons, ih]
  | swap x y l => simp only [sumL_cons]; omega
  | trans _ _ ih1 ih2 => rw [ih1, ih2]
end Go.Proofs.YthjcolehccbihaaGreatDoor
