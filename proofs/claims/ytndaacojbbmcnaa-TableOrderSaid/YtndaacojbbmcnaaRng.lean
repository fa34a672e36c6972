/- A range of pairs by rising keys. No program. -/
import Derived.Test.YtndaacojbbmcnaaKeys
namespace Go.Proofs.Ytndaacojbbmcnaa
abbrev rangeL (lo hi : ByteArray) (l : List (ByteArray × Int)) : List (ByteArray × Int) := l.filter (fun x => !slt x.1 lo && slt x.1 hi)
/-- Pairs by rising keys: those below, those in the range, those above. -/
theorem range_split (lo hi : ByteArray) : ∀ (l : List (ByteArray × Int)), Rise slt l → ∃ M : Nat, M + (rangeL lo hi l).length ≤ l.length ∧
    (∀ (j : Nat) (x : ByteArray × Int), l[j]? = some x → (slt x.1 lo = true ↔ j < M)) ∧ (∀ (j : Nat) (x : ByteArray × Int), l[j]? = some x → M + (rangeL lo hi l).length ≤ j → slt x.1 hi = false) ∧
    (∀ (j : Nat) (x : ByteArray × Int), (rangeL lo hi l)[j]? = some x → l[M + j]? = some x) ∧ (∀ (j : Nat) (x : ByteArray × Int), (rangeL lo hi l)[j]? = some x → slt x.1 hi = true) := by
  intro l
  induction l with
  | nil => intro _; exact ⟨0, by simp, by simp, by simp, by simp, by simp⟩
  | cons y l ih =>
    intro h
    obtain ⟨hy, hl⟩ := List.pairwise_cons.1 h
    obtain ⟨M, h1, h2, h3, h4, h5⟩ := ih hl
    cases c1 : slt y.1 lo with
    | true =>
      have e : rangeL lo hi (y :: l) = rangeL lo hi l := by simp [rangeL, c1]
      rw [e]
      refine ⟨M + 1, by simp; omega, ?_, ?_, ?_, h5⟩
      · intro j x hx
        cases j with
        | zero => simp at hx; subst hx; simp [c1]
        | succ j => simp only [List.getElem?_cons_succ] at hx; rw [h2 j x hx]; omega
      · intro j x hx hj
        cases j with
        | zero => omega
        | succ j => simp only [List.getElem?_cons_succ] at hx; exact h3 j x hx (by omega)
      · intro j x hx
        rw [show M + 1 + j = (M + j) + 1 by omega, List.getElem?_cons_succ]
        exact h4 j x hx
    | false =>
      have hge : ∀ x ∈ l, slt x.1 lo = false := fun x hx => by
        cases c : slt x.1 lo with
        | false => rfl
        | true => have := slt_ord.tr _ _ _ (hy x hx) c; rw [c1] at this; cases this
      have hM : ∀ j x, l[j]? = some x → ¬ j < M := fun j x hx hj => by
        have := (h2 j x hx).2 hj
        rw [hge x (List.mem_of_getElem? hx)] at this; cases this
      have hM0 : M = 0 ∨ l.length < M ∨ l = [] := by
        by_cases hz : M = 0
        · exact .inl hz
        · cases l with
          | nil => exact .inr (.inr rfl)
          | cons z l => exact absurd (Nat.pos_of_ne_zero hz) (hM 0 z rfl)
      have hM1 : M = 0 := by
        rcases hM0 with h | h | h
        · exact h
        · omega
        · subst h; simp at h1; omega
      subst hM1
      cases c2 : slt y.1 hi with
      | true =>
        have e : rangeL lo hi (y :: l) = y :: rangeL lo hi l := by simp [rangeL, c1, c2]
        rw [e]
        refine ⟨0, by simp; omega, ?_, ?_, ?_, ?_⟩
        · intro j x hx
          cases j with
          | zero => simp at hx; subst hx; simp [c1]
          | succ j => simp only [List.getElem?_cons_succ] at hx; rw [hge x (List.mem_of_getElem? hx)]; simp
        · intro j x hx hj
          cases j with
          | zero => simp at hj
          | succ j => simp only [List.getElem?_cons_succ] at hx; exact h3 j x hx (by simp at hj; omega)
        · intro j x hx
          cases j with
          | zero => simpa using hx
          | succ j => simp only [List.getElem?_cons_succ] at hx; rw [show 0 + (j + 1) = (0 + j) + 1 by omega, List.getElem?_cons_succ]; exact h4 j x hx
        · intro j x hx
          cases j with
          | zero => simp at hx; subst hx; exact c2
          | succ j => simp only [List.getElem?_cons_succ] at hx; exact h5 j x hx
      | false =>
        have hge2 : ∀ x ∈ l, slt x.1 hi = false := fun x hx => by
          cases c : slt x.1 hi with
          | false => rfl
          | true => have := slt_ord.tr _ _ _ (hy x hx) c; rw [c2] at this; cases this
        have e : rangeL lo hi (y :: l) = [] := by
          show List.filter _ _ = []
          refine filt_none fun x hx => ?_
          rcases List.mem_cons.1 hx with rfl | hx
          · simp [c2]
          · simp [hge2 x hx]
        rw [e]
        refine ⟨0, by simp, ?_, ?_, by simp, by simp⟩
        · intro j x hx
          cases j with
          | zero => simp at hx; subst hx; simp [c1]
          | succ j => simp only [List.getElem?_cons_succ] at hx; rw [hge x (List.mem_of_getElem? hx)]; simp
        · intro j x hx _
          cases j with
          | zero => simp at hx; subst hx; exact c2
          | succ j => simp only [List.getElem?_cons_succ] at hx; exact hge2 x (List.mem_of_getElem? hx)
end Go.Proofs.Ytndaacojbbmcnaa
