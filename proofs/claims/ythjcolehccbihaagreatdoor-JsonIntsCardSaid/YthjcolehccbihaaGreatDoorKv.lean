/- Rising lists of pairs by string keys, over whatever values; a list tallied by a key. No program. -/
import Derived.Test.YthjcolehccbihaaGreatDoorMp
set_option linter.unusedSimpArgs false
set_option linter.unusedVariables false
namespace Go.Proofs.YthjcolehccbihaaGreatDoor.Kv
section
variable {V : Type} {n : ByteArray} {y : V} {l : List (ByteArray × V)}
theorem find_mem (h : findL slt l n = some y) (hr : Rise slt l) : (n, y) ∈ l := by
  rcases find_split slt_ord l hr n with ⟨h1, _⟩ | ⟨a, v, b, e, h1⟩
  · rw [h1] at h; cases h
  · rw [h1] at h; cases h; rw [e]; simp
theorem find_of_mem (hr : Rise slt l) (h : (n, y) ∈ l) : findL slt l n = some y := by
  obtain ⟨a, b, e⟩ := List.append_of_mem h
  rw [e] at hr ⊢
  exact findL_eq slt_ord hr
theorem find_congr {l l' : List (ByteArray × V)} (hr : Rise slt l) (hr' : Rise slt l') (h : ∀ y, (n, y) ∈ l ↔ (n, y) ∈ l') : findL slt l n = findL slt l' n := by
  cases h1 : findL slt l n with
  | some v => rw [find_of_mem hr' ((h v).1 (find_mem h1 hr))]
  | none =>
    cases h2 : findL slt l' n with
    | none => rfl
    | some v => rw [find_of_mem hr ((h v).2 (find_mem h2 hr'))] at h1; cases h1
theorem mem_put {m : ByteArray} {z : V} (hne : n ≠ m) : (n, z) ∈ putL slt l m y ↔ (n, z) ∈ l := by
  unfold putL
  have hb : (slt n m || slt m n) = true := by
    cases h1 : slt n m with
    | true => rfl
    | false =>
      cases h2 : slt m n with
      | true => rfl
      | false => exact absurd (slt_ord.eq _ _ h1 h2) hne
  simp only [List.mem_append, List.mem_cons, List.mem_filter, Prod.mk.injEq]
  constructor
  · rintro (⟨h, _⟩ | ⟨h, _⟩ | ⟨h, _⟩)
    · exact h
    · exact absurd h hne
    · exact h
  · intro h
    rcases Bool.or_eq_true_iff.1 hb with hb | hb
    · exact .inl ⟨h, hb⟩
    · exact .inr (.inr ⟨h, hb⟩)
theorem find_put (hr : Rise slt l) : findL slt (putL slt l n y) n = some y := by
  obtain ⟨a, b, e, hr⟩ : ∃ a b, putL slt l n y = a ++ (n, y) :: b ∧ Rise slt (a ++ (n, y) :: b) := ⟨_, _, rfl, rise_putL slt_ord hr n y⟩
  rw [e]
  exact findL_eq slt_ord hr
theorem find_put_ne (hr : Rise slt l) {m : ByteArray} (hne : n ≠ m) : findL slt (putL slt l m y) n = findL slt l n := find_congr (rise_putL slt_ord hr m y) hr fun _ => mem_put hne
theorem mem_put' {x : ByteArray × V} {m : ByteArray} (h : x ∈ putL slt l m y) : x = (m, y) ∨ x ∈ l := by
  unfold putL at h
  simp only [List.mem_append, List.mem_cons, List.mem_filter] at h
  rcases h with ⟨h, _⟩ | h | ⟨h, _⟩
  · exact .inr h
  · exact .inl h
  · exact .inr h
theorem len_put {m : ByteArray} : (putL slt l m y).length ≤ l.length + 1 := by
  unfold putL
  have h : ∀ (l : List (ByteArray × V)), (l.filter (fun x => slt x.1 m)).length + (l.filter (fun x => slt m x.1)).length ≤ l.length := by
    intro l
    induction l with
    | nil => simp
    | cons x xs ih =>
      cases h1 : slt x.1 m with
      | true => simp only [List.filter_cons, h1, slt_ord.asymm h1, if_true]; simp; omega
      | false =>
        cases h2 : slt m x.1 with
        | true => simp only [List.filter_cons, h1, h2, if_true]; simp; omega
        | false => simp only [List.filter_cons, h1, h2]; simp; omega
  have := h l
  simp only [List.length_append, List.length_cons]
  omega
end
section
variable {E V : Type} (key : E → ByteArray) (up : Option V → E → V)
/-- The list tallied. -/
def tallyF (m : List (ByteArray × V)) (l : List E) : List (ByteArray × V) := l.foldl (fun m e => putL slt m (key e) (up (findL slt m (key e)) e)) m
abbrev tally (l : List E) : List (ByteArray × V) := tallyF key up [] l
theorem tally_snoc (l : List E) (e : E) : tally key up (l ++ [e]) = putL slt (tally key up l) (key e) (up (findL slt (tally key up l) (key e)) e) := by
  unfold tally tallyF; rw [List.foldl_append]; rfl
theorem tallyF_rise : ∀ (l : List E) (m : List (ByteArray × V)), Rise slt m → Rise slt (tallyF key up m l)
  | [], _, h => h
  | e :: l, m, h => tallyF_rise l _ (rise_putL slt_ord h _ _)
theorem tally_rise (l : List E) : Rise slt (tally key up l) := tallyF_rise key up l [] (by simp [Rise])
theorem tallyF_find (k : ByteArray) : ∀ (l : List E) (m : List (ByteArray × V)), Rise slt m → findL slt (tallyF key up m l) k = (l.filter fun e => decide (key e = k)).foldl (fun o e => some (up o e)) (findL slt m k)
  | [], _, _ => rfl
  | e :: l, m, h => by
    have ih := tallyF_find k l (putL slt m (key e) (up (findL slt m (key e)) e)) (rise_putL slt_ord h _ _)
    show findL slt (tallyF key up (putL slt m (key e) (up (findL slt m (key e)) e)) l) k = _
    rw [ih]
    by_cases hk : key e = k
    · rw [List.filter_cons, if_pos (by simpa using hk), List.foldl_cons, ← hk, find_put h]
    · rw [List.filter_cons, if_neg (by simpa using hk), find_put_ne h (fun e => hk e.symm)]
theorem tally_find (k : ByteArray) (l : List E) : findL slt (tally key up l) k = (l.filter fun e => decide (key e = k)).foldl (fun o e => some (up o e)) none := tallyF_find key up k l [] (by simp [Rise])
theorem tally_keys {l : List E} : ∀ {m : List (ByteArray × V)} {x : ByteArray × V}, x ∈ tallyF key up m l → (∃ e ∈ l, key e = x.1) ∨ ∃ y ∈ m, y.1 = x.1 := by
  induction l with
  | nil => exact fun h => .inr ⟨_, h, rfl⟩
  | cons e l ih =>
    intro m x h
    rcases ih (m := putL slt m (key e) (up (findL slt m (key e)) e)) h with ⟨e', h1, h2⟩ | ⟨y, hy, h2⟩
    · exact .inl ⟨e', by simp [h1], h2⟩
    · rcases mem_put' hy with rfl | hy
      · exact .inl ⟨e, by simp, h2⟩
      · exact .inr ⟨y, hy, h2⟩
theorem tallyF_len : ∀ (l : List E) (m : List (ByteArray × V)), (tallyF key up m l).length ≤ m.length + l.length
  | [], _ => Nat.le_refl _
  | e :: l, m => by
    have h1 := tallyF_len l (putL slt m (key e) (up (findL slt m (key e)) e))
    have h2 := len_put (l := m) (m := key e) (y := up (findL slt m (key e)) e)
    show (tallyF key up (putL slt m (key e) (up (findL slt m (key e)) e)) l).length ≤ _
    simp only [List.length_cons]
    omega
theorem tally_len (l : List E) : (tally key up l).length ≤ l.length := by
  have := tallyF_len key up l []
  simpa using this
theorem tally_mem {l : List E} {k : ByteArray} {v : V} (h : (k, v) ∈ tally key up l) : (l.filter fun e => decide (key e = k)).foldl (fun o e => some (up o e)) none = some v := by
  rw [← tally_find]
  exact find_of_mem (tally_rise key up l) h
end
end Go.Proofs.YthjcolehccbihaaGreatDoor.Kv
