/- JSON in plain data: a value that is laid is read back, its objects' members by rising names. Plain Lean. -/
import Derived.Test.YthjcolehccbihaaDoorJc
namespace Go.Proofs.YthjcolehccbihaaDoor

theorem JV.ind {P : JV → Prop} (h : ∀ k t l names, (∀ v ∈ l, P v) → P (.mk k t l names)) : ∀ v, P v
  | .mk k t l names => h k t l names (all l)
where all : ∀ l : List JV, ∀ v ∈ l, P v
  | [], v, hv => by cases hv
  | x :: l, v, hv => by
    rcases List.mem_cons.1 hv with e | hv
    · rw [e]; exact JV.ind h x
    · exact all l v hv
theorem layAll_map : ∀ l, layAll l = l.map lay
  | [] => rfl
  | v :: l => by simp only [layAll, List.map_cons, layAll_map l]
theorem chkAll_zero (d : Nat) : ∀ l, chkAll d l = 0 ↔ ∀ v ∈ l, chk d v = 0
  | [] => by simp [chkAll]
  | v :: l => by
    simp only [chkAll, List.forall_mem_cons]
    by_cases h : chk d v = 0
    · simp [h, chkAll_zero d l]
    · simp [h]
/-- What a value has that may be laid. -/
structure Own (d : Nat) (k : Int) (t : ByteArray) (n : Nat) (names : List ByteArray) : Prop where
  k0 : 0 ≤ k
  k6 : k ≤ 6
  num : k = 3 → literal (raw t) = true
  txt : k = 4 → valid (raw t) = true
  deep : 5 ≤ k → d < 32
  many : 5 ≤ k → n ≤ 1000
  names : k = 6 → (∀ s ∈ names, valid (raw s) = true) ∧ names.length = n ∧ distinct (names.map raw) = true
theorem chkOwn_zero (d : Nat) (k : Int) (t : ByteArray) (n : Nat) (names : List ByteArray) : chkOwn d k t n names = 0 ↔ Own d k t n names := by
  constructor
  · intro h
    unfold chkOwn at h
    split at h
    · cases h
    split at h
    · cases h
    split at h
    · cases h
    split at h
    · cases h
    split at h
    · cases h
    rename_i h1 h2 h3 h4 h5
    have a : 0 ≤ k := by omega
    have b : k ≤ 6 := by omega
    have num : k = 3 → literal (raw t) = true := fun hk => by
      cases e : literal (raw t) with
      | true => rfl
      | false => exact absurd ⟨hk, e⟩ h2
    have txt : k = 4 → valid (raw t) = true := fun hk => by
      cases e : valid (raw t) with
      | true => rfl
      | false => exact absurd ⟨hk, e⟩ h3
    have vals : k = 6 → ∀ s ∈ names, valid (raw s) = true := fun hk => by
      cases e : (names.all fun s => valid (raw s)) with
      | true => exact List.all_eq_true.1 e
      | false => exact absurd ⟨hk, e⟩ h4
    have lens : k = 6 → names.length = n := fun hk => by
      refine Classical.byContradiction fun e => h5 ⟨hk, e⟩
    split at h
    · exact ⟨a, b, num, txt, fun _ => by omega, fun _ => by omega, fun hk => by omega⟩
    split at h
    · cases h
    split at h
    · cases h
    split at h
    · cases h
    rename_i h6 h7 h8 h9
    refine ⟨a, b, num, txt, fun _ => by omega, fun _ => by omega, fun hk => ⟨vals hk, lens hk, ?_⟩⟩
    cases e : distinct (names.map raw) with
    | true => rfl
    | false => exact absurd ⟨hk, e⟩ h9
  · intro h
    have h2 : ¬ (k = 3 ∧ literal (raw t) = false) := fun ⟨e, f⟩ => by rw [h.num e] at f; cases f
    have h3 : ¬ (k = 4 ∧ valid (raw t) = false) := fun ⟨e, f⟩ => by rw [h.txt e] at f; cases f
    have h4 : ¬ (k = 6 ∧ (names.all fun s => valid (raw s)) = false) := fun ⟨e, f⟩ => by rw [List.all_eq_true.2 (h.names e).1] at f; cases f
    have h5 : ¬ (k = 6 ∧ names.length ≠ n) := fun ⟨e, f⟩ => f (h.names e).2.1
    have h9 : ¬ (k = 6 ∧ distinct (names.map raw) = false) := fun ⟨e, f⟩ => by rw [(h.names e).2.2] at f; cases f
    have a := h.k0
    have b := h.k6
    unfold chkOwn
    rw [if_neg (by omega), if_neg h2, if_neg h3, if_neg h4, if_neg h5]
    split
    · rfl
    · have := h.deep (by omega)
      have := h.many (by omega)
      rw [if_neg (by omega), if_neg (by omega)]
theorem chk_zero {d : Nat} {k : Int} {t : ByteArray} {l : List JV} {names : List ByteArray} : chk d (.mk k t l names) = 0 ↔ Own d k t l.length names ∧ (5 ≤ k → ∀ v ∈ l, chk (d + 1) v = 0) := by
  rw [← chkOwn_zero, ← chkAll_zero]
  simp only [chk]
  by_cases h : chkOwn d k t l.length names = 0
  · simp only [h, ne_eq, not_true_eq_false, if_false, true_and]
    split
    · exact ⟨fun _ hk => by omega, fun _ => rfl⟩
    · exact ⟨fun h _ => h, fun h => h (by omega)⟩
  · simp only [ne_eq, h, not_false_eq_true, if_true, false_and]

/-! The order of names -/
theorem ltB_irrefl : ∀ l, ltB l l = false
  | [] => rfl
  | a :: l => by simp [ltB, ltB_irrefl l, u8lt]
theorem ltB_trans : ∀ {a b c : List UInt8}, ltB a b = true → ltB b c = true → ltB a c = true
  | _, _, [], _, h => by cases ‹List UInt8› <;> simp [ltB] at h
  | _, [], _ :: _, h, _ => by cases ‹List UInt8› <;> simp [ltB] at h
  | [], _ :: _, _ :: _, _, _ => rfl
  | x :: a, y :: b, z :: c, h, k => by
    simp only [ltB, Bool.or_eq_true, Bool.and_eq_true, decide_eq_true_eq, beq_iff_eq, u8lt] at h k ⊢
    rcases h with h | ⟨rfl, h⟩
    · rcases k with k | ⟨rfl, k⟩
      · exact .inl (by omega)
      · exact .inl h
    · rcases k with k | ⟨rfl, k⟩
      · exact .inl k
      · exact .inr ⟨rfl, ltB_trans h k⟩
theorem ltB_total : ∀ {a b : List UInt8}, ltB a b = false → ltB b a = false → a = b
  | [], [], _, _ => rfl
  | [], _ :: _, h, _ => by simp [ltB] at h
  | _ :: _, [], _, h => by simp [ltB] at h
  | x :: a, y :: b, h, k => by
    simp only [ltB, Bool.or_eq_false_iff, Bool.and_eq_false_iff, decide_eq_false_iff_not, beq_eq_false_iff_ne, u8lt] at h k
    have e : x = y := by rw [u8eq]; omega
    subst e
    have h1 : ltB a b = false := by rcases h.2 with h | h; exact absurd rfl h; exact h
    have k1 : ltB b a = false := by rcases k.2 with k | k; exact absurd rfl k; exact k
    rw [ltB_total h1 k1]
theorem ltB_asymm {a b : List UInt8} (h : ltB a b = true) : ltB b a = false := by
  cases e : ltB b a with
  | false => rfl
  | true => have := ltB_trans h e; rw [ltB_irrefl] at this; cases this

section
variable {α β : Type}
theorem putP_perm (x : List UInt8 × α) : ∀ l, (putP x l).Perm (x :: l)
  | [] => .refl _
  | y :: l => by
    unfold putP
    split
    · exact .refl _
    · exact ((putP_perm x l).cons y).trans (List.Perm.swap x y l)
theorem sortP_perm : ∀ l : List (List UInt8 × α), (sortP l).Perm l
  | [] => .refl _
  | x :: l => (putP_perm x (sortP l)).trans ((sortP_perm l).cons x)
theorem putP_map (f : α → β) (x : List UInt8 × α) : ∀ l, putP (x.1, f x.2) (l.map fun p => (p.1, f p.2)) = (putP x l).map fun p => (p.1, f p.2)
  | [] => rfl
  | y :: l => by
    simp only [putP, List.map_cons]
    split
    · rfl
    · simp only [List.map_cons, putP_map f x l]
theorem sortP_map (f : α → β) : ∀ l : List (List UInt8 × α), sortP (l.map fun p => (p.1, f p.2)) = (sortP l).map fun p => (p.1, f p.2)
  | [] => rfl
  | x :: l => by simp only [List.map_cons, sortP]; rw [sortP_map f l, putP_map]
/-- Names that rise. -/
def Rises (l : List (List UInt8 × α)) : Prop := l.Pairwise fun a b => ltB a.1 b.1 = true
theorem putP_rises (x : List UInt8 × α) : ∀ l, Rises l → (∀ y ∈ l, y.1 ≠ x.1) → Rises (putP x l)
  | [], _, _ => by simp [putP, Rises]
  | y :: l, h, hn => by
    unfold putP
    have h' := List.pairwise_cons.1 h
    split
    · rename_i hlt
      refine List.pairwise_cons.2 ⟨fun z hz => ?_, h⟩
      rcases List.mem_cons.1 hz with rfl | hz
      · exact hlt
      · exact ltB_trans hlt (h'.1 z hz)
    · rename_i hlt
      have hyx : ltB y.1 x.1 = true := by
        cases e : ltB y.1 x.1 with
        | true => rfl
        | false => exact absurd (ltB_total e (by simpa using hlt)) (hn y List.mem_cons_self)
      refine List.pairwise_cons.2 ⟨fun z hz => ?_, putP_rises x l h'.2 fun z hz => hn z (List.mem_cons_of_mem _ hz)⟩
      rcases List.mem_cons.1 ((putP_perm x l).mem_iff.1 hz) with rfl | hz
      · exact hyx
      · exact h'.1 z hz
theorem distinct_nodup : ∀ l : List (List UInt8), distinct l = true ↔ l.Nodup
  | [] => by simp [distinct]
  | x :: l => by simp [distinct, distinct_nodup l]
theorem sortP_rises : ∀ l : List (List UInt8 × α), (l.map (·.1)).Nodup → Rises (sortP l)
  | [], _ => by simp [sortP, Rises]
  | x :: l, h => by
    simp only [List.map_cons, List.nodup_cons] at h
    refine putP_rises x _ (sortP_rises l h.2) fun y hy e => h.1 ?_
    rw [← e]
    exact List.mem_map_of_mem ((sortP_perm l).mem_iff.1 hy)
/-- Two rising lists of the same pairs are one. -/
theorem rises_unique : ∀ (a b : List (List UInt8 × α)), Rises a → Rises b → a.Perm b → a = b
  | [], b, _, _, h => (List.nil_perm.1 h).symm
  | x :: a, [], _, _, h => by have := h.length_eq; simp at this
  | x :: a, y :: b, ha, hb, h => by
    have ha' := List.pairwise_cons.1 ha
    have hb' := List.pairwise_cons.1 hb
    have e : x = y := by
      rcases List.mem_cons.1 (h.mem_iff.1 List.mem_cons_self) with e | hx
      · exact e
      · rcases List.mem_cons.1 (h.mem_iff.2 List.mem_cons_self) with e | hy
        · exact e.symm
        · have h1 := hb'.1 x hx
          have h2 := ha'.1 y hy
          rw [ltB_asymm h1] at h2; cases h2
    subst e
    rw [rises_unique a b ha'.2 hb'.2 ((List.perm_cons x).1 h)]
theorem sortP_sorted {l : List (List UInt8 × α)} (h : Rises l) : sortP l = l := by
  refine rises_unique _ _ (sortP_rises l ?_) h (sortP_perm l)
  have : (l.map (·.1)).Pairwise fun a b => ltB a b = true := by rw [List.pairwise_map]; exact h
  exact this.imp fun h e => by rw [e, ltB_irrefl] at h; cases h
end
theorem nodup_of_rises {α : Type} {l : List (List UInt8 × α)} (h : Rises l) : (l.map (·.1)).Nodup := by
  have : (l.map (·.1)).Pairwise fun a b => ltB a b = true := by rw [List.pairwise_map]; exact h
  exact this.imp fun h e => by rw [e, ltB_irrefl] at h; cases h

/-! The one form -/
/-- An object's members, by rising names. -/
def pairsOf (names : List ByteArray) (l : List JV) : List (List UInt8 × JV) := sortP ((names.map raw).zip l)
mutual
/-- A value as it is read back. -/
def norm : JV → JV
  | .mk k t l names =>
    if k = 3 ∨ k = 4 then .mk k t [] []
    else if k = 5 then .mk 5 ByteArray.empty (normAll l) []
    else if k = 6 then .mk 6 ByteArray.empty ((sortP ((names.map raw).zip (normAll l))).map (·.2)) ((sortP ((names.map raw).zip (normAll l))).map fun p => str p.1)
    else .mk k ByteArray.empty [] []
def normAll : List JV → List JV
  | [] => []
  | v :: l => norm v :: normAll l
end
theorem normAll_map : ∀ l, normAll l = l.map norm
  | [] => rfl
  | v :: l => by simp only [normAll, List.map_cons, normAll_map l]
theorem zip_map_snd {α β γ : Type} (f : β → γ) : ∀ (a : List α) (b : List β), a.zip (b.map f) = (a.zip b).map fun p => (p.1, f p.2)
  | [], _ => by simp
  | _ :: _, [] => by simp
  | x :: a, y :: b => by simp [zip_map_snd f a b]
theorem lay_object (t : ByteArray) (l : List JV) (names : List ByteArray) :
    lay (.mk 6 t l names) = 123 :: (commas ((pairsOf names l).map fun p => layPair (p.1, lay p.2)) ++ [125]) := by
  simp only [lay, layAll_map, pairsOf]
  rw [if_neg (by decide), if_neg (by decide), if_neg (by decide), if_neg (by decide), if_neg (by decide), if_neg (by decide), zip_map_snd, sortP_map, List.map_map]
  rfl
theorem norm_object (t : ByteArray) (l : List JV) (names : List ByteArray) :
    norm (.mk 6 t l names) = .mk 6 ByteArray.empty ((pairsOf names l).map fun p => norm p.2) ((pairsOf names l).map fun p => str p.1) := by
  simp only [norm, normAll_map, pairsOf]
  rw [if_neg (by decide), if_neg (by decide), if_pos trivial, zip_map_snd, sortP_map, List.map_map, List.map_map]
  rfl
theorem lay_array (t : ByteArray) (l : List JV) (names : List ByteArray) : lay (.mk 5 t l names) = 91 :: (commas (l.map lay) ++ [93]) := by
  simp only [lay, layAll_map]
  rw [if_neg (by decide), if_neg (by decide), if_neg (by decide), if_neg (by decide), if_neg (by decide), if_pos trivial]
theorem norm_array (t : ByteArray) (l : List JV) (names : List ByteArray) : norm (.mk 5 t l names) = .mk 5 ByteArray.empty (l.map norm) [] := by
  simp only [norm, normAll_map]
  rw [if_neg (by decide), if_pos trivial]
theorem lay_text (t : ByteArray) (l : List JV) (names : List ByteArray) : lay (.mk 4 t l names) = quote (raw t) := by
  simp only [lay]
  rw [if_neg (by decide), if_neg (by decide), if_neg (by decide), if_neg (by decide), if_pos trivial]
theorem lay_number (t : ByteArray) (l : List JV) (names : List ByteArray) : lay (.mk 3 t l names) = raw t := by
  simp only [lay]
  rw [if_neg (by decide), if_neg (by decide), if_neg (by decide), if_pos trivial]
theorem lay_word (k : Int) (h0 : 0 ≤ k) (h2 : k ≤ 2) (t : ByteArray) (l : List JV) (names : List ByteArray) :
    lay (.mk k t l names) = (if k = 0 then wNull else if k = 1 then wFalse else wTrue) ∧ norm (.mk k t l names) = .mk k ByteArray.empty [] [] := by
  have hk : k = 0 ∨ k = 1 ∨ k = 2 := by omega
  rcases hk with rfl | rfl | rfl
  · simp only [lay, norm]; exact ⟨rfl, rfl⟩
  · simp only [lay, norm]; exact ⟨rfl, rfl⟩
  · simp only [lay, norm]; exact ⟨rfl, rfl⟩

/-- How a text that is laid begins. -/
def HeadOk (l : List UInt8) : Prop := ∃ c r, l = c :: r ∧ isBlank c = false ∧ c ≠ 93 ∧ c ≠ 125
theorem HeadOk.blanks {l : List UInt8} (h : HeadOk l) (r : List UInt8) : blanks (l ++ r) = l ++ r := by
  obtain ⟨c, l', rfl, h1, _⟩ := h
  simp [YthjcolehccbihaaDoor.blanks, h1]
theorem digit_head {c : UInt8} (h : c = 45 ∨ isDigit c = true) : isBlank c = false ∧ c ≠ 93 ∧ c ≠ 125 ∧ c ≠ 34 ∧ c ≠ 123 ∧ c ≠ 91 := by
  rcases h with rfl | h
  · decide
  · unfold isDigit at h
    simp only [Bool.and_eq_true, decide_eq_true_eq, u8le] at h
    have a : (48 : UInt8).toNat = 48 := rfl
    have b : (57 : UInt8).toNat = 57 := rfl
    rw [a, b] at h
    unfold isBlank
    simp only [Bool.or_eq_false_iff, beq_eq_false_iff_ne, ne_eq, u8eq]
    have c1 : (32 : UInt8).toNat = 32 := rfl
    have c2 : (9 : UInt8).toNat = 9 := rfl
    have c3 : (10 : UInt8).toNat = 10 := rfl
    have c4 : (13 : UInt8).toNat = 13 := rfl
    have c5 : (93 : UInt8).toNat = 93 := rfl
    have c6 : (125 : UInt8).toNat = 125 := rfl
    have c7 : (34 : UInt8).toNat = 34 := rfl
    have c8 : (123 : UInt8).toNat = 123 := rfl
    have c9 : (91 : UInt8).toNat = 91 := rfl
    rw [c1, c2, c3, c4, c5, c6, c7, c8, c9]
    omega
theorem lay_head {d : Nat} {v : JV} (h : chk d v = 0) : HeadOk (lay v) := by
  cases v with
  | mk k t l names =>
    obtain ⟨o, _⟩ := chk_zero.1 h
    have a := o.k0
    have b := o.k6
    by_cases h2 : k ≤ 2
    · rw [(lay_word k a h2 t l names).1]
      split
      · exact ⟨110, _, rfl, by decide, by decide, by decide⟩
      · split
        · exact ⟨102, _, rfl, by decide, by decide, by decide⟩
        · exact ⟨116, _, rfl, by decide, by decide, by decide⟩
    · have hk : k = 3 ∨ k = 4 ∨ k = 5 ∨ k = 6 := by omega
      rcases hk with rfl | rfl | rfl | rfl
      · rw [lay_number]
        obtain ⟨c, r, e, hc⟩ := literal_head (o.num rfl)
        have := digit_head hc
        exact ⟨c, r, e, this.1, this.2.1, this.2.2.1⟩
      · rw [lay_text]; exact ⟨34, _, rfl, by decide, by decide, by decide⟩
      · rw [lay_array]; exact ⟨91, _, rfl, by decide, by decide, by decide⟩
      · rw [lay_object]; exact ⟨123, _, rfl, by decide, by decide, by decide⟩
theorem NumEnd.sign {c : UInt8} (r : List UInt8) (h : isDigit c = false ∧ (c == 46) = false ∧ isE c = false) : NumEnd (c :: r) := by
  intro c' r' e; injection e with e1 e2; subst e1; exact h
theorem commas_cons (x : List UInt8) (l : List (List UInt8)) (h : l ≠ []) : commas (x :: l) = x ++ 44 :: commas l := by
  cases l with
  | nil => exact absurd rfl h
  | cons y l => rfl
theorem blanks_sign {c : UInt8} (h : isBlank c = false) (r : List UInt8) : blanks (c :: r) = c :: r := by simp [blanks, h]

section
variable {val : List UInt8 → Out JV}
/-- Values with commas between, and the bracket behind them, are read. -/
theorem elemsN_laid (rest : List UInt8) : ∀ (vs : List JV) (n : Nat) (acc : List JV), vs ≠ [] → vs.length ≤ n → acc.length + vs.length ≤ 1000 →
    (∀ v ∈ vs, HeadOk (lay v) ∧ ∀ r, NumEnd r → val (lay v ++ r) = .ok (norm v) r) →
    elemsN val n acc (commas (vs.map lay) ++ 93 :: rest) = .ok (acc ++ vs.map norm) rest
  | [], _, _, h, _, _, _ => absurd rfl h
  | v :: vs, 0, _, _, h, _, _ => by simp at h
  | v :: vs, n + 1, acc, _, hn, hm, hv => by
    obtain ⟨hh, hr⟩ := hv v List.mem_cons_self
    simp only [List.length_cons] at hn hm
    have hne : ¬ (acc.length = 1000 ∧ begins (blanks (commas ((v :: vs).map lay) ++ 93 :: rest)) = true) := by omega
    unfold elemsN
    rw [if_neg hne]
    by_cases he : vs = []
    · subst he
      have e : commas ([v].map lay) ++ 93 :: rest = lay v ++ 93 :: rest := rfl
      rw [e, hh.blanks, hr _ (NumEnd.sign _ (by decide))]
      simp only [Out.andThen_ok]
      rw [blanks_sign (by decide)]
      simp
    · have e : commas ((v :: vs).map lay) ++ 93 :: rest = lay v ++ 44 :: (commas (vs.map lay) ++ 93 :: rest) := by
        rw [List.map_cons, commas_cons _ _ (by simpa using he)]
        simp
      rw [e, hh.blanks, hr _ (NumEnd.sign _ (by decide))]
      simp only [Out.andThen_ok]
      rw [blanks_sign (by decide)]
      have := elemsN_laid rest vs n (acc ++ [norm v]) he (by omega) (by simp; omega) fun x hx => hv x (List.mem_cons_of_mem _ hx)
      simpa using this
/-- Members too. -/
theorem membersN_laid (rest : List UInt8) : ∀ (ps : List (List UInt8 × JV)) (n : Nat) (acc : List JV) (names : List ByteArray), ps ≠ [] → ps.length ≤ n → acc.length + ps.length ≤ 1000 →
    (names.map raw ++ ps.map (·.1)).Nodup →
    (∀ p ∈ ps, valid p.1 = true ∧ HeadOk (lay p.2) ∧ ∀ r, NumEnd r → val (lay p.2 ++ r) = .ok (norm p.2) r) →
    membersN val n acc names (commas (ps.map fun p => layPair (p.1, lay p.2)) ++ 125 :: rest) = .ok (acc ++ ps.map (fun p => norm p.2), names ++ ps.map fun p => str p.1) rest
  | [], _, _, _, h, _, _, _, _ => absurd rfl h
  | p :: ps, 0, _, _, _, h, _, _, _ => by simp at h
  | p :: ps, n + 1, acc, names, _, hn, hm, hd, hv => by
    obtain ⟨hval, hh, hr⟩ := hv p List.mem_cons_self
    simp only [List.length_cons] at hn hm
    have hp : layPair (p.1, lay p.2) = 34 :: (p.1.flatMap quoteByte ++ 34 :: 58 :: lay p.2) := by simp [layPair, quote]
    have hnotin : ¬ p.1 ∈ names.map raw := by
      intro h
      have := (List.nodup_append.1 hd).2.2 _ h p.1 (by simp)
      exact this rfl
    have step : ∀ tail, membersN val (n + 1) acc names (layPair (p.1, lay p.2) ++ tail) =
        (val (blanks (lay p.2 ++ tail))).andThen fun v l4 => match blanks l4 with
          | [] => .bad 0 11
          | c :: r => if c = 125 then .ok (acc ++ [v], names ++ [str p.1]) r else if c = 44 then membersN val n (acc ++ [v]) (names ++ [str p.1]) r else .bad (r.length + 1) 11 := by
      intro tail
      rw [hp]
      simp only [List.cons_append, membersN]
      rw [blanks_sign (by decide)]
      dsimp only
      rw [if_neg (by decide), if_neg (by omega)]
      have e : p.1.flatMap quoteByte ++ 34 :: 58 :: lay p.2 ++ tail = p.1.flatMap quoteByte ++ 34 :: (58 :: (lay p.2 ++ tail)) := by simp
      rw [e, text_quoted hval]
      simp only [Out.andThen_ok]
      rw [if_neg hnotin, blanks_sign (by decide)]
      simp only [musts, if_true, Out.andThen_ok]
      rfl
    by_cases he : ps = []
    · subst he
      have e : commas ([p].map fun p => layPair (p.1, lay p.2)) ++ 125 :: rest = layPair (p.1, lay p.2) ++ 125 :: rest := rfl
      rw [e, step, hh.blanks, hr _ (NumEnd.sign _ (by decide))]
      simp only [Out.andThen_ok]
      rw [blanks_sign (by decide)]
      simp
    · have e : commas ((p :: ps).map fun p => layPair (p.1, lay p.2)) ++ 125 :: rest = layPair (p.1, lay p.2) ++ 44 :: (commas (ps.map fun p => layPair (p.1, lay p.2)) ++ 125 :: rest) := by
        rw [List.map_cons, commas_cons _ _ (by simpa using he)]
        simp
      rw [e, step, hh.blanks, hr _ (NumEnd.sign _ (by decide))]
      simp only [Out.andThen_ok]
      rw [blanks_sign (by decide)]
      have := membersN_laid rest ps n (acc ++ [norm p.2]) (names ++ [str p.1]) he (by omega) (by simp; omega)
        (by have hraw : raw (str p.1) = p.1 := str_toList _
            simpa [hraw] using hd) fun x hx => hv x (List.mem_cons_of_mem _ hx)
      simpa using this
end
theorem mem_pairs {names : List ByteArray} {l : List JV} {p : List UInt8 × JV} (h : p ∈ pairsOf names l) : (∃ s ∈ names, raw s = p.1) ∧ p.2 ∈ l := by
  have := (sortP_perm _).mem_iff.1 h
  obtain ⟨a, b⟩ := List.of_mem_zip this
  exact ⟨by simpa using a, b⟩
theorem pairs_len {names : List ByteArray} {l : List JV} (h : names.length = l.length) : (pairsOf names l).length = l.length := by
  unfold pairsOf
  rw [(sortP_perm _).length_eq, List.length_zip, List.length_map, h, Nat.min_self]
theorem zip_fst {α β : Type} : ∀ (a : List α) (b : List β), a.length = b.length → (a.zip b).map (·.1) = a
  | [], _, _ => by simp
  | _ :: _, [], h => by simp at h
  | x :: a, y :: b, h => by simp only [List.zip_cons_cons, List.map_cons]; rw [zip_fst a b (by simpa using h)]
theorem zip_snd {α β : Type} : ∀ (a : List α) (b : List β), a.length = b.length → (a.zip b).map (·.2) = b
  | [], [], _ => by simp
  | [], _ :: _, h => by simp at h
  | _ :: _, [], h => by simp at h
  | x :: a, y :: b, h => by simp only [List.zip_cons_cons, List.map_cons]; rw [zip_snd a b (by simpa using h)]
theorem pairs_names {names : List ByteArray} {l : List JV} (h : names.length = l.length) : ((pairsOf names l).map (·.1)).Perm (names.map raw) := by
  have := (sortP_perm ((names.map raw).zip l)).map (·.1)
  rwa [zip_fst _ _ (by simpa using h)] at this
theorem pairs_rises {names : List ByteArray} {l : List JV} (h : names.length = l.length) (hd : distinct (names.map raw) = true) : Rises (pairsOf names l) :=
  sortP_rises _ (by rw [zip_fst _ _ (by simpa using h)]; exact (distinct_nodup _).1 hd)
theorem musts_read : ∀ (w r : List UInt8), musts w (w ++ r) = .ok () r
  | [], r => rfl
  | c :: w, r => by simp only [List.cons_append, musts, if_true]; exact musts_read w r
theorem commas_len : ∀ (l : List (List UInt8)), l.length ≤ (commas l).length + 1
  | [] => by simp
  | [x] => by simp
  | x :: y :: l => by have := commas_len (y :: l); simp only [commas, List.length_append, List.length_cons] at this ⊢; omega
/-- A value that may be laid is read back. -/
theorem value_laid : ∀ (v : JV) (d D : Nat), d + D = 32 → chk d v = 0 → ∀ r, NumEnd r → value D (lay v ++ r) = .ok (norm v) r := by
  refine JV.ind fun k t l names ih d D hD hc r hr => ?_
  obtain ⟨o, hl⟩ := chk_zero.1 hc
  have a := o.k0
  have b := o.k6
  have sc : ∀ c s, c ≠ 123 → c ≠ 91 → value D (c :: s) = scalar (c :: s) := by
    intro c s h1 h2
    cases D with
    | zero => unfold value; dsimp only; rw [if_neg (by rintro (h | h); exact h1 h; exact h2 h)]
    | succ D => unfold value; dsimp only; rw [if_neg h1, if_neg h2]
  by_cases h2 : k ≤ 2
  · obtain ⟨e1, e2⟩ := lay_word k a h2 t l names
    rw [e1, e2]
    have hk : k = 0 ∨ k = 1 ∨ k = 2 := by omega
    rcases hk with rfl | rfl | rfl
    · have := musts_read wNull r
      simp only [if_true, wNull, List.cons_append] at this ⊢
      rw [sc _ _ (by decide) (by decide)]
      simp only [scalar]
      rw [if_neg (by decide), if_neg (by decide), if_pos trivial]
      simp only [wNull, this, Out.andThen_ok]
    · have := musts_read wFalse r
      simp only [show ¬ ((1 : Int) = 0) by decide, if_false, if_true, wFalse, List.cons_append] at this ⊢
      rw [sc _ _ (by decide) (by decide)]
      simp only [scalar]
      rw [if_neg (by decide), if_neg (by decide), if_neg (by decide), if_pos trivial]
      simp only [wFalse, this, Out.andThen_ok]
    · have := musts_read wTrue r
      simp only [show ¬ ((2 : Int) = 0) by decide, show ¬ ((2 : Int) = 1) by decide, if_false, wTrue, List.cons_append] at this ⊢
      rw [sc _ _ (by decide) (by decide)]
      simp only [scalar]
      rw [if_neg (by decide), if_neg (by decide), if_neg (by decide), if_neg (by decide), if_pos trivial]
      simp only [wTrue, this, Out.andThen_ok]
  · have hk : k = 3 ∨ k = 4 ∨ k = 5 ∨ k = 6 := by omega
    rcases hk with rfl | rfl | rfl | rfl
    · rw [lay_number]
      have hnum := number_read (o.num rfl) hr
      obtain ⟨c, s, e, hcd⟩ := literal_head (o.num rfl)
      have hd := digit_head hcd
      have e2 : norm (.mk 3 t l names) = .mk 3 (str (raw t)) [] [] := by rw [show str (raw t) = t from str_of t]; simp only [norm]; rw [if_pos (.inl trivial)]
      rw [e2, ← hnum, e, List.cons_append, sc _ _ hd.2.2.2.2.1 hd.2.2.2.2.2]
      simp only [scalar]
      rw [if_neg hd.2.2.2.1, if_pos hcd]
    · rw [lay_text]
      have e2 : norm (.mk 4 t l names) = .mk 4 (str (raw t)) [] [] := by rw [show str (raw t) = t from str_of t]; simp only [norm]; rw [if_pos (.inr trivial)]
      rw [e2]
      have : quote (raw t) ++ r = 34 :: ((raw t).flatMap quoteByte ++ 34 :: r) := by simp [quote]
      rw [this, sc _ _ (by decide) (by decide)]
      simp only [scalar, if_true, text_quoted (o.txt rfl), Out.andThen_ok]
    · have hd := o.deep (by omega)
      have hm := o.many (by omega)
      obtain ⟨D, rfl⟩ : ∃ D', D = D' + 1 := ⟨D - 1, by omega⟩
      rw [lay_array, norm_array]
      have e : 91 :: (commas (l.map lay) ++ [93]) ++ r = 91 :: (commas (l.map lay) ++ 93 :: r) := by simp
      rw [e]
      unfold value; dsimp only
      rw [if_neg (by decide), if_pos rfl]
      unfold array
      by_cases he : l = []
      · subst he
        simp [commas, blanks, isBlank, mayBe]
      · have hall : ∀ v ∈ l, HeadOk (lay v) ∧ ∀ r, NumEnd r → value D (lay v ++ r) = .ok (norm v) r := fun v hv =>
          ⟨lay_head (hl (by omega) v hv), ih v hv (d + 1) D (by omega) (hl (by omega) v hv)⟩
        have hhead : HeadOk (commas (l.map lay)) := by
          cases l with
          | nil => exact absurd rfl he
          | cons v l =>
            obtain ⟨c, s, e9, h1, h2, h3⟩ := (hall v List.mem_cons_self).1
            by_cases hl2 : l = []
            · subst hl2; exact ⟨c, s, e9, h1, h2, h3⟩
            · rw [List.map_cons, commas_cons _ _ (by simpa using hl2), e9]
              exact ⟨c, _, rfl, h1, h2, h3⟩
        rw [hhead.blanks]
        have hno : (mayBe (· == 93) (commas (l.map lay) ++ 93 :: r)).1 = false := by
          obtain ⟨c, s, e, h1, h2, h3⟩ := hhead
          rw [e]; simp [mayBe, h2]
        rw [if_neg (by rw [hno]; decide)]
        rw [elemsN_laid r l _ [] he (by have := commas_len (l.map lay); simp at this ⊢; omega) (by simpa using hm) hall]
        simp
    · have hd := o.deep (by omega)
      have hm := o.many (by omega)
      obtain ⟨hvalid, hlen, hdist⟩ := o.names rfl
      obtain ⟨D, rfl⟩ : ∃ D', D = D' + 1 := ⟨D - 1, by omega⟩
      rw [lay_object, norm_object]
      have hpl := pairs_len hlen
      have hpn := pairs_rises hlen hdist
      have hall : ∀ p ∈ pairsOf names l, valid p.1 = true ∧ HeadOk (lay p.2) ∧ ∀ r, NumEnd r → value D (lay p.2 ++ r) = .ok (norm p.2) r := fun p hp => by
        obtain ⟨⟨s, hs, hs2⟩, hp2⟩ := mem_pairs hp
        exact ⟨by rw [← hs2]; exact hvalid s hs, lay_head (hl (by omega) _ hp2), ih _ hp2 (d + 1) D (by omega) (hl (by omega) _ hp2)⟩
      generalize pairsOf names l = ps at hpl hpn hall
      have e : 123 :: (commas (ps.map fun p => layPair (p.1, lay p.2)) ++ [125]) ++ r = 123 :: (commas (ps.map fun p => layPair (p.1, lay p.2)) ++ 125 :: r) := by simp
      rw [e]
      unfold value; dsimp only
      rw [if_pos rfl]
      unfold object
      by_cases he : ps = []
      · subst he
        simp [commas, blanks, isBlank, mayBe]
      · have hhead : HeadOk (commas (ps.map fun p => layPair (p.1, lay p.2))) := by
          cases ps with
          | nil => exact absurd rfl he
          | cons v l =>
            by_cases hl2 : l = []
            · subst hl2; exact ⟨34, _, rfl, by decide, by decide, by decide⟩
            · rw [List.map_cons, commas_cons _ _ (by simpa using hl2)]
              exact ⟨34, _, rfl, by decide, by decide, by decide⟩
        rw [hhead.blanks]
        have hno : (mayBe (· == 125) (commas (ps.map fun p => layPair (p.1, lay p.2)) ++ 125 :: r)).1 = false := by
          obtain ⟨c, s, e, h1, h2, h3⟩ := hhead
          rw [e]; simp [mayBe, h3]
        rw [if_neg (by rw [hno]; decide)]
        rw [membersN_laid r ps _ [] [] he (by have := commas_len (ps.map fun p => layPair (p.1, lay p.2)); simp at this ⊢; omega) (by simp; omega) (by simpa using nodup_of_rises hpn) hall]
        simp
end Go.Proofs.YthjcolehccbihaaDoor
