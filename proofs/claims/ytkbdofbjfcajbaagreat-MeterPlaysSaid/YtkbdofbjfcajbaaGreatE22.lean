/- What many events leave, in whatever order; a time's totals and its parts', plain. No program. -/
import Derived.Test.YtkbdofbjfcajbaaGreatE19
namespace Go.Proofs.YtkbdofbjfcajbaaGreat
open Go.RowKit

theorem rise_ext {K V : Type} {lt : K → K → Bool} (H : KeyOrd lt) : ∀ (l m : List (K × V)), Rise lt l → Rise lt m → (∀ x, x ∈ l ↔ x ∈ m) → l = m
  | [], [], _, _, _ => rfl
  | [], b :: m, _, _, h => by have := (h b).2 (by simp); simp at this
  | a :: l, [], _, _, h => by have := (h a).1 (by simp); simp at this
  | a :: l, b :: m, h1, h2, h => by
    obtain ⟨p1, q1⟩ := List.pairwise_cons.1 h1
    obtain ⟨p2, q2⟩ := List.pairwise_cons.1 h2
    have e : a = b := by
      rcases List.mem_cons.1 ((h a).1 (by simp)) with e | ha
      · exact e
      rcases List.mem_cons.1 ((h b).2 (by simp)) with e | hb
      · exact e.symm
      have := H.tr _ _ _ (p1 b hb) (p2 a ha)
      rw [H.irr] at this; cases this
    subst e
    rw [rise_ext H l m q1 q2 fun x => ?_]
    constructor
    · intro hx
      rcases List.mem_cons.1 ((h x).1 (by simp [hx])) with e | hm
      · subst e; have := p1 _ hx; rw [H.irr] at this; cases this
      · exact hm
    · intro hx
      rcases List.mem_cons.1 ((h x).2 (by simp [hx])) with e | hm
      · subst e; have := p2 _ hx; rw [H.irr] at this; cases this
      · exact hm
/-- Two rising lists that find the same are the same. -/
theorem rise_find {V : Type} {l m : List (ByteArray × V)} (hl : Rise slt l) (hm : Rise slt m) (h : ∀ k, findL slt l k = findL slt m k) : l = m :=
  rise_ext slt_ord l m hl hm fun x => ⟨fun hx => Kv.find_mem (by rw [← h]; exact Kv.find_of_mem hl hx) hm, fun hx => Kv.find_mem (by rw [h]; exact Kv.find_of_mem hm hx) hl⟩
/-- Many events, one behind the other. -/
def runs (s : MSt) (l : List Ev) : MSt := l.foldl ingS s
theorem runs_snoc (s : MSt) (l : List Ev) (x : Ev) : runs s (l ++ [x]) = ingS (runs s l) x := by unfold runs; rw [List.foldl_append]; rfl
theorem runs_ok (l : List Ev) {s : MSt} {k : Nat} (h : MOk s k) : MOk (runs s l) (k + l.length) := by
  induction l generalizing s k with
  | nil => exact h
  | cons x l ih => have := ih (ing_ok (v := x) h); rw [List.length_cons, show k + (l.length + 1) = k + 1 + l.length from by omega]; exact this
/-- No two unlike ones have one key. -/
def Alike (L : List Ev) : Prop := ∀ x ∈ L, ∀ y ∈ L, x.key = y.key → x = y
/-- What is there: just those that may be. -/
def Holds (s : MSt) (M : List Ev) : Prop := ∀ k v, findL slt s.t.ino k = some v ↔ v ∈ M ∧ v.key = k ∧ checkE v = 0
theorem holds_put {s : MSt} {M : List Ev} {x : Ev} {k : Nat} (hL : Alike (x :: M)) (h : Holds s M) (ok : MOk s k) (hk : k < 5000) : Holds (ingS s x) (x :: M) := by
  have hsame : (x ∈ M ∨ checkE x ≠ 0) → Holds s (x :: M) := fun hx k' v => by
    rw [h k' v]
    constructor
    · rintro ⟨h1, h2⟩; exact ⟨List.mem_cons_of_mem _ h1, h2⟩
    · rintro ⟨h1, h2, h3⟩
      rcases List.mem_cons.1 h1 with rfl | h1
      · rcases hx with hx | hx
        · exact ⟨hx, h2, h3⟩
        · exact absurd h3 hx
      · exact ⟨h1, h2, h3⟩
  cases ing_cases s x ok.rise with
  | bad c hc hc2 _ hs => rw [hs]; exact hsame (.inr (by rw [hc2]; exact hc))
  | known hc hf _ hs => rw [hs]; exact hsame (.inl ((h x.key x).1 hf).1)
  | other u hc hf hu _ hs =>
    have := (h x.key u).1 hf
    exact absurd (hL u (List.mem_cons_of_mem _ this.1) x (by simp) this.2.1) hu
  | full hc _ hb _ hs => have := ok.size; omega
  | taken hc hf _ _ hs =>
    rw [hs]
    intro k' v
    show findL slt (s.t.put slt x.key x).ino k' = some v ↔ _
    rw [ino_put slt_ord s.t ok.rise]
    by_cases e : k' = x.key
    · subst e
      rw [Kv.find_put ok.rise]
      constructor
      · intro e; cases e; exact ⟨by simp, rfl, hc⟩
      · rintro ⟨h1, h2, _⟩; rw [hL v h1 x (by simp) h2]
    · rw [Kv.find_put_ne ok.rise e, h k' v]
      constructor
      · rintro ⟨h1, h2⟩; exact ⟨List.mem_cons_of_mem _ h1, h2⟩
      · rintro ⟨h1, h2, h3⟩
        rcases List.mem_cons.1 h1 with rfl | h1
        · exact absurd h2.symm e
        · exact ⟨h1, h2, h3⟩
theorem holds_congr {s : MSt} {M N : List Ev} (h : Holds s M) (he : ∀ x, x ∈ M ↔ x ∈ N) : Holds s N := fun k v => by rw [h k v, he v]
theorem holds_runs (L : List Ev) (hL : Alike L) : ∀ (l : List Ev) (s : MSt) (M : List Ev) (k : Nat), (∀ x ∈ l, x ∈ L) → (∀ x ∈ M, x ∈ L) → Holds s M → MOk s k → k + l.length < 5000 → Holds (runs s l) (l ++ M)
  | [], s, M, k, _, _, h, _, _ => h
  | x :: l, s, M, k, h1, h2, h, ok, hk => by
    rw [List.length_cons] at hk
    have hx := h1 x (by simp)
    have hA : Alike (x :: M) := fun a ha b hb => hL a (by rcases List.mem_cons.1 ha with rfl | ha; exact hx; exact h2 a ha) b (by rcases List.mem_cons.1 hb with rfl | hb; exact hx; exact h2 b hb)
    have hp := holds_put hA h ok (by omega)
    have := holds_runs L hL l (ingS s x) (x :: M) (k + 1) (fun y hy => h1 y (by simp [hy])) (fun y hy => by rcases List.mem_cons.1 hy with rfl | hy; exact hx; exact h2 y hy) hp (ing_ok ok) (by omega)
    refine holds_congr this fun y => ?_
    simp only [List.mem_append, List.mem_cons]
    constructor
    · rintro (h | h | h)
      · exact .inl (.inr h)
      · exact .inl (.inl h)
      · exact .inr h
    · rintro ((h | h) | h)
      · exact .inr (.inl h)
      · exact .inl h
      · exact .inr (.inr h)
abbrev ms0 : MSt := ⟨.leaf, 0, 0⟩
theorem holds0 : Holds ms0 [] := fun k v => by
  show findL slt [] k = some v ↔ _
  simp [findL]
/-- In whatever order, however often: the same is there. -/
theorem runs_same {L l m : List Ev} (hL : Alike L) (hl : ∀ x, x ∈ l ↔ x ∈ L) (hm : ∀ x, x ∈ m ↔ x ∈ L) (h1 : l.length < 5000) (h2 : m.length < 5000) : (runs ms0 l).t.ino = (runs ms0 m).t.ino := by
  have k1 := holds_runs L hL l ms0 [] 0 (fun x hx => (hl x).1 hx) (fun x hx => by cases hx) holds0 mok0 (by omega)
  have k2 := holds_runs L hL m ms0 [] 0 (fun x hx => (hm x).1 hx) (fun x hx => by cases hx) holds0 mok0 (by omega)
  rw [List.append_nil] at k1 k2
  have o1 := runs_ok l (s := ms0) mok0
  have o2 := runs_ok m (s := ms0) mok0
  refine rise_find o1.rise o2.rise fun k => ?_
  have h3 : ∀ v, findL slt (runs ms0 l).t.ino k = some v ↔ findL slt (runs ms0 m).t.ino k = some v := fun v => by rw [k1 k v, k2 k v, hl, hm]
  cases e1 : findL slt (runs ms0 l).t.ino k with
  | some v => exact ((h3 v).1 e1).symm
  | none =>
    cases e2 : findL slt (runs ms0 m).t.ino k with
    | none => rfl
    | some v => rw [(h3 v).2 e2] at e1; cases e1
/-- Totals don't ask for the events' order. -/
theorem totM_perm {L M : List Ev} (h : L.Perm M) : totM L = totM M := by
  refine rise_find (Kv.tally_rise _ _ _) (Kv.tally_rise _ _ _) fun k => ?_
  rw [tot_find, tot_find]
  have hp : (ofM k L).Perm (ofM k M) := h.filter _
  by_cases e : ofM k L = []
  · rw [if_pos e, if_pos (by rw [e] at hp; exact hp.nil_eq.symm)]
  · rw [if_neg e, if_neg (fun e2 => e (by rw [e2] at hp; exact hp.eq_nil)), qsum_zs, qsum_zs, zs_perm hp, hp.length_eq]
/-- Totals of what lies in a time. -/
abbrev totsOf (n : ByteArray) (a b : Int) (l : List (ByteArray × Ev)) : List Tot := (totM (if withinE n a b = 0 then selE n a b l else [])).map (·.2)
/-- What a list of totals says of a meter. -/
def qtyOf (k : ByteArray) (l : List Tot) : Int := zs (fun t => if t.mtr = k then t.qty else 0) l
def cntOf (k : ByteArray) (l : List Tot) : Int := zs (fun t => if t.mtr = k then t.cnt else 0) l
theorem zs_only {V : Type} (f : V → Int) : ∀ (l : List (ByteArray × V)), Rise slt l → ∀ k, zs (fun x : ByteArray × V => if x.1 = k then f x.2 else 0) l = match findL slt l k with | some v => f v | none => 0
  | [], _, k => by simp [zs, findL]
  | x :: l, h, k => by
    obtain ⟨p1, q1⟩ := List.pairwise_cons.1 h
    have ih := zs_only f l q1 k
    simp only [zs]
    by_cases e : x.1 = k
    · subst e
      have hf : findL slt (x :: l) x.1 = some x.2 := Kv.find_of_mem h (by simp)
      rw [hf, if_pos rfl, zs_zero l (fun y hy => if_neg (fun e2 => by have := p1 y hy; rw [e2, slt_ord.irr] at this; cases this))]
      simp
    · rw [if_neg e, ih]
      have hf : findL slt (x :: l) k = findL slt l k := Kv.find_congr h q1 fun y => by
        constructor
        · intro hy
          rcases List.mem_cons.1 hy with e2 | hy
          · exact absurd (by rw [← e2]) e
          · exact hy
        · intro hy; exact List.mem_cons_of_mem _ hy
      rw [hf, Int.zero_add]
theorem totM_key {L : List Ev} {x : ByteArray × Tot} (h : x ∈ totM L) : x.2.mtr = x.1 := by rw [tot_entry h]
theorem qty_of (L : List Ev) (k : ByteArray) : qtyOf k ((totM L).map (·.2)) = qsum (ofM k L) := by
  unfold qtyOf
  rw [zs_map, zs_congr (g := fun x : ByteArray × Tot => if x.1 = k then x.2.qty else 0) (fun x hx => by rw [totM_key hx]), zs_only (fun t : Tot => t.qty) _ (Kv.tally_rise _ _ _) k, tot_find]
  by_cases e : ofM k L = []
  · rw [if_pos e, e]; rfl
  · rw [if_neg e]
theorem cnt_of (L : List Ev) (k : ByteArray) : cntOf k ((totM L).map (·.2)) = (ofM k L).length := by
  unfold cntOf
  rw [zs_map, zs_congr (g := fun x : ByteArray × Tot => if x.1 = k then x.2.cnt else 0) (fun x hx => by rw [totM_key hx]), zs_only (fun t : Tot => t.cnt) _ (Kv.tally_rise _ _ _) k, tot_find]
  by_cases e : ofM k L = []
  · rw [if_pos e, e]; rfl
  · rw [if_neg e]
theorem within_range {n : ByteArray} {a b : Int} (h : withinE n a b = 0) : a ≤ b := by
  unfold withinE at h
  split at h
  · omega
  · split at h <;> omega
theorem sel_split {n : ByteArray} {a m b : Int} (l : List (ByteArray × Ev)) (h1 : a ≤ m) (h2 : m ≤ b) (k : ByteArray) :
    qsum (ofM k (selE n a m l)) + qsum (ofM k (selE n m b l)) = qsum (ofM k (selE n a b l)) ∧ (ofM k (selE n a m l)).length + (ofM k (selE n m b l)).length = (ofM k (selE n a b l)).length := by
  have hc : ∀ e : Ev, inE n a b e = (inE n a m e || inE n m b e) ∧ (inE n a m e = true → inE n m b e = false) := fun e => by
    unfold inE
    cases (e.acct.toList == n.toList) with
    | false => simp
    | true =>
      simp only [Bool.true_and]
      refine ⟨?_, fun h => ?_⟩
      · rw [Bool.eq_iff_iff]; simp only [Bool.and_eq_true, Bool.or_eq_true, decide_eq_true_eq]; omega
      · simp only [Bool.and_eq_true, decide_eq_true_eq, Bool.and_eq_false_iff, decide_eq_false_iff_not] at h ⊢; omega
  unfold selE ofM
  generalize l.map (·.2) = L
  induction L with
  | nil => simp [qsum]
  | cons e L ih =>
    have h := hc e
    simp only [List.filter_cons]
    rw [h.1]
    cases h1 : inE n a m e with
    | true =>
      rw [h.2 h1]
      simp only [Bool.true_or, if_true, Bool.false_eq_true, if_false, List.filter_cons]
      by_cases hk : e.mtr = k
      · simp only [hk, decide_true, if_true, qsum, List.length_cons]; omega
      · simp only [decide_eq_false hk, Bool.false_eq_true, if_false]; exact ih
    | false =>
      cases h2 : inE n m b e with
      | true =>
        simp only [Bool.or_true, if_true, Bool.false_eq_true, if_false, List.filter_cons]
        by_cases hk : e.mtr = k
        · simp only [hk, decide_true, if_true, qsum, List.length_cons]; omega
        · simp only [decide_eq_false hk, Bool.false_eq_true, if_false]; exact ih
      | false => simp only [Bool.or_self, Bool.false_eq_true, if_false]; exact ih
/-- A time's totals are its parts'. -/
theorem tots_split {n : ByteArray} {a m b : Int} (l : List (ByteArray × Ev)) (h1 : withinE n a b = 0) (h2 : withinE n a m = 0) (h3 : withinE n m b = 0) (k : ByteArray) :
    qtyOf k (totsOf n a m l) + qtyOf k (totsOf n m b l) = qtyOf k (totsOf n a b l) ∧ cntOf k (totsOf n a m l) + cntOf k (totsOf n m b l) = cntOf k (totsOf n a b l) := by
  unfold totsOf
  rw [if_pos h1, if_pos h2, if_pos h3, qty_of, qty_of, qty_of, cnt_of, cnt_of, cnt_of]
  have := sel_split (n := n) l (within_range h2) (within_range h3) k
  exact ⟨this.1, by omega⟩
theorem tots_at {n : ByteArray} {a b : Int} {l : List (ByteArray × Ev)} {t : Tot} (h : t ∈ totsOf n a b l) : t.qty = qtyOf t.mtr (totsOf n a b l) ∧ t.cnt = cntOf t.mtr (totsOf n a b l) := by
  obtain ⟨x, hx, rfl⟩ := List.mem_map.1 h
  rw [show x.2.mtr = x.1 from totM_key hx]
  unfold totsOf
  rw [qty_of, cnt_of, tot_entry hx]
  exact ⟨rfl, rfl⟩
theorem nodup_len : ∀ {l m : List ByteArray}, l.Nodup → (∀ x, x ∈ l → x ∈ m) → l.length ≤ m.length
  | [], _, _, _ => Nat.zero_le _
  | x :: l, m, hn, h => by
    rw [List.nodup_cons] at hn
    obtain ⟨a, b, rfl⟩ := List.append_of_mem (h x (by simp))
    have := nodup_len (m := a ++ b) hn.2 (fun y hy => by
      have hy2 := h y (by simp [hy])
      rcases List.mem_append.1 hy2 with h1 | h1
      · exact List.mem_append_left _ h1
      · rcases List.mem_cons.1 h1 with rfl | h1
        · exact absurd hy hn.1
        · exact List.mem_append_right _ h1)
    simp only [List.length_append, List.length_cons] at this ⊢
    omega
theorem tots_len {L M : List Ev} (h : ∀ x ∈ L, x ∈ M) : ((totM L).map (·.2)).length ≤ ((totM M).map (·.2)).length := by
  have h1 : ((totM L).map (·.1)).length = (totM L).length := List.length_map _
  have h2 : ((totM M).map (·.1)).length = (totM M).length := List.length_map _
  rw [List.length_map, List.length_map, ← h1, ← h2]
  have hn := rise_nodup (Kv.tally_rise (fun e : Ev => e.mtr) upT L)
  refine nodup_len hn ?_
  intro k hk
  obtain ⟨e, he, rfl⟩ := tally_from _ _ hk
  exact tally_has _ _ (h e he)
theorem tots_lens {n : ByteArray} {a m b : Int} (l : List (ByteArray × Ev)) (h1 : withinE n a b = 0) (h2 : withinE n a m = 0) (h3 : withinE n m b = 0) :
    (totsOf n a m l).length ≤ (totsOf n a b l).length ∧ (totsOf n m b l).length ≤ (totsOf n a b l).length := by
  unfold totsOf
  rw [if_pos h1, if_pos h2, if_pos h3]
  have e1 := within_range h2
  have e2 := within_range h3
  refine ⟨tots_len fun x hx => ?_, tots_len fun x hx => ?_⟩
  all_goals
    unfold selE at hx ⊢
    obtain ⟨h4, h5⟩ := List.mem_filter.1 hx
    refine List.mem_filter.2 ⟨h4, ?_⟩
    unfold inE at h5 ⊢
    simp only [Bool.and_eq_true, decide_eq_true_eq] at h5 ⊢
    exact ⟨h5.1, by omega⟩
end Go.Proofs.YtkbdofbjfcajbaaGreat
