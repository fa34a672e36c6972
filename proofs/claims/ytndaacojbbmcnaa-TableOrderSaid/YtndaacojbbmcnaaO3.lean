/- Trees that had keys put, in whatever order: plain facts; the reference's comparison of two slices of ints, walked. -/
import Derived.Test.YtndaacojbbmcnaaO2
import Derived.Test.YtndaacojbbmcnaaX6
namespace Go.Proofs.Ytndaacojbbmcnaa.Oi
open Go.RowKit Go.RwLone Go.Shelf Go.Proofs.Ytndaacojbbmcnaa
attribute [local go_sem] Oper.semAt_some

abbrev XS : ByteArray := { data := #[120] }
def putAll (l : List Int) : Tr Int ByteArray := l.foldl (fun t k => t.put ilt k XS) .leaf
theorem putAll_snoc (l : List Int) (k : Int) : putAll (l ++ [k]) = (putAll l).put ilt k XS := by simp [putAll, List.foldl_append]
theorem ne_iff_lt {K : Type} {lt : K → K → Bool} (H : KeyOrd lt) (a b : K) : a ≠ b ↔ (lt a b = true ∨ lt b a = true) := by
  constructor
  · intro h
    cases h1 : lt a b with
    | true => exact .inl rfl
    | false =>
      cases h2 : lt b a with
      | true => exact .inr rfl
      | false => exact absurd (H.eq _ _ h1 h2) h
  · rintro (h | h) e
    · subst e; rw [H.irr] at h; cases h
    · subst e; rw [H.irr] at h; cases h
theorem mem_putL {K V : Type} {lt : K → K → Bool} (H : KeyOrd lt) (m : List (K × V)) (k : K) (v : V) (x : K × V) : x ∈ putL lt m k v ↔ (x ∈ m ∧ x.1 ≠ k) ∨ x = (k, v) := by
  unfold putL
  rw [List.mem_append, List.mem_cons, List.mem_filter, List.mem_filter, ne_iff_lt H]
  constructor
  · rintro (⟨h1, h2⟩ | h | ⟨h1, h2⟩)
    · exact .inl ⟨h1, .inl h2⟩
    · exact .inr h
    · exact .inl ⟨h1, .inr h2⟩
  · rintro (⟨h1, h2 | h2⟩ | h)
    · exact .inl ⟨h1, h2⟩
    · exact .inr (.inr ⟨h1, h2⟩)
    · exact .inr (.inl h)
theorem rise_foldl (l : List Int) : ∀ t : Tr Int ByteArray, Rise ilt t.ino → Rise ilt (l.foldl (fun t k => t.put ilt k XS) t).ino := by
  induction l with
  | nil => exact fun t h => h
  | cons k l ih => exact fun t h => ih _ (rise_put ilt_ord h k XS)
theorem rise_putAll (l : List Int) : Rise ilt (putAll l).ino := rise_foldl l .leaf (by simp [Tr.ino, Rise])
theorem mem_foldl (l : List Int) : ∀ t : Tr Int ByteArray, Rise ilt t.ino → ∀ x, x ∈ (l.foldl (fun t k => t.put ilt k XS) t).ino ↔ (x ∈ t.ino ∧ x.1 ∉ l) ∨ (x.1 ∈ l ∧ x.2 = XS) := by
  induction l with
  | nil => intro t _ x; simp
  | cons k l ih =>
    intro t h x
    rw [List.foldl_cons, ih _ (rise_put ilt_ord h k XS), ino_put ilt_ord t h, mem_putL ilt_ord]
    simp only [List.mem_cons, not_or]
    by_cases e : x.1 ∈ l
    · simp [e]
    · by_cases e2 : x.1 = k
      · constructor
        · rintro (⟨⟨_, h⟩ | h, _⟩ | ⟨h, _⟩)
          · exact absurd e2 h
          · exact .inr ⟨.inl e2, by rw [h]⟩
          · exact absurd h e
        · rintro (⟨_, h, _⟩ | ⟨_, h⟩)
          · exact absurd e2 h
          · exact .inl ⟨.inr (Prod.ext e2 h), e⟩
      · have : x ≠ (k, XS) := fun h => e2 (by rw [h])
        simp [e, e2, this]
theorem mem_putAll (l : List Int) (x : Int × ByteArray) : x ∈ (putAll l).ino ↔ x.1 ∈ l ∧ x.2 = XS := by
  rw [putAll, mem_foldl l .leaf (by simp [Tr.ino, Rise])]; simp [Tr.ino]
theorem rise_ext {K V : Type} {lt : K → K → Bool} (H : KeyOrd lt) : ∀ (l m : List (K × V)), Rise lt l → Rise lt m → (∀ x, x ∈ l ↔ x ∈ m) → l = m
  | [], [], _, _, _ => rfl
  | [], b :: m, _, _, h => by have := (h b).2 (by simp); simp at this
  | a :: l, [], _, _, h => by have := (h a).1 (by simp); simp at this
  | a :: l, b :: m, h1, h2, h => by
    obtain ⟨p1, q1⟩ := List.pairwise_cons.1 h1
    obtain ⟨p2, q2⟩ := List.pairwise_cons.1 h2
    have e : a = b := by
      rcases List.mem_cons.1 ((h a).1 (by simp)) with e | ha
      · exact e
      rcases List.mem_cons.1 ((h b).2 (by simp)) with e | hb
      · exact e.symm
      have := H.tr _ _ _ (p1 b hb) (p2 a ha)
      rw [H.irr] at this; cases this
    subst e
    rw [rise_ext H l m q1 q2 fun x => ?_]
    constructor
    · intro hx
      rcases List.mem_cons.1 ((h x).1 (by simp [hx])) with e | hm
      · subst e; have := p1 _ hx; rw [H.irr] at this; cases this
      · exact hm
    · intro hx
      rcases List.mem_cons.1 ((h x).2 (by simp [hx])) with e | hm
      · subst e; have := p2 _ hx; rw [H.irr] at this; cases this
      · exact hm
theorem putAll_rev (l : List Int) : (putAll l.reverse).ino = (putAll l).ino :=
  rise_ext ilt_ord _ _ (rise_putAll _) (rise_putAll _) fun x => by rw [mem_putAll, mem_putAll]; simp
theorem find_mem {K V : Type} {lt : K → K → Bool} (H : KeyOrd lt) {m : List (K × V)} (hr : Rise lt m) {k : K} {v : V} (h : (k, v) ∈ m) : findL lt m k = some v := by
  obtain ⟨a, b, rfl⟩ := List.append_of_mem h
  exact findL_eq H hr
theorem get_putAll (l : List Int) (k : Int) (h : k ∈ l) : (putAll l).get ilt k = some XS := by
  rw [get_ino ilt_ord _ (rise_putAll l)]
  exact find_mem ilt_ord (rise_putAll l) ((mem_putAll l (k, XS)).2 ⟨h, rfl⟩)
theorem size_putAll (l : List Int) : (putAll l).size ≤ l.length := by
  have : ∀ (l : List Int) (t : Tr Int ByteArray), (l.foldl (fun t k => t.put ilt k XS) t).size ≤ t.size + l.length := by
    intro l
    induction l with
    | nil => intro t; simp
    | cons k l ih =>
      intro t
      have h := ih (t.put ilt k XS)
      have h2 := size_put (lt := ilt) t k XS
      simp only [List.foldl_cons, List.length_cons]
      omega
  have := this l .leaf
  simpa [putAll, Tr.size] using this

/-- A slice of ints as the walk reads it. -/
def IntsAt (w : World) (v : Value) (xs : List Int) : Prop :=
  ∃ (a : Option Addr) (cap : Nat), v = .slice a xs.length cap ∧ ∀ (j : Nat) (x : Int), xs[j]? = some x → ∃ g off, a = some ⟨g, off, none⟩ ∧ w.cell? ⟨g, off + j, none⟩ = some (.int .i64 x)
theorem IntsAt.below {w w' : World} {v : Value} {xs : List Int} (h : IntsAt w v xs) (hk : Below w.heap.size w w') : IntsAt w' v xs := by
  obtain ⟨a, cap, rfl, h⟩ := h
  refine ⟨a, cap, rfl, fun j x hx => ?_⟩
  obtain ⟨g, off, e, c⟩ := h j x hx
  exact ⟨g, off, e, (hk.cell (p := ⟨g, off + j, none⟩) (World.block_lt_of_cell? w _ c)).trans c⟩
abbrev encI (x : Int) : List Value := [.int .i64 x]
theorem ints_of_row {w : World} {base : Nat} {v : Value} {xs : List Int} (h : RowOf encI 3 1 w base v xs) : IntsAt w v xs := by
  rcases h.shape with ⟨rfl, rfl⟩ | ⟨g, cap, rfl, _⟩
  · exact ⟨none, 0, rfl, fun j x hx => by simp at hx⟩
  · exact ⟨_, cap, rfl, fun j x hx => ⟨g, 0, rfl, by have := h.cell hx (i := 0) (by omega); simpa using this⟩⟩

set_option maxRecDepth 100000 in
set_option maxHeartbeats 2000000 in
/-- Two slices of the same ints are the same. -/
theorem r_sameInts (w : World) (u v : Value) (xs : List Int) (h1 : IntsAt w u xs) (h2 : IntsAt w v xs) (hm : xs.length < 1000000) :
    Calls Try.prog 18 #[u, v] w fun e w' => e = .returned (.bool true) ∧ Below w.heap.size w w' := by
  obtain ⟨a, c1, rfl, hr1⟩ := h1
  obtain ⟨b, c2, rfl, hr2⟩ := h2
  have HR1 := Lib.hid hr1
  have HR2 := Lib.hid hr2
  clear hr1 hr2
  go_enter Try.func18, Try.ntmps18
  go_wp2_with (fail)
  go_loopw [5] (fun i wr => ∃ k : Nat, k ≤ xs.length ∧ i = .int .i64 k ∧ Hid (∃ n, wr = w.drewN n)) (fun i _ => xs.length - (intOf i).toNat)
  case atStart => exact ⟨0, Nat.zero_le _, rfl, Lib.hid ⟨0, rfl⟩⟩
  case round =>
    obtain ⟨k, hk, rfl, HN⟩ := hrel
    have HB : Hid (Below w.heap.size w wr) := Lib.hid (by obtain ⟨n, hn⟩ := HN.out; rw [hn]; exact below_drewN' _ _)
    by_cases hlt : k < xs.length
    · have hx : xs[k]? = some xs[k] := List.getElem?_eq_getElem hlt
      generalize xs[k] = x at hx
      obtain ⟨g, off, rfl, d1⟩ := HR1.out k x hx
      obtain ⟨g2, off2, rfl, d2⟩ := HR2.out k x hx
      have d1 := (HB.out.cell (p := ⟨g, off + k, none⟩) (World.block_lt_of_cell? w _ d1)).trans d1
      have d2 := (HB.out.cell (p := ⟨g2, off2 + k, none⟩) (World.block_lt_of_cell? w _ d2)).trans d2
      have hk0 : (0 : Int) ≤ (k : Int) := by omega
      have hk1 : (k : Int) < (xs.length : Int) := by omega
      have hk2 : (xs.length : Int) < 1000000 := by omega
      clear hx
      go_wp2_with (fail)
      go_quiet (fail)
      go_wp2_with (fail)
      go_roundw
      case rel => exact ⟨k + 1, by omega, by go_num, Lib.hid (by obtain ⟨n, hn⟩ := HN.out; exact ⟨n + nq, by rw [hn]; simp [World.drewN]; omega⟩)⟩
      case measure => simp [intOf]; omega
    · have hk1 : ¬ ((k : Int) < (xs.length : Int)) := by omega
      go_wp2_with (fail)
      go_ret
      exact ⟨rfl, HB.out⟩
end Go.Proofs.Ytndaacojbbmcnaa.Oi
