/- A table's tree as plain data: put, drop, first, get over it; its pairs in order. No program. -/
import Derived.Test.YthjcolehccbihaaGreatDoorBase
namespace Go.Proofs.YthjcolehccbihaaGreatDoor

inductive Tr (K V : Type) where
  | leaf
  | node (k : K) (v : V) (l r : Tr K V)

namespace Tr
variable {K V : Type}
def tall : Tr K V → Nat | .leaf => 0 | .node _ _ l r => 1 + max (tall l) (tall r)
def size : Tr K V → Nat | .leaf => 0 | .node _ _ l r => 1 + size l + size r
def ino : Tr K V → List (K × V) | .leaf => [] | .node k v l r => ino l ++ (k, v) :: ino r
theorem ino_length (t : Tr K V) : (ino t).length = size t := by
  induction t with
  | leaf => rfl
  | node k v l r hl hr => simp [ino, size, hl, hr]; omega
theorem tall_le (t : Tr K V) : tall t ≤ size t := by
  induction t with
  | leaf => exact Nat.le_refl _
  | node k v l r hl hr => simp only [tall, size]; omega

/-- As the text has it. -/
def even (k : K) (v : V) (l r : Tr K V) : Tr K V :=
  if tall l > tall r + 1 then
    match l with
    | .leaf => .node k v l r
    | .node lk lv ll lr =>
      if tall ll ≥ tall lr then .node lk lv ll (.node k v lr r)
      else match lr with
        | .leaf => .node k v l r
        | .node mk mv ml mr => .node mk mv (.node lk lv ll ml) (.node k v mr r)
  else if tall r > tall l + 1 then
    match r with
    | .leaf => .node k v l r
    | .node rk rv rl rr =>
      if tall rr ≥ tall rl then .node rk rv (.node k v l rl) rr
      else match rl with
        | .leaf => .node k v l r
        | .node mk mv ml mr => .node mk mv (.node k v l ml) (.node rk rv mr rr)
  else .node k v l r
theorem ino_even (k : K) (v : V) (l r : Tr K V) : ino (even k v l r) = ino l ++ (k, v) :: ino r := by
  unfold even
  split
  · split
    · rfl
    · split
      · simp [ino]
      · split <;> simp [ino]
  · split
    · split
      · rfl
      · split
        · simp [ino]
        · split <;> simp [ino]
    · rfl
theorem size_even (k : K) (v : V) (l r : Tr K V) : size (even k v l r) = 1 + size l + size r := by
  rw [← ino_length, ino_even]; simp [ino_length]; omega

def put (lt : K → K → Bool) (t : Tr K V) (k : K) (v : V) : Tr K V :=
  match t with
  | .leaf => .node k v .leaf .leaf
  | .node k' v' l r => if lt k k' then even k' v' (put lt l k v) r else if lt k' k then even k' v' l (put lt r k v) else .node k v l r
/-- The first pair, and the tree without it (of a tree that has one). -/
def first : Tr K V → Tr K V × Tr K V
  | .leaf => (.leaf, .leaf)
  | .node k v .leaf r => (.node k v .leaf r, r)
  | .node k v (.node k' v' l' r') r => ((first (.node k' v' l' r')).1, even k v (first (.node k' v' l' r')).2 r)
def drop (lt : K → K → Bool) (t : Tr K V) (k : K) : Tr K V :=
  match t with
  | .leaf => .leaf
  | .node k' v' l r =>
    if lt k k' then even k' v' (drop lt l k) r else if lt k' k then even k' v' l (drop lt r k) else
    match r with
    | .leaf => l
    | .node k2 v2 l2 r2 => match first (.node k2 v2 l2 r2) with
      | (.node pk pv _ _, rest) => even pk pv l rest
      | (.leaf, _) => .leaf
def get (lt : K → K → Bool) (t : Tr K V) (k : K) : Option V :=
  match t with
  | .leaf => none
  | .node k' v' l r => if lt k k' then get lt l k else if lt k' k then get lt r k else some v'

theorem drop_lt {lt : K → K → Bool} {k k' : K} {v' : V} {l r : Tr K V} (h : lt k k' = true) : drop lt (.node k' v' l r) k = even k' v' (drop lt l k) r := by
  rw [drop.eq_def]; simp only; rw [if_pos h]
theorem drop_gt {lt : K → K → Bool} {k k' : K} {v' : V} {l r : Tr K V} (h : lt k k' = false) (h' : lt k' k = true) : drop lt (.node k' v' l r) k = even k' v' l (drop lt r k) := by
  rw [drop.eq_def]; simp only; rw [if_neg (by simp [h]), if_pos h']
theorem drop_eq0 {lt : K → K → Bool} {k : K} {v' : V} {l : Tr K V} (h : lt k k = false) : drop lt (.node k v' l .leaf) k = l := by
  rw [drop.eq_def]; simp only; rw [if_neg (by simp [h]), if_neg (by simp [h])]
theorem drop_eq1 {lt : K → K → Bool} {k k2 pk : K} {v' v2 pv : V} {l l2 r2 pl pr : Tr K V} (h : lt k k = false) (hf : (first (.node k2 v2 l2 r2)).1 = .node pk pv pl pr) :
    drop lt (.node k v' l (.node k2 v2 l2 r2)) k = even pk pv l (first (.node k2 v2 l2 r2)).2 := by
  rw [drop.eq_def]; simp only; rw [if_neg (by simp [h]), if_neg (by simp [h])]
  cases he : first (Tr.node k2 v2 l2 r2) with
  | mk x rest => rw [he] at hf; simp only at hf; subst hf; simp only
theorem first_node (t : Tr K V) (h : t ≠ .leaf) : ∃ k v l r, (first t).1 = .node k v l r ∧ ino t = (k, v) :: ino (first t).2 := by
  induction t with
  | leaf => exact absurd rfl h
  | node k v l r hl hr =>
    cases l with
    | leaf => exact ⟨k, v, .leaf, r, rfl, rfl⟩
    | node k' v' l' r' =>
      obtain ⟨a, b, c, d, h1, h2⟩ := hl (by simp)
      exact ⟨a, b, c, d, h1, by show ino (.node k' v' l' r') ++ _ = _; rw [h2]; simp only [first, ino_even]; rfl⟩
end Tr

/-- What is asked of an order on keys. -/
structure KeyOrd {K : Type} (lt : K → K → Bool) : Prop where
  irr : ∀ a, lt a a = false
  tr : ∀ a b c, lt a b = true → lt b c = true → lt a c = true
  eq : ∀ a b, lt a b = false → lt b a = false → a = b
namespace KeyOrd
variable {K V : Type} {lt : K → K → Bool}
theorem asymm (H : KeyOrd lt) {a b : K} (h : lt a b = true) : lt b a = false := by
  cases hb : lt b a with
  | false => rfl
  | true => have := H.tr a b a h hb; rw [H.irr] at this; cases this
end KeyOrd

/-- Pairs by rising keys. -/
def Rise {K V : Type} (lt : K → K → Bool) (l : List (K × V)) : Prop := l.Pairwise (fun a b => lt a.1 b.1 = true)

/-- Pairs by rising keys, and another one: as the statements have it. -/
def putL {K V : Type} (lt : K → K → Bool) (l : List (K × V)) (k : K) (v : V) : List (K × V) :=
  l.filter (fun x => lt x.1 k) ++ (k, v) :: l.filter (fun x => lt k x.1)
def dropL {K V : Type} (lt : K → K → Bool) (l : List (K × V)) (k : K) : List (K × V) := l.filter (fun x => lt x.1 k || lt k x.1)
def findL {K V : Type} (lt : K → K → Bool) (l : List (K × V)) (k : K) : Option V :=
  (l.find? (fun x => !lt x.1 k && !lt k x.1)).map (·.2)

section
variable {K V : Type} {lt : K → K → Bool} (H : KeyOrd lt)
include H
theorem rise_putL {l : List (K × V)} (h : Rise lt l) (k : K) (v : V) : Rise lt (putL lt l k v) := by
  unfold Rise putL at *
  rw [List.pairwise_append]
  refine ⟨h.filter _, ?_, ?_⟩
  · rw [List.pairwise_cons]
    refine ⟨?_, h.filter _⟩
    intro a ha; simpa using (List.mem_filter.1 ha).2
  · intro a ha b hb
    have h1 : lt a.1 k = true := by simpa using (List.mem_filter.1 ha).2
    rcases List.mem_cons.1 hb with rfl | hb
    · exact h1
    · exact H.tr _ _ _ h1 (by simpa using (List.mem_filter.1 hb).2)
omit H in
theorem rise_dropL {l : List (K × V)} (h : Rise lt l) (k : K) : Rise lt (dropL lt l k) := h.filter _

theorem rise_split {a b : List (K × V)} {k : K} {v : V} (h : Rise lt (a ++ (k, v) :: b)) :
    Rise lt a ∧ Rise lt b ∧ (∀ x ∈ a, lt x.1 k = true) ∧ (∀ x ∈ b, lt k x.1 = true) ∧ (∀ x ∈ a, lt k x.1 = false) ∧ (∀ x ∈ b, lt x.1 k = false) := by
  unfold Rise at *
  rw [List.pairwise_append, List.pairwise_cons] at h
  obtain ⟨h1, ⟨h2, h3⟩, h4⟩ := h
  have ha : ∀ x ∈ a, lt x.1 k = true := fun x hx => h4 x hx _ (List.mem_cons_self ..)
  exact ⟨h1, h3, ha, h2, fun x hx => H.asymm (ha x hx), fun x hx => H.asymm (h2 x hx)⟩
omit H in
theorem filt_all {l : List (K × V)} {p : K × V → Bool} (h : ∀ x ∈ l, p x = true) : l.filter p = l := List.filter_eq_self.2 h
omit H in
theorem filt_none {l : List (K × V)} {p : K × V → Bool} (h : ∀ x ∈ l, p x = false) : l.filter p = [] := List.filter_eq_nil_iff.2 (fun x hx => by simp [h x hx])

/-- Below a pivot that is greater than the key; above one that is less; at one that is the key. -/
theorem putL_lt {a b : List (K × V)} {k k' : K} {v v' : V} (h : Rise lt (a ++ (k', v') :: b)) (hk : lt k k' = true) :
    putL lt (a ++ (k', v') :: b) k v = putL lt a k v ++ (k', v') :: b := by
  obtain ⟨_, _, _, hb, _, _⟩ := rise_split H h
  have e1 : b.filter (fun x => lt x.1 k) = [] := filt_none fun x hx => H.asymm (H.tr _ _ _ hk (hb x hx))
  have e2 : b.filter (fun x => lt k x.1) = b := filt_all fun x hx => H.tr _ _ _ hk (hb x hx)
  simp [putL, H.asymm hk, hk, e1, e2]
theorem putL_gt {a b : List (K × V)} {k k' : K} {v v' : V} (h : Rise lt (a ++ (k', v') :: b)) (hk : lt k' k = true) :
    putL lt (a ++ (k', v') :: b) k v = a ++ (k', v') :: putL lt b k v := by
  obtain ⟨_, _, ha, _, _, _⟩ := rise_split H h
  have e1 : a.filter (fun x => lt x.1 k) = a := filt_all fun x hx => H.tr _ _ _ (ha x hx) hk
  have e2 : a.filter (fun x => lt k x.1) = [] := filt_none fun x hx => H.asymm (H.tr _ _ _ (ha x hx) hk)
  simp [putL, H.asymm hk, hk, e1, e2]
theorem putL_eq {a b : List (K × V)} {k : K} {v v' : V} (h : Rise lt (a ++ (k, v') :: b)) :
    putL lt (a ++ (k, v') :: b) k v = a ++ (k, v) :: b := by
  obtain ⟨_, _, ha, hb, ha', hb'⟩ := rise_split H h
  have e1 : a.filter (fun x => lt x.1 k) = a := filt_all ha
  have e2 : a.filter (fun x => lt k x.1) = [] := filt_none ha'
  have e3 : b.filter (fun x => lt x.1 k) = [] := filt_none hb'
  have e4 : b.filter (fun x => lt k x.1) = b := filt_all hb
  simp [putL, H.irr, e1, e2, e3, e4]
theorem dropL_lt {a b : List (K × V)} {k k' : K} {v' : V} (h : Rise lt (a ++ (k', v') :: b)) (hk : lt k k' = true) :
    dropL lt (a ++ (k', v') :: b) k = dropL lt a k ++ (k', v') :: b := by
  obtain ⟨_, _, _, hb, _, _⟩ := rise_split H h
  have e2 : b.filter (fun x => lt x.1 k || lt k x.1) = b := filt_all fun x hx => by simp [H.tr _ _ _ hk (hb x hx)]
  simp [dropL, hk, e2]
theorem dropL_gt {a b : List (K × V)} {k k' : K} {v' : V} (h : Rise lt (a ++ (k', v') :: b)) (hk : lt k' k = true) :
    dropL lt (a ++ (k', v') :: b) k = a ++ (k', v') :: dropL lt b k := by
  obtain ⟨_, _, ha, _, _, _⟩ := rise_split H h
  have e1 : a.filter (fun x => lt x.1 k || lt k x.1) = a := filt_all fun x hx => by simp [H.tr _ _ _ (ha x hx) hk]
  simp [dropL, hk, e1]
theorem dropL_eq {a b : List (K × V)} {k : K} {v' : V} (h : Rise lt (a ++ (k, v') :: b)) : dropL lt (a ++ (k, v') :: b) k = a ++ b := by
  obtain ⟨_, _, ha, hb, _, _⟩ := rise_split H h
  have e1 : a.filter (fun x => lt x.1 k || lt k x.1) = a := filt_all fun x hx => by simp [ha x hx]
  have e2 : b.filter (fun x => lt x.1 k || lt k x.1) = b := filt_all fun x hx => by simp [hb x hx]
  simp [dropL, H.irr, e1, e2]
omit H in
theorem find_none {l : List (K × V)} {p : K × V → Bool} (h : ∀ x ∈ l, p x = false) : l.find? p = none := List.find?_eq_none.2 (fun x hx => by simp [h x hx])
theorem findL_lt {a b : List (K × V)} {k k' : K} {v' : V} (h : Rise lt (a ++ (k', v') :: b)) (hk : lt k k' = true) :
    findL lt (a ++ (k', v') :: b) k = findL lt a k := by
  obtain ⟨_, _, _, hb, _, _⟩ := rise_split H h
  have e : b.find? (fun x => !lt x.1 k && !lt k x.1) = none := find_none fun x hx => by simp [H.tr _ _ _ hk (hb x hx)]
  simp only [findL, List.find?_append, List.find?_cons, hk, e]
  cases List.find? (fun x => !lt x.1 k && !lt k x.1) a <;> simp
theorem findL_gt {a b : List (K × V)} {k k' : K} {v' : V} (h : Rise lt (a ++ (k', v') :: b)) (hk : lt k' k = true) :
    findL lt (a ++ (k', v') :: b) k = findL lt b k := by
  obtain ⟨_, _, ha, _, _, _⟩ := rise_split H h
  have e : a.find? (fun x => !lt x.1 k && !lt k x.1) = none := find_none fun x hx => by simp [H.tr _ _ _ (ha x hx) hk]
  simp [findL, List.find?_append, hk, e]
theorem findL_eq {a b : List (K × V)} {k : K} {v' : V} (h : Rise lt (a ++ (k, v') :: b)) : findL lt (a ++ (k, v') :: b) k = some v' := by
  obtain ⟨_, _, ha, _, _, _⟩ := rise_split H h
  have e : a.find? (fun x => !lt x.1 k && !lt k x.1) = none := find_none fun x hx => by simp [ha x hx]
  simp [findL, List.find?_append, H.irr, e]

theorem ino_put : ∀ (t : Tr K V), Rise lt t.ino → ∀ (k : K) (v : V), (t.put lt k v).ino = putL lt t.ino k v := by
  intro t
  induction t with
  | leaf => intro _ k v; rfl
  | node k' v' l r hl hr =>
    intro h k v
    obtain ⟨h1, h2, _⟩ := rise_split H h
    unfold Tr.put
    by_cases c1 : lt k k' = true
    · rw [if_pos c1, Tr.ino_even, hl h1]; exact (putL_lt H h c1).symm
    · rw [if_neg c1]
      by_cases c2 : lt k' k = true
      · rw [if_pos c2, Tr.ino_even, hr h2]; exact (putL_gt H h c2).symm
      · rw [if_neg c2]
        obtain rfl := H.eq k k' (by simpa using c1) (by simpa using c2)
        exact (putL_eq H h).symm
theorem ino_drop : ∀ (t : Tr K V), Rise lt t.ino → ∀ (k : K), (t.drop lt k).ino = dropL lt t.ino k := by
  intro t
  induction t with
  | leaf => intro _ k; rfl
  | node k' v' l r hl hr =>
    intro h k
    obtain ⟨h1, h2, _⟩ := rise_split H h
    unfold Tr.drop
    by_cases c1 : lt k k' = true
    · rw [if_pos c1, Tr.ino_even, hl h1]; exact (dropL_lt H h c1).symm
    · rw [if_neg c1]
      by_cases c2 : lt k' k = true
      · rw [if_pos c2, Tr.ino_even, hr h2]; exact (dropL_gt H h c2).symm
      · rw [if_neg c2]
        obtain rfl := H.eq k k' (by simpa using c1) (by simpa using c2)
        have hd := dropL_eq H h
        cases r with
        | leaf => exact (by simpa [Tr.ino] using hd.symm : l.ino = dropL lt (l.ino ++ (k, v') :: Tr.ino .leaf) k)
        | node k2 v2 l2 r2 =>
          obtain ⟨pk, pv, pl, pr, e1, e2⟩ := Tr.first_node (Tr.node k2 v2 l2 r2) (by simp)
          cases hf : Tr.first (Tr.node k2 v2 l2 r2) with
          | mk p rest =>
            rw [hf] at e1 e2
            simp only at e1 e2
            subst e1
            simp only [hf]
            rw [Tr.ino_even]
            show _ = dropL lt (l.ino ++ (k, v') :: (Tr.node k2 v2 l2 r2).ino) k
            rw [hd, e2]
theorem get_ino : ∀ (t : Tr K V), Rise lt t.ino → ∀ (k : K), t.get lt k = findL lt t.ino k := by
  intro t
  induction t with
  | leaf => intro _ k; rfl
  | node k' v' l r hl hr =>
    intro h k
    obtain ⟨h1, h2, _⟩ := rise_split H h
    unfold Tr.get
    by_cases c1 : lt k k' = true
    · rw [if_pos c1, hl h1]; exact (findL_lt H h c1).symm
    · rw [if_neg c1]
      by_cases c2 : lt k' k = true
      · rw [if_pos c2, hr h2]; exact (findL_gt H h c2).symm
      · rw [if_neg c2]
        obtain rfl := H.eq k k' (by simpa using c1) (by simpa using c2)
        exact (findL_eq H h).symm
theorem rise_put {t : Tr K V} (h : Rise lt t.ino) (k : K) (v : V) : Rise lt (t.put lt k v).ino := by rw [ino_put H t h]; exact rise_putL H h k v
theorem rise_drop {t : Tr K V} (h : Rise lt t.ino) (k : K) : Rise lt (t.drop lt k).ino := by rw [ino_drop H t h]; exact rise_dropL h k
end
end Go.Proofs.YthjcolehccbihaaGreatDoor
