/- A table's tree as plain data: put, drop, first, get over it; its pairs in order. No program. -/
import Derived.Test.YthjcolehccbihaaGreatDoorz02
import Derived.WideShapes
import Derived.Lib.Strings
namespace Go.Proofs.YthjcolehccbihaaGreatDoor
inductive Tr (K V : Type) where
  | leaf
  | node (k : K) (v : V) (l r : Tr K V)
namespace Tr
variable {K V : Type}
def tall : Tr K V → Nat | .leaf => 0 | .node _ _ l r => 1 + max (tall l) (tall r)
def size : Tr K V → Nat | .leaf => 0 | .node _ _ l r => 1 + size l + size r
/-- As the text has it. -/
def even (k : K) (v : V) (l r : Tr K V) : Tr K V :=
  if tall l > tall r + 1 then
    match l with
    | .leaf => .node k v l r
    | .node lk lv ll lr =>
      if tall ll ≥ tall lr then .node lk lv ll (.node k v lr r)
      else match lr with
        | .leaf => .node k v l r
        | .node mk mv ml mr => .node mk mv (.node lk lv ll ml) (.node k v mr r)
  else if tall r > tall l + 1 then
    match r with
    | .leaf => .node k v l r
    | .node rk rv rl rr =>
      if tall rr ≥ tall rl then .node rk rv (.node k v l rl) rr
      else match rl with
        | .leaf => .node k v l r
        | .node mk mv ml mr => .node mk mv (.node k v l ml) (.node rk rv mr rr)
  else .node k v l r
def put (lt : K → K → Bool) (t : Tr K V) (k : K) (v : V) : Tr K V :=
  match t with
  | .leaf => .node k v .leaf .leaf
  | .node k' v' l r => if lt k k' then even k' v' (put lt l k v) r else if lt k' k then even k' v' l (put lt r k v) else .node k v l r
/-- The first pair, and the tree without it (of a tree that has one). -/
def first : Tr K V → Tr K V × Tr K V
  | .leaf => (.leaf, .leaf)
  | .node k v .leaf r => (.node k v .leaf r, r)
  | .node k v (.node k' v' l' r') r => ((first (.node k' v' l' r')).1, even k v (first (.node k' v' l' r')).2 r)
def drop (lt : K → K → Bool) (t : Tr K V) (k : K) : Tr K V :=
  match t with
  | .leaf => .leaf
  | .node k' v' l r =>
    if lt k k' then even k' v' (drop lt l k) r else if lt k' k then even k' v' l (drop lt r k) else
    match r with
    | .leaf => l
    | .node k2 v2 l2 r2 => match first (.node k2 v2 l2 r2) with
      | (.node pk pv _ _, rest) => even pk pv l rest
      | (.leaf, _) => .leaf
def get (lt : K → K → Bool) (t : Tr K V) (k : K) : Option V :=
  match t with
  | .leaf => none
  | .node k' v' l r => if lt k k' then get lt l k else if lt k' k then get lt r k else some v'
end Tr
/-- What is asked of an order on keys. -/
structure KeyOrd {K : Type} (lt : K → K → Bool) : Prop where
  irr : ∀ a, lt a a = false
  tr : ∀ a b c, lt a b = true → lt b c = true → lt a c = true
  eq : ∀ a b, lt a b = false → lt b a = false → a = b
namespace KeyOrd
variable {K V : Type} {lt : K → K → Bool}
theorem asymm (H : KeyOrd lt) {a b : K} (h : lt a b = true) : lt b a = false := by
  cases hb : lt b a with
  | false => rfl
  | true => have := H.tr a b a h hb; rw [H.irr] at this; cases this
end KeyOrd
/-- Pairs by rising keys. -/
def Rise {K V : Type} (lt : K → K → Bool) (l : List (K × V)) : Prop := l.Pairwise (fun a b => lt a.1 b.1 = true)
/-- Pairs by rising keys, and another one: as the statements have it. -/
def putL {K V : Type} (lt : K → K → Bool) (l : List (K × V)) (k : K) (v : V) : List (K × V) :=
  l.filter (fun x => lt x.1 k) ++ (k, v) :: l.filter (fun x => lt k x.1)
def dropL {K V : Type} (lt : K → K → Bool) (l : List (K × V)) (k : K) : List (K × V) := l.filter (fun x => lt x.1 k || lt k x.1)
def findL {K V : Type} (lt : K → K → Bool) (l : List (K × V)) (k : K) : Option V :=
  (l.find? (fun x => !lt x.1 k && !lt k x.1)).map (·.2)
section
variable {K V : Type} {lt : K → K → Bool} (H : KeyOrd lt)
include H
theorem rise_putL {l : List (K × V)} (h : Rise lt l) (k : K) (v : V) : Rise lt (putL lt l k v) := by
  unfold Rise putL at *
  rw [List.pairwise_append]
  refine ⟨h.filter _, ?_, ?_⟩
  · rw [List.pairwise_cons]
    refine ⟨?_, h.filter _⟩
    intro a ha; simpa using (List.mem_filter.1 ha).2
  · intro a ha b hb
    have h1 : lt a.1 k = true := by simpa using (List.mem_filter.1 ha).2
    rcases List.mem_cons.1 hb with rfl | hb
    · exact h1
    · exact H.tr _ _ _ h1 (by simpa using (List.mem_filter.1 hb).2)
omit H in
theorem rise_dropL {l : List (K × V)} (h : Rise lt l) (k : K) : Rise lt (dropL lt l k) := h.filter _
theorem rise_split {a b : List (K × V)} {k : K} {v : V} (h : Rise lt (a ++ (k, v) :: b)) :
    Rise lt a ∧ Rise lt b ∧ (∀ x ∈ a, lt x.1 k = true) ∧ (∀ x ∈ b, lt k x.1 = true) ∧ (∀ x ∈ a, lt k x.1 = false) ∧ (∀ x ∈ b, lt x.1 k = false) := by
  unfold Rise at *
  rw [List.pairwise_append, List.pairwise_cons] at h
  obtain ⟨h1, ⟨h2, h3⟩, h4⟩ := h
  have ha : ∀ x ∈ a, lt x.1 k = true := fun x hx => h4 x hx _ (List.mem_cons_self ..)
  exact ⟨h1, h3, ha, h2, fun x hx => H.asymm (ha x hx), fun x hx => H.asymm (h2 x hx)⟩
omit H in
theorem filt_all {l : List (K × V)} {p : K × V → Bool} (h : ∀ x ∈ l, p x = true) : l.filter p = l := List.filter_eq_self.2 h
omit H in
theorem filt_none {l : List (K × V)} {p : K × V → Bool} (h : ∀ x ∈ l, p x = false) : l.filter p = [] := List.filter_eq_nil_iff.2 (fun x hx => by simp [h x hx])
theorem putL_eq {a b : List (K × V)} {k : K} {v v' : V} (h : Rise lt (a ++ (k, v') :: b)) :
    putL lt (a ++ (k, v') :: b) k v = a ++ (k, v) :: b := by
  obtain ⟨_, _, ha, hb, ha', hb'⟩ := rise_split H h
  have e1 : a.filter (fun x => lt x.1 k) = a := filt_all ha
  have e2 : a.filter (fun x => lt k x.1) = [] := filt_none ha'
  have e3 : b.filter (fun x => lt x.1 k) = [] := filt_none hb'
  have e4 : b.filter (fun x => lt k x.1) = b := filt_all hb
  simp [putL, H.irr, e1, e2, e3, e4]
theorem dropL_eq {a b : List (K × V)} {k : K} {v' : V} (h : Rise lt (a ++ (k, v') :: b)) : dropL lt (a ++ (k, v') :: b) k = a ++ b := by
  obtain ⟨_, _, ha, hb, _, _⟩ := rise_split H h
  have e1 : a.filter (fun x => lt x.1 k || lt k x.1) = a := filt_all fun x hx => by simp [ha x hx]
  have e2 : b.filter (fun x => lt x.1 k || lt k x.1) = b := filt_all fun x hx => by simp [hb x hx]
  simp [dropL, H.irr, e1, e2]
omit H in
theorem find_none {l : List (K × V)} {p : K × V → Bool} (h : ∀ x ∈ l, p x = false) : l.find? p = none := List.find?_eq_none.2 (fun x hx => by simp [h x hx])
theorem findL_eq {a b : List (K × V)} {k : K} {v' : V} (h : Rise lt (a ++ (k, v') :: b)) : findL lt (a ++ (k, v') :: b) k = some v' := by
  obtain ⟨_, _, ha, _, _, _⟩ := rise_split H h
  have e : a.find? (fun x => !lt x.1 k && !lt k x.1) = none := find_none fun x hx => by simp [ha x hx]
  simp [findL, List.find?_append, H.irr, e]
end
end Go.Proofs.YthjcolehccbihaaGreatDoor
namespace Go.Proofs.YthjcolehccbihaaGreatDoor
open Go.RowKit
theorem bless_irr : ∀ a : List UInt8, Op.bytesLess a a = false
  | [] => rfl
  | a :: x => by simp [Op.bytesLess, bless_irr x]
theorem bless_tr : ∀ a b c : List UInt8, Op.bytesLess a b = true → Op.bytesLess b c = true → Op.bytesLess a c = true
  | _, _, [], _, h => by cases ‹List UInt8› <;> simp [Op.bytesLess] at h
  | _, [], _ :: _, h, _ => by cases ‹List UInt8› <;> simp [Op.bytesLess] at h
  | [], _ :: _, _ :: _, _, _ => rfl
  | a :: x, b :: y, c :: z, h, k => by
    simp only [Op.bytesLess, Bool.or_eq_true, decide_eq_true_eq, Bool.and_eq_true, beq_iff_eq] at *
    rcases h with h | ⟨rfl, h⟩
    · rcases k with k | ⟨rfl, k⟩
      · exact .inl (by rw [UInt8.lt_iff_toNat_lt] at *; omega)
      · exact .inl h
    · rcases k with k | ⟨rfl, k⟩
      · exact .inl k
      · exact .inr ⟨rfl, bless_tr x y z h k⟩
theorem bless_eq : ∀ a b : List UInt8, Op.bytesLess a b = false → Op.bytesLess b a = false → a = b
  | [], [], _, _ => rfl
  | [], _ :: _, h, _ => by simp [Op.bytesLess] at h
  | _ :: _, [], _, h => by simp [Op.bytesLess] at h
  | a :: x, b :: y, h, k => by
    simp only [Op.bytesLess, Bool.or_eq_false_iff, decide_eq_false_iff_not, Bool.and_eq_false_iff, beq_eq_false_iff_ne] at *
    have e : a = b := by
      apply UInt8.toNat_inj.1
      have h1 := h.1; have h2 := k.1
      rw [UInt8.lt_iff_toNat_lt] at *
      omega
    subst e
    rw [bless_eq x y (h.2.resolve_left (fun h => h rfl)) (k.2.resolve_left (fun h => h rfl))]
/-- Go's '<' on strings. -/
def slt (a b : ByteArray) : Bool := Op.bytesLess a.toList b.toList
theorem str_inj {a b : ByteArray} (h : a.toList = b.toList) : a = b := by
  rw [ByteArray.toList_eq, ByteArray.toList_eq] at h
  exact Go.WideShapes.bytes_inj h
theorem slt_ord : KeyOrd slt := ⟨fun _ => bless_irr _, fun _ _ _ => bless_tr _ _ _, fun _ _ h k => str_inj (bless_eq _ _ h k)⟩
/-- Where a tree lies: its nodes are blocks that nobody writes to. -/
def TreeAt {K V : Type} (ek : K → Value) (ev : V → Value) (T : TypeId) (w : World) : Tr K V → Option Addr → Prop
  | .leaf, p => p = none
  | .node k v l r, p => ∃ (b : Nat) (pl pr : Option Addr), p = some ⟨b, 0, none⟩ ∧
      IsBlk w b #[ek k, ev v, .pointer pl, .pointer pr, .int .i64 ((1 + max l.tall r.tall : Nat) : Int), .int .i64 ((1 + l.size + r.size : Nat) : Int)] T ∧ TreeAt ek ev T w l pl ∧ TreeAt ek ev T w r pr
section
variable {K V : Type} {ek : K → Value} {ev : V → Value} {T : TypeId}
/-- Every block of this type that was there is there. -/
def KeepT (T : TypeId) (w w' : World) : Prop := ∀ (b : Nat) (cs : Array Value), IsBlk w b cs T → IsBlk w' b cs T
theorem KeepT.refl (T : TypeId) (w : World) : KeepT T w w := fun _ _ h => h
theorem KeepT.trans {T : TypeId} {a b c : World} (h : KeepT T a b) (k : KeepT T b c) : KeepT T a c := fun i cs hi => k i cs (h i cs hi)
theorem KeepT.of_keeps {T : TypeId} {S : Nat → Prop} {w w' : World} (h : Keeps S w w') (hs : ∀ b cs, IsBlk w b cs T → ¬ S b) : KeepT T w w' :=
  fun b cs hb => h.obj hb (hs b cs hb)
theorem TreeAt.keepT {w w' : World} (h : KeepT T w w') : ∀ {t : Tr K V} {p : Option Addr}, TreeAt ek ev T w t p → TreeAt ek ev T w' t p := by
  intro t
  induction t with
  | leaf => exact fun h => h
  | node k v l r hl hr =>
    rintro p ⟨b, pl, pr, rfl, hb, h1, h2⟩
    exact ⟨b, pl, pr, rfl, h b _ hb, hl h1, hr h2⟩
theorem TreeAt.keeps {S : Nat → Prop} {w w' : World} (h : Keeps S w w') (hs : ∀ b cs, IsBlk w b cs T → ¬ S b) {t : Tr K V} {p : Option Addr} (ht : TreeAt ek ev T w t p) : TreeAt ek ev T w' t p :=
  ht.keepT (KeepT.of_keeps h hs)
theorem TreeAt.below {w w' : World} (h : Below w.heap.size w w') {t : Tr K V} {p : Option Addr} (ht : TreeAt ek ev T w t p) : TreeAt ek ev T w' t p :=
  ht.keeps (Keeps.of_below h) (fun _ _ _ h => h)
theorem TreeAt.alloc {w : World} (o : Obj) {t : Tr K V} {p : Option Addr} (ht : TreeAt ek ev T w t p) : TreeAt ek ev T (w.alloc o) t p :=
  ht.keeps ((Keeps.refl (fun _ => False) w).alloc o) (fun _ _ _ h => h)
end
end Go.Proofs.YthjcolehccbihaaGreatDoor
