/- The order of Go's strings, and of its ints, as an order on keys. -/
import Derived.Test.YthjcolehccbihaaGreatDoorTree
import Derived.WideShapes
import Derived.Lib.Strings
namespace Go.Proofs.YthjcolehccbihaaGreatDoor
open Go.RowKit

theorem bless_irr : ∀ a : List UInt8, Op.bytesLess a a = false
  | [] => rfl
  | a :: x => by simp [Op.bytesLess, bless_irr x]
theorem bless_tr : ∀ a b c : List UInt8, Op.bytesLess a b = true → Op.bytesLess b c = true → Op.bytesLess a c = true
  | _, _, [], _, h => by cases ‹List UInt8› <;> simp [Op.bytesLess] at h
  | _, [], _ :: _, h, _ => by cases ‹List UInt8› <;> simp [Op.bytesLess] at h
  | [], _ :: _, _ :: _, _, _ => rfl
  | a :: x, b :: y, c :: z, h, k => by
    simp only [Op.bytesLess, Bool.or_eq_true, decide_eq_true_eq, Bool.and_eq_true, beq_iff_eq] at *
    rcases h with h | ⟨rfl, h⟩
    · rcases k with k | ⟨rfl, k⟩
      · exact .inl (by rw [UInt8.lt_iff_toNat_lt] at *; omega)
      · exact .inl h
    · rcases k with k | ⟨rfl, k⟩
      · exact .inl k
      · exact .inr ⟨rfl, bless_tr x y z h k⟩
theorem bless_eq : ∀ a b : List UInt8, Op.bytesLess a b = false → Op.bytesLess b a = false → a = b
  | [], [], _, _ => rfl
  | [], _ :: _, h, _ => by simp [Op.bytesLess] at h
  | _ :: _, [], _, h => by simp [Op.bytesLess] at h
  | a :: x, b :: y, h, k => by
    simp only [Op.bytesLess, Bool.or_eq_false_iff, decide_eq_false_iff_not, Bool.and_eq_false_iff, beq_eq_false_iff_ne] at *
    have e : a = b := by
      apply UInt8.toNat_inj.1
      have h1 := h.1; have h2 := k.1
      rw [UInt8.lt_iff_toNat_lt] at *
      omega
    subst e
    rw [bless_eq x y (h.2.resolve_left (fun h => h rfl)) (k.2.resolve_left (fun h => h rfl))]

/-- Go's '<' on strings. -/
def slt (a b : ByteArray) : Bool := Op.bytesLess a.toList b.toList
def ilt (a b : Int) : Bool := decide (a < b)
theorem str_inj {a b : ByteArray} (h : a.toList = b.toList) : a = b := by
  rw [ByteArray.toList_eq, ByteArray.toList_eq] at h
  exact Go.WideShapes.bytes_inj h
theorem slt_ord : KeyOrd slt := ⟨fun _ => bless_irr _, fun _ _ _ => bless_tr _ _ _, fun _ _ h k => str_inj (bless_eq _ _ h k)⟩
theorem ilt_ord : KeyOrd ilt := by
  constructor
  · intro a; simp [ilt]
  · intro a b c h k; simp only [ilt, decide_eq_true_eq] at *; omega
  · intro a b h k; simp only [ilt, decide_eq_false_iff_not] at *; omega

/-- Where a tree lies: its nodes are blocks that nobody writes to. -/
def TreeAt {K V : Type} (ek : K → Value) (ev : V → Value) (T : TypeId) (w : World) : Tr K V → Option Addr → Prop
  | .leaf, p => p = none
  | .node k v l r, p => ∃ (b : Nat) (pl pr : Option Addr), p = some ⟨b, 0, none⟩ ∧
      IsBlk w b #[ek k, ev v, .pointer pl, .pointer pr, .int .i64 ((1 + max l.tall r.tall : Nat) : Int), .int .i64 ((1 + l.size + r.size : Nat) : Int)] T ∧ TreeAt ek ev T w l pl ∧ TreeAt ek ev T w r pr
section
variable {K V : Type} {ek : K → Value} {ev : V → Value} {T : TypeId}
/-- Every block of this type that was there is there. -/
def KeepT (T : TypeId) (w w' : World) : Prop := ∀ (b : Nat) (cs : Array Value), IsBlk w b cs T → IsBlk w' b cs T
theorem KeepT.refl (T : TypeId) (w : World) : KeepT T w w := fun _ _ h => h
theorem KeepT.trans {T : TypeId} {a b c : World} (h : KeepT T a b) (k : KeepT T b c) : KeepT T a c := fun i cs hi => k i cs (h i cs hi)
theorem KeepT.of_keeps {T : TypeId} {S : Nat → Prop} {w w' : World} (h : Keeps S w w') (hs : ∀ b cs, IsBlk w b cs T → ¬ S b) : KeepT T w w' :=
  fun b cs hb => h.obj hb (hs b cs hb)
theorem TreeAt.keepT {w w' : World} (h : KeepT T w w') : ∀ {t : Tr K V} {p : Option Addr}, TreeAt ek ev T w t p → TreeAt ek ev T w' t p := by
  intro t
  induction t with
  | leaf => exact fun h => h
  | node k v l r hl hr =>
    rintro p ⟨b, pl, pr, rfl, hb, h1, h2⟩
    exact ⟨b, pl, pr, rfl, h b _ hb, hl h1, hr h2⟩
theorem TreeAt.keeps {S : Nat → Prop} {w w' : World} (h : Keeps S w w') (hs : ∀ b cs, IsBlk w b cs T → ¬ S b) {t : Tr K V} {p : Option Addr} (ht : TreeAt ek ev T w t p) : TreeAt ek ev T w' t p :=
  ht.keepT (KeepT.of_keeps h hs)
theorem TreeAt.below {w w' : World} (h : Below w.heap.size w w') {t : Tr K V} {p : Option Addr} (ht : TreeAt ek ev T w t p) : TreeAt ek ev T w' t p :=
  ht.keeps (Keeps.of_below h) (fun _ _ _ h => h)
theorem TreeAt.alloc {w : World} (o : Obj) {t : Tr K V} {p : Option Addr} (ht : TreeAt ek ev T w t p) : TreeAt ek ev T (w.alloc o) t p :=
  ht.keeps ((Keeps.refl (fun _ => False) w).alloc o) (fun _ _ _ h => h)
end
end Go.Proofs.YthjcolehccbihaaGreatDoor
