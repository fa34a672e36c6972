/- Slices that a call builds for itself by append, as lists of encoded elements. -/
import Derived.Test.YtndaacojbbmcnaaBase
import Derived.Maps.AppendAt
import Derived.RangeFuncBox
namespace Go.Proofs.Ytndaacojbbmcnaa
open Go.RowKit

/-- The slice value v holds just these elements, in a block of its own from base on (or is nil, and holds none). -/
def RowOf {α : Type} (enc : α → List Value) (e : TypeId) (size : Nat) (w : World) (base : Nat) (v : Value) (xs : List α) : Prop :=
  (∀ x, (enc x).length = size) ∧ w.ownsRow base e size v xs.length (xs.flatMap enc)

section
variable {α : Type} {enc : α → List Value} {e : TypeId} {size : Nat} {w w' : World} {base : Nat} {v : Value} {xs : List α}
theorem flat_length (h : ∀ x, (enc x).length = size) (xs : List α) : (xs.flatMap enc).length = xs.length * size := by
  induction xs with
  | nil => simp
  | cons x xs ih => simp [ih, h x, Nat.add_mul]; omega
theorem flat_get (h : ∀ x, (enc x).length = size) : ∀ (xs : List α) (j i : Nat) (x : α), xs[j]? = some x → i < size → (xs.flatMap enc)[j * size + i]? = (enc x)[i]?
  | [], _, _, _, hx, _ => by simp at hx
  | y :: xs, 0, i, x, hx, hi => by
    simp only [List.getElem?_cons_zero, Option.some.injEq] at hx
    subst hx
    simp only [List.flatMap_cons, Nat.zero_mul, Nat.zero_add]
    rw [List.getElem?_append_left (by rw [h]; exact hi)]
  | y :: xs, j + 1, i, x, hx, hi => by
    simp only [List.getElem?_cons_succ] at hx
    have := flat_get h xs j i x hx hi
    simp only [List.flatMap_cons]
    rw [List.getElem?_append_right (by rw [h, Nat.add_mul]; omega), h]
    rw [show (j + 1) * size + i - size = j * size + i by rw [Nat.add_mul]; omega]
    exact this
theorem RowOf.nil (h : ∀ x, (enc x).length = size) : RowOf enc e size w base (.slice none 0 0) [] := ⟨h, World.ownsRow_nil _ _ _ _⟩
/-- The shape of the value. -/
theorem RowOf.shape (h : RowOf enc e size w base v xs) : (v = .slice none 0 0 ∧ xs = []) ∨ ∃ g cap, v = .slice (some ⟨g, 0, none⟩) xs.length cap ∧ base ≤ g ∧ g < w.heap.size ∧ xs.length ≤ cap := by
  obtain ⟨hl, h1, h2⟩ := h
  rcases h2 with ⟨hv, hn⟩ | ⟨g, cap, cur, hv, hb, hg, hc, _⟩
  · exact .inl ⟨hv, List.length_eq_zero_iff.1 hn⟩
  · exact .inr ⟨g, cap, hv, hb, lt_of_block hg, hc⟩
theorem RowOf.cell {g cap : Nat} (h : RowOf enc e size w base (.slice (some ⟨g, 0, none⟩) xs.length cap) xs) {j i : Nat} {x : α} (hx : xs[j]? = some x) (hi : i < size) :
    w.cell? ⟨g, j * size + i, none⟩ = (enc x)[i]? := by
  have hj : j < xs.length := (List.getElem?_eq_some_iff.1 hx).1
  have hlt : j * size + i < xs.length * size := by
    have := Nat.mul_le_mul_right size (Nat.succ_le_of_lt hj)
    rw [Nat.succ_mul] at this; omega
  rw [h.2.cellAt _ hlt, flat_get h.1 xs j i x hx hi]
theorem RowOf.below {B : Nat} (h : RowOf enc e size w B v xs) (hk : Below w.heap.size w w') : RowOf enc e size w' B v xs :=
  ⟨h.1, h.2.kept (row := none) ⟨hk.os, hk.tape, hk.output, hk.size, fun k hk' _ => hk.block k hk'⟩ (by cases hv : v.ownBlock <;> simp)⟩
theorem RowOf.keeps {S : Nat → Prop} (h : RowOf enc e size w base v xs) (hk : Keeps S w w') (hn : ∀ g, v.ownBlock = some g → ¬ S g) : RowOf enc e size w' base v xs := by
  obtain ⟨h0, h1, h2⟩ := h
  refine ⟨h0, h1, ?_⟩
  rcases h2 with h2 | ⟨g, cap, cur, hv, hb, hg, r⟩
  · exact .inl h2
  · exact .inr ⟨g, cap, cur, hv, hb, hk.obj hg (hn g (by rw [hv]; rfl)), r⟩
theorem RowOf.base_le {B : Nat} (h : RowOf enc e size w base v xs) (hB : ∀ g, v.ownBlock = some g → B ≤ g) : RowOf enc e size w B v xs := by
  obtain ⟨h0, h1, h2⟩ := h
  refine ⟨h0, h1, ?_⟩
  rcases h2 with h2 | ⟨g, cap, cur, hv, hb, r⟩
  · exact .inl h2
  · exact .inr ⟨g, cap, cur, hv, hB g (by rw [hv]; rfl), r⟩
theorem RowOf.own (h : RowOf enc e size w base v xs) : ∀ g, v.ownBlock = some g → base ≤ g ∧ g < w.heap.size := fun g hg => h.2.lt g hg
end

/-- append of one element: onto a slice of the call's own. -/
theorem wpList_append1 {α : Type} {P : Program} {ops : Array Oper} {rest : List Oper} {o : Oper} {a : Act} {Q : Exit → Act → World → Prop} {w0 : World} (enc : α → List Value) (hgd : o.guard = none) (s x : Operand) (t : TypeId)
    (ho : o.op = .call { callee := .builtin .append, args := #[s, x], argTypes := #[t, t] })
    (base : Nat) (e : TypeId) (i : TypeInfo) (z : Value) (size bytes : Nat) (ht : P.underlying t = some (.slice e)) (hi : P.info? e = some i) (hz : i.zero = some z)
    (hsize : i.size = size) (hby : i.bytes = bytes) (hzs : z.cells.size = size) (hsz : 0 < size)
    (v : Value) (xs : List α) (el : α) (hs : a.eval s = v) (hown : RowOf enc e size w0 base v xs)
    (hx : a.eval x = .slice (some ⟨w0.heap.size, 0, none⟩) 1 1) (h1 : ∀ u ∈ enc el, u.oneCell' = true) (hn : xs.length < 1000000) (hby2 : bytes ≤ 1000) (hbase : base ≤ w0.heap.size)
    (h : ∀ g cap w', RowOf enc e size w' base (.slice (some ⟨g, 0, none⟩) (xs.length + 1) cap) (xs ++ [el]) → Keeps (fun k => v.ownBlock = some k) w0 w' → (v.ownBlock = some g ∨ w0.heap.size ≤ g) → wpList P ops Q rest (a.put o.dst (.slice (some ⟨g, 0, none⟩) (xs.length + 1) cap)) w') :
    wpList P ops Q (o :: rest) a (w0.alloc (.cells (enc el).toArray e)) := by
  refine wpList_append_own_at (w := w0.alloc (.cells (enc el).toArray e)) hgd s x t ho base e i z size bytes ht hi hz hsize hby hzs hsz v xs.length (xs.flatMap enc) hs (hown.2.alloc _) ⟨w0.heap.size, 0, none⟩ 1 1 (enc el) hx
    (by rw [hown.1 el]; omega) ?_ h1 (by unfold maxLen; omega) ?_ (by simp; omega) ?_
  · intro j u hu
    have hb : IsBlk (w0.alloc (.cells (enc el).toArray e)) w0.heap.size (enc el).toArray e := blk_new w0 _
    have : ((⟨w0.heap.size, 0, none⟩ : Addr).add j) = ⟨w0.heap.size, j, none⟩ := by
      unfold Addr.add; split
      · rename_i h0; subst h0; rfl
      · simp
    rw [this, blk_cell hb j]; simpa using hu
  · have : (xs.length + 1) * bytes ≤ 1000000 * 1000 := Nat.mul_le_mul (by omega) hby2
    omega
  · intro v' w' hown' hg hnil hblk
    obtain ⟨g, cap, rfl⟩ := ownsRow_succ hown'
    have hrow : RowOf enc e size w' base (.slice (some ⟨g, 0, none⟩) (xs.length + 1) cap) (xs ++ [el]) := ⟨hown.1, by simpa using hown'⟩
    have hk : Keeps (fun k => v.ownBlock = some k) w0 w' := ((Keeps.refl _ w0).alloc _).grown hg (fun k hk _ => hk)
    refine h g cap w' hrow hk ?_
    rcases hblk with hb | hb
    · exact .inl (hb.symm.trans rfl)
    · right
      have : g = (w0.alloc (.cells (enc el).toArray e)).heap.size := by simpa [Value.ownBlock] using hb
      rw [this]; simp
end Go.Proofs.Ytndaacojbbmcnaa
