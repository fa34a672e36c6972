/- Blanks round the marks of a text that stand outside of its strings: it is read as the same value. Plain; no program in it. -/
import Derived.Test.YthjcolehccbihaaGreatDoorz37
set_option linter.unusedSectionVars false
set_option linter.unusedSimpArgs false
set_option linter.unusedVariables false
namespace Go.Proofs.YthjcolehccbihaaGreatDoor
open Go.Lib (encodeRune)
def isMark (c : UInt8) : Bool := c == 123 || c == 125 || c == 91 || c == 93 || c == 44 || c == 58
/-- exlaw7.spread; 0: outside of a string, 1: within, else: behind a backslash. -/
def spr : Nat → List UInt8 → List UInt8
  | _, [] => []
  | 0, c :: l => if c = 34 then c :: spr 1 l else if isMark c = true then 32 :: 9 :: c :: 10 :: 13 :: spr 0 l else c :: spr 0 l
  | 1, c :: l => if c = 92 then c :: spr 2 l else if c = 34 then c :: spr 0 l else c :: spr 1 l
  | _ + 2, c :: l => c :: spr 1 l
theorem mark_ne {c : UInt8} (h : isMark c = true) : c ≠ 34 := by rintro rfl; exact absurd h (by decide)
theorem spr0_mark {c : UInt8} {l : List UInt8} (h : isMark c = true) : spr 0 (c :: l) = 32 :: 9 :: c :: 10 :: 13 :: spr 0 l := by
  conv => lhs; unfold spr
  rw [if_neg (mark_ne h), if_pos h]
theorem spr0_quote (l : List UInt8) : spr 0 (34 :: l) = 34 :: spr 1 l := by
  conv => lhs; unfold spr
  rw [if_pos rfl]
theorem spr0_else {c : UInt8} {l : List UInt8} (h : c ≠ 34) (h2 : isMark c = false) : spr 0 (c :: l) = c :: spr 0 l := by
  conv => lhs; unfold spr
  rw [if_neg h, if_neg (by simp [h2])]
/-- A byte that goes over as it is, outside of strings. -/
def Plain (c : UInt8) : Prop := c ≠ 34 ∧ isMark c = false
instance (c : UInt8) : Decidable (Plain c) := inferInstanceAs (Decidable (_ ∧ _))
theorem Plain.of {p : UInt8 → Bool} (h : ∀ c ∈ [34, 123, 125, 91, 93, 44, 58], p c = false) {c : UInt8} (hc : p c = true) : Plain c := by
  refine ⟨fun e => ?_, ?_⟩
  · subst e; rw [h 34 (by simp)] at hc; cases hc
  · cases hm : isMark c with
    | false => rfl
    | true =>
      simp only [isMark, Bool.or_eq_true, beq_iff_eq] at hm
      have : p c = false := h c (by rcases hm with ((((rfl | rfl) | rfl) | rfl) | rfl) | rfl <;> simp)
      rw [this] at hc; cases hc
def Eats (l r : List UInt8) : Prop := ∃ p, l = p ++ r ∧ spr 0 l = p ++ spr 0 r
theorem Eats.refl (l : List UInt8) : Eats l l := ⟨[], rfl, rfl⟩
theorem Eats.trans {a b c : List UInt8} (h : Eats a b) (k : Eats b c) : Eats a c := by
  obtain ⟨p, h1, h2⟩ := h
  obtain ⟨q, k1, k2⟩ := k
  exact ⟨p ++ q, by rw [h1, k1, List.append_assoc], by rw [h2, k2, List.append_assoc]⟩
theorem Eats.one {c : UInt8} (h : Plain c) (l : List UInt8) : Eats (c :: l) l := ⟨[c], rfl, by rw [spr0_else h.1 h.2]; rfl⟩
/-- What no test takes stays such. -/
theorem other {p : UInt8 → Bool} (h34 : p 34 = false) (h32 : p 32 = false) {c : UInt8} (hc : p c = false) (l : List UInt8) : ∃ d m, spr 0 (c :: l) = d :: m ∧ p d = false := by
  by_cases h1 : c = 34
  · subst h1; exact ⟨_, _, spr0_quote l, h34⟩
  by_cases h2 : isMark c = true
  · exact ⟨_, _, spr0_mark h2, h32⟩
  · exact ⟨_, _, spr0_else h1 (by simpa using h2), hc⟩
def Out.Nz {α : Type} (o : Out α) : Prop := ∀ p e, o = .bad p e → e ≠ 0
theorem Out.Nz.ok {α : Type} {x : α} {r : List UInt8} : (Out.ok x r).Nz := by intro p e h; cases h
theorem Out.Nz.bad {α : Type} {p e : Nat} (h : e ≠ 0) : (Out.bad p e : Out α).Nz := by intro p' e' h'; injection h' with _ h'; rw [← h']; exact h
theorem Out.Nz.bind {α β : Type} {o : Out α} {f : α → List UInt8 → Out β} (h : o.Nz) (hf : ∀ x r, o = .ok x r → (f x r).Nz) : (o.andThen f).Nz := by
  cases o with
  | ok x r => exact hf x r rfl
  | bad p e => exact .bad (h p e rfl)
end Go.Proofs.YthjcolehccbihaaGreatDoor
set_option linter.unusedSimpArgs false
set_option linter.unusedVariables false
namespace Go.Proofs.YthjcolehccbihaaGreatDoor
mutual
def Neat : JV → Prop
  | .mk k _ l ns => (k = 6 → ns.length = l.length) ∧ NeatAll l
def NeatAll : List JV → Prop
  | [] => True
  | v :: l => Neat v ∧ NeatAll l
end
end Go.Proofs.YthjcolehccbihaaGreatDoor
set_option linter.unusedSimpArgs false
set_option linter.unusedVariables false
namespace Go.Proofs.YthjcolehccbihaaGreatDoor
end Go.Proofs.YthjcolehccbihaaGreatDoor
set_option linter.unusedSimpArgs false
set_option linter.unusedVariables false
namespace Go.Proofs.YthjcolehccbihaaGreatDoor
open Go.RowKit Go.Shelf
theorem types_apart {W : World} {g b : Nat} {cs ds : Array Value} {T U : TypeId} (h1 : IsBlk W g cs T) (h2 : IsBlk W b ds U) (hT : T ≠ U) : g ≠ b := by
  rintro rfl
  have := h1.symm.trans h2
  simp only [Option.some.injEq, Obj.cells.injEq] at this
  exact hT this.2.1
/-- A value under way: its box at b3, its list and its names so far; all of it newer than w. -/
structure TurnI (w wr : World) (b3 : Nat) (k : Int) (t : ByteArray) (ns : List ByteArray) (lv nv : Value) (acc : List JV) : Prop where
  box : IsBlk wr b3 #[.int .i64 k, .string t, lv, nv] 25
  lst : ∃ rs, SlAt rawKind 25 wr lv rs ∧ JsAt wr (fun g => w.heap.size ≤ g ∧ lv.ownBlock ≠ some g ∧ nv.ownBlock ≠ some g ∧ g ≠ b3) acc rs
  nms : SlAt textKind 9 wr nv ns
  lown : ∀ g, lv.ownBlock = some g → w.heap.size ≤ g ∧ g ≠ b3
  nown : ∀ g, nv.ownBlock = some g → w.heap.size ≤ g
  below : Below w.heap.size w wr
  ge : w.heap.size ≤ b3
section
variable {w wr : World} {b3 : Nat} {k : Int} {t : ByteArray} {ns : List ByteArray} {lv nv : Value} {acc : List JV}
theorem TurnI.on {wy : World} (h : TurnI w wr b3 k t ns lv nv acc) (hb : Below wr.heap.size wr wy) : TurnI w wy b3 k t ns lv nv acc := by
  obtain ⟨rs, h1, h2⟩ := h.lst
  exact ⟨(hb.block _ (lt_of_block h.box)).trans h.box, ⟨rs, h1.below hb, h2.below hb⟩, h.nms.below hb, h.lown, h.nown, h.below.trans (hb.mono h.below.size), h.ge⟩
/-- Where the list's row lies, where the names' row lies, where the box: three places. -/
theorem TurnI.apart (h : TurnI w wr b3 k t ns lv nv acc) : (∀ g, lv.ownBlock = some g → g < wr.heap.size ∧ g ≠ b3) ∧ (∀ g, nv.ownBlock = some g → g < wr.heap.size ∧ g ≠ b3) ∧ (∀ g, lv.ownBlock = some g → nv.ownBlock = some g → False) := by
  obtain ⟨rs, h1, _⟩ := h.lst
  refine ⟨fun g hg => ?_, fun g hg => ?_, fun g hg hn => ?_⟩
  · obtain ⟨cur, hc⟩ := h1.own g hg
    exact ⟨lt_of_block hc, (h.lown g hg).2⟩
  · obtain ⟨cur, hc⟩ := h.nms.own g hg
    exact ⟨lt_of_block hc, types_apart hc h.box (by decide)⟩
  · obtain ⟨cur, hc⟩ := h.nms.own g hn
    obtain ⟨cur2, hc2⟩ := h1.own g hg
    exact types_apart hc hc2 (by decide) rfl
theorem TurnI.push (h : TurnI w wr b3 k t ns lv nv acc) {wy : World} (hy : Below wr.heap.size wr wy) {x : JV} {q : RawV} (hx : JAt wy (fun g => wr.heap.size ≤ g) x q) (hn : acc.length + 1 ≤ 1000000) (cs : Array Value) (hcs : cs = q.cells.toArray) (ty : TypeId) :
    ∃ a' c' wu, (Builtin.append_ #[22, 22] ty #[lv, .slice (some ⟨wy.heap.size, 0, none⟩) 1 1]).run Tryz.prog (wy.alloc (.cells cs 25)) = .ok (.slice a' (acc.length + 1) c') wu ∧ IsBlk wu b3 #[.int .i64 k, .string t, lv, nv] 25 ∧ Below w.heap.size w wu ∧
      TurnI w (wu.setCell ⟨b3, 2, none⟩ (.slice a' (acc.length + 1) c')) b3 k t ns (.slice a' (acc.length + 1) c') nv (acc ++ [x]) := by
  have hyy := h.on hy
  have hb3 : b3 < wr.heap.size := lt_of_block h.box
  have hsz := hy.size
  have hwz := h.below.size
  obtain ⟨ap1, ap2, ap3⟩ := h.apart
  obtain ⟨rs, h3, h4⟩ := hyy.lst
  have h4' := h4.lt
  have hal : Below wy.heap.size wy (wy.alloc (.cells cs 25)) := (Below.refl _ _).alloc (Nat.le_refl _) _
  have hz1 : (wy.alloc (.cells cs 25)).heap.size = wy.heap.size + 1 := by simp
  have ha := hyy.on hal
  have hq := rd_new (ek := rawKind) wy q cs hcs 25
  have hlen : rs.length = acc.length := h4.length
  obtain ⟨v', wu, hrun, hsl, hku, hown⟩ := append_raw (h3.below hal) hq (by rw [hlen]; simp; omega) ty
  obtain ⟨a', c', hv'⟩ := hsl.shape
  have hl1 : (rs ++ [q]).length = acc.length + 1 := by rw [List.length_append, hlen]; rfl
  rw [hl1] at hv'
  subst hv'
  have hbu := hku.obj (w := wy.alloc (.cells cs 25)) ha.box (fun e => (h.lown _ e).2 rfl)
  have hset : Keeps (Only b3) wu (wu.setCell ⟨b3, 2, none⟩ (.slice a' (acc.length + 1) c')) := keeps_set _ _ _ _
  have hvn : ∀ g, (Value.slice a' (acc.length + 1) c').ownBlock = some g → w.heap.size ≤ g ∧ g ≠ b3 := fun g hg => by
    rcases hown g hg with e | e
    · exact h.lown g e
    · rw [hz1] at e
      exact ⟨by omega, by omega⟩
  have hbw : Below w.heap.size w wu := below_keeps ha.below hku (fun i e => (h.lown i e).1) ha.below.size
  refine ⟨a', c', wu, hrun, hbu, hbw, ?_, ⟨rs ++ [q], hsl.keeps hset (fun g hg e => (hvn g hg).2 e), ?_⟩, ?_, hvn, h.nown, ?_, h.ge⟩
  · exact blk_set hbu 2 _
  · have key : ∀ g, g < wy.heap.size → lv.ownBlock ≠ some g → (Value.slice a' (acc.length + 1) c').ownBlock ≠ some g := fun g hg h1 h2 => by
      rcases hown g h2 with e | e
      · exact h1 e
      · rw [hz1] at e; omega
    have old := ((h4'.below hal).keeps hku (fun g hg e => hg.1.2.1 e)).keeps hset (fun g hg e => hg.1.2.2.2 e)
    have new := ((hx.lt.below hal).keeps hku (fun g hg e => by have := (ap1 g e).1; have := hg.1; omega)).keeps hset (fun g hg e => by have e : g = b3 := e; have := hg.1; omega)
    have old2 := old.mono (A' := fun g => w.heap.size ≤ g ∧ (Value.slice a' (acc.length + 1) c').ownBlock ≠ some g ∧ nv.ownBlock ≠ some g ∧ g ≠ b3) (fun g hg => ⟨hg.1.1, key g hg.2 hg.1.2.1, hg.1.2.2.1, hg.1.2.2.2⟩)
    have new2 := new.mono (A' := fun g => w.heap.size ≤ g ∧ (Value.slice a' (acc.length + 1) c').ownBlock ≠ some g ∧ nv.ownBlock ≠ some g ∧ g ≠ b3) (fun g hg => ⟨by have := hg.1; omega, key g hg.2 (fun e => by have := (ap1 g e).1; have := hg.1; omega), fun e => by have := (ap2 g e).1; have := hg.1; omega, by have := hg.1; omega⟩)
    exact old2.snoc new2
  · have hn1 : SlAt textKind 9 wu nv ns := ha.nms.keeps hku (fun g hg e => ap3 g e hg)
    exact hn1.keeps hset (fun g hg e => (ap2 g hg).2 e)
  · exact below_keeps hbw hset (fun i e => by have e : i = b3 := e; have := h.ge; omega) hbw.size
theorem TurnI.start {W : World} (hb : IsBlk W b3 #[.int .i64 k, .string t, .slice none 0 0, .slice none 0 0] 25) (hw : Below w.heap.size w W) (hg : w.heap.size ≤ b3) :
    TurnI w W b3 k t [] (.slice none 0 0) (.slice none 0 0) [] :=
  ⟨hb, ⟨[], SlAt.nil, by simp only [JsAt]⟩, SlAt.nil, (fun g hg => by cases hg), (fun g hg => by cases hg), hw, hg⟩
theorem TurnI.fin {a1 : Option Addr} {c1 : Nat} {a2 : Option Addr} {c2 n m : Nat} (h : TurnI w wr b3 k t ns (.slice a1 n c1) (.slice a2 m c2) acc) : JAt wr (fun g => w.heap.size ≤ g) (.mk k t acc ns) ⟨k, t, a1, n, c1, a2, m, c2⟩ := by
  obtain ⟨rs, h3, h4⟩ := h.lst
  simp only [JAt, RawV.lv, RawV.nv]
  exact ⟨trivial, trivial, ⟨h.nms.rd, fun _ g hg => h.nown g hg, h.nms.le_cap rfl⟩, rs, ⟨h3.rd, fun _ g hg => (h.lown g hg).1⟩, h4.mono fun g hg => hg.1⟩
end
end Go.Proofs.YthjcolehccbihaaGreatDoor
