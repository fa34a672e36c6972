/- How a JSON value lies in memory: its own cells, its list's, its names', whatever depth. -/
import Derived.Test.YthjcolehccbihaaGreatDoorz05
namespace Go.Proofs.YthjcolehccbihaaGreatDoor
open Go.RowKit Go.Shelf
/-- A value's own cells. -/
structure RawV where
  k : Int
  t : ByteArray
  la : Option Addr
  ll : Nat
  lc : Nat
  na : Option Addr
  nl : Nat
  nc : Nat
def RawV.lv (r : RawV) : Value := .slice r.la r.ll r.lc
def RawV.nv (r : RawV) : Value := .slice r.na r.nl r.nc
def RawV.cells (r : RawV) : List Value := [.int .i64 r.k, .string r.t, .slice r.la r.ll r.lc, .slice r.na r.nl r.nc]
def RawV.val (r : RawV) : Value := .agg #[.int .i64 r.k, .string r.t, .slice r.la r.ll r.lc, .slice r.na r.nl r.nc]
def rawKind : ElKind RawV := ⟨RawV.cells, 4, fun _ => rfl, by decide, fun r u hu => by
  simp only [RawV.cells, List.mem_cons, List.not_mem_nil, or_false] at hu
  rcases hu with rfl | rfl | rfl | rfl <;> rfl⟩
mutual
/-- The value v lies as r says; what lies apart of r's own cells lies in blocks of A. -/
def JAt (w : World) (A : Nat → Prop) : JV → RawV → Prop
  | .mk k t l ns, r => r.k = k ∧ r.t = t ∧ (RdAt textKind w r.nv ns ∧ (ns ≠ [] → ∀ g, r.nv.ownBlock = some g → A g) ∧ ns.length ≤ r.nc) ∧ ∃ rs, (RdAt rawKind w r.lv rs ∧ (rs ≠ [] → ∀ g, r.lv.ownBlock = some g → A g)) ∧ JsAt w A l rs
def JsAt (w : World) (A : Nat → Prop) : List JV → List RawV → Prop
  | [], [] => True
  | v :: l, r :: rs => JAt w A v r ∧ JsAt w A l rs
  | [], _ :: _ => False
  | _ :: _, [] => False
end
theorem JAt.lift {w w' : World} {A A' : Nat → Prop} (hN : ∀ (ns : List ByteArray) (v : Value), RdAt textKind w v ns → (ns ≠ [] → ∀ g, v.ownBlock = some g → A g) → RdAt textKind w' v ns ∧ (ns ≠ [] → ∀ g, v.ownBlock = some g → A' g))
    (hL : ∀ (rs : List RawV) (v : Value), RdAt rawKind w v rs → (rs ≠ [] → ∀ g, v.ownBlock = some g → A g) → RdAt rawKind w' v rs ∧ (rs ≠ [] → ∀ g, v.ownBlock = some g → A' g)) : ∀ (v : JV) (r : RawV), JAt w A v r → JAt w' A' v r
  | .mk k t l ns, r, h => by
    simp only [JAt] at h ⊢
    obtain ⟨h1, h2, ⟨h3, h4, h8⟩, rs, ⟨h5, h6⟩, h7⟩ := h
    exact ⟨h1, h2, ⟨(hN _ _ h3 h4).1, (hN _ _ h3 h4).2, h8⟩, rs, hL _ _ h5 h6, all l rs h7⟩
where all : ∀ (l : List JV) (rs : List RawV), JsAt w A l rs → JsAt w' A' l rs
  | [], [], _ => trivial
  | v :: l, r :: rs, h => by
    simp only [JsAt] at h ⊢
    exact ⟨JAt.lift hN hL v r h.1, all l rs h.2⟩
  | [], _ :: _, h => by simp only [JsAt] at h
  | _ :: _, [], h => by simp only [JsAt] at h
section
variable {w w' : World} {A A' S : Nat → Prop} {v : JV} {r : RawV} {l : List JV} {rs : List RawV}
theorem RdAt.keepsA {α : Type} {ek : ElKind α} {v : Value} {xs : List α} (h : RdAt ek w v xs) (ha : xs ≠ [] → ∀ g, v.ownBlock = some g → A g) (hk : Keeps S w w') (hs : ∀ g, A g → ¬ S g) : RdAt ek w' v xs :=
  h.keeps' hk fun g hg hx => hs g (ha hx g hg)
theorem JAt.keeps (h : JAt w A v r) (hk : Keeps S w w') (hs : ∀ g, A g → ¬ S g) : JAt w' A v r :=
  JAt.lift (fun _ _ h ha => ⟨h.keepsA ha hk hs, ha⟩) (fun _ _ h ha => ⟨h.keepsA ha hk hs, ha⟩) v r h
theorem JsAt.keeps (h : JsAt w A l rs) (hk : Keeps S w w') (hs : ∀ g, A g → ¬ S g) : JsAt w' A l rs :=
  JAt.lift.all (fun _ _ h ha => ⟨h.keepsA ha hk hs, ha⟩) (fun _ _ h ha => ⟨h.keepsA ha hk hs, ha⟩) l rs h
theorem JAt.mono (h : JAt w A v r) (ha : ∀ g, A g → A' g) : JAt w A' v r :=
  JAt.lift (fun _ _ h k => ⟨h, fun hx g hg => ha g (k hx g hg)⟩) (fun _ _ h k => ⟨h, fun hx g hg => ha g (k hx g hg)⟩) v r h
theorem JsAt.mono (h : JsAt w A l rs) (ha : ∀ g, A g → A' g) : JsAt w A' l rs :=
  JAt.lift.all (fun _ _ h k => ⟨h, fun hx g hg => ha g (k hx g hg)⟩) (fun _ _ h k => ⟨h, fun hx g hg => ha g (k hx g hg)⟩) l rs h
theorem JAt.below (h : JAt w A v r) (hk : Below w.heap.size w w') : JAt w' A v r := h.keeps (Keeps.of_below hk) fun _ _ h => h
theorem JsAt.below (h : JsAt w A l rs) (hk : Below w.heap.size w w') : JsAt w' A l rs := h.keeps (Keeps.of_below hk) fun _ _ h => h
theorem RdAt.lt {α : Type} {ek : ElKind α} {v : Value} {xs : List α} (h : RdAt ek w v xs) (hx : xs ≠ []) {g : Nat} (hg : v.ownBlock = some g) : g < w.heap.size := by
  obtain ⟨off, x, hc⟩ := h.first hx hg
  have hl := ek.len x
  have hp := ek.pos
  rw [List.getElem?_eq_getElem (by omega)] at hc
  exact World.block_lt_of_cell? w ⟨g, off, none⟩ hc
theorem JAt.lt (h : JAt w A v r) : JAt w (fun g => A g ∧ g < w.heap.size) v r :=
  JAt.lift (fun _ _ h k => ⟨h, fun hx g hg => ⟨k hx g hg, h.lt hx hg⟩⟩) (fun _ _ h k => ⟨h, fun hx g hg => ⟨k hx g hg, h.lt hx hg⟩⟩) v r h
theorem JsAt.lt (h : JsAt w A l rs) : JsAt w (fun g => A g ∧ g < w.heap.size) l rs :=
  JAt.lift.all (fun _ _ h k => ⟨h, fun hx g hg => ⟨k hx g hg, h.lt hx hg⟩⟩) (fun _ _ h k => ⟨h, fun hx g hg => ⟨k hx g hg, h.lt hx hg⟩⟩) l rs h
theorem JsAt.length : ∀ {l : List JV} {rs : List RawV}, JsAt w A l rs → rs.length = l.length
  | [], [], _ => rfl
  | _ :: _, _ :: _, h => by simp only [JsAt] at h; simp only [List.length_cons, JsAt.length h.2]
  | [], _ :: _, h => by simp only [JsAt] at h
  | _ :: _, [], h => by simp only [JsAt] at h
theorem JsAt.snoc : ∀ {l : List JV} {rs : List RawV} {v : JV} {r : RawV}, JsAt w A l rs → JAt w A v r → JsAt w A (l ++ [v]) (rs ++ [r])
  | [], [], v, r, _, h => by simp only [List.nil_append, JsAt]; exact ⟨h, trivial⟩
  | _ :: _, _ :: _, v, r, h, k => by simp only [JsAt] at h; simp only [List.cons_append, JsAt]; exact ⟨h.1, JsAt.snoc h.2 k⟩
  | [], _ :: _, _, _, h, _ => by simp only [JsAt] at h
  | _ :: _, [], _, _, h, _ => by simp only [JsAt] at h
theorem JsAt.get : ∀ {l : List JV} {rs : List RawV}, JsAt w A l rs → ∀ {i : Nat} {v : JV}, l[i]? = some v → ∃ r, rs[i]? = some r ∧ JAt w A v r
  | [], _, _, _, _, h => by simp at h
  | x :: l, r :: rs, h, 0, v, hv => by simp only [JsAt] at h; simp at hv; subst hv; exact ⟨r, rfl, h.1⟩
  | x :: l, r :: rs, h, i + 1, v, hv => by
    simp only [JsAt] at h
    obtain ⟨r', h1, h2⟩ := JsAt.get h.2 (i := i) (by simpa using hv)
    exact ⟨r', by simpa using h1, h2⟩
  | _ :: _, [], h, _, _, _ => by simp only [JsAt] at h
theorem JsAt.getR : ∀ {l : List JV} {rs : List RawV}, JsAt w A l rs → ∀ {i : Nat} {r : RawV}, rs[i]? = some r → ∃ v, l[i]? = some v ∧ JAt w A v r
  | _, [], _, _, _, h => by simp at h
  | x :: l, r :: rs, h, 0, r', hv => by simp only [JsAt] at h; simp at hv; subst hv; exact ⟨x, rfl, h.1⟩
  | x :: l, r :: rs, h, i + 1, r', hv => by
    simp only [JsAt] at h
    obtain ⟨v', h1, h2⟩ := JsAt.getR h.2 (i := i) (by simpa using hv)
    exact ⟨v', by simpa using h1, h2⟩
  | [], _ :: _, h, _, _, _ => by simp only [JsAt] at h
end
theorem Rdr.glt {w : World} {rb : Nat} {bv : Value} {bs l : List UInt8} (h : Rdr w rb bv bs l) : ∀ g, bv.ownBlock = some g → bs ≠ [] → g < w.heap.size := fun _ hg hb => h.rd.lt hb hg
theorem SlAt.le_cap {α : Type} {ek : ElKind α} {e : TypeId} {w : World} {v : Value} {xs : List α} (h : SlAt ek e w v xs) {a : Option Addr} {n c : Nat} (hv : v = .slice a n c) : xs.length ≤ c := by
  rcases h with ⟨h1, h2⟩ | ⟨g, off, cap, cur, h1, _, h3, _⟩
  · rw [h2]; exact Nat.zero_le _
  · rw [h1] at hv
    injection hv with _ _ e3
    omega
/-- A value without parts. -/
def rawOf (k : Int) (t : ByteArray) : RawV := ⟨k, t, none, 0, 0, none, 0, 0⟩
theorem rdNil {α : Type} (ek : ElKind α) (w : World) : RdAt ek w (.slice none 0 0) ([] : List α) := ⟨none, 0, rfl, fun j x hx => by simp at hx⟩
theorem JAt.plain (w : World) (A : Nat → Prop) (k : Int) (t : ByteArray) : JAt w A (.mk k t [] []) (rawOf k t) := by
  simp only [JAt]
  exact ⟨rfl, rfl, ⟨rdNil _ _, fun h => absurd rfl h, Nat.le_refl _⟩, [], ⟨rdNil _ _, fun h => absurd rfl h⟩, by simp only [JsAt]⟩
/-- A value that a call hands back, in memory that is newer than b. -/
def VJ (b : Nat) (w : World) (v : Value) (x : JV) : Prop := ∃ r : RawV, v = r.val ∧ JAt w (fun g => b ≤ g) x r
def JBox (w : World) (bx : Nat) (r : RawV) : Prop := IsBlk w bx #[.int .i64 r.k, .string r.t, .slice r.la r.ll r.lc, .slice r.na r.nl r.nc] 25
def raw0 : RawV := rawOf 0 ⟨#[]⟩
theorem jbox_new (w : World) (r : RawV) : ∃ w1, w.alloc (.cells #[.int .i64 r.k, .string r.t, .slice r.la r.ll r.lc, .slice r.na r.nl r.nc] 25) = w1 ∧ Hid (Below w.heap.size w w1 ∧ JBox w1 w.heap.size r) := ⟨_, rfl, Lib.hid ⟨(Below.refl _ _).alloc (Nat.le_refl _) _, blk_new w _⟩⟩
theorem jbox_zero (w : World) : ∃ w1, w.alloc (.cells #[.int .i64 0, .string ⟨#[]⟩, .slice none 0 0, .slice none 0 0] 25) = w1 ∧ Hid (Below w.heap.size w w1 ∧ JBox w1 w.heap.size raw0) := jbox_new w raw0
theorem jbox_cells {w : World} {bx : Nat} {r : RawV} (h : JBox w bx r) : (w.cell? ⟨bx, 0, none⟩ = some (.int .i64 r.k) ∧ w.cell? ⟨bx, 1, none⟩ = some (.string r.t) ∧ w.cell? ⟨bx, 2, none⟩ = some (.slice r.la r.ll r.lc) ∧ w.cell? ⟨bx, 3, none⟩ = some (.slice r.na r.nl r.nc)) ∧
    (w.frozen? ⟨bx, 0, none⟩ = false ∧ w.frozen? ⟨bx, 1, none⟩ = false ∧ w.frozen? ⟨bx, 2, none⟩ = false ∧ w.frozen? ⟨bx, 3, none⟩ = false) :=
  ⟨⟨blk_cell h 0, blk_cell h 1, blk_cell h 2, blk_cell h 3⟩, blk_free h 0, blk_free h 1, blk_free h 2, blk_free h 3⟩
theorem jbox_keeps {S : Nat → Prop} {w w' : World} {bx : Nat} {r : RawV} (h : JBox w bx r) (hk : Keeps S w w') (hn : ¬ S bx) : JBox w' bx r := hk.obj h hn
theorem jbox_below {w w' : World} {bx : Nat} {r : RawV} (h : JBox w bx r) (hb : Below w.heap.size w w') : JBox w' bx r := (hb.block _ (lt_of_block h)).trans h
theorem jbox_keep4 {S : Nat → Prop} {w0 w : World} {bx : Nat} (hb : Keeps S w0 w) (hx : w0.heap.size ≤ bx) (a b c d : Value) : Keeps S w0 ((((w.setCell ⟨bx, 0, none⟩ a).setCell ⟨bx, 1, none⟩ b).setCell ⟨bx, 2, none⟩ c).setCell ⟨bx, 3, none⟩ d) :=
  (((hb.setCell (p := ⟨bx, 0, none⟩) (fun h => absurd h (Nat.not_lt.2 hx)) _).setCell (p := ⟨bx, 1, none⟩) (fun h => absurd h (Nat.not_lt.2 hx)) _).setCell (p := ⟨bx, 2, none⟩) (fun h => absurd h (Nat.not_lt.2 hx)) _).setCell (p := ⟨bx, 3, none⟩) (fun h => absurd h (Nat.not_lt.2 hx)) _
theorem keeps4 (w : World) (bx : Nat) (a b c d : Value) : Keeps (Only bx) w ((((w.setCell ⟨bx, 0, none⟩ a).setCell ⟨bx, 1, none⟩ b).setCell ⟨bx, 2, none⟩ c).setCell ⟨bx, 3, none⟩ d) :=
  ((((Keeps.refl (Only bx) w).setCell (p := ⟨bx, 0, none⟩) (fun _ => rfl) a).setCell (p := ⟨bx, 1, none⟩) (fun _ => rfl) b).setCell (p := ⟨bx, 2, none⟩) (fun _ => rfl) c).setCell (p := ⟨bx, 3, none⟩) (fun _ => rfl) d
theorem jbox_set {w : World} {bx : Nat} {u : RawV} (h : JBox w bx u) (r : RawV) : JBox ((((w.setCell ⟨bx, 0, none⟩ (.int .i64 r.k)).setCell ⟨bx, 1, none⟩ (.string r.t)).setCell ⟨bx, 2, none⟩ (.slice r.la r.ll r.lc)).setCell ⟨bx, 3, none⟩ (.slice r.na r.nl r.nc)) bx r :=
  blk_set (blk_set (blk_set (blk_set h 0 (.int .i64 r.k)) 1 (.string r.t)) 2 (.slice r.la r.ll r.lc)) 3 (.slice r.na r.nl r.nc)
theorem results_cell {fn : Func} {p : Tmp} {ty : TypeId} (h : fn.results = #[.cell p ty]) (tmps : Array Value) (P : Program) (w : World) :
    (results fn tmps).run P w = ((asAddr (tmps.getD p undef)).run P w).andThen fun a w₁ => (loadVar ty a).run P w₁ := by
  simp only [results, h]
  simp [Sem.run_bind, Result.andThen]
set_option maxRecDepth 100000 in
theorem jres_cell {fn : Func} {p : Tmp} (hf : fn.results = #[.cell p 25]) {w : World} {bx : Nat} {r : RawV} (h : JBox w bx r) (tmps : Array Value) (h2 : tmps.getD p undef = .pointer (some ⟨bx, 0, none⟩)) :
    (results fn tmps).run Tryz.prog w = .ok r.val w := by
  obtain ⟨⟨c0, c1, c2, c3⟩, -⟩ := jbox_cells h
  rw [results_cell hf, h2]
  go_simp
  rfl
end Go.Proofs.YthjcolehccbihaaGreatDoor
