/- The statement TableRanges, walked. -/
import Derived.Test.YtndaacojbbmcnaaX3
namespace Go.Proofs.Ytndaacojbbmcnaa
open Go.RowKit Go.RwLone Go.Shelf
attribute [local go_sem] Oper.semAt_some

/-- append of one element onto a slice of the call's own, inside a fence. -/
theorem wpListIn_append1 {α : Type} {F : Fence} {n : Nat} {P : Program} {ops : Array Oper} {rest : List Oper} {o : Oper} {a : Act} {Q : Exit → Act → World → Prop} {w0 : World} (enc : α → List Value) (hgd : o.guard = none) (s x : Operand) (t : TypeId)
    (ho : o.op = .call { callee := .builtin .append, args := #[s, x], argTypes := #[t, t] })
    (base : Nat) (e : TypeId) (i : TypeInfo) (z : Value) (size bytes : Nat) (ht : P.underlying t = some (.slice e)) (hi : P.info? e = some i) (hz : i.zero = some z)
    (hsize : i.size = size) (hby : i.bytes = bytes) (hzs : z.cells.size = size) (hsz : 0 < size)
    (v : Value) (xs : List α) (el : α) (hs : a.eval s = v) (hown : RowOf enc e size w0 base v xs)
    (hx : a.eval x = .slice (some ⟨w0.heap.size, 0, none⟩) 1 1) (h1 : ∀ u ∈ enc el, u.oneCell' = true) (hn : xs.length < 1000000) (hby2 : bytes ≤ 1000) (hbase : base ≤ w0.heap.size)
    (h : ∀ g cap w', RowOf enc e size w' base (.slice (some ⟨g, 0, none⟩) (xs.length + 1) cap) (xs ++ [el]) → Keeps (fun k => v.ownBlock = some k) w0 w' → wpListIn F n P ops Q rest (a.put o.dst (.slice (some ⟨g, 0, none⟩) (xs.length + 1) cap)) w') :
    wpListIn F n P ops Q (o :: rest) a (w0.alloc (.cells (enc el).toArray e)) := by
  refine wpListIn_append_own (w0.alloc (.cells (enc el).toArray e)) hgd s x t ho base e i z size bytes ht hi hz hsize hby hzs hsz v xs.length (xs.flatMap enc) hs (hown.2.alloc _) ⟨w0.heap.size, 0, none⟩ 1 1 (enc el) hx
    (by rw [hown.1 el]; omega) ?_ h1 (by unfold maxLen; omega) ?_ (by simp; omega) ?_
  · intro j u hu
    have hb : IsBlk (w0.alloc (.cells (enc el).toArray e)) w0.heap.size (enc el).toArray e := blk_new w0 _
    have : ((⟨w0.heap.size, 0, none⟩ : Addr).add j) = ⟨w0.heap.size, j, none⟩ := by
      unfold Addr.add; split
      · rename_i h0; subst h0; rfl
      · simp
    rw [this, blk_cell hb j]; simpa using hu
  · have : (xs.length + 1) * bytes ≤ 1000000 * 1000 := Nat.mul_le_mul (by omega) hby2
    omega
  · intro v' w' hown' hg hnil
    obtain ⟨g, cap, rfl⟩ := ownsRow_succ hown'
    have hrow : RowOf enc e size w' base (.slice (some ⟨g, 0, none⟩) (xs.length + 1) cap) (xs ++ [el]) := ⟨hown.1, by simpa using hown'⟩
    have hk : Keeps (fun k => v.ownBlock = some k) w0 w' := ((Keeps.refl _ w0).alloc _).grown hg (fun k hk _ => hk)
    exact h g cap w' hrow hk

theorem rg_end {w W : World} (bs : List Nat) (tmps : Array Value) (hm : ∀ b ∈ bs, W.heap[b]? = some (.deferred (some [])) ∧ w.heap.size + 3 ≤ b) (hn : bs.Nodup) (hB : Below w.heap.size w W)
    (h2 : IsBlk W (w.heap.size + 2) #[.bool true] 4) (h8 : tmps[8]? = some (.pointer (some ⟨w.heap.size + 1 + 1, 0, none⟩)) := by rfl) :
    bodyPostM Fence.wide 0 Try.prog Try.f5 (fun e w' => e = .returned (.bool true) ∧ Below w.heap.size w w') Exit.ret { tmps := tmps, defers := bs.map fun b => { target := .collected b, args := #[] } } W := by
  refine leaves_of_marked bs W (marked_of bs W (fun b hb => (hm b hb).1) hn fun W' hk => ?_)
  have c := blk_cell (hk.obj h2 (fun hb => by have := (hm _ hb).2; omega)) 0
  have c' : W'.cell? ⟨w.heap.size + 1 + 1, 0, none⟩ = some (.bool true) := c
  exact ⟨.bool true, by simp [results, Try.results5, go_sem, h8, c'], rfl, below_keeps hB hk (fun k hk => by have := (hm _ hk).2; omega) hB.size⟩

/-- The boxes: the bounds, the result. -/
structure Rg0 (w : World) (lo hi : ByteArray) (W : World) : Prop where
  z0 : IsBlk W w.heap.size #[.string lo] 9
  z1 : IsBlk W (w.heap.size + 1) #[.string hi] 9
  z2 : IsBlk W (w.heap.size + 2) #[.bool false] 4
  below : Below w.heap.size w W
  size : w.heap.size + 3 ≤ W.heap.size
theorem Rg0.keeps {w : World} {lo hi : ByteArray} {A B : World} {S : Nat → Prop} (h : Rg0 w lo hi A) (hk : Keeps S A B) (hS : ∀ k, S k → w.heap.size + 3 ≤ k) : Rg0 w lo hi B :=
  ⟨hk.obj h.z0 (fun e => by have := hS _ e; omega), hk.obj h.z1 (fun e => by have := hS _ e; omega), hk.obj h.z2 (fun e => by have := hS _ e; omega), below_keeps h.below hk (fun k e => by have := hS _ e; omega) h.below.size, Nat.le_trans h.size hk.size⟩
theorem Rg0.ext {w : World} {lo hi : ByteArray} {A B : World} (h : Rg0 w lo hi A) (hk : Below A.heap.size A B) : Rg0 w lo hi B := h.keeps (Keeps.of_below hk) (fun _ e => e.elim)
theorem rg0_start (w : World) (lo hi : ByteArray) : Rg0 w lo hi (((w.alloc (.cells #[.string lo] 9)).alloc (.cells #[.string hi] 9)).alloc (.cells #[.bool false] 4)) := by
  have q1 := blk_new (w.alloc (.cells #[.string lo] 9)) (.cells #[.string hi] 9)
  have q2 := blk_new ((w.alloc (.cells #[.string lo] 9)).alloc (.cells #[.string hi] 9)) (.cells #[.bool false] 4)
  rw [World.size_alloc] at q1
  rw [World.size_alloc, World.size_alloc] at q2
  exact ⟨blk_alloc (blk_alloc (blk_new w _)), blk_alloc q1, q2, (((Below.refl _ _).alloc (Nat.le_refl _) _).alloc (by simp) _).alloc (by simp; omega) _, by simp⟩
/-- The invariant of the first loop. -/
structure RgL (w : World) (lo hi : ByteArray) (tb : Nat) (i : Nat) (t : Tr ByteArray Int) (W : World) : Prop where
  b : Rg0 w lo hi W
  tab : STab W tb t i
  rise : Rise slt t.ino
  size : t.size ≤ i
theorem row_blk {α : Type} {enc : α → List Value} {e : TypeId} {size base : Nat} {w : World} {v : Value} {xs : List α} (h : RowOf enc e size w base v xs) : ∀ g, v.ownBlock = some g → ∃ cs, IsBlk w g cs e := by
  intro g hg
  obtain ⟨_, _, h2⟩ := h
  rcases h2 with ⟨hv, _⟩ | ⟨g', cap, cur, hv, _, hb, _⟩
  · rw [hv] at hg; simp [Value.ownBlock] at hg
  · rw [hv] at hg
    obtain rfl : g' = g := by simpa [Value.ownBlock] using hg
    exact ⟨_, hb⟩
/-- The snapshot, what was gathered of it. -/
structure RgW (w : World) (lo hi : ByteArray) (sb : Nat) (t : Tr ByteArray Int) (ver : Int) (q B : Nat) (wv : Value) (xs : List (ByteArray × Int)) (W : World) : Prop where
  b : Rg0 w lo hi W
  snap : SSnap W sb t ver
  zw : IsBlk W q #[wv] 27
  row : PRow W B wv xs
theorem RgW.loop {w : World} {lo hi : ByteArray} {sb : Nat} {t : Tr ByteArray Int} {ver : Int} {q B : Nat} {wv : Value} {xs : List (ByteArray × Int)} {A C : World} {l : Nat} (h : RgW w lo hi sb t ver q B wv xs A) (hk : Keeps (LoopAt l A) A C) (hl : w.heap.size + 3 ≤ l) : RgW w lo hi sb t ver q B wv xs C := by
  obtain ⟨root, hb, _⟩ := h.snap.ex
  exact ⟨h.b.keeps hk (fun k e => by have := e.1; omega), h.snap.keeps hk (loopAt_not hb) (fun b cs hb => loopAt_not hb), hk.obj h.zw (loopAt_not h.zw), h.row.keeps hk (fun g hg => by obtain ⟨cs, hc⟩ := row_blk h.row g hg; exact loopAt_not hc)⟩
theorem RgW.ext {w : World} {lo hi : ByteArray} {sb : Nat} {t : Tr ByteArray Int} {ver : Int} {q B : Nat} {wv : Value} {xs : List (ByteArray × Int)} {A C : World} (h : RgW w lo hi sb t ver q B wv xs A) (hk : Below A.heap.size A C) : RgW w lo hi sb t ver q B wv xs C :=
  ⟨h.b.ext hk, h.snap.below hk, (hk.block _ (lt_of_block h.zw)).trans h.zw, h.row.below hk⟩
/-- One pair more is gathered. -/
theorem RgW.more {w : World} {lo hi : ByteArray} {sb : Nat} {t : Tr ByteArray Int} {ver : Int} {q B g cap : Nat} {wv : Value} {xs ys : List (ByteArray × Int)} {A C : World} (h : RgW w lo hi sb t ver q B wv xs A) (hk : Keeps (fun k => wv.ownBlock = some k) A C)
    (hq : q < B) (hw : w.heap.size + 3 ≤ q) (hr : PRow C B (.slice (some ⟨g, 0, none⟩) ys.length cap) ys) :
    RgW w lo hi sb t ver q B (.slice (some ⟨g, 0, none⟩) ys.length cap) ys (C.setCell ⟨q, 0, none⟩ (.slice (some ⟨g, 0, none⟩) ys.length cap)) ∧ KeepW A (C.setCell ⟨q, 0, none⟩ (.slice (some ⟨g, 0, none⟩) ys.length cap)) ∧
      ∀ k, k < B → k ≠ q → k < A.heap.size → (C.setCell ⟨q, 0, none⟩ (.slice (some ⟨g, 0, none⟩) ys.length cap)).heap[k]? = A.heap[k]? := by
  have own := h.row.own
  have hS : ∀ (b : Nat) (cs : Array Value) (T : TypeId), IsBlk A b cs T → T ≠ 36 → ¬ (wv.ownBlock = some b) := fun b cs T hb hT e => by
    obtain ⟨ds, hd⟩ := row_blk h.row b e
    exact ne_of_type hb hd hT rfl
  have zq := hk.obj h.zw (hS _ _ _ h.zw (by decide))
  have k2 : Keeps (Only q) C (C.setCell ⟨q, 0, none⟩ (.slice (some ⟨g, 0, none⟩) ys.length cap)) := keeps_set _ _ _ _
  obtain ⟨root, hb, _⟩ := h.snap.ex
  have s1 := h.snap.keeps hk (hS _ _ _ hb (by decide)) (fun b cs hb => hS _ _ _ hb (by decide))
  obtain ⟨root1, hb1, _⟩ := s1.ex
  refine ⟨⟨(h.b.keeps hk (fun k e => by have := own k e; omega)).keeps k2 (fun k e => by have : k = q := e; omega), s1.keeps k2 (fun e => ne_of_type hb1 zq (by decide) e) (fun b cs hb e => ne_of_type hb zq (by decide) e), blk_set zq 0 _,
    hr.keeps k2 (fun k e1 e => by have := hr.own k e1; have h2 : k = q := e; omega)⟩, ?_, ?_⟩
  · refine (keepW_keeps hk (fun T hT b cs hb e => ?_)).trans (keepW_keeps k2 (fun T hT b cs hb e => ne_of_type hb zq (by rintro rfl; simp at hT) e))
    exact hS b cs T hb (by rintro rfl; simp at hT) e
  · intro k hkB hkq hkA
    have hs := hk.size
    exact (k2.block k (by omega) hkq).trans (hk.block k hkA (fun e => by have := own k e; omega))
/-- And a count beside it. -/
structure RgN (w : World) (lo hi : ByteArray) (sb : Nat) (t : Tr ByteArray Int) (ver : Int) (q B : Nat) (wv : Value) (xs : List (ByteArray × Int)) (r : Nat) (i : Int) (ms : List Nat) (W : World) : Prop where
  g : RgW w lo hi sb t ver q B wv xs W
  zi : IsBlk W r #[.int .i64 i] 3
  mark : ∀ m ∈ ms, W.heap[m]? = some (.deferred (some []))
theorem RgN.loop {w : World} {lo hi : ByteArray} {sb : Nat} {t : Tr ByteArray Int} {ver : Int} {q B : Nat} {wv : Value} {xs : List (ByteArray × Int)} {r : Nat} {i : Int} {ms : List Nat} {A C : World} {l : Nat} (h : RgN w lo hi sb t ver q B wv xs r i ms A) (hk : Keeps (LoopAt l A) A C) (hl : w.heap.size + 3 ≤ l) : RgN w lo hi sb t ver q B wv xs r i ms C :=
  ⟨h.g.loop hk hl, hk.obj h.zi (loopAt_not h.zi), fun m hm => hk.obj (h.mark m hm) (by
    rintro ⟨_, r, hr⟩
    have := (h.mark m hm).symm.trans hr
    simp at this)⟩
theorem RgN.ext {w : World} {lo hi : ByteArray} {sb : Nat} {t : Tr ByteArray Int} {ver : Int} {q B : Nat} {wv : Value} {xs : List (ByteArray × Int)} {r : Nat} {i : Int} {ms : List Nat} {A C : World} (h : RgN w lo hi sb t ver q B wv xs r i ms A) (hk : Below A.heap.size A C) : RgN w lo hi sb t ver q B wv xs r i ms C :=
  ⟨h.g.ext hk, (hk.block _ (lt_of_block h.zi)).trans h.zi, fun m hm => (hk.block _ (lt_of_block (h.mark m hm))).trans (h.mark m hm)⟩
/-- The count is set. -/
theorem RgN.set {w : World} {lo hi : ByteArray} {sb : Nat} {t : Tr ByteArray Int} {ver : Int} {q B : Nat} {wv : Value} {xs : List (ByteArray × Int)} {r : Nat} {i : Int} {ms : List Nat} {A : World} {b0 : Nat} (h : RgN w lo hi sb t ver q B wv xs r i ms A) (hr : w.heap.size + 3 ≤ r) (hb : r < b0) (hb2 : b0 + 2 ≤ A.heap.size) (j : Int) :
    (A.setCell ⟨r, 0, none⟩ (.int .i64 j)).heap[b0]? = A.heap[b0]? ∧ (A.setCell ⟨r, 0, none⟩ (.int .i64 j)).heap[b0 + 1]? = A.heap[b0 + 1]? ∧ KeepW A (A.setCell ⟨r, 0, none⟩ (.int .i64 j)) ∧ RgN w lo hi sb t ver q B wv xs r j ms (A.setCell ⟨r, 0, none⟩ (.int .i64 j)) := by
  have k2 : Keeps (Only r) A (A.setCell ⟨r, 0, none⟩ (.int .i64 j)) := keeps_set _ _ _ _
  have ne : ∀ (b : Nat) (cs : Array Value) (T : TypeId), IsBlk A b cs T → T ≠ 3 → ¬ Only r b := fun b cs T hb hT e => ne_of_type hb h.zi hT e
  obtain ⟨root, hb1, _⟩ := h.g.snap.ex
  refine ⟨k2.block b0 (by omega) (fun e => by have : b0 = r := e; omega), k2.block (b0 + 1) (by omega) (fun e => by have : b0 + 1 = r := e; omega), keepW_keeps k2 (fun T hT b cs hb => ne b cs T hb (by rintro rfl; simp at hT)),
    ⟨⟨h.g.b.keeps k2 (fun k e => by have : k = r := e; omega), h.g.snap.keeps k2 (ne _ _ _ hb1 (by decide)) (fun b cs hb => ne b cs _ hb (by decide)), k2.obj h.g.zw (ne _ _ _ h.g.zw (by decide)),
      h.g.row.keeps k2 (fun g hg => by obtain ⟨cs, hc⟩ := row_blk h.g.row g hg; exact ne _ _ _ hc (by decide))⟩, blk_set h.zi 0 _, fun m hm => k2.obj (h.mark m hm) (fun e => ?_)⟩⟩
  have e2 : m = r := e
  subst e2
  have := (h.mark m hm).symm.trans h.zi
  simp at this
/-- What the snapshot's Range lays. -/
theorem srange_blocks (w : World) (sb : Nat) (lo hi : ByteArray) (w' : World) (h : w' = ((w.alloc (.cells #[.pointer (some ⟨sb, 0, none⟩)] 51)).alloc (.cells #[.string lo] 9)).alloc (.cells #[.string hi] 9)) :
    Below w.heap.size w w' ∧ IsBlk w' w.heap.size #[.pointer (some ⟨sb, 0, none⟩)] 51 ∧ IsBlk w' (w.heap.size + 1) #[.string lo] 9 ∧ IsBlk w' (w.heap.size + 2) #[.string hi] 9 ∧ w'.heap.size = w.heap.size + 3 := by
  subst h
  have q1 := blk_new (w.alloc (.cells #[.pointer (some ⟨sb, 0, none⟩)] 51)) (.cells #[.string lo] 9)
  have q2 := blk_new ((w.alloc (.cells #[.pointer (some ⟨sb, 0, none⟩)] 51)).alloc (.cells #[.string lo] 9)) (.cells #[.string hi] 9)
  rw [World.size_alloc] at q1
  rw [World.size_alloc, World.size_alloc] at q2
  exact ⟨(((Below.refl _ _).alloc (Nat.le_refl _) _).alloc (by simp) _).alloc (by simp; omega) _, blk_alloc (blk_alloc (blk_new w _)), blk_alloc q1, q2, by simp⟩
theorem rise_delT {t : Tr ByteArray Int} (h : Rise slt t.ino) (k : ByteArray) : Rise slt (delT t k).ino := by
  unfold delT
  split
  · exact rise_drop slt_ord h k
  · exact h

theorem rg_done {w : World} {lo hi : ByteArray} {sb : Nat} {t : Tr ByteArray Int} {ver : Int} {q B : Nat} {wv : Value} {xs : List (ByteArray × Int)} {r : Nat} {i : Int} {ms : List Nat} {A : World} (h : RgN w lo hi sb t ver q B wv xs r i ms A)
    (hm : ∀ m ∈ ms, w.heap.size + 3 ≤ m) (hn : ms.Nodup) (tmps : Array Value) (h8 : tmps[8]? = some (.pointer (some ⟨w.heap.size + 1 + 1, 0, none⟩)) := by rfl) :
    bodyPostM Fence.wide 0 Try.prog Try.f5 (fun e w' => e = .returned (.bool true) ∧ Below w.heap.size w w') Exit.ret { tmps := tmps, defers := ms.map fun b => { target := .collected b, args := #[] } } (A.setCell ⟨w.heap.size + 1 + 1, 0, none⟩ (.bool true)) :=
  rg_end ms tmps (fun b hb => ⟨blk_other (h.mark b hb) 0 _ (by have := hm b hb; omega), hm b hb⟩) hn (h.g.b.below.setCell (p := ⟨w.heap.size + 1 + 1, 0, none⟩) (by simp; omega) _) (blk_set h.g.b.z2 0 _) h8
theorem gtr_false {a b : ByteArray} (h : (!Op.bytesLess a.toList b.toList && !(a.toList == b.toList)) = false) : slt b a = false := by
  cases h1 : slt a b with
  | true => exact slt_ord.asymm h1
  | false =>
    have h2 : Op.bytesLess a.toList b.toList = false := h1
    rw [h2] at h
    have h3 : (a.toList == b.toList) = true := by simpa using h
    have e := str_inj (by simpa using h3 : a.toList = b.toList)
    subst e
    exact slt_ord.irr _
theorem range_meet (lo mid hi : ByteArray) (h1 : slt mid lo = false) (h2 : slt hi mid = false) (l : List (ByteArray × Int)) : (rangeL lo mid l).length + (rangeL mid hi l).length = (rangeL lo hi l).length := by
  induction l with
  | nil => rfl
  | cons x l ih =>
    have le : ∀ {a b c : ByteArray}, slt b a = false → slt c b = false → slt c a = false := by
      intro a b c hab hbc
      cases h : slt c a with
      | false => rfl
      | true =>
        cases hba : slt a b with
        | true => rw [slt_ord.tr _ _ _ h hba] at hbc; cases hbc
        | false => rw [slt_ord.eq _ _ hba hab] at h; rw [h] at hbc; cases hbc
    simp only [rangeL, List.filter_cons] at ih ⊢
    cases c1 : slt x.1 lo with
    | true =>
      have c2 : slt x.1 mid = true := by
        cases h : slt x.1 mid with
        | true => rfl
        | false => have := le h1 h; rw [c1] at this; cases this
      simp [c2]; exact ih
    | false =>
      cases c2 : slt x.1 mid with
      | true =>
        have c3 : slt x.1 hi = true := by
          cases h : slt x.1 hi with
          | true => rfl
          | false => have := le h2 h; rw [c2] at this; cases this
        simp [c3]; omega
      | false =>
        cases c3 : slt x.1 hi with
        | true => simp; omega
        | false => simp; exact ih
theorem rangeL_len (lo hi : ByteArray) (l : List (ByteArray × Int)) : (rangeL lo hi l).length ≤ l.length := List.length_filter_le _ _

set_option maxRecDepth 100000 in
set_option maxHeartbeats 20000000 in
theorem t_ranges (w : World) (v1 : Value) (l : List TOp) (lo mid hi : ByteArray) (h1 : OpsAt w v1 l) (hm1 : l.length ≤ maxLen) (hs1 : ∀ x ∈ l, x.key.size ≤ maxLen ∧ x.top.size ≤ maxLen)
    (hz1 : lo.size ≤ maxLen) (hz2 : mid.size ≤ maxLen) (hz3 : hi.size ≤ maxLen) :
    Calls Try.prog 5 #[v1, .string lo, .string mid, .string hi] w fun e w' => e = .returned (.bool true) ∧ Below w.heap.size w w' := by
  have HF1 : Hid (∀ W, Below w.heap.size w W → Calls Try.prog 8 #[v1] W (FewPost l.length W)) := Lib.hid fun W hW => l_few W v1 l (h1.below hW) hm1 hs1
  unfold maxLen at hz1 hz2 hz3
  have y1 : (lo.size : Int) ≤ 9223372036854775807 := by omega
  have y2 : (mid.size : Int) ≤ 9223372036854775807 := by omega
  have y3 : (hi.size : Int) ≤ 9223372036854775807 := by omega
  obtain ⟨a1, cap1, rfl, hr1⟩ := h1
  have HR1 := Lib.hid hr1
  clear hr1 hm1 hs1 hz1 hz2 hz3
  refine calls_of_wp_marks Try.func5 rfl ?_
  simp only [Try.ntmps5, List.size_toArray, List.length_cons, List.length_nil, Nat.reduceAdd, Nat.reduceSub, Array.replicate_succ, Array.replicate_zero, List.push_toArray, List.append_toArray, List.nil_append, List.cons_append]
  go_wp2_with fail
  refine (t_first _).mono ?_
  rintro e w1 ⟨rfl, hb1⟩
  have H0 := Lib.hid ((rg0_start w lo hi).ext hb1)
  clear hb1
  go_wp2_with fail
  refine (HF1.out _ H0.out.below).mono ?_
  rintro e w2 ⟨b1, rfl, hb1, hk⟩
  have H0 := Lib.hid (H0.out.ext hk)
  have HB1 := Lib.hid hb1
  clear hk hb1
  go_wp2_with fail
  refine (t_new _).mono ?_
  rintro e w3 ⟨tb, rfl, ht, hle, hlt, hk3⟩
  have H3 := Lib.hid (H0.out.ext hk3)
  have HT := Lib.hid ht
  have HLE : Hid (w.heap.size + 3 ≤ tb) := Lib.hid (by have := H0.out.size; omega)
  clear ht hle hlt hk3
  have f0 : w3.cell? ⟨w.heap.size, 0, none⟩ = some (.string lo) := blk_cell H3.out.z0 0
  have f1 : w3.cell? ⟨w.heap.size + 1, 0, none⟩ = some (.string hi) := blk_cell H3.out.z1 0
  have f2 : w3.cell? ⟨w.heap.size + 1 + 1, 0, none⟩ = some (.bool false) := blk_cell H3.out.z2 0
  have g2 : w3.frozen? ⟨w.heap.size + 1 + 1, 0, none⟩ = false := blk_free H3.out.z2 0
  cases b1 with
  | false =>
    go_wp2_with fail
    exact rg_end [] _ (by simp) List.nodup_nil (H3.out.below.setCell (p := ⟨w.heap.size + 1 + 1, 0, none⟩) (by simp; omega) _) (blk_set H3.out.z2 0 _)
  | true =>
    by_cases c1 : (1000 : Int) < lo.size
    · go_wp2_with fail
      exact rg_end [] _ (by simp) List.nodup_nil (H3.out.below.setCell (p := ⟨w.heap.size + 1 + 1, 0, none⟩) (by simp; omega) _) (blk_set H3.out.z2 0 _)
    by_cases c2 : (1000 : Int) < mid.size
    · go_wp2_with fail
      exact rg_end [] _ (by simp) List.nodup_nil (H3.out.below.setCell (p := ⟨w.heap.size + 1 + 1, 0, none⟩) (by simp; omega) _) (blk_set H3.out.z2 0 _)
    by_cases c3 : (1000 : Int) < hi.size
    · go_wp2_with fail
      exact rg_end [] _ (by simp) List.nodup_nil (H3.out.below.setCell (p := ⟨w.heap.size + 1 + 1, 0, none⟩) (by simp; omega) _) (blk_set H3.out.z2 0 _)
    go_wp2_with fail
    have HL0 : Hid (RgL w lo hi tb 0 .leaf w3) := Lib.hid ⟨H3.out, HT.out, by simp [Tr.ino, Rise], by simp [Tr.size]⟩
    have HL200 := Lib.hid (HB1.out (by simp))
    clear HB1 HF1 H0 HT f0 f1 f2 g2 y1 y2 y3 c1 c2 c3 H3
    go_loopw [12] (fun i wr => ∃ (j : Nat), j ≤ l.length ∧ i = .int .i64 j ∧ Hid (∃ t, RgL w lo hi tb j t wr)) (fun i _ => l.length - (intOf i).toNat)
    case atStart => exact ⟨0, Nat.zero_le _, rfl, Lib.hid ⟨_, HL0.out⟩⟩
    case round =>
      obtain ⟨j, hj, rfl, HH⟩ := hrel
      obtain ⟨t, hh⟩ := HH.out
      have HH := Lib.hid hh
      by_cases hlt : j < l.length
      · have hx : l[j]? = some l[j] := List.getElem?_eq_getElem hlt
        generalize l[j] = x at hx
        obtain ⟨g, off, rfl, c0, c1, c2, c3⟩ := HR1.out j x hx
        have c0 := (hh.b.below.cell (p := ⟨g, off + j * 4, none⟩) (World.block_lt_of_cell? w _ c0)).trans c0
        have c1 := (hh.b.below.cell (p := ⟨g, off + j * 4 + 1, none⟩) (World.block_lt_of_cell? w _ c1)).trans c1
        have c2 := (hh.b.below.cell (p := ⟨g, off + j * 4 + 2, none⟩) (World.block_lt_of_cell? w _ c2)).trans c2
        have hjl : (j : Int) < (l.length : Int) := by omega
        have hl2 : (l.length : Int) ≤ 200 := by have := HL200.out; omega
        clear c3 hh hx
        by_cases hk : x.kind = 1
        · go_wp2_with (fail)
          refine (t_delete _ tb t j x.key HH.out.tab (by omega) (by omega) (by have := HH.out.size; omega)).mono ?_
          rintro e w4 ⟨rfl, ht4, hk4⟩
          have HN : Hid (RgL w lo hi tb (j + 1) (delT t x.key) w4) := Lib.hid
            ⟨HH.out.b.keeps hk4 (fun k e => by have : k = tb := e; have := HLE.out; omega), ht4, rise_delT HH.out.rise _, by have := size_delT t x.key; have := HH.out.size; omega⟩
          clear ht4 hk4 c0 c1 c2
          go_wp2_with (fail)
          go_roundw
          case rel => exact ⟨j + 1, by omega, by go_num, Lib.hid ⟨_, HN.out⟩⟩
          case measure => simp [intOf]; omega
        · go_wp2_with (fail)
          refine wp_region_still_tail 11 (by kernel_rfl) (by kernel_rfl) ?_
          simp only [List.take_succ_cons, List.take_zero, List.drop_succ_cons, List.drop_zero]
          repeat ((with_reducible refine wpStill_step ?_); intro K hK; go_simp; (with_reducible refine hK _ ?_); clear hK K)
          refine wpStill_nil ?_
          go_wp2_with (fail)
          refine (t_put _ tb t j x.key x.v (HH.out.tab.below (Below.refl _ _).drew) (by omega) (by omega) (by have := HH.out.size; omega)).mono ?_
          rintro e w4 ⟨rfl, ht4, hk4⟩
          have hk4 : Keeps (Only tb) wr w4 := (Keeps.refl (Only tb) wr).drew.trans' hk4
          have HN : Hid (RgL w lo hi tb (j + 1) (t.put slt x.key x.v) w4) := Lib.hid
            ⟨HH.out.b.keeps hk4 (fun k e => by have : k = tb := e; have := HLE.out; omega), ht4, rise_put slt_ord HH.out.rise _ _, by have := size_put (lt := slt) t x.key x.v; have := HH.out.size; omega⟩
          clear ht4 hk4 c0 c1 c2
          go_wp2_with (fail)
          go_roundw
          case rel => exact ⟨j + 1, by omega, by go_num, Lib.hid ⟨_, HN.out⟩⟩
          case measure => simp [intOf]; omega
      · have hjl : ¬ ((j : Int) < (l.length : Int)) := by omega
        clear hh
        go_wp2_with (fail)
        refine (t_snapshot _ tb t _ HH.out.tab).mono ?_
        rintro e w4 ⟨sb, rfl, hs4, hsb, hk4⟩
        have H4 := Lib.hid (HH.out.b.ext hk4)
        have S4 := Lib.hid hs4
        have T4 := Lib.hid (HH.out.tab.below hk4)
        have HNE : Hid (sb ≠ tb) := Lib.hid (fun e => by have := HH.out.tab.lt; omega)
        have HJ : Hid (j ≤ 200 ∧ t.size ≤ 200 ∧ t.ino.length ≤ 200) := Lib.hid (by have := HL200.out; have := HH.out.size; rw [Tr.ino_length]; omega)
        have HRISE := Lib.hid HH.out.rise
        have f0 : w4.cell? ⟨w.heap.size, 0, none⟩ = some (.string lo) := blk_cell H4.out.z0 0
        clear hs4 hsb hk4 HH
        go_wp2_with (fail)
        refine (t_put _ tb t j lo (-5) T4.out (by omega) (by have := HJ.out; omega) (by have := HJ.out; omega)).mono ?_
        rintro e w5 ⟨rfl, ht5, hk5⟩
        have H5 := Lib.hid (H4.out.keeps hk5 (fun k e => by have : k = tb := e; have := HLE.out; omega))
        have S5 := Lib.hid (S4.out.keeps hk5 HNE.out (fun b cs hi e => by obtain ⟨r, hr, _⟩ := T4.out.ex; exact ne_of_type hi hr (by decide) e))
        have T5 := Lib.hid ht5
        clear ht5 hk5 f0
        go_wp2_with (fail)
        refine (t_delete _ tb _ _ mid T5.out (by omega) (by have := HJ.out; omega) (by have := size_put (lt := slt) t lo (-5); have := HJ.out; omega)).mono ?_
        rintro e w6 ⟨rfl, ht6, hk6⟩
        have H6 := Lib.hid (H5.out.keeps hk6 (fun k e => by have : k = tb := e; have := HLE.out; omega))
        have S6 := Lib.hid (S5.out.keeps hk6 HNE.out (fun b cs hi e => by obtain ⟨r, hr, _⟩ := T5.out.ex; exact ne_of_type hi hr (by decide) e))
        clear ht6 hk6 T4 T5 H4 H5 S4 S5
        go_wp2_with (fail)
        refine (q_sAll _ sb).mono ?_
        rintro e w7 ⟨rfl, rfl⟩
        go_wp2_with (fail)
        have hk7 : Below w6.heap.size w6 ((w6.alloc (.cells #[.slice none 0 0] 27)).alloc (.cells #[.pointer (some ⟨sb, 0, none⟩)] 51)) := ((Below.refl _ _).alloc (Nat.le_refl _) _).alloc (by simp) _
        have q9 : IsBlk ((w6.alloc (.cells #[.slice none 0 0] 27)).alloc (.cells #[.pointer (some ⟨sb, 0, none⟩)] 51)) w6.heap.size #[.slice none 0 0] 27 := blk_alloc (blk_new w6 _)
        have q10 := blk_new (w6.alloc (.cells #[.slice none 0 0] 27)) (.cells #[.pointer (some ⟨sb, 0, none⟩)] 51)
        rw [World.size_alloc] at q10
        have hs7 : ((w6.alloc (.cells #[.slice none 0 0] 27)).alloc (.cells #[.pointer (some ⟨sb, 0, none⟩)] 51)).heap.size = w6.heap.size + 2 := by simp
        generalize ((w6.alloc (.cells #[.slice none 0 0] 27)).alloc (.cells #[.pointer (some ⟨sb, 0, none⟩)] 51)) = W7 at hk7 q9 q10 hs7 ⊢
        have HQ : Hid (w.heap.size + 3 ≤ w6.heap.size ∧ w6.heap.size + 2 = W7.heap.size) := Lib.hid ⟨H6.out.size, hs7.symm⟩
        have HA0 : Hid (RgW w lo hi sb t j w6.heap.size (W7.heap.size + 2) (.slice none 0 0) (rangeL lo hi []) W7) := Lib.hid ⟨H6.out.ext hk7, S6.out.below hk7, q9, RowOf.nil encP_len⟩
        have HIT := Lib.hid (iter_sall q10 (S6.out.below hk7))
        clear hk7 q9 q10 hs7 H6 S6
        generalize w6.heap.size = q at *
        obtain ⟨i0, hi36, hz0, hz1, hz2⟩ := info_parts info36
        refine wp_forSeq rfl eg49 HIT.out (fun _ => rfl) KeepW.trans (fun W r o h => keepW_put o h)
          (fun pre W => ∃ wv, RgW w lo hi sb t j q (W7.heap.size + 2) wv (rangeL lo hi pre) W) (fun _ _ _ => False)
          (fun s A B h hk => by obtain ⟨wv, h⟩ := h; exact ⟨wv, h.loop hk (by have := HQ.out; omega)⟩) (fun _ _ _ _ h _ => h.elim) ⟨_, HA0.out⟩ ?a1 ?assign ?body ?done ?stop
        case assign =>
          intro x W K hK
          gi_wp2
          exact hK
        case stop => intro c q B _ h; exact h.elim
        case body =>
          rintro pre x A ⟨wv, hA⟩ hp hsz
          obtain ⟨av, cv, rfl, _⟩ := prow_read hA.row
          have f0 : A.cell? ⟨w.heap.size, 0, none⟩ = some (.string lo) := blk_cell hA.b.z0 0
          have f1 : A.cell? ⟨w.heap.size + 1, 0, none⟩ = some (.string hi) := blk_cell hA.b.z1 0
          have f14 : A.cell? ⟨q, 0, none⟩ = some (.slice av (rangeL lo hi pre).length cv) := blk_cell hA.zw 0
          have HA := Lib.hid hA
          have HSZ := Lib.hid hsz
          have HPL : Hid ((rangeL lo hi pre).length < 1000000) := Lib.hid (by
            have h1 := rangeL_len lo hi pre
            have h2 := (List.getElem?_eq_some_iff.1 (pre_get hp)).1
            have := HJ.out
            omega)
          clear hA hp hsz
          cases q1 : Op.bytesLess x.1.toList lo.toList with
          | true =>
            have HE : Hid (rangeL lo hi (pre ++ [x]) = rangeL lo hi pre) := Lib.hid (by have : slt x.1 lo = true := q1; simp [rangeL, List.filter_append, this])
            gi_wp2_with (fail)
            refine ⟨rfl, rfl, KeepW.refl _, .slice av (rangeL lo hi pre).length cv, ?_⟩
            rw [HE.out]
            exact HA.out
          | false =>
            cases q2 : Op.bytesLess x.1.toList hi.toList with
            | false =>
              have HE : Hid (rangeL lo hi (pre ++ [x]) = rangeL lo hi pre) := Lib.hid (by have : slt x.1 hi = false := q2; simp [rangeL, List.filter_append, this])
              gi_wp2_with (fail)
              refine ⟨rfl, rfl, KeepW.refl _, .slice av (rangeL lo hi pre).length cv, ?_⟩
              rw [HE.out]
              exact HA.out
            | true =>
              have HE : Hid (rangeL lo hi (pre ++ [x]) = rangeL lo hi pre ++ [x]) := Lib.hid (by have h1 : slt x.1 lo = false := q1; have h2 : slt x.1 hi = true := q2; simp [rangeL, List.filter_append, h1, h2])
              generalize rangeL lo hi pre = out at *
              gi_wp2_with (gi_at_builtin; refine wpListIn_append1 encP rfl (.tmp 108) (.tmp 112) 27 rfl (W7.heap.size + 2) 36 i0 _ 2 24 Try.underlying27 hi36 hz0 hz1 hz2 rfl (by omega) _ out x rfl HA.out.row rfl (one_encP x) ?c1 (by omega) HSZ.out ?_)
              case c1 => exact HPL.out
              intro g2 cap2 w8 hrow2 hk2
              have hlen : (out ++ [x]).length = out.length + 1 := by simp
              rw [← hlen] at hrow2
              have hm := HA.out.more hk2 (by have := HQ.out; omega) (HQ.out.1) hrow2
              rw [hlen] at hm
              have zq : IsBlk w8 q #[.slice av out.length cv] 27 := hk2.obj HA.out.zw (fun e => by have := HA.out.row.own _ e; have := HQ.out; omega)
              have f14 : w8.cell? ⟨q, 0, none⟩ = some (.slice av out.length cv) := blk_cell zq 0
              have g14 : w8.frozen? ⟨q, 0, none⟩ = false := blk_free zq 0
              have HM := Lib.hid hm
              clear hm zq hrow2 hk2 f0 f1 hlen
              gi_wp2_with (fail)
              refine ⟨HM.out.2.2 _ (by have := HQ.out; omega) (by have := HQ.out; omega) (by have := HSZ.out; omega), HM.out.2.2 _ (by have := HQ.out; omega) (by have := HQ.out; omega) (by have := HSZ.out; omega), HM.out.2.1, .slice (some ⟨g2, 0, none⟩) (out.length + 1) cap2, ?_⟩
              rw [HE.out]
              exact HM.out.1
        case done =>
          rintro A ⟨wv, hA⟩ hD
          obtain ⟨av, cv, rfl, _⟩ := prow_read hA.row
          have HA := Lib.hid hA
          have HD := Lib.hid hD
          have hqA : q < A.heap.size := lt_of_block hA.zw
          have hbA := hA.b.size
          have f0 : (A.alloc (.cells #[.int .i64 0] 3)).cell? ⟨w.heap.size, 0, none⟩ = some (.string lo) := blk_cell (blk_alloc hA.b.z0) 0
          have f1 : (A.alloc (.cells #[.int .i64 0] 3)).cell? ⟨w.heap.size + 1, 0, none⟩ = some (.string hi) := blk_cell (blk_alloc hA.b.z1) 0
          clear hA hD
          go_simp
          go_wp2_with (fail)
          clear f0 f1
          refine (q_sRange _ sb lo hi).mono ?_
          rintro e w8 ⟨rfl, hw8⟩
          obtain ⟨hk8, i1, i2, i3, hs8⟩ := srange_blocks _ sb lo hi w8 hw8
          rw [World.size_alloc] at i1 i2 i3
          have zr := blk_new A (.cells #[.int .i64 0] 3)
          have hs1 : (A.alloc (.cells #[.int .i64 0] 3)).heap.size = A.heap.size + 1 := by simp
          have hkA : Below A.heap.size A (A.alloc (.cells #[.int .i64 0] 3)) := (Below.refl _ _).alloc (Nat.le_refl _) _
          have hN0 : RgN w lo hi sb t j q (W7.heap.size + 2) (.slice av (rangeL lo hi t.ino).length cv) (rangeL lo hi t.ino) A.heap.size 0 [W7.heap.size] (A.alloc (.cells #[.int .i64 0] 3)) :=
            ⟨HA.out.ext hkA, zr, fun m hm => by simp only [List.mem_singleton] at hm; subst hm; exact blk_alloc HD.out⟩
          have HN0 := Lib.hid (hN0.ext hk8)
          have HIT8 := Lib.hid (iter_srange HRISE.out i1 i2 i3 (hN0.ext hk8).g.snap)
          rw [hs1] at hs8
          have HRR : Hid (w.heap.size + 3 ≤ A.heap.size ∧ A.heap.size + 4 = w8.heap.size ∧ W7.heap.size < A.heap.size) := Lib.hid ⟨hbA, by omega, lt_of_block HD.out⟩
          have HRL : Hid ((rangeL lo hi t.ino).length ≤ 200) := Lib.hid (by
            have h1 := rangeL_len lo hi t.ino
            have := HJ.out
            omega)
          clear hw8 hk8 i1 i2 i3 hs8 zr hs1 hkA hN0 hqA hbA
          go_wp2_with (fail)
          refine wp_forSeq rfl eg52 HIT8.out (fun _ => rfl) KeepW.trans (fun W r o h => keepW_put o h)
            (fun pre W => RgN w lo hi sb t j q (W7.heap.size + 2) (.slice av (rangeL lo hi t.ino).length cv) (rangeL lo hi t.ino) A.heap.size pre.length [W7.heap.size] W) (fun _ _ _ => False)
            (fun s A B h hk => h.loop hk (by have := HRR.out; omega)) (fun _ _ _ _ h _ => h.elim) HN0.out ?a2 ?assign2 ?body2 ?done2 ?stop2
          case assign2 =>
            intro x W K hK
            gi_wp2
            exact hK
          case stop2 => intro c q B _ h; exact h.elim
          case body2 =>
            intro pre x B hB hp hsz
            have hx := pre_get hp
            obtain ⟨_, _, e, hr⟩ := prow_read hB.g.row
            injection e with e _ e3
            subst e3
            obtain ⟨g, ea, d0, d1⟩ := hr _ _ hx
            subst e
            subst ea
            have hlt : pre.length < (rangeL lo hi t.ino).length := (List.getElem?_eq_some_iff.1 hx).1
            have hlt' : (pre.length : Int) < ((rangeL lo hi t.ino).length : Int) := by omega
            have h200 : ((rangeL lo hi t.ino).length : Int) ≤ 200 := by have := HRL.out; omega
            have f14 : B.cell? ⟨q, 0, none⟩ = some (.slice (some ⟨g, 0, none⟩) (rangeL lo hi t.ino).length cv) := blk_cell hB.g.zw 0
            have f17 : B.cell? ⟨A.heap.size, 0, none⟩ = some (.int .i64 (pre.length : Int)) := blk_cell hB.zi 0
            have g17 : B.frozen? ⟨A.heap.size, 0, none⟩ = false := blk_free hB.zi 0
            have HB := Lib.hid hB
            have HLEN : Hid (((pre ++ [x]).length : Int) = (pre.length : Int) + 1) := Lib.hid (by simp)
            have HSZ : Hid (w8.heap.size + 2 ≤ B.heap.size) := Lib.hid hsz
            clear hB hp hx hr hsz
            generalize (rangeL lo hi t.ino).length = nR at *
            gi_wp2_with (fail)
            have hr := HB.out.set (b0 := w8.heap.size) (by have := HRR.out; omega) (by have := HRR.out; omega) HSZ.out ((pre.length : Int) + 1)
            refine ⟨hr.1, hr.2.1, hr.2.2.1, ?_⟩
            show RgN _ _ _ _ _ _ _ _ _ _ _ _ _ _
            rw [HLEN.out]
            exact hr.2.2.2
          case done2 =>
            intro B hB hD2
            obtain ⟨n2, hn2⟩ : ∃ n, n = (rangeL lo hi t.ino).length := ⟨_, rfl⟩
            have HN2 := Lib.hid hn2
            have f14 : B.cell? ⟨q, 0, none⟩ = some (.slice av (rangeL lo hi t.ino).length cv) := blk_cell hB.g.zw 0
            have f17 : B.cell? ⟨A.heap.size, 0, none⟩ = some (.int .i64 ((rangeL lo hi t.ino).length : Int)) := blk_cell hB.zi 0
            have f0 : B.cell? ⟨w.heap.size, 0, none⟩ = some (.string lo) := blk_cell hB.g.b.z0 0
            have f1 : B.cell? ⟨w.heap.size + 1, 0, none⟩ = some (.string hi) := blk_cell hB.g.b.z1 0
            have f2 : B.cell? ⟨w.heap.size + 1 + 1, 0, none⟩ = some (.bool false) := blk_cell hB.g.b.z2 0
            have g2 : B.frozen? ⟨w.heap.size + 1 + 1, 0, none⟩ = false := blk_free hB.g.b.z2 0
            rw [← hn2] at f14 f17
            have HB := Lib.hid hB
            have HD2 := Lib.hid hD2
            clear hB hD2 hn2
            go_simp
            have HMK : Hid (∀ m ∈ [w8.heap.size, W7.heap.size], w.heap.size + 3 ≤ m) := Lib.hid (by
              intro m hm
              have := HRR.out
              have := HQ.out
              simp only [List.mem_cons, List.not_mem_nil, or_false] at hm
              rcases hm with rfl | rfl <;> omega)
            have HB2 : Hid (RgN w lo hi sb t j q (W7.heap.size + 2) (.slice av (rangeL lo hi t.ino).length cv) (rangeL lo hi t.ino) A.heap.size (rangeL lo hi t.ino).length [w8.heap.size, W7.heap.size] B) := Lib.hid
              ⟨HB.out.g, HB.out.zi, fun m hm => by
                simp only [List.mem_cons, List.not_mem_nil, or_false] at hm
                rcases hm with rfl | rfl
                · exact HD2.out
                · exact HB.out.mark _ (by simp)⟩
            have HND : Hid ([w8.heap.size, W7.heap.size].Nodup) := Lib.hid (by have := HRR.out; simp; omega)
            clear HB HD2
            have b0 : (B.alloc (.cells #[.int .i64 0] 3)).cell? ⟨w.heap.size, 0, none⟩ = some (.string lo) := blk_cell (blk_alloc HB2.out.g.b.z0) 0
            have b1 : (B.alloc (.cells #[.int .i64 0] 3)).cell? ⟨w.heap.size + 1, 0, none⟩ = some (.string hi) := blk_cell (blk_alloc HB2.out.g.b.z1) 0
            cases q1 : (!Op.bytesLess lo.toList mid.toList && !(lo.toList == mid.toList)) with
            | true =>
              clear b0 b1
              go_wp2_with (fail)
              exact rg_done HB2.out HMK.out HND.out _
            | false =>
              cases q2 : (!Op.bytesLess mid.toList hi.toList && !(mid.toList == hi.toList)) with
              | true =>
                clear b0 b1
                go_wp2_with (fail)
                exact rg_done HB2.out HMK.out HND.out _
              | false =>
                have HSUM := Lib.hid (range_meet lo mid hi (gtr_false q1) (gtr_false q2) t.ino)
                go_wp2_with (fail)
                clear b0 b1 q1 q2 f14 f17 f0 f1 f2 g2
                refine (q_sRange _ sb lo mid).mono ?_
                rintro e w9 ⟨rfl, hw9⟩
                obtain ⟨hk9, i1, i2, i3, hs9⟩ := srange_blocks _ sb lo mid w9 hw9
                rw [World.size_alloc] at i1 i2 i3
                have zr := blk_new B (.cells #[.int .i64 0] 3)
                have hs1 : (B.alloc (.cells #[.int .i64 0] 3)).heap.size = B.heap.size + 1 := by simp
                have hkB : Below B.heap.size B (B.alloc (.cells #[.int .i64 0] 3)) := (Below.refl _ _).alloc (Nat.le_refl _) _
                have hN3 : RgN w lo hi sb t j q (W7.heap.size + 2) (.slice av (rangeL lo hi t.ino).length cv) (rangeL lo hi t.ino) B.heap.size 0 [w8.heap.size, W7.heap.size] (B.alloc (.cells #[.int .i64 0] 3)) :=
                  ⟨HB2.out.g.ext hkB, zr, fun m hm => blk_alloc (HB2.out.mark m hm)⟩
                have HN3 := Lib.hid (hN3.ext hk9)
                have HIT9 := Lib.hid (iter_srange HRISE.out i1 i2 i3 (hN3.ext hk9).g.snap)
                rw [hs1] at hs9
                have HR3 : Hid (w.heap.size + 3 ≤ B.heap.size ∧ B.heap.size + 4 = w9.heap.size ∧ w8.heap.size < B.heap.size) := Lib.hid ⟨HB2.out.g.b.size, by omega, lt_of_block (HB2.out.mark w8.heap.size (by simp))⟩
                have HL3 : Hid ((rangeL lo mid t.ino).length ≤ 200 ∧ (rangeL mid hi t.ino).length ≤ 200) := Lib.hid (by
                  have h1 := rangeL_len lo mid t.ino
                  have h2 := rangeL_len mid hi t.ino
                  have := HJ.out
                  omega)
                clear hw9 hk9 i1 i2 i3 hs9 zr hs1 hkB hN3
                go_wp2_with (fail)
                refine wp_forSeq rfl eg52 HIT9.out (fun _ => rfl) KeepW.trans (fun W r o h => keepW_put o h)
                  (fun pre W => RgN w lo hi sb t j q (W7.heap.size + 2) (.slice av (rangeL lo hi t.ino).length cv) (rangeL lo hi t.ino) B.heap.size pre.length [w8.heap.size, W7.heap.size] W) (fun _ _ _ => False)
                  (fun s A B h hk => h.loop hk (by have := HR3.out; omega)) (fun _ _ _ _ h _ => h.elim) HN3.out ?a3 ?assign3 ?body3 ?done3 ?stop3
                case assign3 =>
                  intro x W K hK
                  gi_wp2
                  exact hK
                case stop3 => intro c q B _ h; exact h.elim
                case body3 =>
                  intro pre x C hC hp hsz
                  have hlt : pre.length < (rangeL lo mid t.ino).length := (List.getElem?_eq_some_iff.1 (pre_get hp)).1
                  have h200 : (pre.length : Int) ≤ 200 := by have := HL3.out; omega
                  have f20 : C.cell? ⟨B.heap.size, 0, none⟩ = some (.int .i64 (pre.length : Int)) := blk_cell hC.zi 0
                  have g20 : C.frozen? ⟨B.heap.size, 0, none⟩ = false := blk_free hC.zi 0
                  have HC := Lib.hid hC
                  have HLEN : Hid (((pre ++ [x]).length : Int) = (pre.length : Int) + 1) := Lib.hid (by simp)
                  have HSZ : Hid (w9.heap.size + 2 ≤ C.heap.size) := Lib.hid hsz
                  clear hC hp hsz hlt
                  gi_wp2_with (fail)
                  have hr := HC.out.set (b0 := w9.heap.size) (by have := HR3.out; omega) (by have := HR3.out; omega) HSZ.out ((pre.length : Int) + 1)
                  refine ⟨hr.1, hr.2.1, hr.2.2.1, ?_⟩
                  show RgN _ _ _ _ _ _ _ _ _ _ _ _ _ _
                  rw [HLEN.out]
                  exact hr.2.2.2
                case done3 =>
                  intro C hC hD3
                  have f1 : C.cell? ⟨w.heap.size + 1, 0, none⟩ = some (.string hi) := blk_cell hC.g.b.z1 0
                  have HC := Lib.hid hC
                  have HD3 := Lib.hid hD3
                  clear hC hD3
                  go_simp
                  go_wp2_with (fail)
                  clear f1
                  refine (q_sRange _ sb mid hi).mono ?_
                  rintro e w10 ⟨rfl, hw10⟩
                  obtain ⟨hk10, i1, i2, i3, hs10⟩ := srange_blocks _ sb mid hi w10 hw10
                  have hN4 : RgN w lo hi sb t j q (W7.heap.size + 2) (.slice av (rangeL lo hi t.ino).length cv) (rangeL lo hi t.ino) B.heap.size (rangeL lo mid t.ino).length [w9.heap.size, w8.heap.size, W7.heap.size] C :=
                    ⟨HC.out.g, HC.out.zi, fun m hm => by
                      rcases List.mem_cons.1 hm with rfl | hm
                      · exact HD3.out
                      · exact HC.out.mark _ hm⟩
                  have HN4 := Lib.hid (hN4.ext hk10)
                  have HIT10 := Lib.hid (iter_srange HRISE.out i1 i2 i3 (hN4.ext hk10).g.snap)
                  have HR4 : Hid (w9.heap.size < C.heap.size ∧ C.heap.size + 3 = w10.heap.size) := Lib.hid ⟨lt_of_block HD3.out, by omega⟩
                  clear hw10 hk10 i1 i2 i3 hs10 hN4
                  go_wp2_with (fail)
                  refine wp_forSeq rfl eg52 HIT10.out (fun _ => rfl) KeepW.trans (fun W r o h => keepW_put o h)
                    (fun pre W => RgN w lo hi sb t j q (W7.heap.size + 2) (.slice av (rangeL lo hi t.ino).length cv) (rangeL lo hi t.ino) B.heap.size ((rangeL lo mid t.ino).length + pre.length) [w9.heap.size, w8.heap.size, W7.heap.size] W) (fun _ _ _ => False)
                    (fun s A B h hk => h.loop hk (by have := HR3.out; have := HR4.out; omega)) (fun _ _ _ _ h _ => h.elim) (by simpa using HN4.out) ?a4 ?assign4 ?body4 ?done4 ?stop4
                  case assign4 =>
                    intro x W K hK
                    gi_wp2
                    exact hK
                  case stop4 => intro c q B _ h; exact h.elim
                  case body4 =>
                    intro pre x D hD hp hsz
                    have hlt : pre.length < (rangeL mid hi t.ino).length := (List.getElem?_eq_some_iff.1 (pre_get hp)).1
                    have h200 : (pre.length : Int) ≤ 200 := by have := HL3.out; omega
                    have h201 : ((rangeL lo mid t.ino).length : Int) ≤ 200 := by have := HL3.out; omega
                    have f20 : D.cell? ⟨B.heap.size, 0, none⟩ = some (.int .i64 (((rangeL lo mid t.ino).length : Int) + (pre.length : Int))) := blk_cell hD.zi 0
                    have g20 : D.frozen? ⟨B.heap.size, 0, none⟩ = false := blk_free hD.zi 0
                    have HD := Lib.hid hD
                    have HLEN : Hid (((rangeL lo mid t.ino).length : Int) + ((pre ++ [x]).length : Int) = ((rangeL lo mid t.ino).length : Int) + (pre.length : Int) + 1) := Lib.hid (by simp; omega)
                    have HSZ : Hid (w10.heap.size + 2 ≤ D.heap.size) := Lib.hid hsz
                    clear hD hp hsz hlt
                    gi_wp2_with (fail)
                    have hr := HD.out.set (b0 := w10.heap.size) (by have := HR3.out; omega) (by have := HR3.out; have := HR4.out; omega) HSZ.out (((rangeL lo mid t.ino).length : Int) + (pre.length : Int) + 1)
                    refine ⟨hr.1, hr.2.1, hr.2.2.1, ?_⟩
                    show RgN _ _ _ _ _ _ _ _ _ _ _ _ _ _
                    rw [HLEN.out]
                    exact hr.2.2.2
                  case done4 =>
                    intro D hD hD4
                    have HMK4 : Hid (∀ m ∈ [w10.heap.size, w9.heap.size, w8.heap.size, W7.heap.size], w.heap.size + 3 ≤ m) := Lib.hid (by
                      intro m hm
                      have := HR3.out
                      have := HR4.out
                      rcases List.mem_cons.1 hm with rfl | hm
                      · omega
                      rcases List.mem_cons.1 hm with rfl | hm
                      · omega
                      exact HMK.out _ hm)
                    have HND4 : Hid ([w10.heap.size, w9.heap.size, w8.heap.size, W7.heap.size].Nodup) := Lib.hid (by have := HRR.out; have := HR3.out; have := HR4.out; simp; omega)
                    have HDD : Hid (RgN w lo hi sb t j q (W7.heap.size + 2) (.slice av (rangeL lo hi t.ino).length cv) (rangeL lo hi t.ino) B.heap.size ((rangeL lo mid t.ino).length + (rangeL mid hi t.ino).length) [w10.heap.size, w9.heap.size, w8.heap.size, W7.heap.size] D) := Lib.hid
                      ⟨hD.g, hD.zi, fun m hm => by
                        rcases List.mem_cons.1 hm with rfl | hm
                        · exact hD4
                        · exact hD.mark _ hm⟩
                    have f20 : D.cell? ⟨B.heap.size, 0, none⟩ = some (.int .i64 (((rangeL lo mid t.ino).length : Int) + ((rangeL mid hi t.ino).length : Int))) := blk_cell hD.zi 0
                    have f14 : D.cell? ⟨q, 0, none⟩ = some (.slice av (rangeL lo hi t.ino).length cv) := blk_cell hD.g.zw 0
                    have f2 : D.cell? ⟨w.heap.size + 1 + 1, 0, none⟩ = some (.bool false) := blk_cell hD.g.b.z2 0
                    have g2 : D.frozen? ⟨w.heap.size + 1 + 1, 0, none⟩ = false := blk_free hD.g.b.z2 0
                    have hs : ((((rangeL lo mid t.ino).length : Int) + ((rangeL mid hi t.ino).length : Int)) == ((rangeL lo hi t.ino).length : Int)) = true := by rw [← HSUM.out]; simp
                    have h200 : ((rangeL mid hi t.ino).length : Int) ≤ 200 := by have := HL3.out; omega
                    have h201 : ((rangeL lo mid t.ino).length : Int) ≤ 200 := by have := HL3.out; omega
                    clear hD hD4
                    go_simp
                    go_wp2_with (fail)
                    exact rg_done HDD.out HMK4.out HND4.out _
end Go.Proofs.Ytndaacojbbmcnaa
