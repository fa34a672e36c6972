/- The statements' frozen, walked. -/
import Derived.Test.YtndaacojbbmcnaaX5
namespace Go.Proofs.Ytndaacojbbmcnaa
open Go.RowKit Go.RwLone Go.Shelf
attribute [local go_sem] Oper.semAt_some

theorem fz_end {w W : World} (bs : List Nat) (tmps : Array Value) (hm : ∀ b ∈ bs, W.heap[b]? = some (.deferred (some [])) ∧ w.heap.size + 5 ≤ b) (hn : bs.Nodup) (hB : Below w.heap.size w W)
    (h2 : IsBlk W (w.heap.size + 4) #[.bool true] 4) (h8 : tmps[8]? = some (.pointer (some ⟨w.heap.size + 1 + 1 + 1 + 1, 0, none⟩)) := by rfl) :
    bodyPostM Fence.wide 0 Try.prog Try.f29 (fun e w' => e = .returned (.bool true) ∧ Below w.heap.size w w') Exit.ret { tmps := tmps, defers := bs.map fun b => { target := .collected b, args := #[] } } W := by
  refine leaves_of_marked bs W (marked_of bs W (fun b hb => (hm b hb).1) hn fun W' hk => ?_)
  have c := blk_cell (hk.obj h2 (fun hb => by have := (hm _ hb).2; omega)) 0
  have c' : W'.cell? ⟨w.heap.size + 1 + 1 + 1 + 1, 0, none⟩ = some (.bool true) := c
  exact ⟨.bool true, by simp [results, Try.results29, go_sem, h8, c'], rfl, below_keeps hB hk (fun k hk => by have := (hm _ hk).2; omega) hB.size⟩

/-- The boxes of frozen: the snapshot, the pairs, the bounds, the result, the count. -/
structure FBox (w : World) (sb : Nat) (v : Value) (lo hi : ByteArray) (i : Int) (W : World) : Prop where
  b0 : IsBlk W w.heap.size #[.pointer (some ⟨sb, 0, none⟩)] 51
  b1 : IsBlk W (w.heap.size + 1) #[v] 27
  b2 : IsBlk W (w.heap.size + 2) #[.string lo] 9
  b3 : IsBlk W (w.heap.size + 3) #[.string hi] 9
  b4 : IsBlk W (w.heap.size + 4) #[.bool false] 4
  b5 : IsBlk W (w.heap.size + 5) #[.int .i64 i] 3
  below : Below w.heap.size w W
theorem FBox.keeps {w : World} {sb : Nat} {v : Value} {lo hi : ByteArray} {i : Int} {A B : World} {S : Nat → Prop} (h : FBox w sb v lo hi i A) (hk : Keeps S A B) (hl : ∀ k, S k → w.heap.size + 6 ≤ k) : FBox w sb v lo hi i B :=
  ⟨hk.obj h.b0 (fun e => by have := hl _ e; omega), hk.obj h.b1 (fun e => by have := hl _ e; omega), hk.obj h.b2 (fun e => by have := hl _ e; omega), hk.obj h.b3 (fun e => by have := hl _ e; omega), hk.obj h.b4 (fun e => by have := hl _ e; omega), hk.obj h.b5 (fun e => by have := hl _ e; omega),
    below_keeps h.below hk (by intro i hi; have := hl _ hi; omega) h.below.size⟩
theorem FBox.set {w : World} {sb : Nat} {v : Value} {lo hi : ByteArray} {i : Int} {A : World} (h : FBox w sb v lo hi i A) (j : Int) : FBox w sb v lo hi j (A.setCell ⟨w.heap.size + 5, 0, none⟩ (.int .i64 j)) :=
  ⟨blk_other h.b0 0 _ (by omega), blk_other h.b1 0 _ (by omega), blk_other h.b2 0 _ (by omega), blk_other h.b3 0 _ (by omega), blk_other h.b4 0 _ (by omega), blk_set h.b5 0 _, h.below.setCell (p := ⟨w.heap.size + 5, 0, none⟩) (by simp) _⟩
theorem FBox.ext {w : World} {sb : Nat} {v : Value} {lo hi : ByteArray} {i : Int} {A B : World} (h : FBox w sb v lo hi i A) (hk : Below A.heap.size A B) : FBox w sb v lo hi i B :=
  h.keeps (Keeps.of_below hk) (fun _ e => e.elim)
theorem frozen_start (w : World) (sb : Nat) (v : Value) (lo hi : ByteArray) (w1 w2 w3 w4 w5 w6 : World) (h1 : w1 = w.alloc (.cells #[.pointer (some ⟨sb, 0, none⟩)] 51)) (h2 : w2 = w1.alloc (.cells #[v] 27)) (h3 : w3 = w2.alloc (.cells #[.string lo] 9))
    (h4 : w4 = w3.alloc (.cells #[.string hi] 9)) (h5 : w5 = w4.alloc (.cells #[.bool false] 4)) (h6 : w6 = w5.alloc (.cells #[.int .i64 0] 3)) : FBox w sb v lo hi 0 w6 ∧ w6.heap.size = w.heap.size + 6 := by
  have z1 : w1.heap.size = w.heap.size + 1 := by rw [h1]; exact World.size_alloc _ _
  have z2 : w2.heap.size = w.heap.size + 2 := by rw [h2, World.size_alloc, z1]
  have z3 : w3.heap.size = w.heap.size + 3 := by rw [h3, World.size_alloc, z2]
  have z4 : w4.heap.size = w.heap.size + 4 := by rw [h4, World.size_alloc, z3]
  have z5 : w5.heap.size = w.heap.size + 5 := by rw [h5, World.size_alloc, z4]
  have z6 : w6.heap.size = w.heap.size + 6 := by rw [h6, World.size_alloc, z5]
  have b0 : w1.heap[w.heap.size]? = some (.cells #[.pointer (some ⟨sb, 0, none⟩)] 51) := by rw [h1]; exact blk_new _ _
  have b1 : w2.heap[w.heap.size + 1]? = some (.cells #[v] 27) := by rw [← z1, h2]; exact blk_new _ _
  have b2 : w3.heap[w.heap.size + 2]? = some (.cells #[.string lo] 9) := by rw [← z2, h3]; exact blk_new _ _
  have b3 : w4.heap[w.heap.size + 3]? = some (.cells #[.string hi] 9) := by rw [← z3, h4]; exact blk_new _ _
  have b4 : w5.heap[w.heap.size + 4]? = some (.cells #[.bool false] 4) := by rw [← z4, h5]; exact blk_new _ _
  have b5 : w6.heap[w.heap.size + 5]? = some (.cells #[.int .i64 0] 3) := by rw [← z5, h6]; exact blk_new _ _
  have k4 : ∀ (b : Nat) (o : Obj), w5.heap[b]? = some o → w6.heap[b]? = some o := fun b o h => by rw [h6]; exact blk_alloc h
  have k3 : ∀ (b : Nat) (o : Obj), w4.heap[b]? = some o → w6.heap[b]? = some o := fun b o h => k4 b o (by rw [h5]; exact blk_alloc h)
  have k2 : ∀ (b : Nat) (o : Obj), w3.heap[b]? = some o → w6.heap[b]? = some o := fun b o h => k3 b o (by rw [h4]; exact blk_alloc h)
  have k1 : ∀ (b : Nat) (o : Obj), w2.heap[b]? = some o → w6.heap[b]? = some o := fun b o h => k2 b o (by rw [h3]; exact blk_alloc h)
  have k0 : ∀ (b : Nat) (o : Obj), w1.heap[b]? = some o → w6.heap[b]? = some o := fun b o h => k1 b o (by rw [h2]; exact blk_alloc h)
  have bel : Below w.heap.size w w6 := by
    rw [h6, h5, h4, h3, h2, h1]
    exact ((((((Below.refl _ _).alloc (Nat.le_refl _) _).alloc (by simp) _).alloc (by simp; omega) _).alloc (by simp; omega) _).alloc (by simp; omega) _).alloc (by simp; omega) _
  exact ⟨⟨k0 _ _ b0, k1 _ _ b1, k2 _ _ b2, k3 _ _ b3, k4 _ _ b4, b5, bel⟩, z6⟩
theorem get_at {t : Tr ByteArray Int} (hr : Rise slt t.ino) {j : Nat} {x : ByteArray × Int} (hx : t.ino[j]? = some x) : t.get slt x.1 = some x.2 := by
  rw [get_ino slt_ord t hr]
  have e : t.ino = t.ino.take j ++ (x.1, x.2) :: t.ino.drop (j + 1) := by
    obtain ⟨hlt, rfl⟩ := List.getElem?_eq_some_iff.1 hx
    have := List.take_append_drop j t.ino
    rw [List.drop_eq_getElem_cons hlt] at this
    exact this.symm
  rw [e] at hr ⊢
  exact findL_eq slt_ord hr

/-- The boxes, the snapshot. -/
structure FzA (w : World) (sb : Nat) (t : Tr ByteArray Int) (ver : Int) (v : Value) (lo hi : ByteArray) (i : Int) (W : World) : Prop where
  box : FBox w sb v lo hi i W
  snap : SSnap W sb t ver
theorem FzA.loop {w : World} {sb : Nat} {t : Tr ByteArray Int} {ver : Int} {v : Value} {lo hi : ByteArray} {i : Int} {A C : World} {l : Nat} (h : FzA w sb t ver v lo hi i A) (hk : Keeps (LoopAt l A) A C) (hl : w.heap.size + 6 ≤ l) : FzA w sb t ver v lo hi i C := by
  obtain ⟨root, hb, _⟩ := h.snap.ex
  exact ⟨h.box.keeps hk (fun k e => by have := e.1; omega), h.snap.keeps hk (loopAt_not hb) (fun b cs hb => loopAt_not hb)⟩
theorem FzA.ext {w : World} {sb : Nat} {t : Tr ByteArray Int} {ver : Int} {v : Value} {lo hi : ByteArray} {i : Int} {A C : World} (h : FzA w sb t ver v lo hi i A) (hk : Below A.heap.size A C) : FzA w sb t ver v lo hi i C := ⟨h.box.ext hk, h.snap.below hk⟩
theorem FzA.set {w : World} {sb : Nat} {t : Tr ByteArray Int} {ver : Int} {v : Value} {lo hi : ByteArray} {i : Int} {A : World} {b0 : Nat} (h : FzA w sb t ver v lo hi i A) (hb : w.heap.size + 6 ≤ b0) (hb2 : b0 + 2 ≤ A.heap.size) (j : Int) :
    (A.setCell ⟨w.heap.size + 1 + 1 + 1 + 1 + 1, 0, none⟩ (.int .i64 j)).heap[b0]? = A.heap[b0]? ∧ (A.setCell ⟨w.heap.size + 1 + 1 + 1 + 1 + 1, 0, none⟩ (.int .i64 j)).heap[b0 + 1]? = A.heap[b0 + 1]? ∧
      KeepW A (A.setCell ⟨w.heap.size + 1 + 1 + 1 + 1 + 1, 0, none⟩ (.int .i64 j)) ∧ FzA w sb t ver v lo hi j (A.setCell ⟨w.heap.size + 1 + 1 + 1 + 1 + 1, 0, none⟩ (.int .i64 j)) := by
  have k2 : Keeps (Only (w.heap.size + 5)) A (A.setCell ⟨w.heap.size + 1 + 1 + 1 + 1 + 1, 0, none⟩ (.int .i64 j)) := keeps_set _ _ _ _
  have ne : ∀ (b : Nat) (cs : Array Value) (T : TypeId), IsBlk A b cs T → T ≠ 3 → ¬ Only (w.heap.size + 5) b := fun b cs T hb hT e => ne_of_type hb h.box.b5 hT e
  obtain ⟨root, hb1, _⟩ := h.snap.ex
  exact ⟨k2.block b0 (by omega) (fun e => by have : b0 = w.heap.size + 5 := e; omega), k2.block (b0 + 1) (by omega) (fun e => by have : b0 + 1 = w.heap.size + 5 := e; omega), keepW_keeps k2 (fun T hT b cs hb => ne b cs T hb (by rintro rfl; simp at hT)),
    h.box.set j, h.snap.keeps k2 (ne _ _ _ hb1 (by decide)) (fun b cs hb => ne b cs _ hb (by decide))⟩
/-- And a count beside it. -/
structure FzN (w : World) (sb : Nat) (t : Tr ByteArray Int) (ver : Int) (v : Value) (lo hi : ByteArray) (i : Int) (r : Nat) (n : Int) (ms : List Nat) (W : World) : Prop where
  a : FzA w sb t ver v lo hi i W
  zn : IsBlk W r #[.int .i64 n] 3
  mark : ∀ m ∈ ms, W.heap[m]? = some (.deferred (some []))
theorem FzN.loop {w : World} {sb : Nat} {t : Tr ByteArray Int} {ver : Int} {v : Value} {lo hi : ByteArray} {i : Int} {r : Nat} {n : Int} {ms : List Nat} {A C : World} {l : Nat} (h : FzN w sb t ver v lo hi i r n ms A) (hk : Keeps (LoopAt l A) A C) (hl : w.heap.size + 6 ≤ l) : FzN w sb t ver v lo hi i r n ms C :=
  ⟨h.a.loop hk hl, hk.obj h.zn (loopAt_not h.zn), fun m hm => hk.obj (h.mark m hm) (by
    rintro ⟨_, r, hr⟩
    have := (h.mark m hm).symm.trans hr
    simp at this)⟩
theorem FzN.ext {w : World} {sb : Nat} {t : Tr ByteArray Int} {ver : Int} {v : Value} {lo hi : ByteArray} {i : Int} {r : Nat} {n : Int} {ms : List Nat} {A C : World} (h : FzN w sb t ver v lo hi i r n ms A) (hk : Below A.heap.size A C) : FzN w sb t ver v lo hi i r n ms C :=
  ⟨h.a.ext hk, (hk.block _ (lt_of_block h.zn)).trans h.zn, fun m hm => (hk.block _ (lt_of_block (h.mark m hm))).trans (h.mark m hm)⟩
theorem FzN.set {w : World} {sb : Nat} {t : Tr ByteArray Int} {ver : Int} {v : Value} {lo hi : ByteArray} {i : Int} {r : Nat} {n : Int} {ms : List Nat} {A : World} {b0 : Nat} (h : FzN w sb t ver v lo hi i r n ms A) (hr : w.heap.size + 6 ≤ r) (hb : r < b0) (hb2 : b0 + 2 ≤ A.heap.size) (j : Int) :
    (A.setCell ⟨r, 0, none⟩ (.int .i64 j)).heap[b0]? = A.heap[b0]? ∧ (A.setCell ⟨r, 0, none⟩ (.int .i64 j)).heap[b0 + 1]? = A.heap[b0 + 1]? ∧ KeepW A (A.setCell ⟨r, 0, none⟩ (.int .i64 j)) ∧ FzN w sb t ver v lo hi i r j ms (A.setCell ⟨r, 0, none⟩ (.int .i64 j)) := by
  have k2 : Keeps (Only r) A (A.setCell ⟨r, 0, none⟩ (.int .i64 j)) := keeps_set _ _ _ _
  have ne : ∀ (b : Nat) (cs : Array Value) (T : TypeId), IsBlk A b cs T → T ≠ 3 → ¬ Only r b := fun b cs T hb hT e => ne_of_type hb h.zn hT e
  obtain ⟨root, hb1, _⟩ := h.a.snap.ex
  refine ⟨k2.block b0 (by omega) (fun e => by have : b0 = r := e; omega), k2.block (b0 + 1) (by omega) (fun e => by have : b0 + 1 = r := e; omega), keepW_keeps k2 (fun T hT b cs hb => ne b cs T hb (by rintro rfl; simp at hT)),
    ⟨⟨h.a.box.keeps k2 (fun k e => by have : k = r := e; omega), h.a.snap.keeps k2 (ne _ _ _ hb1 (by decide)) (fun b cs hb => ne b cs _ hb (by decide))⟩, blk_set h.zn 0 _, fun m hm => k2.obj (h.mark m hm) (fun e => ?_)⟩⟩
  have e2 : m = r := e
  subst e2
  have := (h.mark m hm).symm.trans h.zn
  simp at this
theorem fz_done {w : World} {sb : Nat} {t : Tr ByteArray Int} {ver : Int} {v : Value} {lo hi : ByteArray} {i : Int} {r : Nat} {n : Int} {ms : List Nat} {A : World} (h : FzN w sb t ver v lo hi i r n ms A)
    (hm : ∀ m ∈ ms, w.heap.size + 5 ≤ m) (hn : ms.Nodup) (tmps : Array Value) (h8 : tmps[8]? = some (.pointer (some ⟨w.heap.size + 1 + 1 + 1 + 1, 0, none⟩)) := by rfl) :
    bodyPostM Fence.wide 0 Try.prog Try.f29 (fun e w' => e = .returned (.bool true) ∧ Below w.heap.size w w') Exit.ret { tmps := tmps, defers := ms.map fun b => { target := .collected b, args := #[] } } (A.setCell ⟨w.heap.size + 1 + 1 + 1 + 1, 0, none⟩ (.bool true)) :=
  fz_end ms tmps (fun b hb => ⟨blk_other (h.mark b hb) 0 _ (by have := hm b hb; intro e; subst e; have := (h.mark _ hb).symm.trans h.a.box.b4; simp at this), hm b hb⟩) hn (h.a.box.below.setCell (p := ⟨w.heap.size + 1 + 1 + 1 + 1, 0, none⟩) (by simp; omega) _) (blk_set h.a.box.b4 0 _) h8

set_option maxRecDepth 100000 in
set_option maxHeartbeats 20000000 in
theorem l_frozen (w : World) (sb base : Nat) (t : Tr ByteArray Int) (ver : Int) (v : Value) (lo hi : ByteArray) (ht : SSnap w sb t ver) (hr : Rise slt t.ino) (hl : PRow w base v t.ino) (hn : t.size < 10000) :
    Calls Try.prog 29 #[.pointer (some ⟨sb, 0, none⟩), v, .string lo, .string hi] w fun e w' => e = .returned (.bool true) ∧ Below w.heap.size w w' := by
  obtain ⟨a, cap, rfl, hrd⟩ := prow_read hl
  have HR := Lib.hid hrd
  have HT := Lib.hid ht
  have HRISE := Lib.hid hr
  have HN : Hid (t.ino.length < 10000 ∧ t.size = t.ino.length) := Lib.hid (by rw [Tr.ino_length]; exact ⟨hn, rfl⟩)
  clear hrd ht hr hl hn
  refine calls_of_wp_marks Try.func29 rfl ?_
  simp only [Try.ntmps29, List.size_toArray, List.length_cons, List.length_nil, Nat.reduceAdd, Nat.reduceSub, Array.replicate_succ, Array.replicate_zero, List.push_toArray, List.append_toArray, List.nil_append, List.cons_append]
  go_wp2_with fail
  refine (q_sAll _ sb).mono ?_
  rintro e w1 ⟨rfl, hw1⟩
  obtain ⟨hB0, hS0⟩ := frozen_start w sb (.slice a t.ino.length cap) lo hi _ _ _ _ _ _ rfl rfl rfl rfl rfl rfl
  generalize ((((((w.alloc (.cells #[.pointer (some ⟨sb, 0, none⟩)] 51)).alloc (.cells #[.slice a t.ino.length cap] 27)).alloc (.cells #[.string lo] 9)).alloc (.cells #[.string hi] 9)).alloc (.cells #[.bool false] 4)).alloc (.cells #[.int .i64 0] 3)) = W0 at hB0 hS0 hw1 ⊢
  have hk1 : Below W0.heap.size W0 w1 := by rw [hw1]; exact (Below.refl _ _).alloc (Nat.le_refl _) _
  have q1 : IsBlk w1 W0.heap.size #[.pointer (some ⟨sb, 0, none⟩)] 51 := by rw [hw1]; exact blk_new _ _
  have HS : Hid (w1.heap.size = w.heap.size + 7) := Lib.hid (by rw [hw1, World.size_alloc, hS0])
  have HA0 : Hid (FzA w sb t ver (.slice a t.ino.length cap) lo hi 0 w1) := Lib.hid ⟨hB0.ext hk1, (HT.out.below hB0.below).below hk1⟩
  have HIT := Lib.hid (iter_sall q1 HA0.out.snap)
  clear hB0 hS0 hk1 q1 hw1
  go_wp2_with fail
  refine wp_forSeq rfl eg49 HIT.out (fun _ => rfl) KeepW.trans (fun W r o h => keepW_put o h) (fun pre W => FzA w sb t ver (.slice a t.ino.length cap) lo hi pre.length W) (fun _ _ _ => False)
    (fun s A B h hk => h.loop hk (by have := HS.out; omega)) (fun _ _ _ _ h _ => h.elim) HA0.out ?a1 ?assign ?body ?done ?stop
  case assign =>
    intro x W K hK
    gi_wp2
    exact hK
  case stop => intro c q B _ h; exact h.elim
  case body =>
    intro pre x A hA hp hsz
    have hx := pre_get hp
    obtain ⟨g, rfl, d0, d1⟩ := HR.out _ _ hx
    have hlt : pre.length < t.ino.length := (List.getElem?_eq_some_iff.1 hx).1
    have HG := Lib.hid (get_at HRISE.out hx)
    have c0 := (hA.box.below.cell (p := ⟨g, pre.length * 2, none⟩) (World.block_lt_of_cell? w _ d0)).trans d0
    have c1 := (hA.box.below.cell (p := ⟨g, pre.length * 2 + 1, none⟩) (World.block_lt_of_cell? w _ d1)).trans d1
    have f4 : A.cell? ⟨w.heap.size, 0, none⟩ = some (.pointer (some ⟨sb, 0, none⟩)) := blk_cell hA.box.b0 0
    have f5 : A.cell? ⟨w.heap.size + 1, 0, none⟩ = some (.slice (some ⟨g, 0, none⟩) t.ino.length cap) := blk_cell hA.box.b1 0
    have f9 : A.cell? ⟨w.heap.size + 1 + 1 + 1 + 1 + 1, 0, none⟩ = some (.int .i64 (pre.length : Int)) := blk_cell hA.box.b5 0
    have z9 : A.frozen? ⟨w.heap.size + 1 + 1 + 1 + 1 + 1, 0, none⟩ = false := blk_free hA.box.b5 0
    have hlen : (t.ino.length : Int) < 10000 := by have := HN.out; omega
    have HA := Lib.hid hA
    have HLEN : Hid (((pre ++ [x]).length : Int) = (pre.length : Int) + 1) := Lib.hid (by simp)
    have HSZ := Lib.hid hsz
    clear d0 d1 hA hx hp hsz
    gi_wp2_with (fail)
    refine ⟨trivial, rfl, (CallsIn.inRound _ (callsIn_wide.2 (t_sget _ sb t ver x.1 HA.out.snap))).mono ?_⟩
    rintro e B2 ⟨he, rfl⟩
    rw [HG.out] at he
    subst he
    simp only [getRes, Option.getD, Option.isSome]
    gi_wp2_with (fail)
    have hr := HA.out.set (b0 := w1.heap.size) (by have := HS.out; omega) HSZ.out ((pre.length : Int) + 1)
    refine ⟨hr.1, hr.2.1, hr.2.2.1, ?_⟩
    show FzA _ _ _ _ _ _ _ _ _
    rw [HLEN.out]
    exact hr.2.2.2
  case done =>
    intro A hA hD
    have f4 : (A.alloc (.cells #[.int .i64 0] 3)).cell? ⟨w.heap.size, 0, none⟩ = some (.pointer (some ⟨sb, 0, none⟩)) := blk_cell (blk_alloc hA.box.b0) 0
    have f6 : (A.alloc (.cells #[.int .i64 0] 3)).cell? ⟨w.heap.size + 1 + 1, 0, none⟩ = some (.string lo) := blk_cell (blk_alloc hA.box.b2) 0
    have f7 : (A.alloc (.cells #[.int .i64 0] 3)).cell? ⟨w.heap.size + 1 + 1 + 1, 0, none⟩ = some (.string hi) := blk_cell (blk_alloc hA.box.b3) 0
    have HA := Lib.hid hA
    have HD := Lib.hid hD
    clear hA hD
    go_simp
    go_wp2_with (fail)
    clear f4 f6 f7
    refine (q_sRange _ sb lo hi).mono ?_
    rintro e w8 ⟨rfl, hw8⟩
    obtain ⟨hk8, i1, i2, i3, hs8⟩ := srange_blocks _ sb lo hi w8 hw8
    rw [World.size_alloc] at i1 i2 i3
    have zr := blk_new A (.cells #[.int .i64 0] 3)
    have hs1 : (A.alloc (.cells #[.int .i64 0] 3)).heap.size = A.heap.size + 1 := by simp
    have hkA : Below A.heap.size A (A.alloc (.cells #[.int .i64 0] 3)) := (Below.refl _ _).alloc (Nat.le_refl _) _
    have hN0 : FzN w sb t ver (.slice a t.ino.length cap) lo hi t.ino.length A.heap.size 0 [w1.heap.size] (A.alloc (.cells #[.int .i64 0] 3)) :=
      ⟨HA.out.ext hkA, zr, fun m hm => by simp only [List.mem_singleton] at hm; subst hm; exact blk_alloc HD.out⟩
    have HN0 := Lib.hid (hN0.ext hk8)
    have HIT8 := Lib.hid (iter_srange HRISE.out i1 i2 i3 (hN0.ext hk8).a.snap)
    rw [hs1] at hs8
    have HRR : Hid (w.heap.size + 6 ≤ A.heap.size ∧ A.heap.size + 4 = w8.heap.size ∧ w1.heap.size < A.heap.size) := Lib.hid ⟨by have := lt_of_block HA.out.box.b5; omega, by omega, lt_of_block HD.out⟩
    clear hw8 hk8 i1 i2 i3 hs8 zr hs1 hkA hN0
    go_wp2_with (fail)
    refine wp_forSeq rfl eg52 HIT8.out (fun _ => rfl) KeepW.trans (fun W r o h => keepW_put o h)
      (fun pre W => FzN w sb t ver (.slice a t.ino.length cap) lo hi t.ino.length A.heap.size pre.length [w1.heap.size] W) (fun _ _ _ => False)
      (fun s A B h hk => h.loop hk (by have := HRR.out; omega)) (fun _ _ _ _ h _ => h.elim) HN0.out ?a2 ?assign2 ?body2 ?done2 ?stop2
    case assign2 =>
      intro x W K hK
      gi_wp2
      exact hK
    case stop2 => intro c q B _ h; exact h.elim
    case body2 =>
      intro pre x B hB hp hsz
      have hx := pre_get hp
      have hlt : pre.length < (rangeL lo hi t.ino).length := (List.getElem?_eq_some_iff.1 hx).1
      have hle := rangeL_len lo hi t.ino
      have h200 : (pre.length : Int) < 10000 := by have := HN.out; omega
      have hm := (List.mem_filter.1 (List.mem_of_getElem? hx)).2
      simp only [Bool.and_eq_true, Bool.not_eq_true'] at hm
      have q1 : Op.bytesLess x.1.toList lo.toList = false := hm.1
      have q2 : Op.bytesLess x.1.toList hi.toList = true := hm.2
      have f6 : B.cell? ⟨w.heap.size + 1 + 1, 0, none⟩ = some (.string lo) := blk_cell hB.a.box.b2 0
      have f7 : B.cell? ⟨w.heap.size + 1 + 1 + 1, 0, none⟩ = some (.string hi) := blk_cell hB.a.box.b3 0
      have f14 : B.cell? ⟨A.heap.size, 0, none⟩ = some (.int .i64 (pre.length : Int)) := blk_cell hB.zn 0
      have g14 : B.frozen? ⟨A.heap.size, 0, none⟩ = false := blk_free hB.zn 0
      have HB := Lib.hid hB
      have HLEN : Hid (((pre ++ [x]).length : Int) = (pre.length : Int) + 1) := Lib.hid (by simp)
      have HSZ := Lib.hid hsz
      clear hB hp hx hsz hm hlt hle
      gi_wp2_with (fail)
      have hr := HB.out.set (b0 := w8.heap.size) (by have := HRR.out; omega) (by have := HRR.out; omega) HSZ.out ((pre.length : Int) + 1)
      refine ⟨hr.1, hr.2.1, hr.2.2.1, ?_⟩
      show FzN _ _ _ _ _ _ _ _ _ _ _ _
      rw [HLEN.out]
      exact hr.2.2.2
    case done2 =>
      intro B hB hD2
      have HMK : Hid (∀ m ∈ [w8.heap.size, w1.heap.size], w.heap.size + 5 ≤ m) := Lib.hid (by
        intro m hm
        have := HRR.out
        have := HS.out
        simp only [List.mem_cons, List.not_mem_nil, or_false] at hm
        rcases hm with rfl | rfl <;> omega)
      have HB2 : Hid (FzN w sb t ver (.slice a t.ino.length cap) lo hi t.ino.length A.heap.size (rangeL lo hi t.ino).length [w8.heap.size, w1.heap.size] B) := Lib.hid
        ⟨hB.a, hB.zn, fun m hm => by
          simp only [List.mem_cons, List.not_mem_nil, or_false] at hm
          rcases hm with rfl | rfl
          · exact hD2
          · exact hB.mark _ (by simp)⟩
      have HND : Hid ([w8.heap.size, w1.heap.size].Nodup) := Lib.hid (by have := HRR.out; simp; omega)
      clear hB hD2
      go_simp
      go_wp2_with (fail)
      go_loopw [16, 17] (fun s i wr => ∃ k : Nat, k ≤ t.ino.length ∧ i = .int .i64 k ∧ s = .int .i64 ((rangeL lo hi (t.ino.take k)).length : Int) ∧
        Hid (FzN w sb t ver (.slice a t.ino.length cap) lo hi t.ino.length A.heap.size (rangeL lo hi t.ino).length [w8.heap.size, w1.heap.size] wr)) (fun _ i _ => t.ino.length - (intOf i).toNat)
      case atStart => exact ⟨0, Nat.zero_le _, rfl, rfl, HB2⟩
      case round =>
        obtain ⟨k, hk, rfl, rfl, HH⟩ := hrel
        have hh := HH.out
        have hlen : (t.ino.length : Int) < 10000 := by have := HN.out; omega
        by_cases hlt : k < t.ino.length
        · have hy : t.ino[k]? = some t.ino[k] := List.getElem?_eq_getElem hlt
          have HT1 := Lib.hid (take_succ' t.ino k _ hy)
          generalize t.ino[k] = y at hy HT1
          obtain ⟨g, rfl, d0, d1⟩ := HR.out _ _ hy
          have c0 := (hh.a.box.below.cell (p := ⟨g, k * 2, none⟩) (World.block_lt_of_cell? w _ d0)).trans d0
          have f5 : wr.cell? ⟨w.heap.size + 1, 0, none⟩ = some (.slice (some ⟨g, 0, none⟩) t.ino.length cap) := blk_cell hh.a.box.b1 0
          have f6 : wr.cell? ⟨w.heap.size + 1 + 1, 0, none⟩ = some (.string lo) := blk_cell hh.a.box.b2 0
          have f7 : wr.cell? ⟨w.heap.size + 1 + 1 + 1, 0, none⟩ = some (.string hi) := blk_cell hh.a.box.b3 0
          have hll : ((rangeL lo hi (t.ino.take k)).length : Int) ≤ k := by
            have h1 := rangeL_len lo hi (t.ino.take k)
            have h2 := List.length_take_le k t.ino
            omega
          have hlt' : (k : Int) < (t.ino.length : Int) := by omega
          clear d0 d1 hy hh
          cases q1 : Op.bytesLess y.1.toList lo.toList with
          | true =>
            have HE : Hid (rangeL lo hi (t.ino.take (k + 1)) = rangeL lo hi (t.ino.take k)) := Lib.hid (by have h1 : slt y.1 lo = true := q1; rw [HT1.out]; simp [rangeL, List.filter_append, h1])
            go_wp2_with (fail)
            go_quiet (fail)
            go_wp2_with (fail)
            go_roundw
            case rel => exact ⟨k + 1, by omega, by go_num, by rw [HE.out], Lib.hid (HH.out.ext (below_drewN' _ _))⟩
            case measure => simp [intOf]; omega
          | false =>
            cases q2 : Op.bytesLess y.1.toList hi.toList with
            | true =>
              have HE : Hid (((rangeL lo hi (t.ino.take (k + 1))).length : Int) = ((rangeL lo hi (t.ino.take k)).length : Int) + 1) := Lib.hid (by have h1 : slt y.1 lo = false := q1; have h2 : slt y.1 hi = true := q2; rw [HT1.out]; simp [rangeL, List.filter_append, h1, h2])
              go_wp2_with (fail)
              go_quiet (fail)
              go_wp2_with (fail)
              go_roundw
              case rel => exact ⟨k + 1, by omega, by go_num, by rw [HE.out], Lib.hid (HH.out.ext (below_drewN' _ _))⟩
              case measure => simp [intOf]; omega
            | false =>
              have HE : Hid (rangeL lo hi (t.ino.take (k + 1)) = rangeL lo hi (t.ino.take k)) := Lib.hid (by have h1 : slt y.1 hi = false := q2; rw [HT1.out]; simp [rangeL, List.filter_append, h1])
              go_wp2_with (fail)
              go_quiet (fail)
              go_wp2_with (fail)
              go_roundw
              case rel => exact ⟨k + 1, by omega, by go_num, by rw [HE.out], Lib.hid (HH.out.ext (below_drewN' _ _))⟩
              case measure => simp [intOf]; omega
        · have hke : k = t.ino.length := by omega
          subst hke
          rw [List.take_length]
          have f4 : wr.cell? ⟨w.heap.size, 0, none⟩ = some (.pointer (some ⟨sb, 0, none⟩)) := blk_cell hh.a.box.b0 0
          have f5 : wr.cell? ⟨w.heap.size + 1, 0, none⟩ = some (.slice a t.ino.length cap) := blk_cell hh.a.box.b1 0
          have f9 : wr.cell? ⟨w.heap.size + 1 + 1 + 1 + 1 + 1, 0, none⟩ = some (.int .i64 (t.ino.length : Int)) := blk_cell hh.a.box.b5 0
          have f14 : wr.cell? ⟨A.heap.size, 0, none⟩ = some (.int .i64 ((rangeL lo hi t.ino).length : Int)) := blk_cell hh.zn 0
          have f8 : wr.cell? ⟨w.heap.size + 1 + 1 + 1 + 1, 0, none⟩ = some (.bool false) := blk_cell hh.a.box.b4 0
          have g8 : wr.frozen? ⟨w.heap.size + 1 + 1 + 1 + 1, 0, none⟩ = false := blk_free hh.a.box.b4 0
          have HLEN : Hid (∀ nq, Calls Try.prog 32 #[.pointer (some ⟨sb, 0, none⟩)] (wr.drewN nq) fun e w' => e = .returned (.int .i64 (t.ino.length : Int)) ∧ w' = wr.drewN nq) := Lib.hid fun nq =>
            (t_slen _ sb t ver (hh.a.snap.below (below_drewN' _ nq))).mono fun e w' ⟨he, hw⟩ => ⟨by rw [he, HN.out.2], hw.symm⟩
          clear hh
          go_wp2_with (fail)
          refine wp_region_still_tail 16 (by kernel_rfl) (by kernel_rfl) ?_
          simp only [List.take_succ_cons, List.take_zero, List.drop_succ_cons, List.drop_zero]
          still_step
          still_step
          still_step
          still_step
          still_step
          still_step
          still_call (HLEN.out 1)
          repeat still_step
          refine wpStill_nil ?_
          go_wp2_with (fail)
          exact fz_done (HH.out.ext (below_drewN' _ 1)) HMK.out HND.out _
end Go.Proofs.Ytndaacojbbmcnaa
