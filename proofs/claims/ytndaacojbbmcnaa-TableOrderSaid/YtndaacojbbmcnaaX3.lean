/- The statement TableWrites, walked. -/
import Derived.Test.YtndaacojbbmcnaaL3
namespace Go.Proofs.Ytndaacojbbmcnaa
open Go.RowKit Go.RwLone Go.Shelf
attribute [local go_sem] Oper.semAt_some

/-- A range over a function that may be left by break: what stands behind it is told once. -/
theorem wp_forBrk {α : Type} {P : Program} {g : Operand} {ps : Array Tmp} {assign body : Code} {Q : Exit → Act → World → Prop} {a : Act} {w : World}
    {gf : Nat} {lb : Array Value} (hg : a.eval g = .func (.func gf) #[] lb) (eg : ∀ args w, (callFunc gf args).run P w = .ok (.enter gf args) w)
    {encs : α → Array Value} {Kp : World → World → Prop} {xs : List α} (hseq : IterC P gf lb encs Kp xs w) (hps : ∀ x, (encs x).size = ps.size)
    (hKt : ∀ {A B C : World}, Kp A B → Kp B C → Kp A C) (hKb : ∀ (W : World) (r : Loop) (o : Obj), W.heap[w.heap.size + 1]? = some (.loop r) → Kp W (W.putObj (w.heap.size + 1) o))
    (I : List α → World → Prop) (J : World → Prop) (id : Nat)
    (hI : ∀ s A B, I s A → Keeps (LoopAt (w.heap.size + 1) A) A B → I s B) (hJ : ∀ A B, J A → Keeps (LoopAt (w.heap.size + 1) A) A B → J B) (hIJ : ∀ B, I xs B → J B)
    (h0 : I [] w) (a₁ : α → Act) (hQ : ∀ a B, Q .normal a B → Q (.exit id) a B)
    (hassign : ∀ (x : α) (W : World) (K : Act → World → Prop), K (a₁ x) W →
      assign.wpIn (Fence.wide.inRound (w.heap.size + 1)) 0 P (Exit.then K (fun _ _ _ => False)) { tmps := (ps.zip (encs x)).foldl (fun t (p, v) => t.setIfInBounds p v) a.tmps, defers := [] } W)
    (hbody : ∀ (pre : List α) (x : α) (A : World), I pre A → pre ++ [x] <+: xs → w.heap.size + 2 ≤ A.heap.size →
      body.wpIn (Fence.wide.inRound (w.heap.size + 1)) 0 P (ForPost w.heap.size Kp I (fun c _ B => c = .exit id ∧ J B) (pre ++ [x]) A) (a₁ x) A)
    (hdone : ∀ (B : World), J B → B.heap[w.heap.size]? = some (.deferred (some [])) → Q .normal { a with defers := { target := .collected w.heap.size, args := #[] } :: a.defers } B) :
    (Code.rangeFunc g ps assign body).wp P Q a w :=
  wp_forSeq hg eg hseq hps hKt hKb I (fun c _ B => c = .exit id ∧ J B) hI (fun c s A B h hk => ⟨h.1, hJ _ _ h.2 hk⟩) h0 a₁ hassign hbody (fun B h hd => hdone B (hIJ B h) hd)
    (fun c q B _ h hd => by obtain ⟨rfl, h⟩ := h; exact wp_exit (hQ _ _ (hdone B h hd)))
/-- The marks at a function's end, from the blocks as they are. -/
theorem marked_of {P : Program} {fn : Func} {tmps : Array Value} {R : Ending → World → Prop} : ∀ (bs : List Nat) (W : World), (∀ b ∈ bs, W.heap[b]? = some (.deferred (some []))) → bs.Nodup →
    (∀ W', Keeps (fun k => k ∈ bs) W W' → ∃ v, (results fn tmps).run P W' = .ok v W' ∧ R (.returned v) W') → Marked P fn tmps R bs W
  | [], W, _, _, h => h W (Keeps.refl _ _)
  | b :: bs, W, hb, hn, h => by
    have hn := List.nodup_cons.1 hn
    refine ⟨hb b (by simp), marked_of bs _ (fun c hc => (World.putObj_heap_other (fun e => by subst e; exact hn.1 hc)).trans (hb c (by simp [hc]))) hn.2 fun W' hk => h W' ?_⟩
    exact ((keeps_putObj W b (.deferred none)).mono (fun k _ e => by subst e; exact List.mem_cons_self)).trans (hk.mono (fun k _ e => List.mem_cons_of_mem _ e)) (fun _ _ e => e)
theorem wr_end {w W : World} (bs : List Nat) (tmps : Array Value) (hm : ∀ b ∈ bs, W.heap[b]? = some (.deferred (some [])) ∧ w.heap.size + 3 ≤ b) (hn : bs.Nodup) (hB : Below w.heap.size w W)
    (h2 : IsBlk W (w.heap.size + 2) #[.bool true] 4) (h6 : tmps[6]? = some (.pointer (some ⟨w.heap.size + 1 + 1, 0, none⟩)) := by rfl) :
    bodyPostM Fence.wide 0 Try.prog Try.f3 (fun e w' => e = .returned (.bool true) ∧ Below w.heap.size w w') Exit.ret { tmps := tmps, defers := bs.map fun b => { target := .collected b, args := #[] } } W := by
  refine leaves_of_marked bs W (marked_of bs W (fun b hb => (hm b hb).1) hn fun W' hk => ?_)
  have c := blk_cell (hk.obj h2 (fun hb => by have := (hm _ hb).2; omega)) 0
  have c' : W'.cell? ⟨w.heap.size + 1 + 1, 0, none⟩ = some (.bool true) := c
  exact ⟨.bool true, by simp [results, Try.results3, go_sem, h6, c'], rfl, below_keeps hB hk (fun k hk => by have := (hm _ hk).2; omega) hB.size⟩

/-- The boxes that the statement holds while it puts. -/
structure WrA (w : World) (p tb : Nat) (v2 : Value) (stop : Int) (W : World) : Prop where
  z0 : IsBlk W w.heap.size #[v2] 22
  z1 : IsBlk W (w.heap.size + 1) #[.int .i64 stop] 3
  z2 : IsBlk W (w.heap.size + 2) #[.bool false] 4
  z9 : IsBlk W p #[.pointer (some ⟨tb, 0, none⟩)] 25
  below : Below w.heap.size w W
  ge : w.heap.size + 3 ≤ tb
  lt : tb < p
theorem WrA.keeps {w : World} {p tb : Nat} {v2 : Value} {stop : Int} {A B : World} {S : Nat → Prop} (h : WrA w p tb v2 stop A) (hk : Keeps S A B) (hS : ∀ k, S k → k = tb ∨ p < k) : WrA w p tb v2 stop B := by
  have h1 := h.ge
  have h2 := h.lt
  exact ⟨hk.obj h.z0 (fun s => by have := hS _ s; omega), hk.obj h.z1 (fun s => by have := hS _ s; omega), hk.obj h.z2 (fun s => by have := hS _ s; omega), hk.obj h.z9 (fun s => by have := hS _ s; omega),
    below_keeps h.below hk (fun k s => by have := hS _ s; omega) h.below.size, h1, h2⟩
theorem WrA.ext {w : World} {p tb : Nat} {v2 : Value} {stop : Int} {A B : World} (h : WrA w p tb v2 stop A) (hk : Below A.heap.size A B) : WrA w p tb v2 stop B :=
  h.keeps (Keeps.of_below hk) (fun _ s => s.elim)
theorem OpsAt.below {w W : World} {v : Value} {xs : List TOp} (h : OpsAt w v xs) (hk : Below w.heap.size w W) : OpsAt W v xs :=
  h.cells fun _ _ hc => (hk.cell (World.block_lt_of_cell? w _ hc)).trans hc
/-- The boxes of the beginning. -/
structure Wr0 (w : World) (v2 : Value) (stop : Int) (W : World) : Prop where
  z0 : IsBlk W w.heap.size #[v2] 22
  z1 : IsBlk W (w.heap.size + 1) #[.int .i64 stop] 3
  z2 : IsBlk W (w.heap.size + 2) #[.bool false] 4
  below : Below w.heap.size w W
  size : w.heap.size + 3 ≤ W.heap.size
theorem Wr0.ext {w : World} {v2 : Value} {stop : Int} {A B : World} (h : Wr0 w v2 stop A) (hk : Below A.heap.size A B) : Wr0 w v2 stop B :=
  ⟨(hk.block _ (lt_of_block h.z0)).trans h.z0, (hk.block _ (lt_of_block h.z1)).trans h.z1, (hk.block _ (lt_of_block h.z2)).trans h.z2, h.below.trans (hk.mono h.below.size), Nat.le_trans h.size hk.size⟩
theorem wr0_start (w : World) (v2 : Value) (stop : Int) : Wr0 w v2 stop (((w.alloc (.cells #[v2] 22)).alloc (.cells #[.int .i64 stop] 3)).alloc (.cells #[.bool false] 4)) := by
  have q1 := blk_new (w.alloc (.cells #[v2] 22)) (.cells #[.int .i64 stop] 3)
  have q2 := blk_new ((w.alloc (.cells #[v2] 22)).alloc (.cells #[.int .i64 stop] 3)) (.cells #[.bool false] 4)
  rw [World.size_alloc] at q1
  rw [World.size_alloc, World.size_alloc] at q2
  exact ⟨blk_alloc (blk_alloc (blk_new w _)), blk_alloc q1, q2, (((Below.refl _ _).alloc (Nat.le_refl _) _).alloc (by simp) _).alloc (by simp; omega) _, by simp⟩
/-- The invariant of the first loop. -/
structure WrL (w : World) (p tb : Nat) (v2 : Value) (stop : Int) (i : Nat) (nv : Value) (t : Tr ByteArray Int) (W : World) : Prop where
  a : WrA w p tb v2 stop W
  z10 : IsBlk W (p + 1) #[nv] 27
  tab : STab W tb t i
  row : PRow W (p + 2) nv t.ino
  rise : Rise slt t.ino
  size : t.size ≤ i

theorem WrL.keeps {w : World} {p tb : Nat} {v2 : Value} {stop : Int} {i : Nat} {nv : Value} {t : Tr ByteArray Int} {A B : World} {S : Nat → Prop} (h : WrL w p tb v2 stop i nv t A) (hk : Keeps S A B) (hS : ∀ k, S k → A.heap.size ≤ k) : WrL w p tb v2 stop i nv t B := by
  have hk' : Below A.heap.size A B := ⟨hk.os, hk.tape, hk.output, hk.size, fun k hk1 => hk.block k hk1 (fun s => by have := hS k s; omega)⟩
  exact ⟨h.a.ext hk', (hk'.block _ (lt_of_block h.z10)).trans h.z10, h.tab.below hk', h.row.below hk', h.rise, h.size⟩
/-- The invariant of the second loop. -/
structure WrM (W0 : World) (tb : Nat) (n : Int) (W : World) : Prop where
  below : Below W0.heap.size W0 W
  zb : IsBlk W W0.heap.size #[.pointer (some ⟨tb, 0, none⟩)] 25
  zn : IsBlk W (W0.heap.size + 1) #[.int .i64 n] 3
theorem WrM.keeps {W0 A B : World} {tb : Nat} {n : Int} {l : Nat} (h : WrM W0 tb n A) (hk : Keeps (fun k => k = l) A B) (hl : W0.heap.size + 2 ≤ l) : WrM W0 tb n B :=
  ⟨below_keeps h.below hk (by intro i hi; omega) h.below.size, hk.obj h.zb (by omega), hk.obj h.zn (by omega)⟩
theorem WrM.set {W0 A : World} {tb : Nat} {n : Int} (h : WrM W0 tb n A) (m : Int) : WrM W0 tb m (A.setCell ⟨W0.heap.size + 1, 0, none⟩ (.int .i64 m)) :=
  ⟨h.below.setCell (p := ⟨W0.heap.size + 1, 0, none⟩) (by simp) _, blk_other h.zb 0 _ (by omega), blk_set h.zn 0 _⟩

/-- The invariant of the third loop: the table goes on, what was laid beside it stays. -/
structure WrN (w : World) (p tb : Nat) (v2 : Value) (stop : Int) (nv : Value) (xs : List (ByteArray × Int)) (q m : Nat) (i : Nat) (W : World) : Prop where
  a : WrA w p tb v2 stop W
  z10 : IsBlk W (p + 1) #[nv] 27
  row : PRow W (p + 2) nv xs
  zi : IsBlk W q #[.int .i64 i] 3
  mark : W.heap[m]? = some (.deferred (some []))
  tab : ∃ (t : Tr ByteArray Int) (ver : Int), STab W tb t ver ∧ 0 ≤ ver ∧ ver ≤ 200 + i ∧ t.size ≤ 200 + i
theorem WrN.loop {w : World} {p tb : Nat} {v2 : Value} {stop : Int} {nv : Value} {xs : List (ByteArray × Int)} {q m i l : Nat} {A B : World} (h : WrN w p tb v2 stop nv xs q m i A) (hk : Keeps (LoopAt l A) A B) (hl : p < l) : WrN w p tb v2 stop nv xs q m i B := by
  refine ⟨h.a.keeps hk (fun k e => .inr (by have := e.1; omega)), hk.obj h.z10 (loopAt_not h.z10), h.row.keeps hk (fun g hg e => ?_), hk.obj h.zi (loopAt_not h.zi), hk.obj h.mark ?_, ?_⟩
  · obtain ⟨_, r, hr⟩ := e
    obtain ⟨_, _, h2⟩ := h.row
    rcases h2 with ⟨hv, _⟩ | ⟨g', cap, cur, hv, _, hb, _⟩
    · rw [hv] at hg; simp [Value.ownBlock] at hg
    · rw [hv] at hg
      obtain rfl : g' = g := by simpa [Value.ownBlock] using hg
      have := hb.symm.trans hr
      simp at this
  · rintro ⟨_, r, hr⟩
    have := h.mark.symm.trans hr
    simp at this
  · obtain ⟨t, ver, ht, h0, h1, h2⟩ := h.tab
    obtain ⟨root, hb, _⟩ := ht.ex
    exact ⟨t, ver, ht.keeps hk (loopAt_not hb) (fun b cs hb => loopAt_not hb), h0, h1, h2⟩
theorem WrN.tbl {w : World} {p tb : Nat} {v2 : Value} {stop : Int} {nv : Value} {xs : List (ByteArray × Int)} {q m i : Nat} {A B : World} (h : WrN w p tb v2 stop nv xs q m i A) (hk : Keeps (Only tb) A B) (hq : p < q) (hm : p < m)
    (ht : ∃ (t : Tr ByteArray Int) (ver : Int), STab B tb t ver ∧ 0 ≤ ver ∧ ver ≤ 200 + (i + 1 : Nat) ∧ t.size ≤ 200 + (i + 1 : Nat)) : WrN w p tb v2 stop nv xs q m (i + 1) (B.setCell ⟨q, 0, none⟩ (.int .i64 ((i : Int) + 1))) := by
  have e1 : ((i + 1 : Nat) : Int) = (i : Int) + 1 := by omega
  rw [← e1]
  have hlt := h.a.lt
  have a1 := h.a.keeps hk (fun k e => .inl e)
  have z1 := hk.obj h.zi (fun e => by have : q = tb := e; omega)
  have k2 : Keeps (Only q) B (B.setCell ⟨q, 0, none⟩ (.int .i64 (i + 1 : Nat))) := keeps_set _ _ _ _
  have r1 := h.row.keeps hk (fun g hg e => by have := h.row.own g hg; have h2 : g = tb := e; omega)
  refine ⟨a1.keeps k2 (fun k e => .inr (by have : k = q := e; omega)), blk_other (hk.obj h.z10 (fun e => by have : p + 1 = tb := e; omega)) 0 _ ?_, r1.keeps k2 (fun g hg e => ?_), blk_set z1 0 _, blk_other (hk.obj h.mark (fun e => by have : m = tb := e; omega)) 0 _ ?_, ?_⟩
  · rintro rfl
    have := (hk.obj h.z10 (fun e => by have : p + 1 = tb := e; omega)).symm.trans z1
    simp at this
  · have h2 : g = q := e
    subst h2
    obtain ⟨_, _, h2⟩ := r1
    rcases h2 with ⟨hv, _⟩ | ⟨g', cap, cur, hv, _, hb, _⟩
    · rw [hv] at hg; simp [Value.ownBlock] at hg
    · rw [hv] at hg
      obtain rfl : g' = g := by simpa [Value.ownBlock] using hg
      exact ne_of_type hb z1 (by decide) rfl
  · rintro rfl
    have := (hk.obj h.mark (fun e => by have : m = tb := e; omega)).symm.trans z1
    simp at this
  · obtain ⟨t, ver, ht, h0, h1, h2⟩ := ht
    exact ⟨t, ver, ht.keeps k2 (fun e => by have : tb = q := e; omega) (fun b cs hb e => ne_of_type hb z1 (by decide) e), h0, h1, h2⟩

theorem size_delT (t : Tr ByteArray Int) (k : ByteArray) : (delT t k).size ≤ t.size := by
  unfold delT
  split
  · exact size_drop (lt := slt) t k
  · exact Nat.le_refl _
theorem wr_round {w : World} {p tb : Nat} {v2 : Value} {stop : Int} {nv : Value} {xs : List (ByteArray × Int)} {q m i b0 : Nat} {A B : World} (h : WrN w p tb v2 stop nv xs q m i A) (hk : Keeps (Only tb) A B) (hq : p < q) (hm : p < m)
    (hb : q < b0) (hb2 : b0 + 2 ≤ A.heap.size)
    (ht : ∃ (t : Tr ByteArray Int) (ver : Int), STab B tb t ver ∧ 0 ≤ ver ∧ ver ≤ 200 + (i + 1 : Nat) ∧ t.size ≤ 200 + (i + 1 : Nat)) :
    (B.setCell ⟨q, 0, none⟩ (.int .i64 ((i : Int) + 1))).heap[b0]? = A.heap[b0]? ∧ (B.setCell ⟨q, 0, none⟩ (.int .i64 ((i : Int) + 1))).heap[b0 + 1]? = A.heap[b0 + 1]? ∧
      KeepW A (B.setCell ⟨q, 0, none⟩ (.int .i64 ((i : Int) + 1))) ∧ WrN w p tb v2 stop nv xs q m (i + 1) (B.setCell ⟨q, 0, none⟩ (.int .i64 ((i : Int) + 1))) := by
  have hlt := h.a.lt
  have z1 := hk.obj h.zi (fun e => by have : q = tb := e; omega)
  have k2 : Keeps (Only q) B (B.setCell ⟨q, 0, none⟩ (.int .i64 ((i : Int) + 1))) := keeps_set _ _ _ _
  have hs := hk.size
  refine ⟨(k2.block b0 (by omega) (fun e => by have : b0 = q := e; omega)).trans (hk.block b0 (by omega) (fun e => by have : b0 = tb := e; omega)),
    (k2.block (b0 + 1) (by omega) (fun e => by have : b0 + 1 = q := e; omega)).trans (hk.block (b0 + 1) (by omega) (fun e => by have : b0 + 1 = tb := e; omega)), ?_, h.tbl hk hq hm ht⟩
  obtain ⟨t, ver, ⟨root, hr, _⟩, _⟩ := h.tab
  exact (keepW_keeps hk (fun T hT b cs hb e => ne_of_type hb hr (by rintro rfl; simp at hT) e)).trans
    (keepW_keeps k2 (fun T hT b cs hb e => ne_of_type hb z1 (by rintro rfl; simp at hT) e))

set_option maxRecDepth 100000 in
set_option maxHeartbeats 4000000 in
theorem t_writes (w : World) (v1 v2 : Value) (l more : List TOp) (stop : Int) (h1 : OpsAt w v1 l) (h2 : OpsAt w v2 more) (hm1 : l.length ≤ maxLen) (hm2 : more.length ≤ maxLen)
    (hs1 : ∀ x ∈ l, x.key.size ≤ maxLen ∧ x.top.size ≤ maxLen) (hs2 : ∀ x ∈ more, x.key.size ≤ maxLen ∧ x.top.size ≤ maxLen) :
    Calls Try.prog 3 #[v1, v2, .int .i64 stop] w fun e w' => e = .returned (.bool true) ∧ Below w.heap.size w w' := by
  have HF1 : Hid (∀ W, Below w.heap.size w W → Calls Try.prog 8 #[v1] W (FewPost l.length W)) := Lib.hid fun W hW => l_few W v1 l (h1.below hW) hm1 hs1
  have HF2 : Hid (∀ W, Below w.heap.size w W → Calls Try.prog 8 #[v2] W (FewPost more.length W)) := Lib.hid fun W hW => l_few W v2 more (h2.below hW) hm2 hs2
  have H1 := Lib.hid h1
  have H2 := Lib.hid h2
  obtain ⟨a1, cap1, rfl, hr1⟩ := h1
  obtain ⟨a2, cap2, rfl, hr2⟩ := h2
  have HR2 := Lib.hid hr2
  clear hr1 hr2 hm1 hm2 hs1 hs2
  refine calls_of_wp_marks Try.func3 rfl ?_
  simp only [Try.ntmps3, List.size_toArray, List.length_cons, List.length_nil, Nat.reduceAdd, Nat.reduceSub, Array.replicate_succ, Array.replicate_zero, List.push_toArray, List.append_toArray, List.nil_append, List.cons_append]
  go_wp2_with fail
  refine (t_first _).mono ?_
  rintro e w1 ⟨rfl, hb1⟩
  have H0 := Lib.hid ((wr0_start w (.slice a2 more.length cap2) stop).ext hb1)
  clear hb1
  go_wp2_with fail
  refine (HF1.out _ H0.out.below).mono ?_
  rintro e w2 ⟨b1, rfl, hb1, hk⟩
  have H0 := Lib.hid (H0.out.ext hk)
  have HB1 := Lib.hid hb1
  clear hk hb1
  cases b1 with
  | false =>
    go_wp2_with fail
    refine (t_new _).mono ?_
    rintro e w3 ⟨tb, rfl, _, h1, h2, hk3⟩
    have h3 := H0.out.ext hk3
    have H3 := Lib.hid h3
    have h4 := h3.ext ((Below.refl _ _).alloc (Nat.le_refl _) (.cells #[.pointer (some ⟨tb, 0, none⟩)] 25))
    have f2 : (w3.alloc (.cells #[.pointer (some ⟨tb, 0, none⟩)] 25)).cell? ⟨w.heap.size + 1 + 1, 0, none⟩ = some (.bool false) := blk_cell h4.z2 0
    have g2 : (w3.alloc (.cells #[.pointer (some ⟨tb, 0, none⟩)] 25)).frozen? ⟨w.heap.size + 1 + 1, 0, none⟩ = false := blk_free h4.z2 0
    have H4 := Lib.hid h4
    clear hk3 h3 h1 h2 h4
    go_wp2_with fail
    exact wr_end [] _ (by simp) List.nodup_nil (H4.out.below.setCell (p := ⟨w.heap.size + 1 + 1, 0, none⟩) (by simp; omega) _) (blk_set H4.out.z2 0 _)
  | true =>
    have f0 : w2.cell? ⟨w.heap.size, 0, none⟩ = some (.slice a2 more.length cap2) := blk_cell H0.out.z0 0
    go_wp2_with fail
    refine (HF2.out _ H0.out.below).mono ?_
    rintro e w2' ⟨b2, rfl, hb2, hk⟩
    have H0 := Lib.hid (H0.out.ext hk)
    have HB2 := Lib.hid hb2
    clear hk hb2 f0
    cases b2 with
    | false =>
      go_wp2_with fail
      refine (t_new _).mono ?_
      rintro e w3 ⟨tb, rfl, _, h1, h2, hk3⟩
      have h3 := H0.out.ext hk3
      have H3 := Lib.hid h3
      have h4 := h3.ext ((Below.refl _ _).alloc (Nat.le_refl _) (.cells #[.pointer (some ⟨tb, 0, none⟩)] 25))
      have f2 : (w3.alloc (.cells #[.pointer (some ⟨tb, 0, none⟩)] 25)).cell? ⟨w.heap.size + 1 + 1, 0, none⟩ = some (.bool false) := blk_cell h4.z2 0
      have g2 : (w3.alloc (.cells #[.pointer (some ⟨tb, 0, none⟩)] 25)).frozen? ⟨w.heap.size + 1 + 1, 0, none⟩ = false := blk_free h4.z2 0
      have H4 := Lib.hid h4
      clear hk3 h3 h1 h2 h4
      go_wp2_with fail
      exact wr_end [] _ (by simp) List.nodup_nil (H4.out.below.setCell (p := ⟨w.heap.size + 1 + 1, 0, none⟩) (by simp; omega) _) (blk_set H4.out.z2 0 _)
    | true =>
      go_wp2_with fail
      refine (t_new _).mono ?_
      rintro e w3 ⟨tb, rfl, ht, hle, hlt, hk3⟩
      have H3 := Lib.hid (H0.out.ext hk3)
      have HT := Lib.hid ht
      have HLE : Hid (w.heap.size + 3 ≤ tb) := Lib.hid (by have := H0.out.size; omega)
      have HLT := Lib.hid hlt
      clear ht hle hlt hk3
      go_wp2_with fail
      have hk1 : Below w3.heap.size w3 ((w3.alloc (.cells #[.pointer (some ⟨tb, 0, none⟩)] 25)).alloc (.cells #[.slice none 0 0] 27)) := ((Below.refl _ _).alloc (Nat.le_refl _) _).alloc (by simp) _
      have q9 : IsBlk ((w3.alloc (.cells #[.pointer (some ⟨tb, 0, none⟩)] 25)).alloc (.cells #[.slice none 0 0] 27)) w3.heap.size #[.pointer (some ⟨tb, 0, none⟩)] 25 := blk_alloc (blk_new w3 _)
      have q10 := blk_new (w3.alloc (.cells #[.pointer (some ⟨tb, 0, none⟩)] 25)) (.cells #[.slice none 0 0] 27)
      rw [World.size_alloc] at q10
      have k5 := H3.out.ext hk1
      have HL0 : Hid (WrL w w3.heap.size tb (.slice a2 more.length cap2) stop 0 (.slice none 0 0) .leaf ((w3.alloc (.cells #[.pointer (some ⟨tb, 0, none⟩)] 25)).alloc (.cells #[.slice none 0 0] 27))) :=
        Lib.hid ⟨⟨k5.z0, k5.z1, k5.z2, q9, k5.below, HLE.out, HLT.out⟩, q10, HT.out.below hk1, RowOf.nil encP_len, by simp [Tr.ino, Rise], by simp [Tr.size]⟩
      clear hk1 q9 q10 k5
      generalize hW5 : ((w3.alloc (.cells #[.pointer (some ⟨tb, 0, none⟩)] 25)).alloc (.cells #[.slice none 0 0] 27)) = W5 at HL0 ⊢
      clear hW5
      have HL200 := Lib.hid (HB1.out (by simp))
      have HM200 := Lib.hid (HB2.out (by simp))
      have HP : Hid (∃ p, p = w3.heap.size) := Lib.hid ⟨_, rfl⟩
      clear HB1 HB2 HF1 HF2 H0 H3 HT HLE HLT HP
      generalize w3.heap.size = p at *
      go_loopw [11] (fun i wr => ∃ (j : Nat), j ≤ l.length ∧ i = .int .i64 j ∧ Hid (∃ nv t, WrL w p tb (.slice a2 more.length cap2) stop j nv t wr)) (fun i _ => l.length - (intOf i).toNat)
      case atStart => exact ⟨0, Nat.zero_le _, rfl, Lib.hid ⟨_, _, HL0.out⟩⟩
      case round =>
        obtain ⟨j, hj, rfl, HH⟩ := hrel
        obtain ⟨nv, t, hh⟩ := HH.out
        have HH := Lib.hid hh
        by_cases hlt : j < l.length
        · have hx : l[j]? = some l[j] := List.getElem?_eq_getElem hlt
          generalize l[j] = x at hx
          obtain ⟨_, _, ea, hr1⟩ := H1.out
          injection ea with ea _ e3
          subst ea
          subst e3
          obtain ⟨g, off, rfl, c0, c1, c2, c3⟩ := hr1 j x hx
          have c1' := (hh.a.below.cell (p := ⟨g, off + j * 4 + 1, none⟩) (World.block_lt_of_cell? w _ c1)).trans c1
          have c2' := (hh.a.below.cell (p := ⟨g, off + j * 4 + 2, none⟩) (World.block_lt_of_cell? w _ c2)).trans c2
          have f9 : wr.cell? ⟨p, 0, none⟩ = some (.pointer (some ⟨tb, 0, none⟩)) := blk_cell hh.a.z9 0
          have hjl : (j : Int) < (l.length : Int) := by omega
          have C1 := Lib.hid c1
          have C2 := Lib.hid c2
          have HL2 : Hid ((l.length : Int) ≤ 200) := Lib.hid (by have := HL200.out; omega)
          have hl2 : (l.length : Int) ≤ 200 := HL2.out
          clear c0 c1 c2 c3 hh hr1 hx
          go_wp2
          refine wp_region_still_tail 11 (by kernel_rfl) (by kernel_rfl) ?_
          simp only [List.take_succ_cons, List.take_zero, List.drop_succ_cons, List.drop_zero]
          repeat ((with_reducible refine wpStill_step ?_); intro K hK; go_simp; (with_reducible refine hK _ ?_); clear hK K)
          refine wpStill_nil ?_
          go_wp2_with (fail)
          refine (t_put _ tb t j x.key x.v (HH.out.tab.below (Below.refl _ _).drew) (by omega) (by have := HL2.out; omega) (by have := HH.out.size; have := HL2.out; omega)).mono ?_
          rintro e w4 ⟨rfl, ht4, hk4⟩
          have hk4 : Keeps (Only tb) wr w4 := (Keeps.refl (Only tb) wr).drew.trans' hk4
          have k4 := HH.out.a.keeps hk4 (fun k e => .inl e)
          have r4 := HH.out.row.keeps hk4 (fun g hg e => by have := HH.out.row.own g hg; have := HH.out.a.lt; have : g = tb := e; omega)
          have t10 : IsBlk w4 (p + 1) #[nv] 27 := hk4.obj HH.out.z10 (fun e => by have := HH.out.a.lt; have : p + 1 = tb := e; omega)
          have c1' := (k4.below.cell (p := ⟨g, off + j * 4 + 1, none⟩) (World.block_lt_of_cell? w _ C1.out)).trans C1.out
          have c2' := (k4.below.cell (p := ⟨g, off + j * 4 + 2, none⟩) (World.block_lt_of_cell? w _ C2.out)).trans C2.out
          have f10 : w4.cell? ⟨p + 1, 0, none⟩ = some nv := blk_cell t10 0
          have T4 := Lib.hid ht4
          have K4 := Lib.hid k4
          have R4 := Lib.hid r4
          have T10 := Lib.hid t10
          clear ht4 hk4 k4 r4 t10 f9
          go_wp2_with (fail)
          refine wp_region_still_tail 11 (by kernel_rfl) (by kernel_rfl) ?_
          simp only [List.take_succ_cons, List.take_zero, List.drop_succ_cons, List.drop_zero]
          repeat ((with_reducible refine wpStill_step ?_); intro K hK; go_simp; (with_reducible refine hK _ ?_); clear hK K)
          refine wpStill_nil ?_
          go_wp2_with (fail)
          refine (l_put _ (p + 2) nv t.ino x.key x.v (R4.out.below (Below.refl _ _).drew) (by rw [Tr.ino_length]; have := HH.out.size; have := HL2.out; omega)).mono ?_
          rintro e w5 ⟨nv', rfl, hrow5, hk5⟩
          have hk5 : Below w4.heap.size w4 w5 := (Below.refl _ _).drew.trans hk5
          rw [putTo_all _ _ _ HH.out.rise, ← ino_put slt_ord t HH.out.rise] at hrow5
          obtain ⟨an, cn, rfl, _⟩ := prow_read hrow5
          have k5 := K4.out.ext hk5
          have z10 : IsBlk w5 (p + 1) #[nv] 27 := (hk5.block _ (lt_of_block T10.out)).trans T10.out
          have f10 : w5.cell? ⟨p + 1, 0, none⟩ = some nv := blk_cell z10 0
          have g10 : w5.frozen? ⟨p + 1, 0, none⟩ = false := blk_free z10 0
          have t5 := T4.out.below hk5
          have hp2 : p + 2 ≤ w4.heap.size := lt_of_block T10.out
          have HN : Hid (WrL w p tb (.slice a2 more.length cap2) stop (j + 1) _ (t.put slt x.key x.v) (w5.setCell ⟨p + 1, 0, none⟩ (.slice an (t.put slt x.key x.v).ino.length cn))) := Lib.hid
            ⟨k5.keeps (keeps_set w5 (p + 1) 0 _) (fun k e => .inr (by have : k = p + 1 := e; omega)), blk_set z10 0 _,
              t5.keeps (keeps_set w5 (p + 1) 0 _) (fun e => by have := HH.out.a.lt; have : tb = p + 1 := e; omega) (fun b cs hb e => ne_of_type hb z10 (by decide) e),
              (hrow5.base_le (fun g hg => by have := hrow5.own g hg; exact Nat.le_trans hp2 this.1)).keeps (keeps_set w5 (p + 1) 0 _) (fun g hg e => by have := hrow5.own g hg; have h1 : w4.heap.size ≤ g := this.1; have h2 : g = p + 1 := e; omega),
              rise_put slt_ord HH.out.rise _ _, by have := size_put (lt := slt) t x.key x.v; have := HH.out.size; omega⟩
          clear hrow5 hk5 k5 z10 t5 hp2 c1' c2'
          go_wp2_with (fail)
          go_roundw
          case rel => exact ⟨j + 1, by omega, by go_num, Lib.hid ⟨_, _, HN.out⟩⟩
          case measure => simp [intOf]; omega
        · have hjl : ¬ ((j : Int) < (l.length : Int)) := by omega
          have f9 : wr.cell? ⟨p, 0, none⟩ = some (.pointer (some ⟨tb, 0, none⟩)) := blk_cell hh.a.z9 0
          clear hh
          go_wp2_with (fail)
          refine (q_tAll _ tb).mono ?_
          rintro e w6 ⟨rfl, rfl⟩
          go_wp2_with (fail)
          have hk1 : Below wr.heap.size wr ((wr.alloc (.cells #[.pointer (some ⟨tb, 0, none⟩)] 25)).alloc (.cells #[.int .i64 0] 3)) := ((Below.refl _ _).alloc (Nat.le_refl _) _).alloc (by simp) _
          have q9 : IsBlk ((wr.alloc (.cells #[.pointer (some ⟨tb, 0, none⟩)] 25)).alloc (.cells #[.int .i64 0] 3)) wr.heap.size #[.pointer (some ⟨tb, 0, none⟩)] 25 := blk_alloc (blk_new wr _)
          have q10 := blk_new (wr.alloc (.cells #[.pointer (some ⟨tb, 0, none⟩)] 25)) (.cells #[.int .i64 0] 3)
          rw [World.size_alloc] at q10
          have hM0 : WrM wr tb 0 ((wr.alloc (.cells #[.pointer (some ⟨tb, 0, none⟩)] 25)).alloc (.cells #[.int .i64 0] 3)) := ⟨hk1, q9, q10⟩
          have hS6 : ((wr.alloc (.cells #[.pointer (some ⟨tb, 0, none⟩)] 25)).alloc (.cells #[.int .i64 0] 3)).heap.size = wr.heap.size + 2 := by simp
          generalize ((wr.alloc (.cells #[.pointer (some ⟨tb, 0, none⟩)] 25)).alloc (.cells #[.int .i64 0] 3)) = W6 at hM0 hS6 ⊢
          have HIT := Lib.hid (iter_tall hM0.zb (HH.out.tab.below hM0.below))
          have HM := Lib.hid hM0
          have HS6 := Lib.hid hS6
          have hwr : p + 2 ≤ wr.heap.size := lt_of_block HH.out.z10
          have HWR := Lib.hid hwr
          have HJ200 : Hid (t.ino.length ≤ 200) := Lib.hid (by rw [Tr.ino_length]; have := HH.out.size; have := HL200.out; omega)
          clear hk1 q9 q10 hM0 hS6 f9 hwr
          refine wp_forBrk rfl eg37 HIT.out (fun _ => rfl) KeepW.trans (fun W r o h => keepW_put o h)
            (fun pre W => WrM wr tb pre.length W) (fun W => ∃ n, WrM wr tb n W) 2
            (fun s A B h hk => h.keeps hk.loop (by rw [HS6.out]; omega)) (fun A B h hk => by obtain ⟨n, h⟩ := h; exact ⟨n, h.keeps hk.loop (by rw [HS6.out]; omega)⟩) (fun B h => ⟨_, h⟩) HM.out ?a1 (fun _ _ h => h) ?assign ?body ?done
          case assign =>
            intro x W K hK
            gi_wp2
            exact hK
          case body =>
            intro pre x A hA hp hsz
            have hlt : pre.length < t.ino.length := (List.getElem?_eq_some_iff.1 (pre_get hp)).1
            have fn : A.cell? ⟨wr.heap.size + 1, 0, none⟩ = some (.int .i64 (pre.length : Int)) := blk_cell hA.zn 0
            have gn : A.frozen? ⟨wr.heap.size + 1, 0, none⟩ = false := blk_free hA.zn 0
            have fs : A.cell? ⟨w.heap.size + 1, 0, none⟩ = some (.int .i64 stop) := (hA.below.cell (p := ⟨w.heap.size + 1, 0, none⟩) (lt_of_block HH.out.a.z1)).trans (blk_cell HH.out.a.z1 0)
            have hne : w.heap.size + 1 ≠ wr.heap.size + 1 := by have := HH.out.a.lt; have := HH.out.a.ge; have := HWR.out; omega
            have hlt2 : (pre.length : Int) < 200 := by have := HJ200.out; omega
            have HA := Lib.hid hA
            have HLEN : Hid ((pre ++ [x]).length = pre.length + 1) := Lib.hid (by simp)
            clear hA hp hsz hlt
            by_cases hst : (pre.length : Int) + 1 = stop
            · gi_wp2_with (fail)
              refine ⟨?_, ?_, ?_, rfl, _, HA.out.set _⟩
              · exact Below.heap_setCell _ _ _ _ (by rw [HS6.out]; simp)
              · exact Below.heap_setCell _ _ _ _ (by rw [HS6.out]; simp)
              · exact keepW_keeps (keeps_set _ _ _ _) (by intro T hT b cs hb e; exact ne_of_type hb (e ▸ HA.out.zn) (by rintro rfl; simp at hT) rfl)
            · gi_wp2_with (fail)
              refine ⟨?_, ?_, ?_, ?_⟩
              · exact Below.heap_setCell _ _ _ _ (by rw [HS6.out]; simp)
              · exact Below.heap_setCell _ _ _ _ (by rw [HS6.out]; simp)
              · exact keepW_keeps (keeps_set _ _ _ _) (by intro T hT b cs hb e; exact ne_of_type hb (e ▸ HA.out.zn) (by rintro rfl; simp at hT) rfl)
              · show WrM _ _ _ _
                rw [HLEN.out]
                exact HA.out.set _
          case done =>
            rintro A ⟨n, hA⟩ hD
            obtain ⟨an, cn, rfl, _⟩ := prow_read HH.out.row
            have hL := HH.out.keeps (Keeps.of_below hA.below) (fun _ e => e.elim)
            have HA := Lib.hid hA
            have HD := Lib.hid hD
            have HL := Lib.hid hL
            clear hA hD hL
            go_simp
            go_wp2_with (fail)
            have hq0 := blk_new A (.cells #[.int .i64 0] 3)
            have hk1 : Below A.heap.size A (A.alloc (.cells #[.int .i64 0] 3)) := (Below.refl _ _).alloc (Nat.le_refl _) _
            have hs1 : (A.alloc (.cells #[.int .i64 0] 3)).heap.size = A.heap.size + 1 := by simp
            generalize A.alloc (.cells #[.int .i64 0] 3) = W7 at hq0 hk1 hs1 ⊢
            have hpA : wr.heap.size ≤ A.heap.size := HA.out.below.size
            have hN0 : WrN w p tb (.slice a2 more.length cap2) stop (.slice an t.ino.length cn) t.ino A.heap.size W6.heap.size 0 W7 :=
              ⟨HL.out.a.ext hk1, (hk1.block _ (lt_of_block HL.out.z10)).trans HL.out.z10, HL.out.row.below hk1, hq0, (hk1.block _ (lt_of_block HD.out)).trans HD.out,
                t, j, HL.out.tab.below hk1, by omega, by have := HL200.out; omega, by have := HL.out.size; have := HL200.out; omega⟩
            have HN0 := Lib.hid hN0
            have HIT7 := Lib.hid (iter_tall ((hk1.block _ (lt_of_block HA.out.zb)).trans HA.out.zb) (HL.out.tab.below hk1))
            have HS7 : Hid (p + 2 ≤ A.heap.size ∧ W7.heap.size = A.heap.size + 1 ∧ p < W6.heap.size) := Lib.hid ⟨by have := HWR.out; omega, hs1, by have := HWR.out; have := HS6.out; omega⟩
            clear hq0 hk1 hs1 hpA hN0
            refine wp_forSeq rfl eg37 HIT7.out (fun _ => rfl) KeepW.trans (fun W r o h => keepW_put o h)
              (fun pre W => WrN w p tb (.slice a2 more.length cap2) stop (.slice an t.ino.length cn) t.ino A.heap.size W6.heap.size pre.length W) (fun _ _ _ => False)
              (fun s A B h hk => h.loop hk (by have := HS7.out; omega)) (fun _ _ _ _ h _ => h.elim) HN0.out ?a2 ?assign2 ?body2 ?done2 ?stop2
            case assign2 =>
              intro x W K hK
              gi_wp2
              exact hK
            case stop2 => intro c q B _ h; exact h.elim
            case body2 =>
              intro pre x B hB hp hsz
              have hx := pre_get hp
              obtain ⟨_, _, e, hr⟩ := prow_read hB.row
              injection e with e _ e3
              subst e3
              obtain ⟨g, ea, d0, d1⟩ := hr _ _ hx
              subst e
              subst ea
              have hlt : pre.length < t.ino.length := (List.getElem?_eq_some_iff.1 hx).1
              have hlt' : (pre.length : Int) < (t.ino.length : Int) := by omega
              have h200 : (t.ino.length : Int) ≤ 200 := by have := HJ200.out; omega
              have f10 : B.cell? ⟨p + 1, 0, none⟩ = some (.slice (some ⟨g, 0, none⟩) t.ino.length cn) := blk_cell hB.z10 0
              have f14 : B.cell? ⟨A.heap.size, 0, none⟩ = some (.int .i64 (pre.length : Int)) := blk_cell hB.zi 0
              have f4 : B.cell? ⟨w.heap.size, 0, none⟩ = some (.slice a2 more.length cap2) := blk_cell hB.a.z0 0
              have f9 : B.cell? ⟨p, 0, none⟩ = some (.pointer (some ⟨tb, 0, none⟩)) := blk_cell hB.a.z9 0
              have g14 : B.frozen? ⟨A.heap.size, 0, none⟩ = false := blk_free hB.zi 0
              have HB := Lib.hid hB
              have HLEN : Hid ((pre ++ [x]).length = pre.length + 1) := Lib.hid (by simp)
              have HSZ : Hid (W7.heap.size + 2 ≤ B.heap.size) := Lib.hid hsz
              have HLT : Hid (pre.length < 200) := Lib.hid (by have := HJ200.out; omega)
              clear hB hp hx hr hsz
              by_cases hmo : pre.length < more.length
              · have hy : more[pre.length]? = some more[pre.length] := List.getElem?_eq_getElem hmo
                generalize more[pre.length] = y at hy
                obtain ⟨g2, off2, rfl, c0, c1, c2, c3⟩ := HR2.out _ _ hy
                have c0 := (HB.out.a.below.cell (p := ⟨g2, off2 + pre.length * 4, none⟩) (World.block_lt_of_cell? w _ c0)).trans c0
                have c1 := (HB.out.a.below.cell (p := ⟨g2, off2 + pre.length * 4 + 1, none⟩) (World.block_lt_of_cell? w _ c1)).trans c1
                have c2 := (HB.out.a.below.cell (p := ⟨g2, off2 + pre.length * 4 + 2, none⟩) (World.block_lt_of_cell? w _ c2)).trans c2
                have hmo' : (pre.length : Int) < (more.length : Int) := by omega
                have hmo2 : (more.length : Int) ≤ 200 := by have := HM200.out; omega
                clear c3 hy
                by_cases hk : y.kind = 1
                · gi_wp2_with (fail)
                  refine wpIn_region_still_tail (open_round _ _) 6 (by kernel_rfl) (by kernel_rfl) ?_
                  simp only [List.take_succ_cons, List.take_zero, List.drop_succ_cons, List.drop_zero]
                  repeat ((with_reducible refine wpStill_step ?_); intro K hK; go_simp; (with_reducible refine hK _ ?_); clear hK K)
                  refine wpStill_nil ?_
                  gi_wp2_with (fail)
                  obtain ⟨t', ver', ht', hv0, hv1, hv2⟩ := HB.out.tab
                  have HT' := Lib.hid ht'
                  have HV : Hid (0 ≤ ver' ∧ ver' ≤ 200 + pre.length ∧ t'.size ≤ 200 + pre.length) := Lib.hid ⟨hv0, hv1, hv2⟩
                  clear ht' hv0 hv1 hv2 hk
                  refine ⟨trivial, rfl, (CallsIn.inRound _ (callsIn_wide.2 (t_delete _ tb t' ver' y.key (HT'.out.below (Below.refl _ _).drew) HV.out.1 (by have := HV.out; have := HLT.out; omega) (by have := HV.out; have := HLT.out; omega)))).mono ?_⟩
                  rintro e B2 ⟨rfl, ht2, hk2⟩
                  have hk3 : Keeps (Only tb) B B2 := (Keeps.refl (Only tb) B).drew.trans' hk2
                  have z1 := hk3.obj HB.out.zi (fun e => by have : A.heap.size = tb := e; have := HS7.out; have := HB.out.a.lt; omega)
                  have f14 : B2.cell? ⟨A.heap.size, 0, none⟩ = some (.int .i64 (pre.length : Int)) := blk_cell z1 0
                  have g14 : B2.frozen? ⟨A.heap.size, 0, none⟩ = false := blk_free z1 0
                  have HT2 := Lib.hid ht2
                  have HK3 := Lib.hid hk3
                  clear ht2 hk2 hk3 z1 f10 f4 f9 c0 c1 c2 d0 d1
                  gi_wp2_with (fail)
                  have hr := wr_round HB.out HK3.out (b0 := W7.heap.size) (by have := HS7.out; omega) HS7.out.2.2 (by have := HS7.out; omega) HSZ.out ⟨_, _, HT2.out, by have := HV.out; omega, by have := HV.out; omega, by have := size_delT t' y.key; have := HV.out; omega⟩
                  refine ⟨hr.1, hr.2.1, hr.2.2.1, ?_⟩
                  show WrN _ _ _ _ _ _ _ _ _ _ _
                  rw [HLEN.out]
                  exact hr.2.2.2
                · gi_wp2_with (fail)
                  refine wpIn_region_still_tail (open_round _ _) 11 (by kernel_rfl) (by kernel_rfl) ?_
                  simp only [List.take_succ_cons, List.take_zero, List.drop_succ_cons, List.drop_zero]
                  repeat ((with_reducible refine wpStill_step ?_); intro K hK; go_simp; (with_reducible refine hK _ ?_); clear hK K)
                  refine wpStill_nil ?_
                  gi_wp2_with (fail)
                  obtain ⟨t', ver', ht', hv0, hv1, hv2⟩ := HB.out.tab
                  have HT' := Lib.hid ht'
                  have HV : Hid (0 ≤ ver' ∧ ver' ≤ 200 + pre.length ∧ t'.size ≤ 200 + pre.length) := Lib.hid ⟨hv0, hv1, hv2⟩
                  clear ht' hv0 hv1 hv2 hk
                  refine ⟨trivial, rfl, (CallsIn.inRound _ (callsIn_wide.2 (t_put _ tb t' ver' y.key y.v (HT'.out.below (Below.refl _ _).drew) HV.out.1 (by have := HV.out; have := HLT.out; omega) (by have := HV.out; have := HLT.out; omega)))).mono ?_⟩
                  rintro e B2 ⟨rfl, ht2, hk2⟩
                  have hk3 : Keeps (Only tb) B B2 := (Keeps.refl (Only tb) B).drew.trans' hk2
                  have z1 := hk3.obj HB.out.zi (fun e => by have : A.heap.size = tb := e; have := HS7.out; have := HB.out.a.lt; omega)
                  have f14 : B2.cell? ⟨A.heap.size, 0, none⟩ = some (.int .i64 (pre.length : Int)) := blk_cell z1 0
                  have g14 : B2.frozen? ⟨A.heap.size, 0, none⟩ = false := blk_free z1 0
                  have HT2 := Lib.hid ht2
                  have HK3 := Lib.hid hk3
                  clear ht2 hk2 hk3 z1 f10 f4 f9 c0 c1 c2 d0 d1
                  gi_wp2_with (fail)
                  have hr := wr_round HB.out HK3.out (b0 := W7.heap.size) (by have := HS7.out; omega) HS7.out.2.2 (by have := HS7.out; omega) HSZ.out ⟨_, _, HT2.out, by have := HV.out; omega, by have := HV.out; omega, by have := size_put (lt := slt) t' y.key y.v; have := HV.out; omega⟩
                  refine ⟨hr.1, hr.2.1, hr.2.2.1, ?_⟩
                  show WrN _ _ _ _ _ _ _ _ _ _ _
                  rw [HLEN.out]
                  exact hr.2.2.2
              · have hmo' : ¬ ((pre.length : Int) < (more.length : Int)) := by omega
                gi_wp2_with (fail)
                obtain ⟨t', ver', ht', hv0, hv1, hv2⟩ := HB.out.tab
                have hr := wr_round HB.out (Keeps.refl _ B) (b0 := W7.heap.size) (by have := HS7.out; omega) HS7.out.2.2 (by have := HS7.out; omega) HSZ.out ⟨_, _, ht', hv0, by omega, by omega⟩
                refine ⟨hr.1, hr.2.1, hr.2.2.1, ?_⟩
                show WrN _ _ _ _ _ _ _ _ _ _ _
                rw [HLEN.out]
                exact hr.2.2.2
            case done2 =>
              intro B hB hD2
              have f10 : B.cell? ⟨p + 1, 0, none⟩ = some (.slice an t.ino.length cn) := blk_cell hB.z10 0
              have f14 : B.cell? ⟨A.heap.size, 0, none⟩ = some (.int .i64 (t.ino.length : Int)) := blk_cell hB.zi 0
              have f6 : B.cell? ⟨w.heap.size + 1 + 1, 0, none⟩ = some (.bool false) := blk_cell hB.a.z2 0
              have g6 : B.frozen? ⟨w.heap.size + 1 + 1, 0, none⟩ = false := blk_free hB.a.z2 0
              have HB := Lib.hid hB
              have HD2 := Lib.hid hD2
              clear hB hD2
              go_simp
              go_wp2_with (fail)
              exact wr_end [W7.heap.size, W6.heap.size] _ (by
                  have := HB.out.a.lt
                  have := HB.out.a.ge
                  have := HS7.out
                  intro b hb
                  simp only [List.mem_cons, List.not_mem_nil, or_false] at hb
                  rcases hb with rfl | rfl
                  · exact ⟨blk_other HD2.out 0 _ (by omega), by omega⟩
                  · exact ⟨blk_other HB.out.mark 0 _ (by omega), by omega⟩)
                (by have := HS7.out; have := HS6.out; have := HA.out.below.size; have := lt_of_block HA.out.zn; simp; have := lt_of_block HD.out; omega) (HB.out.a.below.setCell (p := ⟨w.heap.size + 1 + 1, 0, none⟩) (by simp; omega) _) (blk_set HB.out.a.z2 0 _)
end Go.Proofs.Ytndaacojbbmcnaa
