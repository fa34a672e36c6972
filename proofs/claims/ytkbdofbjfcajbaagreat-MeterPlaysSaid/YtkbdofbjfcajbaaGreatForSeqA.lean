/- A range over a function, as a statement of the plain walk, where a round lays variables of its own. -/
import Derived.Test.YtkbdofbjfcajbaaGreatForSeq
namespace Go.Proofs.YtkbdofbjfcajbaaGreat
open Go.RowKit

/-- As wp_forSeq; a round's own variables are laid (in blocks of their own) before the body. -/
theorem wp_forSeqA {α : Type} {P : Program} {g : Operand} {ps : Array Tmp} {assign body : Code} {Q : Exit → Act → World → Prop} {a : Act} {w : World}
    {gf : Nat} {lb : Array Value} (hg : a.eval g = .func (.func gf) #[] lb) (eg : ∀ args w, (callFunc gf args).run P w = .ok (.enter gf args) w)
    {encs : α → Array Value} {Kp : World → World → Prop} {xs : List α} (hseq : IterC P gf lb encs Kp xs w) (hps : ∀ x, (encs x).size = ps.size)
    (hKt : ∀ {A B C : World}, Kp A B → Kp B C → Kp A C) (hKb : ∀ (W : World) (r : Loop) (o : Obj), W.heap[w.heap.size + 1]? = some (.loop r) → Kp W (W.putObj (w.heap.size + 1) o))
    (I : List α → World → Prop) (Ix : Code → List α → World → Prop)
    (hI : ∀ s A B, I s A → Keeps (LoopAt (w.heap.size + 1) A) A B → I s B) (hIx : ∀ c s A B, Ix c s A → Keeps (LoopAt (w.heap.size + 1) A) A B → Ix c s B)
    (h0 : I [] w) (hKg : ∀ {A B : World}, Below A.heap.size A B → Kp A B) (a₁ : α → World → Act) (wx : α → World → World) (hwx : ∀ x W, Below W.heap.size W (wx x W))
    (hassign : ∀ (x : α) (W : World) (K : Act → World → Prop), K (a₁ x W) (wx x W) →
      assign.wpIn (Fence.wide.inRound (w.heap.size + 1)) 0 P (Exit.then K (fun _ _ _ => False)) { tmps := (ps.zip (encs x)).foldl (fun t (p, v) => t.setIfInBounds p v) a.tmps, defers := [] } W)
    (hbody : ∀ (pre : List α) (x : α) (A0 A : World), I pre A → pre ++ [x] <+: xs → w.heap.size + 2 ≤ A0.heap.size → Keeps (LoopAt (w.heap.size + 1) (wx x A0)) (wx x A0) A →
      body.wpIn (Fence.wide.inRound (w.heap.size + 1)) 0 P (ForPost w.heap.size Kp I Ix (pre ++ [x]) A) (a₁ x A0) A)
    (hdone : ∀ (B : World), I xs B → B.heap[w.heap.size]? = some (.deferred (some [])) → Q .normal { a with defers := { target := .collected w.heap.size, args := #[] } :: a.defers } B)
    (hstop : ∀ (c : Code) (q : List α) (B : World), q <+: xs → Ix c q B → B.heap[w.heap.size]? = some (.deferred (some [])) → c.wp P Q { a with defers := { target := .collected w.heap.size, args := #[] } :: a.defers } B) :
    (Code.rangeFunc g ps assign body).wp P Q a w := by
  refine (wpIn_wide (n := 1)).1 (wpIn_rangeFunc (fun fn _ => ?_))
  obtain ⟨rec, hrec⟩ : ∃ rec : LoopState → Option Code → Loop, rec = fun st pe => { state := st, pending := pe, fn, tmps := a.tmps, params := ps, assign, body, defers := w.heap.size } := ⟨_, rfl⟩
  obtain ⟨W1, hW1⟩ : ∃ W1, (w.alloc (.deferred (some []))).alloc (.loop (rec .ready none)) = W1 := ⟨_, rfl⟩
  have hB1 : Below w.heap.size w W1 := by rw [← hW1]; exact ((Below.refl _ w).alloc (Nat.le_refl _) _).alloc (by simp) _
  have hL1 : W1.heap[w.heap.size + 1]? = some (.loop (rec .ready none)) := by
    rw [← hW1]; have := World.alloc_heap_new (w.alloc (.deferred (some []))) (.loop (rec .ready none)); rwa [World.size_alloc] at this
  have hD1 : W1.heap[w.heap.size]? = some (.deferred (some [])) := by
    rw [← hW1]; exact (Below.heap_alloc _ _ _ (by simp)).trans (World.alloc_heap_new w _)
  have hI1 : I [] W1 := hI _ _ _ h0 ((Keeps.of_below hB1).mono (fun _ _ h => h.elim))
  refine ⟨w.heap.size + 1, [{ target := .collected w.heap.size, args := #[] }], W1, { target := .fn (.func gf) lb, args := #[.func (.yield (w.heap.size + 1)) #[] #[]] }, W1, gf,
    #[.func (.yield (w.heap.size + 1)) #[] #[]] ++ lb, W1, ?_, ?_, ?_, ?_, ?_, ?_⟩
  · rw [← hW1, hrec]; exact run_enterLoop_outer _ _ _ _ _
  · simp only [resolve, hg]
    simp [go_sem]
  · intro f' _; trivial
  · simp [invoke, go_sem, eg]
  · intro h; simp [Fence.wide] at h
  · refine callsIn_wide.2 ((hseq (w.heap.size + 1)
      (fun pre W => I pre W ∧ W.heap[w.heap.size + 1]? = some (.loop (rec .ready none)) ∧ W.heap[w.heap.size]? = some (.deferred (some [])))
      (fun pre W => ∃ c, Ix c pre W ∧ W.heap[w.heap.size + 1]? = some (.loop (rec .done (some c))) ∧ W.heap[w.heap.size]? = some (.deferred (some [])))
      W1 hB1 ?grow ?round ⟨hI1, hL1, hD1⟩).mono ?post)
    case grow =>
      rintro ys A B ⟨hi, hl, hd⟩ hb
      exact ⟨hI _ _ _ hi ((Keeps.of_below hb).mono (fun _ _ h => h.elim)), (hb.block _ (lt_of_block hl)).trans hl, (hb.block _ (lt_of_block hd)).trans hd⟩
    case round =>
      rintro pre x A0 ⟨hi0, hl0, hd0⟩ hpre
      have hy := run_yield (P := P) (args := encs x) hl0 (by rw [hrec]; exact hps x)
      rw [hrec] at hy
      have hbA := hwx x A0
      obtain ⟨A, hA⟩ : ∃ A, A = wx x A0 := ⟨_, rfl⟩
      rw [← hA] at hbA
      have hi : I pre A := hI _ _ _ hi0 ((Keeps.of_below hbA).mono (fun _ _ h => h.elim))
      have hl := (hbA.block _ (lt_of_block hl0)).trans hl0
      have hd := (hbA.block _ (lt_of_block hd0)).trans hd0
      have hlt := lt_of_block hl
      refine ⟨fn, _, assign, body, hy, roundIn_of_wpIn trivial (hassign x A0 _ ?_)⟩
      rw [← hA]
      refine ⟨_, run_beginRound hl (by rw [hrec]), ?_⟩
      have hk2 := keeps_loop (.loop { rec .ready none with state := .busy }) hl
      have hl2 : (A.putObj (w.heap.size + 1) (.loop { rec .ready none with state := .busy })).heap[w.heap.size + 1]? = some (.loop { rec .ready none with state := .busy }) := World.putObj_heap_same hlt
      have hd2 : (A.putObj (w.heap.size + 1) (.loop { rec .ready none with state := .busy })).heap[w.heap.size]? = some (.deferred (some [])) := (World.putObj_heap_other (by omega)).trans hd
      have hp2 : Kp A0 (A.putObj (w.heap.size + 1) (.loop { rec .ready none with state := .busy })) := hKt (hKg hbA) (hKb _ _ _ hl)
      refine wpIn_mono (hbody pre x A0 _ (hI _ _ _ hi hk2) hpre (by have := lt_of_block hl0; omega) (by rw [← hA]; exact hk2)) ?_
      have fin : ∀ (jump : Option Code) (B : World), B.heap[w.heap.size]? = (A.putObj (w.heap.size + 1) (.loop { rec .ready none with state := .busy })).heap[w.heap.size]? →
          B.heap[w.heap.size + 1]? = (A.putObj (w.heap.size + 1) (.loop { rec .ready none with state := .busy })).heap[w.heap.size + 1]? →
          Kp (A.putObj (w.heap.size + 1) (.loop { rec .ready none with state := .busy })) B →
          (Instr.endRound (w.heap.size + 1) jump).run P B = .ok (.bool jump.isNone) (B.putObj (w.heap.size + 1) (.loop (rec (if jump.isNone then .ready else .done) jump))) ∧
          (B.putObj (w.heap.size + 1) (.loop (rec (if jump.isNone then .ready else .done) jump))).heap[w.heap.size + 1]? = some (.loop (rec (if jump.isNone then .ready else .done) jump)) ∧
          (B.putObj (w.heap.size + 1) (.loop (rec (if jump.isNone then .ready else .done) jump))).heap[w.heap.size]? = some (.deferred (some [])) ∧
          Kp A0 (B.putObj (w.heap.size + 1) (.loop (rec (if jump.isNone then .ready else .done) jump))) := by
        intro jump B hd3 hl3 hp3
        rw [hl2] at hl3
        rw [hd2] at hd3
        have hr := run_endRound (P := P) jump hl3
        refine ⟨by rw [hrec] at hr ⊢; exact hr, World.putObj_heap_same (lt_of_block hl3), (World.putObj_heap_other (by omega)).trans hd3, hKt (hKt hp2 hp3) (hKb _ _ _ hl3)⟩
      rintro e a3 B hp
      cases e with
      | normal =>
        obtain ⟨hd3, hl3, hp3, hi3⟩ := hp
        obtain ⟨hr, hl4, hd4, hp4⟩ := fin none B hd3 hl3 hp3
        exact ⟨_, _, hr, .inl ⟨rfl, ⟨hI _ _ _ hi3 (keeps_loop _ (hl3.trans hl2)), hl4, hd4⟩, hp4⟩⟩
      | ret =>
        obtain ⟨hd3, hl3, hp3, hi3⟩ := hp
        obtain ⟨hr, hl4, hd4, hp4⟩ := fin (some .ret) B hd3 hl3 hp3
        exact ⟨_, _, hr, .inr ⟨rfl, ⟨.ret, hIx _ _ _ _ hi3 (keeps_loop _ (hl3.trans hl2)), hl4, hd4⟩, hp4⟩⟩
      | exit id =>
        obtain ⟨hd3, hl3, hp3, hi3⟩ := hp
        obtain ⟨hr, hl4, hd4, hp4⟩ := fin (some (.exit id)) B hd3 hl3 hp3
        exact ⟨_, _, hr, .inr ⟨rfl, ⟨.exit id, hIx _ _ _ _ hi3 (keeps_loop _ (hl3.trans hl2)), hl4, hd4⟩, hp4⟩⟩
      | goto t =>
        obtain ⟨hd3, hl3, hp3, hi3⟩ := hp
        obtain ⟨hr, hl4, hd4, hp4⟩ := fin (some (.goto t)) B hd3 hl3 hp3
        exact ⟨_, _, hr, .inr ⟨rfl, ⟨.goto t, hIx _ _ _ _ hi3 (keeps_loop _ (hl3.trans hl2)), hl4, hd4⟩, hp4⟩⟩
      | panic ch => exact hp.elim
      | outgrown => exact hp.elim
    case post =>
      rintro e B ⟨⟨v, rfl⟩, (⟨hi, hl, hd⟩ | ⟨q, hq, c, hi, hl, hd⟩)⟩
      · exact ⟨none, _, (by have := run_endLoop (P := P) hl (by rw [hrec]; simp); rw [hrec] at this; exact this),
          hdone _ (hI _ _ _ hi (keeps_loop _ hl)) ((World.putObj_heap_other (by omega)).trans hd)⟩
      · exact ⟨some c, _, (by have := run_endLoop (P := P) hl (by rw [hrec]; simp); rw [hrec] at this; exact this),
          wpIn_wide.2 (hstop c q _ hq (hIx _ _ _ _ hi (keeps_loop _ hl)) ((World.putObj_heap_other (by omega)).trans hd))⟩

end Go.Proofs.YtkbdofbjfcajbaaGreat
