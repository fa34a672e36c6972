/- A range over a function, as a statement of the plain walk: the iterator by its contract, the body walked once. -/
import Derived.Test.YthjcolehccbihaaGreatDoorStillIn
namespace Go.Proofs.YthjcolehccbihaaGreatDoor
open Go.RowKit

/-- An iterator that hands out xs, in order: each round goes on, or says 'no more'; a round keeps what the iterator reads again. -/
def IterC {α : Type} (P : Program) (g : FuncId) (lb : Array Value) (encs : α → Array Value) (Kp : World → World → Prop) (xs : List α) (w : World) : Prop :=
  ∀ (l : Nat) (J Jx : List α → World → Prop) (W : World), Below w.heap.size w W →
    (∀ ys A B, J ys A → Below A.heap.size A B → J ys B) →
    (∀ pre x A, J pre A → pre ++ [x] <+: xs → YieldAt Fence.wide 0 P l (encs x) A fun e B =>
      (e = .returned (.bool true) ∧ J (pre ++ [x]) B ∧ Kp A B) ∨ (e = .returned (.bool false) ∧ Jx (pre ++ [x]) B ∧ Kp A B)) →
    J [] W → Calls P g (#[.func (.yield l) #[] #[]] ++ lb) W fun e B => (∃ v, e = .returned v) ∧ (J xs B ∨ ∃ q, q <+: xs ∧ Jx q B)

/-- How a round's body may be left. -/
def ForPost {α : Type} (b0 : Nat) (Kp : World → World → Prop) (I : List α → World → Prop) (Ix : Code → List α → World → Prop) (ys : List α) (A : World) : Exit → Act → World → Prop
  | .normal, _, B => B.heap[b0]? = A.heap[b0]? ∧ B.heap[b0 + 1]? = A.heap[b0 + 1]? ∧ Kp A B ∧ I ys B
  | .ret, _, B => B.heap[b0]? = A.heap[b0]? ∧ B.heap[b0 + 1]? = A.heap[b0 + 1]? ∧ Kp A B ∧ Ix .ret ys B
  | .exit id, _, B => B.heap[b0]? = A.heap[b0]? ∧ B.heap[b0 + 1]? = A.heap[b0 + 1]? ∧ Kp A B ∧ Ix (.exit id) ys B
  | .goto t, _, B => B.heap[b0]? = A.heap[b0]? ∧ B.heap[b0 + 1]? = A.heap[b0 + 1]? ∧ Kp A B ∧ Ix (.goto t) ys B
  | .panic _, _, _ => False
  | .outgrown, _, _ => False

theorem keeps_putObj (w : World) (l : Nat) (o : Obj) : Keeps (fun k => k = l) w (w.putObj l o) :=
  ⟨rfl, rfl, rfl, by simp, fun k _ hn => World.putObj_heap_other hn⟩

/-- The loop's own block. -/
def LoopAt (l : Nat) (A : World) (k : Nat) : Prop := k = l ∧ ∃ r, A.heap[k]? = some (.loop r)
theorem loopAt_not {A : World} {l b : Nat} {cs : Array Value} {T : TypeId} (h : IsBlk A b cs T) : ¬ LoopAt l A b := by
  rintro ⟨_, r, hr⟩
  have := h.symm.trans hr
  simp at this
theorem keeps_loop {A : World} {l : Nat} {r : Loop} (o : Obj) (h : A.heap[l]? = some (.loop r)) : Keeps (LoopAt l A) A (A.putObj l o) :=
  (keeps_putObj A l o).mono (fun k _ e => ⟨e, by rw [e]; exact ⟨r, h⟩⟩)
theorem Keeps.loop {A B : World} {l : Nat} (h : Keeps (LoopAt l A) A B) : Keeps (fun k => k = l) A B := h.mono (fun _ _ e => e.1)

theorem wp_forSeq {α : Type} {P : Program} {g : Operand} {ps : Array Tmp} {assign body : Code} {Q : Exit → Act → World → Prop} {a : Act} {w : World}
    {gf : Nat} {lb : Array Value} (hg : a.eval g = .func (.func gf) #[] lb) (eg : ∀ args w, (callFunc gf args).run P w = .ok (.enter gf args) w)
    {encs : α → Array Value} {Kp : World → World → Prop} {xs : List α} (hseq : IterC P gf lb encs Kp xs w) (hps : ∀ x, (encs x).size = ps.size)
    (hKt : ∀ {A B C : World}, Kp A B → Kp B C → Kp A C) (hKb : ∀ (W : World) (r : Loop) (o : Obj), W.heap[w.heap.size + 1]? = some (.loop r) → Kp W (W.putObj (w.heap.size + 1) o))
    (I : List α → World → Prop) (Ix : Code → List α → World → Prop)
    (hI : ∀ s A B, I s A → Keeps (LoopAt (w.heap.size + 1) A) A B → I s B) (hIx : ∀ c s A B, Ix c s A → Keeps (LoopAt (w.heap.size + 1) A) A B → Ix c s B)
    (h0 : I [] w) (a₁ : α → Act)
    (hassign : ∀ (x : α) (W : World) (K : Act → World → Prop), K (a₁ x) W →
      assign.wpIn (Fence.wide.inRound (w.heap.size + 1)) 0 P (Exit.then K (fun _ _ _ => False)) { tmps := (ps.zip (encs x)).foldl (fun t (p, v) => t.setIfInBounds p v) a.tmps, defers := [] } W)
    (hbody : ∀ (pre : List α) (x : α) (A : World), I pre A → pre ++ [x] <+: xs → w.heap.size + 2 ≤ A.heap.size →
      body.wpIn (Fence.wide.inRound (w.heap.size + 1)) 0 P (ForPost w.heap.size Kp I Ix (pre ++ [x]) A) (a₁ x) A)
    (hdone : ∀ (B : World), I xs B → B.heap[w.heap.size]? = some (.deferred (some [])) → Q .normal { a with defers := { target := .collected w.heap.size, args := #[] } :: a.defers } B)
    (hstop : ∀ (c : Code) (q : List α) (B : World), q <+: xs → Ix c q B → B.heap[w.heap.size]? = some (.deferred (some [])) → c.wp P Q { a with defers := { target := .collected w.heap.size, args := #[] } :: a.defers } B) :
    (Code.rangeFunc g ps assign body).wp P Q a w := by
  refine (wpIn_wide (n := 1)).1 (wpIn_rangeFunc (fun fn _ => ?_))
  obtain ⟨rec, hrec⟩ : ∃ rec : LoopState → Option Code → Loop, rec = fun st pe => { state := st, pending := pe, fn, tmps := a.tmps, params := ps, assign, body, defers := w.heap.size } := ⟨_, rfl⟩
  obtain ⟨W1, hW1⟩ : ∃ W1, (w.alloc (.deferred (some []))).alloc (.loop (rec .ready none)) = W1 := ⟨_, rfl⟩
  have hB1 : Below w.heap.size w W1 := by rw [← hW1]; exact ((Below.refl _ w).alloc (Nat.le_refl _) _).alloc (by simp) _
  have hL1 : W1.heap[w.heap.size + 1]? = some (.loop (rec .ready none)) := by
    rw [← hW1]; have := World.alloc_heap_new (w.alloc (.deferred (some []))) (.loop (rec .ready none)); rwa [World.size_alloc] at this
  have hD1 : W1.heap[w.heap.size]? = some (.deferred (some [])) := by
    rw [← hW1]; exact (Below.heap_alloc _ _ _ (by simp)).trans (World.alloc_heap_new w _)
  have hI1 : I [] W1 := hI _ _ _ h0 ((Keeps.of_below hB1).mono (fun _ _ h => h.elim))
  refine ⟨w.heap.size + 1, [{ target := .collected w.heap.size, args := #[] }], W1, { target := .fn (.func gf) lb, args := #[.func (.yield (w.heap.size + 1)) #[] #[]] }, W1, gf,
    #[.func (.yield (w.heap.size + 1)) #[] #[]] ++ lb, W1, ?_, ?_, ?_, ?_, ?_, ?_⟩
  · rw [← hW1, hrec]; exact run_enterLoop_outer _ _ _ _ _
  · simp only [resolve, hg]
    simp [go_sem]
  · intro f' _; trivial
  · simp [invoke, go_sem, eg]
  · intro h; simp [Fence.wide] at h
  · refine callsIn_wide.2 ((hseq (w.heap.size + 1)
      (fun pre W => I pre W ∧ W.heap[w.heap.size + 1]? = some (.loop (rec .ready none)) ∧ W.heap[w.heap.size]? = some (.deferred (some [])))
      (fun pre W => ∃ c, Ix c pre W ∧ W.heap[w.heap.size + 1]? = some (.loop (rec .done (some c))) ∧ W.heap[w.heap.size]? = some (.deferred (some [])))
      W1 hB1 ?grow ?round ⟨hI1, hL1, hD1⟩).mono ?post)
    case grow =>
      rintro ys A B ⟨hi, hl, hd⟩ hb
      exact ⟨hI _ _ _ hi ((Keeps.of_below hb).mono (fun _ _ h => h.elim)), (hb.block _ (lt_of_block hl)).trans hl, (hb.block _ (lt_of_block hd)).trans hd⟩
    case round =>
      rintro pre x A ⟨hi, hl, hd⟩ hpre
      have hlt := lt_of_block hl
      have hy := run_yield (P := P) (args := encs x) hl (by rw [hrec]; exact hps x)
      rw [hrec] at hy
      refine ⟨fn, _, assign, body, hy, roundIn_of_wpIn trivial (hassign x A _ ⟨_, run_beginRound hl (by rw [hrec]), ?_⟩)⟩
      have hk2 := keeps_loop (.loop { rec .ready none with state := .busy }) hl
      have hl2 : (A.putObj (w.heap.size + 1) (.loop { rec .ready none with state := .busy })).heap[w.heap.size + 1]? = some (.loop { rec .ready none with state := .busy }) := World.putObj_heap_same hlt
      have hd2 : (A.putObj (w.heap.size + 1) (.loop { rec .ready none with state := .busy })).heap[w.heap.size]? = some (.deferred (some [])) := (World.putObj_heap_other (by omega)).trans hd
      have hp2 : Kp A (A.putObj (w.heap.size + 1) (.loop { rec .ready none with state := .busy })) := hKb _ _ _ hl
      refine wpIn_mono (hbody pre x _ (hI _ _ _ hi hk2) hpre (by simp; omega)) ?_
      have fin : ∀ (jump : Option Code) (B : World), B.heap[w.heap.size]? = (A.putObj (w.heap.size + 1) (.loop { rec .ready none with state := .busy })).heap[w.heap.size]? →
          B.heap[w.heap.size + 1]? = (A.putObj (w.heap.size + 1) (.loop { rec .ready none with state := .busy })).heap[w.heap.size + 1]? →
          Kp (A.putObj (w.heap.size + 1) (.loop { rec .ready none with state := .busy })) B →
          (Instr.endRound (w.heap.size + 1) jump).run P B = .ok (.bool jump.isNone) (B.putObj (w.heap.size + 1) (.loop (rec (if jump.isNone then .ready else .done) jump))) ∧
          (B.putObj (w.heap.size + 1) (.loop (rec (if jump.isNone then .ready else .done) jump))).heap[w.heap.size + 1]? = some (.loop (rec (if jump.isNone then .ready else .done) jump)) ∧
          (B.putObj (w.heap.size + 1) (.loop (rec (if jump.isNone then .ready else .done) jump))).heap[w.heap.size]? = some (.deferred (some [])) ∧
          Kp A (B.putObj (w.heap.size + 1) (.loop (rec (if jump.isNone then .ready else .done) jump))) := by
        intro jump B hd3 hl3 hp3
        rw [hl2] at hl3
        rw [hd2] at hd3
        have hr := run_endRound (P := P) jump hl3
        refine ⟨by rw [hrec] at hr ⊢; exact hr, World.putObj_heap_same (lt_of_block hl3), (World.putObj_heap_other (by omega)).trans hd3, hKt (hKt hp2 hp3) (hKb _ _ _ hl3)⟩
      rintro e a3 B hp
      cases e with
      | normal =>
        obtain ⟨hd3, hl3, hp3, hi3⟩ := hp
        obtain ⟨hr, hl4, hd4, hp4⟩ := fin none B hd3 hl3 hp3
        exact ⟨_, _, hr, .inl ⟨rfl, ⟨hI _ _ _ hi3 (keeps_loop _ (hl3.trans hl2)), hl4, hd4⟩, hp4⟩⟩
      | ret =>
        obtain ⟨hd3, hl3, hp3, hi3⟩ := hp
        obtain ⟨hr, hl4, hd4, hp4⟩ := fin (some .ret) B hd3 hl3 hp3
        exact ⟨_, _, hr, .inr ⟨rfl, ⟨.ret, hIx _ _ _ _ hi3 (keeps_loop _ (hl3.trans hl2)), hl4, hd4⟩, hp4⟩⟩
      | exit id =>
        obtain ⟨hd3, hl3, hp3, hi3⟩ := hp
        obtain ⟨hr, hl4, hd4, hp4⟩ := fin (some (.exit id)) B hd3 hl3 hp3
        exact ⟨_, _, hr, .inr ⟨rfl, ⟨.exit id, hIx _ _ _ _ hi3 (keeps_loop _ (hl3.trans hl2)), hl4, hd4⟩, hp4⟩⟩
      | goto t =>
        obtain ⟨hd3, hl3, hp3, hi3⟩ := hp
        obtain ⟨hr, hl4, hd4, hp4⟩ := fin (some (.goto t)) B hd3 hl3 hp3
        exact ⟨_, _, hr, .inr ⟨rfl, ⟨.goto t, hIx _ _ _ _ hi3 (keeps_loop _ (hl3.trans hl2)), hl4, hd4⟩, hp4⟩⟩
      | panic ch => exact hp.elim
      | outgrown => exact hp.elim
    case post =>
      rintro e B ⟨⟨v, rfl⟩, (⟨hi, hl, hd⟩ | ⟨q, hq, c, hi, hl, hd⟩)⟩
      · exact ⟨none, _, (by have := run_endLoop (P := P) hl (by rw [hrec]; simp); rw [hrec] at this; exact this),
          hdone _ (hI _ _ _ hi (keeps_loop _ hl)) ((World.putObj_heap_other (by omega)).trans hd)⟩
      · exact ⟨some c, _, (by have := run_endLoop (P := P) hl (by rw [hrec]; simp); rw [hrec] at this; exact this),
          wpIn_wide.2 (hstop c q _ hq (hIx _ _ _ _ hi (keeps_loop _ hl)) ((World.putObj_heap_other (by omega)).trans hd))⟩

/-- A function's contract from its body, where the body holds a range over a function: the marks that it leaves among the deferred calls. -/
theorem calls_of_wp_marks {P : Program} {f : FuncId} {fn : Func} {c : Code} {args : Array Value} {w : World} {R : Ending → World → Prop}
    (hf : P.funcs[f]? = some fn) (hb : fn.body = some c) (h : c.wp P (bodyPostM Fence.wide 0 P fn R) { tmps := args ++ Array.replicate (fn.ntmps - args.size) undef, defers := [] } w) : Calls P f args w R :=
  callsIn_wide.1 (callsIn_of_wp_marks hf hb trivial (wpIn_wide.2 h))
/-- The marks at a function's end: each block is taken; then the results. -/
def Marked (P : Program) (fn : Func) (tmps : Array Value) (R : Ending → World → Prop) : List Nat → World → Prop
  | [], w => ∃ v, (results fn tmps).run P w = .ok v w ∧ R (.returned v) w
  | b :: bs, w => w.heap[b]? = some (.deferred (some [])) ∧ Marked P fn tmps R bs (w.putObj b (.deferred none))
theorem leaves_of_marked {P : Program} {fn : Func} {tmps : Array Value} {R : Ending → World → Prop} : ∀ (bs : List Nat) (w : World), Marked P fn tmps R bs w →
    LeavesInM Fence.wide 0 P fn tmps R (bs.map fun b => { target := .collected b, args := #[] }) .returning w
  | [], _, h => h
  | _ :: bs, _, h => ⟨by simp, .inl ⟨_, _, rfl, run_takeDeferred h.1, leaves_of_marked bs _ h.2⟩⟩
end Go.Proofs.YthjcolehccbihaaGreatDoor
