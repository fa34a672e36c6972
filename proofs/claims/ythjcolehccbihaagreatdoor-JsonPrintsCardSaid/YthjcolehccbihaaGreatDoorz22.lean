/- The walks of exref7's Literal. -/
import Derived.Test.YthjcolehccbihaaGreatDoorz21
import Derived.Test.YthjcolehccbihaaGreatDoorz19
import Derived.Test.YthjcolehccbihaaGreatDoorz02
import Derived.RangeFuncNested
import Derived.RangeFuncBound
import Derived.RangeFuncCalls
import Derived.RangeFuncLeaves
import Derived.RangeFuncWrites
import Derived.Shelf.Abstract
import Derived.OwnWalkIn
import Derived.TacticsInMore
import Derived.LoopNIn
import Derived.LoopIn
import Derived.StillTailTactics
set_option linter.unusedSimpArgs false
set_option linter.unusedVariables false
set_option linter.unusedSectionVars false
namespace Go.Proofs.YthjcolehccbihaaGreatDoor
open Go.RowKit Go.Shelf
section
variable {w : World}
theorem list_ne {a b : ByteArray} (h : a ≠ b) : (a.toList == b.toList) = false := by
  rw [Lib.toList_data, Lib.toList_data]
  have : a.data.toList ≠ b.data.toList := fun e => h (by rw [← str_of a, ← str_of b, e])
  simpa using this
set_option maxRecDepth 100000 in
theorem k_literal (s : ByteArray) (hs : s.size ≤ 1000000) : Calls Tryz.prog 82 #[.string s] w fun e w' => e = .returned (.bool (literal (raw s))) ∧ Below w.heap.size w w' := by
  obtain ⟨cap, W, hrun, hb, hz, hy⟩ := conv_bytes w s hs
  obtain ⟨W2, hW2⟩ : ∃ W2, W2 = W.alloc (.cells #[.slice (some ⟨w.heap.size, 0, none⟩) s.size cap, .int .i64 0, .int .i64 0, .int .i64 0] 150) := ⟨_, rfl⟩
  have hb2 : Below W.heap.size W W2 := by rw [hW2]; exact (Below.refl _ _).alloc (Nat.le_refl _) _
  have hl : (raw s).length = s.size := rfl
  have hk : KRd W2 W.heap.size (.slice (some ⟨w.heap.size, 0, none⟩) s.size cap) (raw s) (raw s, false) := by
    refine ⟨⟨0, 0, ?_, by simp⟩, hy.rd.below hb2, List.suffix_refl _, by rw [hl]; exact hs, fun g hg _ => ?_, fun a n c e => hy.room a n c e⟩
    · rw [hW2, Nat.sub_self]; exact blk_new W _
    · simp only [Value.ownBlock, Option.some.injEq] at hg; omega
  have HK := Lib.hid (k_number hk)
  have HB : Hid (Below w.heap.size w W2) := Lib.hid (hb.trans (hb2.mono hb.size))
  have HWS : Hid (w.heap.size ≤ W.heap.size) := Lib.hid hb.size
  have HW2 := Lib.hid hW2.symm
  obtain ⟨T, hT⟩ : ∃ T, T = str ((raw s).take ((raw s).length - (dNum (raw s)).1.length)) := ⟨_, rfl⟩
  rw [← hT] at HK
  have HT := Lib.hid hT
  have HL : Hid (literal (raw s) = (!(dNum (raw s)).2 && (dNum (raw s)).1.isEmpty && !(raw s).isEmpty)) := Lib.hid (by rw [← dLit_eq]; rfl)
  clear hb hz hy hW2 hb2 hk hT hl
  obtain ⟨rb, hrb⟩ : ∃ rb, rb = W.heap.size := ⟨_, rfl⟩
  rw [← hrb] at HK HWS
  go_enter Tryz.func82, Tryz.ntmps82
  go_upto_region 2 with (fail)
  rw [HW2.out, ← hrb]
  clear hrun HW2 hrb
  go_wp2_with (fail)
  refine HK.out.mono ?_
  rintro e w3 ⟨rfl, h3, k3⟩
  have HB3 : Hid (Below w.heap.size w w3) := Lib.hid (below_keeps HB.out k3 (fun i e => by have e : i = rb := e; have := HWS.out; omega) HB.out.size)
  obtain ⟨a, c, k, er, -, hk, hkl, hes, c0, c1, c2, f1, -⟩ := h3.parts
  have hle := h3.suf.length_le
  clear hk hkl HK h3 k3 c0 c1 f1
  cases hd : (dNum (raw s)).2 with
  | true =>
    have t0 : (er == 0) = false := by
      have : er ≠ 0 := fun e => by have := hes.1 e; rw [hd] at this; cases this
      simpa using this
    have HR : Hid (literal (raw s) = false) := Lib.hid (by rw [HL.out, hd]; rfl)
    clear hes hd hle
    go_wp2_with (fail)
    go_ret
    exact ⟨by rw [HR.out]; rfl, HB3.out⟩
  | false =>
    have e0 : er = 0 := hes.2 hd
    subst e0
    clear hes
    by_cases hr : (dNum (raw s)).1 = []
    · have hTs : T = s := by rw [HT.out, hr, List.length_nil, Nat.sub_zero, List.take_length]; exact str_of s
      subst hTs
      by_cases he : raw T = []
      · have HR : Hid (literal (raw T) = false) := Lib.hid (by rw [HL.out, he]; simp)
        have hp0 : T = ⟨#[]⟩ := by rw [← str_of T]; exact congrArg str he
        subst hp0
        clear hd hr hle he
        go_wp2_with (fail)
        go_ret
        exact ⟨by rw [HR.out]; rfl, HB3.out⟩
      · have HR : Hid (literal (raw T) = true) := Lib.hid (by
          rw [HL.out, hd, hr]
          cases h : raw T with
          | nil => exact absurd h he
          | cons c l => rfl)
        have hs0 : ¬ T.toList = [] := by rw [Lib.toList_data]; exact he
        have hs1 : T.toList.isEmpty = false := by rw [Lib.toList_data]; cases h : raw T with
          | nil => exact absurd h he
          | cons c l => rw [show T.data.toList = c :: l from h]; rfl
        clear hd hr hle he
        go_wp2_with (fail)
        go_ret
        exact ⟨by rw [HR.out]; rfl, HB3.out⟩
    · have hne : T ≠ s := fun e => by
        have h2 := congrArg raw e
        rw [HT.out, raw, str_toList] at h2
        have h3 := congrArg List.length h2
        rw [List.length_take] at h3
        have := List.length_pos_iff.2 hr
        have : (raw s).length = s.data.toList.length := rfl
        omega
      have ht := list_ne hne
      have HR : Hid (literal (raw s) = false) := Lib.hid (by
        rw [HL.out, hd]
        cases h : (dNum (raw s)).1 with
        | nil => exact absurd h hr
        | cons c l => rfl)
      clear hd hr hle
      go_wp2_with (fail)
      go_ret
      exact ⟨by rw [HR.out]; rfl, HB3.out⟩
end
end Go.Proofs.YthjcolehccbihaaGreatDoor
namespace Go.Proofs.YthjcolehccbihaaGreatDoor
open Go.RowKit
/-- A fence that asks nothing of functions and of depth. -/
structure Open (F : Fence) (P : Program) : Prop where
  fn : ∀ f, F.fn f
  depth : F.depth = none
  calls : ∀ n f args w R, Calls P f args w R → CallsIn F n P f args w R
end Go.Proofs.YthjcolehccbihaaGreatDoor
namespace Go.Proofs.YthjcolehccbihaaGreatDoor
open Go.RowKit
/-- An iterator that hands out xs, in order: each round goes on, or says 'no more'; a round keeps what the iterator reads again. -/
def IterC {α : Type} (P : Program) (g : FuncId) (lb : Array Value) (encs : α → Array Value) (Kp : World → World → Prop) (xs : List α) (w : World) : Prop :=
  ∀ (l : Nat) (J Jx : List α → World → Prop) (W : World), Below w.heap.size w W →
    (∀ ys A B, J ys A → Below A.heap.size A B → J ys B) →
    (∀ pre x A, J pre A → pre ++ [x] <+: xs → YieldAt Fence.wide 0 P l (encs x) A fun e B =>
      (e = .returned (.bool true) ∧ J (pre ++ [x]) B ∧ Kp A B) ∨ (e = .returned (.bool false) ∧ Jx (pre ++ [x]) B ∧ Kp A B)) →
    J [] W → Calls P g (#[.func (.yield l) #[] #[]] ++ lb) W fun e B => (∃ v, e = .returned v) ∧ (J xs B ∨ ∃ q, q <+: xs ∧ Jx q B)
/-- How a round's body may be left. -/
def ForPost {α : Type} (b0 : Nat) (Kp : World → World → Prop) (I : List α → World → Prop) (Ix : Code → List α → World → Prop) (ys : List α) (A : World) : Exit → Act → World → Prop
  | .normal, _, B => B.heap[b0]? = A.heap[b0]? ∧ B.heap[b0 + 1]? = A.heap[b0 + 1]? ∧ Kp A B ∧ I ys B
  | .ret, _, B => B.heap[b0]? = A.heap[b0]? ∧ B.heap[b0 + 1]? = A.heap[b0 + 1]? ∧ Kp A B ∧ Ix .ret ys B
  | .exit id, _, B => B.heap[b0]? = A.heap[b0]? ∧ B.heap[b0 + 1]? = A.heap[b0 + 1]? ∧ Kp A B ∧ Ix (.exit id) ys B
  | .goto t, _, B => B.heap[b0]? = A.heap[b0]? ∧ B.heap[b0 + 1]? = A.heap[b0 + 1]? ∧ Kp A B ∧ Ix (.goto t) ys B
  | .panic _, _, _ => False
  | .outgrown, _, _ => False
theorem keeps_putObj (w : World) (l : Nat) (o : Obj) : Keeps (fun k => k = l) w (w.putObj l o) :=
  ⟨rfl, rfl, rfl, by simp, fun k _ hn => World.putObj_heap_other hn⟩
/-- The loop's own block. -/
def LoopAt (l : Nat) (A : World) (k : Nat) : Prop := k = l ∧ ∃ r, A.heap[k]? = some (.loop r)
theorem loopAt_not {A : World} {l b : Nat} {cs : Array Value} {T : TypeId} (h : IsBlk A b cs T) : ¬ LoopAt l A b := by
  rintro ⟨_, r, hr⟩
  have := h.symm.trans hr
  simp at this
theorem keeps_loop {A : World} {l : Nat} {r : Loop} (o : Obj) (h : A.heap[l]? = some (.loop r)) : Keeps (LoopAt l A) A (A.putObj l o) :=
  (keeps_putObj A l o).mono (fun k _ e => ⟨e, by rw [e]; exact ⟨r, h⟩⟩)
theorem Keeps.loop {A B : World} {l : Nat} (h : Keeps (LoopAt l A) A B) : Keeps (fun k => k = l) A B := h.mono (fun _ _ e => e.1)
theorem wp_forSeq {α : Type} {P : Program} {g : Operand} {ps : Array Tmp} {assign body : Code} {Q : Exit → Act → World → Prop} {a : Act} {w : World}
    {gf : Nat} {lb : Array Value} (hg : a.eval g = .func (.func gf) #[] lb) (eg : ∀ args w, (callFunc gf args).run P w = .ok (.enter gf args) w)
    {encs : α → Array Value} {Kp : World → World → Prop} {xs : List α} (hseq : IterC P gf lb encs Kp xs w) (hps : ∀ x, (encs x).size = ps.size)
    (hKt : ∀ {A B C : World}, Kp A B → Kp B C → Kp A C) (hKb : ∀ (W : World) (r : Loop) (o : Obj), W.heap[w.heap.size + 1]? = some (.loop r) → Kp W (W.putObj (w.heap.size + 1) o))
    (I : List α → World → Prop) (Ix : Code → List α → World → Prop)
    (hI : ∀ s A B, I s A → Keeps (LoopAt (w.heap.size + 1) A) A B → I s B) (hIx : ∀ c s A B, Ix c s A → Keeps (LoopAt (w.heap.size + 1) A) A B → Ix c s B)
    (h0 : I [] w) (a₁ : α → Act)
    (hassign : ∀ (x : α) (W : World) (K : Act → World → Prop), K (a₁ x) W →
      assign.wpIn (Fence.wide.inRound (w.heap.size + 1)) 0 P (Exit.then K (fun _ _ _ => False)) { tmps := (ps.zip (encs x)).foldl (fun t (p, v) => t.setIfInBounds p v) a.tmps, defers := [] } W)
    (hbody : ∀ (pre : List α) (x : α) (A : World), I pre A → pre ++ [x] <+: xs → w.heap.size + 2 ≤ A.heap.size →
      body.wpIn (Fence.wide.inRound (w.heap.size + 1)) 0 P (ForPost w.heap.size Kp I Ix (pre ++ [x]) A) (a₁ x) A)
    (hdone : ∀ (B : World), I xs B → B.heap[w.heap.size]? = some (.deferred (some [])) → Q .normal { a with defers := { target := .collected w.heap.size, args := #[] } :: a.defers } B)
    (hstop : ∀ (c : Code) (q : List α) (B : World), q <+: xs → Ix c q B → B.heap[w.heap.size]? = some (.deferred (some [])) → c.wp P Q { a with defers := { target := .collected w.heap.size, args := #[] } :: a.defers } B) :
    (Code.rangeFunc g ps assign body).wp P Q a w := by
  refine (wpIn_wide (n := 1)).1 (wpIn_rangeFunc (fun fn _ => ?_))
  obtain ⟨rec, hrec⟩ : ∃ rec : LoopState → Option Code → Loop, rec = fun st pe => { state := st, pending := pe, fn, tmps := a.tmps, params := ps, assign, body, defers := w.heap.size } := ⟨_, rfl⟩
  obtain ⟨W1, hW1⟩ : ∃ W1, (w.alloc (.deferred (some []))).alloc (.loop (rec .ready none)) = W1 := ⟨_, rfl⟩
  have hB1 : Below w.heap.size w W1 := by rw [← hW1]; exact ((Below.refl _ w).alloc (Nat.le_refl _) _).alloc (by simp) _
  have hL1 : W1.heap[w.heap.size + 1]? = some (.loop (rec .ready none)) := by
    rw [← hW1]; have := World.alloc_heap_new (w.alloc (.deferred (some []))) (.loop (rec .ready none)); rwa [World.size_alloc] at this
  have hD1 : W1.heap[w.heap.size]? = some (.deferred (some [])) := by
    rw [← hW1]; exact (Below.heap_alloc _ _ _ (by simp)).trans (World.alloc_heap_new w _)
  have hI1 : I [] W1 := hI _ _ _ h0 ((Keeps.of_below hB1).mono (fun _ _ h => h.elim))
  refine ⟨w.heap.size + 1, [{ target := .collected w.heap.size, args := #[] }], W1, { target := .fn (.func gf) lb, args := #[.func (.yield (w.heap.size + 1)) #[] #[]] }, W1, gf,
    #[.func (.yield (w.heap.size + 1)) #[] #[]] ++ lb, W1, ?_, ?_, ?_, ?_, ?_, ?_⟩
  · rw [← hW1, hrec]; exact run_enterLoop_outer _ _ _ _ _
  · simp only [resolve, hg]
    simp [go_sem]
  · intro f' _; trivial
  · simp [invoke, go_sem, eg]
  · intro h; simp [Fence.wide] at h
  · refine callsIn_wide.2 ((hseq (w.heap.size + 1)
      (fun pre W => I pre W ∧ W.heap[w.heap.size + 1]? = some (.loop (rec .ready none)) ∧ W.heap[w.heap.size]? = some (.deferred (some [])))
      (fun pre W => ∃ c, Ix c pre W ∧ W.heap[w.heap.size + 1]? = some (.loop (rec .done (some c))) ∧ W.heap[w.heap.size]? = some (.deferred (some [])))
      W1 hB1 ?grow ?round ⟨hI1, hL1, hD1⟩).mono ?post)
    case grow =>
      rintro ys A B ⟨hi, hl, hd⟩ hb
      exact ⟨hI _ _ _ hi ((Keeps.of_below hb).mono (fun _ _ h => h.elim)), (hb.block _ (lt_of_block hl)).trans hl, (hb.block _ (lt_of_block hd)).trans hd⟩
    case round =>
      rintro pre x A ⟨hi, hl, hd⟩ hpre
      have hlt := lt_of_block hl
      have hy := run_yield (P := P) (args := encs x) hl (by rw [hrec]; exact hps x)
      rw [hrec] at hy
      refine ⟨fn, _, assign, body, hy, roundIn_of_wpIn trivial (hassign x A _ ⟨_, run_beginRound hl (by rw [hrec]), ?_⟩)⟩
      have hk2 := keeps_loop (.loop { rec .ready none with state := .busy }) hl
      have hl2 : (A.putObj (w.heap.size + 1) (.loop { rec .ready none with state := .busy })).heap[w.heap.size + 1]? = some (.loop { rec .ready none with state := .busy }) := World.putObj_heap_same hlt
      have hd2 : (A.putObj (w.heap.size + 1) (.loop { rec .ready none with state := .busy })).heap[w.heap.size]? = some (.deferred (some [])) := (World.putObj_heap_other (by omega)).trans hd
      have hp2 : Kp A (A.putObj (w.heap.size + 1) (.loop { rec .ready none with state := .busy })) := hKb _ _ _ hl
      refine wpIn_mono (hbody pre x _ (hI _ _ _ hi hk2) hpre (by simp; omega)) ?_
      have fin : ∀ (jump : Option Code) (B : World), B.heap[w.heap.size]? = (A.putObj (w.heap.size + 1) (.loop { rec .ready none with state := .busy })).heap[w.heap.size]? →
          B.heap[w.heap.size + 1]? = (A.putObj (w.heap.size + 1) (.loop { rec .ready none with state := .busy })).heap[w.heap.size + 1]? →
          Kp (A.putObj (w.heap.size + 1) (.loop { rec .ready none with state := .busy })) B →
          (Instr.endRound (w.heap.size + 1) jump).run P B = .ok (.bool jump.isNone) (B.putObj (w.heap.size + 1) (.loop (rec (if jump.isNone then .ready else .done) jump))) ∧
          (B.putObj (w.heap.size + 1) (.loop (rec (if jump.isNone then .ready else .done) jump))).heap[w.heap.size + 1]? = some (.loop (rec (if jump.isNone then .ready else .done) jump)) ∧
          (B.putObj (w.heap.size + 1) (.loop (rec (if jump.isNone then .ready else .done) jump))).heap[w.heap.size]? = some (.deferred (some [])) ∧
          Kp A (B.putObj (w.heap.size + 1) (.loop (rec (if jump.isNone then .ready else .done) jump))) := by
        intro jump B hd3 hl3 hp3
        rw [hl2] at hl3
        rw [hd2] at hd3
        have hr := run_endRound (P := P) jump hl3
        refine ⟨by rw [hrec] at hr ⊢; exact hr, World.putObj_heap_same (lt_of_block hl3), (World.putObj_heap_other (by omega)).trans hd3, hKt (hKt hp2 hp3) (hKb _ _ _ hl3)⟩
      rintro e a3 B hp
      cases e with
      | normal =>
        obtain ⟨hd3, hl3, hp3, hi3⟩ := hp
        obtain ⟨hr, hl4, hd4, hp4⟩ := fin none B hd3 hl3 hp3
        exact ⟨_, _, hr, .inl ⟨rfl, ⟨hI _ _ _ hi3 (keeps_loop _ (hl3.trans hl2)), hl4, hd4⟩, hp4⟩⟩
      | ret =>
        obtain ⟨hd3, hl3, hp3, hi3⟩ := hp
        obtain ⟨hr, hl4, hd4, hp4⟩ := fin (some .ret) B hd3 hl3 hp3
        exact ⟨_, _, hr, .inr ⟨rfl, ⟨.ret, hIx _ _ _ _ hi3 (keeps_loop _ (hl3.trans hl2)), hl4, hd4⟩, hp4⟩⟩
      | exit id =>
        obtain ⟨hd3, hl3, hp3, hi3⟩ := hp
        obtain ⟨hr, hl4, hd4, hp4⟩ := fin (some (.exit id)) B hd3 hl3 hp3
        exact ⟨_, _, hr, .inr ⟨rfl, ⟨.exit id, hIx _ _ _ _ hi3 (keeps_loop _ (hl3.trans hl2)), hl4, hd4⟩, hp4⟩⟩
      | goto t =>
        obtain ⟨hd3, hl3, hp3, hi3⟩ := hp
        obtain ⟨hr, hl4, hd4, hp4⟩ := fin (some (.goto t)) B hd3 hl3 hp3
        exact ⟨_, _, hr, .inr ⟨rfl, ⟨.goto t, hIx _ _ _ _ hi3 (keeps_loop _ (hl3.trans hl2)), hl4, hd4⟩, hp4⟩⟩
      | panic ch => exact hp.elim
      | outgrown => exact hp.elim
    case post =>
      rintro e B ⟨⟨v, rfl⟩, (⟨hi, hl, hd⟩ | ⟨q, hq, c, hi, hl, hd⟩)⟩
      · exact ⟨none, _, (by have := run_endLoop (P := P) hl (by rw [hrec]; simp); rw [hrec] at this; exact this),
          hdone _ (hI _ _ _ hi (keeps_loop _ hl)) ((World.putObj_heap_other (by omega)).trans hd)⟩
      · exact ⟨some c, _, (by have := run_endLoop (P := P) hl (by rw [hrec]; simp); rw [hrec] at this; exact this),
          wpIn_wide.2 (hstop c q _ hq (hIx _ _ _ _ hi (keeps_loop _ hl)) ((World.putObj_heap_other (by omega)).trans hd))⟩
/-- A function's contract from its body, where the body holds a range over a function: the marks that it leaves among the deferred calls. -/
theorem calls_of_wp_marks {P : Program} {f : FuncId} {fn : Func} {c : Code} {args : Array Value} {w : World} {R : Ending → World → Prop}
    (hf : P.funcs[f]? = some fn) (hb : fn.body = some c) (h : c.wp P (bodyPostM Fence.wide 0 P fn R) { tmps := args ++ Array.replicate (fn.ntmps - args.size) undef, defers := [] } w) : Calls P f args w R :=
  callsIn_wide.1 (callsIn_of_wp_marks hf hb trivial (wpIn_wide.2 h))
/-- The marks at a function's end: each block is taken; then the results. -/
def Marked (P : Program) (fn : Func) (tmps : Array Value) (R : Ending → World → Prop) : List Nat → World → Prop
  | [], w => ∃ v, (results fn tmps).run P w = .ok v w ∧ R (.returned v) w
  | b :: bs, w => w.heap[b]? = some (.deferred (some [])) ∧ Marked P fn tmps R bs (w.putObj b (.deferred none))
theorem leaves_of_marked {P : Program} {fn : Func} {tmps : Array Value} {R : Ending → World → Prop} : ∀ (bs : List Nat) (w : World), Marked P fn tmps R bs w →
    LeavesInM Fence.wide 0 P fn tmps R (bs.map fun b => { target := .collected b, args := #[] }) .returning w
  | [], _, h => h
  | _ :: bs, _, h => ⟨by simp, .inl ⟨_, _, rfl, run_takeDeferred h.1, leaves_of_marked bs _ h.2⟩⟩
end Go.Proofs.YthjcolehccbihaaGreatDoor
