/- Plain laws of a store: Checkpoint. No program. -/
import Derived.Test.YtagdchgkjjpacaaGreatz46
set_option linter.unusedSimpArgs false
set_option linter.unusedVariables false
namespace Go.Proofs.YtagdchgkjjpacaaGreat
section
variable {F G : FsS} {dir : ByteArray} {size : Int} {n b : Nat} {s : StS}
theorem fold_init (dir : ByteArray) : ∀ (l : List ByteArray) (z : Nat), z ≤ l.foldl (fun n m => max n (baseNum dir m + 1)) z
 | [], z => Nat.le_refl _
 | k :: r, z => Nat.le_trans (Nat.le_max_left _ _) (fold_init dir r (max z (baseNum dir k + 1)))
theorem fold_mem (dir : ByteArray) {k : ByteArray} : ∀ (l : List ByteArray) (z : Nat), k ∈ l → baseNum dir k + 1 ≤ l.foldl (fun n m => max n (baseNum dir m + 1)) z
 | j :: r, z, h => by
   rcases List.mem_cons.1 h with e | e
   ·rw [e]
    exact Nat.le_trans (Nat.le_max_right z _) (fold_init dir r _)
   ·exact fold_mem dir r _ e
theorem fold_le (dir : ByteArray) {B : Nat} : ∀ (l : List ByteArray) (z : Nat), z ≤ B → (∀ k, k ∈ l → baseNum dir k + 1 ≤ B) → l.foldl (fun n m => max n (baseNum dir m + 1)) z ≤ B
 | [], _, hz, _ => hz
 | k :: r, z, hz, h => fold_le dir r _ (Nat.max_le.2 ⟨hz, h k (List.mem_cons_self ..)⟩) fun j hj => h j (List.mem_cons_of_mem _ hj)
theorem top_free (hr : Rise slt F.files) (ht : topBase dir F < 100000000) : F.find (baseNm dir (topBase dir F)) = none := by
 cases h : F.find (baseNm dir (topBase dir F)) with
 | none => rfl
 | some x =>
   have hm : baseNm dir (topBase dir F) ∈ namesL (nmOf dir sBase) F.files := (mem_names hr).2 ⟨⟨x, h⟩, pre_base dir _⟩
   have h1 := fold_mem dir _ 1 hm
   rw [baseNum_nm dir ht] at h1
   have h2 : (namesL (nmOf dir sBase) F.files).foldl (fun n m => max n (baseNum dir m + 1)) 1 = topBase dir F := rfl
   rw [h2] at h1
   omega
theorem On.top (h : On F s size n) : topBase s.dir F = s.base + 1 := by
 obtain ⟨f, q0, m0, segs, rc, h1, h2, _⟩ := h.ex
 have hr := h2.sg.rise
 refine Nat.le_antisymm ?_ ?_
 ·refine fold_le s.dir _ 1 (by omega) fun k hk => ?_
  obtain ⟨⟨x, hx⟩, hp⟩ := (mem_names hr).1 hk
  by_cases h0 : baseNum s.dir k = 0
  ·omega
  have e := base_of_num h0
  rcases h.only k x hx (by rw [e]; exact inDir_base _ _) with e2 | ⟨e2, e3⟩
  ·rw [e, base_seg] at e2
   exact absurd rfl e2
  ·rcases e3 with e3 | e3
   ·rw [e3, man_base] at h0
    exact absurd rfl h0
   ·have hb : s.base < 100000000 := by have := h.nb; have := h.n1; omega
    rw [e3, baseNum_nm _ hb]
    exact Nat.le_refl _
 ·by_cases h0 : s.base = 0
  ·rw [h0]
   exact fold_init s.dir _ 1
  ·have hb : s.base < 100000000 := by have := h.nb; have := h.n1; omega
   have hx : ∃ x, F.find (baseNm s.dir s.base) = some x := by
    rcases h1.is with ⟨e, _⟩ | ⟨_, _, _, _, _, e⟩
    ·exact absurd e h0
    ·exact ⟨_, e⟩
   have h3 := fold_mem s.dir (namesL (nmOf s.dir sBase) F.files) 1 ((mem_names hr).2 ⟨hx, pre_base _ _⟩)
   rw [baseNum_nm _ hb] at h3
   exact h3
theorem fail_out {N : Nat} {e : Int} (hd : G.down = false) (hr : Rise slt G.files) (hs : s.stuck = false) (he : e ≠ 5) :
 Step (fun k => k = baseNm s.dir N ∨ k = nmOf s.dir sNext) 0 0 G (failS s G N e false).2.1 ∧ (failS s G N e false).2.2 = e ∧
   (((failS s G N e false).2.1.down = false ∧ (failS s G N e false).1 = s ∧ (failS s G N e false).2.1.find (nmOf s.dir sNext) = none ∧ (baseNm s.dir N ≠ nmOf s.dir sNext → (failS s G N e false).2.1.find (baseNm s.dir N) = none)) ∨
     ((failS s G N e false).2.1.down = true ∧ (failS s G N e false).1 = { s with stuck := true } ∧ G.armed ≠ 0)) := by
 have hst : (s.stuck || e == 5) = false := by rw [hs]; simp [he]
 have hE : failS s G N e false = ({ s with stuck := (undoR (undoR (G, false) (baseNm s.dir N)) (nmOf s.dir sNext)).2 }, (undoR (undoR (G, false) (baseNm s.dir N)) (nmOf s.dir sNext)).1, e) := by
  unfold failS
  rw [if_pos ⟨rfl, he⟩, hst]
 obtain ⟨s1, o1⟩ := undo_out hd hr false (baseNm s.dir N)
 rw [hE]
 obtain ⟨U, hU⟩ : ∃ U, U = undoR (G, false) (baseNm s.dir N) := ⟨_, rfl⟩
 rw [← hU] at s1 o1 ⊢
 clear hU hE
 obtain ⟨G1, st1⟩ := U
 have s1' := s1.mono (Q := fun k => k = baseNm s.dir N ∨ k = nmOf s.dir sNext) (fun k e => .inl e) (Nat.le_refl 0) (Int.le_refl 0)
 rcases o1 with ⟨d1, t1, f1⟩ | ⟨d1, t1, a1⟩
 ·have t1 : st1 = false := t1
  subst t1
  obtain ⟨s2, o2⟩ := undo_out d1 (s1.rise hr) false (nmOf s.dir sNext)
  have s2' := s2.mono (Q := fun k => k = baseNm s.dir N ∨ k = nmOf s.dir sNext) (fun k e => .inr e) (Nat.le_refl 0) (Int.le_refl 0)
  refine ⟨by have := s1'.trans s2'; simpa using this, rfl, ?_⟩
  rcases o2 with ⟨d2, t2, f2⟩ | ⟨d2, t2, a2⟩
  ·refine .inl ⟨d2, ?_, f2, fun hne => ?_⟩
   ·show { s with stuck := _ } = s
    rw [t2, ← hs]
   ·show (undoR (G1, false) (nmOf s.dir sNext)).1.find (baseNm s.dir N) = none
    rw [s2.others _ hne]
    exact f1
  ·refine .inr ⟨d2, ?_, fun e => a2 (s1.calm e).1⟩
   show { s with stuck := _ } = _
   rw [t2]
 ·have t1 : st1 = true := t1
  subst t1
  obtain ⟨u1, u2⟩ := undo_down d1 (nmOf s.dir sNext)
  refine ⟨?_, rfl, .inr ⟨?_, ?_, a1⟩⟩
  ·show Step _ 0 0 G (undoR (G1, true) (nmOf s.dir sNext)).1
   rw [u1]
   exact s1'
  ·show (undoR (G1, true) (nmOf s.dir sNext)).1.down = true
   rw [u1]
   exact d1
  ·show { s with stuck := _ } = _
   rw [u2]
theorem On.next_none (h : On F s size n) : F.find (nmOf s.dir sNext) = none := by
 cases hx : F.find (nmOf s.dir sNext) with
 | none => rfl
 | some x =>
   rcases h.only _ x hx (inDir_next _) with e | ⟨e1, e | e⟩
   ·exact absurd (next_seg s.dir) e
   ·have h1 := nth_next s.dir
    rw [e, nth_man] at h1
    exact absurd h1 (by decide)
   ·have h1 := nth_next s.dir
    rw [e, nth_base] at h1
    exact absurd h1 (by decide)
theorem base_next (dir : ByteArray) (k : Nat) : baseNm dir k ≠ nmOf dir sNext := fun e => by
 have h1 := nth_next dir
 rw [← e, nth_base] at h1
 exact absurd h1 (by decide)
theorem On.base_none (h : On F s size n) : F.find (baseNm s.dir (s.base + 1)) = none := by
 obtain ⟨f, q0, m0, segs, rc, h1, h2, _⟩ := h.ex
 have h3 := top_free (dir := s.dir) h2.sg.rise (by rw [h.top]; have := h.nb; have := h.n1; omega)
 rwa [h.top] at h3
theorem On.roll (h : On F s size n) (hn : n + 1 ≤ 900) (hf : F.files.length < 400) :
 ((rotateL s.log F).2.2 = 0 ∧ On (rotateL s.log F).2.1 { s with log := (rotateL s.log F).1 } size (n + 1) ∧ (rotateL s.log F).1 = { s.log with last := s.log.last + 1 } ∧ Step (fun k => segNum (nmOf s.dir sLog) k ≠ 0) 1 0 F (rotateL s.log F).2.1) ∨
   ((rotateL s.log F).2.2 = 5 ∧ F.armed ≠ 0 ∧ (rotateL s.log F).2.1.down = true ∧ (rotateL s.log F).2.1.files = F.files) := by
 obtain ⟨f, q0, m0, segs, rc, h1, h2, h3, h4, h5⟩ := h.ex
 rcases rotate_out h2 (by have := h.nl; have := h.n1; omega) hf with ⟨r0, hc, hL, hon⟩ | ⟨r5, ha, _, hd, hfl, _⟩
 ·left
  have hst := calm_step hc hon.sg.rise h2.up hon.up
  rw [h.ldir] at hst
  refine ⟨r0, ⟨hon.up, h.free, by rw [hL]; exact h.ldir, by rw [hL]; exact h.lsize, ⟨f, q0, m0, segs ++ [[]], rc, h1.ext (hst.others _ (by rw [man_seg]; simp)) (fun _ => hst.others _ (by rw [base_seg]; simp)), hon, h3.new, h4, fun e => by rw [hL]; exact h5 e⟩, fun nm x hx hi => ?_, by have := h.nb; show s.base ≤ n + 1; omega, by rw [hL]; have := h.nl; show s.log.last + 1 ≤ n + 1; omega, by have := h.nq; show s.seq ≤ n + 1; omega, hn⟩, hL, hst⟩
  by_cases e : segNum (nmOf s.dir sLog) nm = 0
  ·exact h.only nm x (by rw [← hst.others nm (by simp [e])]; exact hx) hi
  ·exact .inl e
 ·exact .inr ⟨r5, ha, hd, hfl⟩
structure OnX (F : FsS) (s : StS) (size : Int) (n : Nat) (P : ByteArray → Prop) : Prop where
 up : F.down = false
 free : s.stuck = false
 ldir : s.log.dir = nmOf s.dir sLog
 lsize : s.log.size = size
 ex : ∃ f q0 m0 segs rc, BaseIs F s.dir s.base f q0 m0 ∧ LogOn F s.log segs ∧ Holds segs rc ∧ Chain q0 m0 rc s.seq s.all ∧ (s.base ≠ 0 → f = s.log.first)
 only : ∀ nm x, F.find nm = some x → inDir s.dir nm → segNum (nmOf s.dir sLog) nm ≠ 0 ∨ (s.base ≠ 0 ∧ (nm = nmOf s.dir sMan ∨ nm = baseNm s.dir s.base)) ∨ P nm
 nb : s.base ≤ n
 nl : s.log.last ≤ n
 nq : s.seq ≤ n
 n1 : n ≤ 900
abbrev ckP (s : StS) (k : ByteArray) : Prop := k = baseNm s.dir (s.base + 1) ∨ k = nmOf s.dir sNext
theorem ckP_seg {k : ByteArray} (e : ckP s k) : segNum (nmOf s.dir sLog) k = 0 := by
 rcases e with e | e
 ·rw [e]; exact base_seg _ _
 ·rw [e]; exact next_seg _
theorem ckP_man (e : ckP s (nmOf s.dir sMan)) : False := by
 rcases e with e | e
 ·have h1 := nth_man s.dir
  rw [e, nth_base] at h1
  exact absurd h1 (by decide)
 ·have h1 := nth_man s.dir
  rw [e, nth_next] at h1
  exact absurd h1 (by decide)
theorem ckP_base (hb : s.base + 1 < 100000000) (e : ckP s (baseNm s.dir s.base)) : False := by
 rcases e with e | e
 ·have := baseNm_inj s.dir (by omega) hb e
  omega
 ·exact base_next _ _ e
theorem On.x (h : On F s size n) : OnX F s size n (ckP s) := ⟨h.up, h.free, h.ldir, h.lsize, h.ex, fun nm x hx hi => (h.only nm x hx hi).elim .inl fun e => .inr (.inl e), h.nb, h.nl, h.nq, h.n1⟩
theorem OnX.step {i : Nat} {u : Int} (h : OnX F s size n (ckP s)) (st : Step (ckP s) i u F G) (hd : G.down = false) : OnX G s size n (ckP s) := by
 obtain ⟨f, q0, m0, segs, rc, h1, h2, h3, h4, h5⟩ := h.ex
 have hb : s.base + 1 < 100000000 := by have := h.nb; have := h.n1; omega
 have hr := st.rise h2.sg.rise
 refine ⟨hd, h.free, h.ldir, h.lsize, ⟨f, q0, m0, segs, rc, h1.ext (st.others _ ckP_man) (fun _ => st.others _ (ckP_base hb)), ⟨h2.sg.ext hr (fun k hk => st.others k fun e => hk (by rw [h.ldir]; exact ckP_seg e)), h2.ne, h2.last, h2.free, hd, h2.name⟩, h3, h4, h5⟩, fun nm x hx hi => ?_, h.nb, h.nl, h.nq, h.n1⟩
 by_cases e : ckP s nm
 ·exact .inr (.inr e)
 ·exact h.only nm x (by rw [← st.others nm e]; exact hx) hi
theorem OnX.back (h : OnX F s size n (ckP s)) (g1 : F.find (baseNm s.dir (s.base + 1)) = none) (g2 : F.find (nmOf s.dir sNext) = none) : On F s size n := by
 refine ⟨h.up, h.free, h.ldir, h.lsize, h.ex, fun nm x hx hi => ?_, h.nb, h.nl, h.nq, h.n1⟩
 rcases h.only nm x hx hi with e | e | e | e
 ·exact .inl e
 ·exact .inr e
 ·rw [e, g1] at hx; exact absurd hx (by simp)
 ·rw [e, g2] at hx; exact absurd hx (by simp)
theorem OnX.roll (h : OnX F s size n (ckP s)) (hn : n + 1 ≤ 900) (hf : F.files.length < 400) :
 ((rotateL s.log F).2.2 = 0 ∧ OnX (rotateL s.log F).2.1 { s with log := (rotateL s.log F).1 } size (n + 1) (ckP s) ∧ (rotateL s.log F).1 = { s.log with last := s.log.last + 1 } ∧ Step (fun k => segNum (nmOf s.dir sLog) k ≠ 0) 1 0 F (rotateL s.log F).2.1) ∨
   ((rotateL s.log F).2.2 = 5 ∧ F.armed ≠ 0 ∧ (rotateL s.log F).2.1.down = true ∧ (rotateL s.log F).2.1.files = F.files) := by
 obtain ⟨f, q0, m0, segs, rc, h1, h2, h3, h4, h5⟩ := h.ex
 rcases rotate_out h2 (by have := h.nl; have := h.n1; omega) hf with ⟨r0, hc, hL, hon⟩ | ⟨r5, ha, _, hd, hfl, _⟩
 ·left
  have hst := calm_step hc hon.sg.rise h2.up hon.up
  rw [h.ldir] at hst
  refine ⟨r0, ⟨hon.up, h.free, by rw [hL]; exact h.ldir, by rw [hL]; exact h.lsize, ⟨f, q0, m0, segs ++ [[]], rc, h1.ext (hst.others _ (by rw [man_seg]; simp)) (fun _ => hst.others _ (by rw [base_seg]; simp)), hon, h3.new, h4, fun e => by rw [hL]; exact h5 e⟩, fun nm x hx hi => ?_, by have := h.nb; show s.base ≤ n + 1; omega, by rw [hL]; have := h.nl; show s.log.last + 1 ≤ n + 1; omega, by have := h.nq; show s.seq ≤ n + 1; omega, hn⟩, hL, hst⟩
  by_cases e : segNum (nmOf s.dir sLog) nm = 0
  ·exact h.only nm x (by rw [← hst.others nm (by simp [e])]; exact hx) hi
  ·exact .inl e
 ·exact .inr ⟨r5, ha, hd, hfl⟩
theorem OnX.disk (h : OnX F s size n (ckP s)) : Disk F s.dir n s.seq s.all := by
 obtain ⟨f, q0, m0, segs, rc, h1, h2, h3, h4, h5⟩ := h.ex
 obtain ⟨cur, c, rfl⟩ : ∃ cur c, segs = cur ++ [c] := ⟨_, _, (List.dropLast_concat_getLast h2.ne).symm⟩
 have hsg := h2.sg
 rw [h.ldir] at hsg
 have hl := h2.last
 rw [List.length_append, List.length_singleton] at hl
 refine ⟨s.base, f, q0, m0, s.log.first, [], cur, c, [], c.length, [], rc, q0, m0, hsg.rise, h1, ?_, Nat.le_refl _, by simp, by unfold headOf; simp, ⟨[], rfl, rfl, fun p hp => by simp at hp⟩, h3, ⟨rfl, rfl⟩, h4, fun _ => rfl, fun e => by rw [h5 e]; rfl, h.nb, ?_, h.nq, h.n1, fun nm x hx hi => ?_⟩
 ·rw [List.nil_append, List.append_nil]
  simpa using hsg
 ·rw [List.nil_append]
  have := h.nl
  omega
 ·rcases h.only nm x hx hi with e | ⟨e1, e2⟩ | e | e
  ·exact .inl e
  ·rcases e2 with e2 | e2
   ·exact .inr (.inl ⟨e1, e2⟩)
   ·refine .inr (.inr (.inr ?_))
    rw [e2]
    have hb : s.base ≤ 99999999 := by have := h.nb; have := h.n1; omega
    rw [baseNum_nm s.dir (by omega)]
    exact e1
  ·right; right; right
   have hb : s.base + 1 < 100000000 := by have := h.nb; have := h.n1; omega
   rw [e, baseNum_nm _ hb]
   omega
  ·exact .inr (.inr (.inl e))
end
end Go.Proofs.YtagdchgkjjpacaaGreat
