/- Plain laws of a store: Checkpoint, whatever fails. No program. -/
import Derived.Test.YtagdchgkjjpacaaGreatw44
import Derived.Test.YtagdchgkjjpacaaGreatw41
import Derived.Deep.CutBlock
import Derived.Deep.DeepCutAuto
set_option linter.unusedSimpArgs false
set_option linter.unusedVariables false
namespace Go.Proofs.YtagdchgkjjpacaaGreat
section
variable {F G : FsS} {dir : ByteArray} {size : Int} {n i : Nat} {u : Int} {s : StS}
theorem Disk.same {q : Nat} {m : Prs} (h : Disk F dir n q m) (hr : Rise slt G.files) (hf : ∀ k, G.find k = F.find k) : Disk G dir n q m :=
 h.ext hr (fun k _ _ => hf k) fun k x hx _ => .inl ⟨x, by rw [← hf k]; exact hx⟩
theorem OnX.rise (h : OnX F s size n (ckP s)) : Rise slt F.files := by
 obtain ⟨f, q0, m0, segs, rc, h1, h2, _⟩ := h.ex
 exact h2.sg.rise
theorem OnX.spoil (h : OnX F s size n (ckP s)) (st : Step (ckP s) i u F G) : Disk G s.dir n s.seq s.all := by
 have h1 : OnX { G with down := false } s size n (ckP s) := h.step (i := i) (u := u) ⟨st.rise, st.others, st.few, st.used, st.room, fun e => ⟨(st.calm e).1, h.up.symm⟩⟩ rfl
 exact h1.disk.same (st.rise h.rise) fun _ => rfl
theorem OnX.fail (h : OnX F s size n (ckP s)) : ∃ t G, failS s F (s.base + 1) 4 false = (t, G, 4) ∧ Step (ckP s) 0 0 F G ∧ ((t = s ∧ On G s size n) ∨ (G.down = true ∧ F.armed ≠ 0 ∧ Disk G s.dir n s.seq s.all)) := by
 obtain ⟨s1, e1, o1⟩ := fail_out (s := s) (N := s.base + 1) (e := 4) h.up h.rise h.free (by decide)
 obtain ⟨R, hR⟩ : ∃ R, R = failS s F (s.base + 1) 4 false := ⟨_, rfl⟩
 rw [← hR] at s1 e1 o1 ⊢
 obtain ⟨t, G, e⟩ := R
 have e1 : e = 4 := e1
 subst e1
 refine ⟨t, G, rfl, s1, ?_⟩
 rcases o1 with ⟨d, ht, g2, g1⟩ | ⟨d, _, a⟩
 ·exact .inl ⟨ht, (h.step s1 d).back (g1 (base_next _ _)) g2⟩
 ·exact .inr ⟨d, a, h.spoil s1⟩
inductive ChkOut (F : FsS) (s : StS) (size : Int) (n : Nat) (R : StS × FsS × Int) : Prop where
 | done (hR : R.2.2 = 0) (on : On R.2.1 R.1 size (n + 1)) (ha : R.1.all = s.all) (hq : R.1.seq = s.seq) (hd : R.1.dir = s.dir) (hb : R.1.base = s.base + 1) (lg : LogOn R.2.1 R.1.log [[]]) (st : Step (inDir s.dir) 4 ((imgB s.seq s.all).length + 24 : Nat) F R.2.1) : ChkOut F s size n R
 | full (hR : R.2.2 = 4) (on : On R.2.1 R.1 size (n + 1)) (ha : R.1.all = s.all) (hq : R.1.seq = s.seq) (hd : R.1.dir = s.dir) (hf : F.room - F.used < ((imgB s.seq s.all).length + 24 : Nat)) (st : Step (inDir s.dir) 4 ((imgB s.seq s.all).length + 24 : Nat) F R.2.1) : ChkOut F s size n R
 | down (hR : R.2.2 = 4 ∨ R.2.2 = 5) (hd : R.2.1.down = true) (arm : F.armed ≠ 0) (disk : Disk R.2.1 s.dir (n + 1) s.seq s.all) (few : R.2.1.files.length ≤ F.files.length + 4) : ChkOut F s size n R
theorem ckP_in {k : ByteArray} (e : ckP s k) : inDir s.dir k := by
 rcases e with e | e
 ·rw [e]; exact inDir_base _ _
 ·rw [e]; exact inDir_next _
theorem fail_five (s : StS) (F : FsS) (N : Nat) (b : Bool) : ∃ t, failS s F N 5 b = (t, F, 5) := by
 unfold failS
 rw [if_neg (fun e => e.2 rfl)]
 exact ⟨_, rfl⟩
theorem fail_done (s : StS) (F : FsS) (N : Nat) (e : Int) : failS s F N e true = ({ s with stuck := s.stuck || e == 5 }, F, e) := by
 unfold failS
 rw [if_neg (fun e => absurd e.1 (by decide))]
theorem map_fl_empty (segs : List (List UInt8)) : (segs ++ [[]]).map fl = segs.map fl ++ [⟨[] ++ [], 0⟩] := by rw [List.map_append]; rfl
theorem chk_disk {L : LogS} {q0 : Nat} {m0 : Prs} {segs rc : List (List UInt8)} (h : OnX F { s with log := L } size (n + 1) (ckP s)) (hfit : Fit s.seq s.all) (hsg : Segs F L.dir L.first ((segs ++ [[]]).map fl)) (hlast : L.last + 1 = L.first + (segs ++ [[]]).length) (hpos : 1 ≤ L.last) (hh : Holds segs rc) (hch : Chain q0 m0 rc s.seq s.all)
 (hr : Rise slt G.files) (hf : ∀ k, G.find k = if k = nmOf s.dir sNext then none else if k = nmOf s.dir sMan then some (fl (frameOf (saidB (s.base + 1) L.last))) else F.find k) (hbase : F.find (baseNm s.dir (s.base + 1)) = some (fl (imgB s.seq s.all))) (hnb : s.base ≤ n) :
 DiskA G s.dir (n + 1) s.seq s.all (s.base + 1) L.last s.seq s.all L.first segs [] [] [] 0 rc [] q0 m0 := by
 have hn1 : n + 1 ≤ 900 := h.n1
 have hnl : L.last ≤ n + 1 := h.nl
 have hnq : s.seq ≤ n + 1 := h.nq
 have hdl : L.dir = nmOf s.dir sLog := h.ldir
 have hbn : baseNum s.dir (baseNm s.dir (s.base + 1)) = s.base + 1 := baseNum_nm _ (by omega)
 have hseg : ∀ k, segNum (nmOf s.dir sLog) k ≠ 0 → G.find k = F.find k := fun k hk => by
  rw [hf, if_neg (fun e => hk (by rw [e]; exact next_seg _)), if_neg (fun e => hk (by rw [e]; exact man_seg _))]
 rw [hdl] at hsg
 refine ⟨hr, ⟨hfit, by omega, .inr ⟨by omega, by omega, hpos, by omega, ?_, ?_⟩⟩, ?_, Nat.le_refl _, by simp, by unfold headOf; simp, hh, ?_, hch, ⟨rfl, rfl⟩, fun e => by omega, fun _ => ?_, by omega, ?_, hnq, hn1, fun nm x hx hi => ?_⟩
 ·rw [hf, if_neg (man_next _), if_pos rfl]
 ·rw [hf, if_neg (base_next _ _), if_neg (fun e => man_ne_base _ _ e.symm)]
  exact hbase
 ·rw [List.append_nil, ← map_fl_empty]
  exact hsg.ext hr hseg
 ·exact Holds.empty
 ·rw [List.length_append, List.length_singleton] at hlast
  omega
 ·rw [List.append_nil]
  rw [List.length_append, List.length_singleton] at hlast
  omega
 ·rw [hf] at hx
  split at hx
  ·cases hx
  ·rename_i e1
   split at hx
   ·rename_i e2
    exact .inr (.inl ⟨by omega, e2⟩)
   ·rename_i e2
    rcases h.only nm x hx hi with e | ⟨e3, e⟩ | e | e
    ·exact .inl e
    ·rcases e with e | e
     ·exact absurd e e2
     ·right; right; right
      have e3 : s.base ≠ 0 := e3
      have e : nm = baseNm s.dir s.base := e
      rw [e, baseNum_nm _ (by omega)]
      exact e3
    ·right; right; right
     rw [e, hbn]; omega
    ·exact absurd e e1
theorem chk_tail {L : LogS} {q0 : Nat} {m0 : Prs} {segs rc : List (List UInt8)} (hD : DiskA F s.dir (n + 1) s.seq s.all (s.base + 1) L.last s.seq s.all L.first segs [] [] [] 0 rc [] q0 m0) (hd : F.down = false) (hlast : L.last = L.first + segs.length) (hdir : L.dir = nmOf s.dir sLog) (hsize : L.size = size) (hst : L.stuck = false) (hs : s.stuck = false) (hname : ∀ n, n < 100000000 → okName (segName L.dir n) = true) :
 ∃ t G e, chk4 { s with log := L, base := s.base + 1 } (s.base + 1) (cleanR s.dir (s.base + 1) (namesL (dirOf s.dir) F.files) F) = (t, G, e) ∧ Step (inDir s.dir) 0 0 F G ∧
   ((e = 0 ∧ On G t size (n + 1) ∧ t.all = s.all ∧ t.seq = s.seq ∧ t.dir = s.dir ∧ t.base = s.base + 1 ∧ LogOn G t.log [[]]) ∨ (e = 5 ∧ G.down = true ∧ F.armed ≠ 0 ∧ Disk G s.dir (n + 1) s.seq s.all)) := by
 have hr := hD.rise
 have hnb := hD.nb
 have hn1 := hD.n1
 have hbn : baseNum s.dir (baseNm s.dir (s.base + 1)) = s.base + 1 := baseNum_nm _ (by omega)
 have hsgD := hD.sg
 rw [List.append_nil] at hsgD
 have hng : ¬ Gone s.dir (s.base + 1) (nmOf s.dir sMan) := gone_not.2 ⟨man_next _, .inl (man_base _)⟩
 have hngb : ¬ Gone s.dir (s.base + 1) (baseNm s.dir (s.base + 1)) := gone_not.2 ⟨base_next _ _, .inr hbn⟩
 obtain ⟨s1, s1_or, o1⟩ := clean_out s.dir (s.base + 1) (namesL (dirOf s.dir) F.files) (F := F) (names_nodup hr) (fun k hk => by obtain ⟨⟨x, hx⟩, _⟩ := (mem_names hr).1 hk; rw [hx]; simp) hd hr
 obtain ⟨C, hC⟩ : ∃ C, C = cleanR s.dir (s.base + 1) (namesL (dirOf s.dir) F.files) F := ⟨_, rfl⟩
 rw [← hC] at s1 s1_or o1 ⊢
 obtain ⟨G1, r1⟩ := C
 have s1i := s1.mono (Q := inDir s.dir) (fun k e => gone_in e) (Nat.le_refl 0) (Int.le_refl 0)
 have hr1 := s1.rise hr
 have hbase1 : BaseIs G1 s.dir (s.base + 1) L.last s.seq s.all := hD.base.ext (s1.others _ hng) (fun _ => s1.others _ hngb)
 have hseg1 : Segs G1 (nmOf s.dir sLog) L.first ((segs ++ [[]]).map fl) := by
  rw [map_fl_empty]
  exact hsgD.ext hr1 fun k hk => s1.others k fun e => hk (gone_seg e)
 rcases o1 with ⟨e1, d1, k1, n1⟩ | ⟨e1, d1, a1⟩
 rotate_left
 ·have e1 : r1 = 5 := e1
  subst e1
  obtain ⟨ro2, a2', ma2, hD2⟩ := DiskA.cut (g := []) (hs := segs) (t' := []) (sy' := 0) hD hr1 hbase1 (by rw [List.append_nil, ← map_fl_empty]; exact hseg1) (Nat.le_refl _) (by simp) (by unfold headOf; simp) (fun nm x hx => by
   right
   have h0 : G1.find nm = F.find nm ∨ G1.find nm = none := s1_or nm
   rcases h0 with e | e
   ·rw [← e]; exact hx
   ·rw [e] at hx; cases hx)
  obtain ⟨t, ht⟩ : ∃ t, chk4 { s with log := L, base := s.base + 1 } (s.base + 1) (G1, 5) = (t, G1, 5) := by
   unfold chk4
   rw [if_pos (show (5 : Int) ≠ 0 by decide), fail_done]
   exact ⟨_, rfl⟩
  exact ⟨t, G1, 5, ht, s1i, .inr ⟨rfl, d1, a1, _, _, _, _, _, _, _, _, _, _, _, _, _, _, hD2⟩⟩
 have e1 : r1 = 0 := e1
 subst e1
 have hdg : dropLg L G1 (L.last : Int) = dropF (segs.map fl).length L G1 := by
  unfold dropLg
  rw [if_neg (by simp [hst]), if_neg (by omega), List.length_map]
  congr 1
  omega
 have hE : chk4 { s with log := L, base := s.base + 1 } (s.base + 1) (G1, 0) = failS { s with log := (dropF (segs.map fl).length L G1).1, base := s.base + 1 } (dropF (segs.map fl).length L G1).2.1 (s.base + 1) (dropF (segs.map fl).length L G1).2.2 true := by
  unfold chk4
  rw [if_neg (fun e => e rfl)]
  show chk5 _ _ (dropLg L G1 (L.last : Int)) = _
  rw [hdg]
  rfl
 rw [hE, fail_done]
 have hseg1' : Segs G1 L.dir L.first (segs.map fl ++ [fl []]) := by
  rw [hdir]
  rw [map_fl_empty] at hseg1
  exact hseg1
 obtain ⟨s2, o2⟩ := dropF_out (ds := [fl []]) (segs.map fl) hseg1' d1
 obtain ⟨D, hDD⟩ : ∃ D, D = dropF (segs.map fl).length L G1 := ⟨_, rfl⟩
 rw [← hDD] at s2 o2 ⊢
 clear hDD hE
 obtain ⟨L2, G2, r2⟩ := D
 rw [hdir] at s2
 have s12 : Step (inDir s.dir) 0 0 F G2 := by
  have := s1i.trans (s2.mono (Q := inDir s.dir) (fun k e => inDir_seg s.dir e) (Nat.le_refl 0) (Int.le_refl 0))
  simpa using this
 have oth2 : ∀ k, segNum (nmOf s.dir sLog) k = 0 → G2.find k = G1.find k := fun k e => s2.others k (by simp [e])
 have hbase2 : BaseIs G2 s.dir (s.base + 1) L.last s.seq s.all := hbase1.ext (oth2 _ (man_seg _)) (fun _ => oth2 _ (base_seg _ _))
 rw [List.length_map] at o2
 rcases o2 with ⟨e2, l2, d2, g2⟩ | ⟨e2, d2, a2, g, hs', hg, g2⟩
 rotate_left
 ·have e2 : r2 = 5 := e2
  subst e2
  obtain ⟨g', hs', rfl, rfl, rfl⟩ := List.map_eq_append_iff.1 hg
  rw [hdir, List.length_map] at g2
  obtain ⟨ro2, a2', ma2, hD2⟩ := DiskA.cut (g := g') (hs := hs') (t' := []) (sy' := 0) hD g2.rise hbase2 (by rw [List.append_nil]; exact g2) (Nat.le_refl _) (by simp) (by unfold headOf; simp) (fun nm x hx => by
   by_cases em : segNum (nmOf s.dir sLog) nm = 0
   ·right
    rw [oth2 nm em] at hx
    have h0 : G1.find nm = F.find nm ∨ G1.find nm = none := s1_or nm
    rcases h0 with e | e
    ·rw [← e]; exact hx
    ·rw [e] at hx; cases hx
   ·exact .inl em)
  exact ⟨_, _, _, rfl, s12, .inr ⟨rfl, d2, fun e => a2 (s1.calm e).1, _, _, _, _, _, _, _, _, _, _, _, _, _, _, hD2⟩⟩
 have e2 : r2 = 0 := e2
 subst e2
 have l2 : L2 = { L with first := L.first + segs.length } := l2
 have hL2f : L2.first = L.first + segs.length := by rw [l2]
 have hL2d : L2.dir = nmOf s.dir sLog := by rw [l2]; exact hdir
 have hL2l : L2.last = L.first + segs.length := by rw [l2]; exact hlast
 have hL2z : L2.size = size := by rw [l2]; exact hsize
 have hL2s : L2.stuck = false := by rw [l2]; exact hst
 have g2 : Segs G2 L.dir (L.first + segs.length) [fl []] := g2
 have d2 : G2.down = false := d2
 have hon : LogOn G2 L2 [[]] := ⟨by rw [hL2d, hL2f, ← hdir]; exact g2, by simp, by rw [hL2l, hL2f]; rfl, hL2s, d2, fun k hk => by rw [hL2d, ← hdir]; exact hname k hk⟩
 refine ⟨_, _, _, rfl, s12, .inl ⟨rfl, ⟨d2, ?_, hL2d, hL2z, ⟨L.last, s.seq, s.all, [[]], [], hbase2, hon, Holds.empty, ⟨rfl, rfl⟩, fun _ => by rw [hL2f]; exact hlast⟩, fun nm x hx hi => ?_, hD.nb, ?_, hD.nq, hD.n1⟩, rfl, rfl, rfl, rfl, hon⟩⟩
 ·show (s.stuck || (0 : Int) == 5) = false
  rw [hs]; rfl
 ·by_cases em : segNum (nmOf s.dir sLog) nm = 0
  rotate_left
  ·exact .inl em
  right
  have hx1 : G1.find nm = some x := by rw [← oth2 nm em]; exact hx
  have hng2 : ¬ Gone s.dir (s.base + 1) nm := fun eg => by
   by_cases hmem : nm ∈ namesL (dirOf s.dir) F.files
   ·rw [n1 nm hmem eg] at hx1
    cases hx1
   ·have h5 : G1.find nm = F.find nm := k1 nm (fun e => hmem e.1)
    rw [h5] at hx1
    exact hmem ((mem_names hr).2 ⟨⟨x, hx1⟩, hi⟩)
  have hxF : F.find nm = some x := by rw [← s1.others nm hng2]; exact hx1
  rcases hD.kinds nm x hxF hi with e | ⟨_, e⟩ | e | e
  ·exact absurd em e
  ·exact ⟨by show s.base + 1 ≠ 0; omega, .inl e⟩
  ·exact absurd (.inl e) hng2
  ·have h6 : baseNum s.dir nm = s.base + 1 := Classical.byContradiction fun e2 => hng2 (.inr ⟨e, e2⟩)
   refine ⟨by show s.base + 1 ≠ 0; omega, .inr ?_⟩
   have := base_of_num e
   rw [h6] at this
   exact this
 ·show L2.last ≤ n + 1
  rw [hL2l]
  have := hD.nl
  rw [List.append_nil] at this
  exact this
theorem chk_out (h : On F s size n) (hdir : DirS s.dir) (hn : n + 1 ≤ 900) (hf : F.files.length + 4 < 400) : ChkOut F s size n (chkS s F) := by
 have hfit := h.fit
 have hnb := h.nb
 have hS : chkS s F = chk0 s (s.base + 1) (laysR F (baseNm s.dir (s.base + 1)) (imgB s.seq s.all)) := by
  unfold chkS
  rw [if_neg (by simp [h.free]), h.top]
 have hr : Rise slt F.files := h.x.rise
 obtain ⟨s1, o1⟩ := lays_out h.up hr (hdir.base (s.base + 1)) h.base_none (by omega) (imgB s.seq s.all)
 rw [hS]
 clear hS
 obtain ⟨L, hL⟩ : ∃ L, L = laysR F (baseNm s.dir (s.base + 1)) (imgB s.seq s.all) := ⟨_, rfl⟩
 rw [← hL] at s1 o1 ⊢
 clear hL
 obtain ⟨F1, r1⟩ := L
 have s1k : Step (ckP s) 1 ((imgB s.seq s.all).length : Int) F F1 := s1.mono (fun k e => .inl e) (Nat.le_refl _) (Int.le_refl _)
 have hr1 : Rise slt F1.files := s1.rise hr
 have hfew1 : F1.files.length ≤ F.files.length + 1 := s1.few
 have hcast : (((imgB s.seq s.all).length + 24 : Nat) : Int) = ((imgB s.seq s.all).length : Int) + 24 := by omega
 have full0 : ∀ {G : FsS} {i : Nat} {u : Int} (st : Step (ckP s) i u F G), i ≤ 4 → u ≤ ((imgB s.seq s.all).length : Int) + 24 → Step (inDir s.dir) 4 (((imgB s.seq s.all).length + 24 : Nat) : Int) F G := fun st h1 h2 => st.mono (fun k e => ckP_in e) h1 (by rw [hcast]; exact h2)
 rcases o1 with ⟨e1, d1, x1⟩ | ⟨e1, d1, hfull, x1⟩ | ⟨e1, d1, a1⟩
 rotate_left
 ·have e1 : r1 = 4 := e1
  subst e1
  obtain ⟨t, G, hE, st, o⟩ := (h.x.step s1k d1).fail
  have hE2 : chk0 s (s.base + 1) (F1, 4) = (t, G, 4) := by unfold chk0; rw [if_pos (show (4 : Int) ≠ 0 by decide)]; exact hE
  rw [hE2]
  have st2 := full0 (s1k.trans st) (by omega) (by omega)
  rcases o with ⟨rfl, on⟩ | ⟨dn, ar, dk⟩
  ·exact .full rfl (on.mono (Nat.le_succ n) hn) rfl rfl rfl (by rw [hcast]; omega) st2
  ·exact .down (.inl rfl) dn (fun e => ar (s1k.calm e).1) (dk.mono (Nat.le_succ n) hn) st2.few
 ·have e1 : r1 = 5 := e1
  subst e1
  obtain ⟨t, ht⟩ := fail_five s F1 (s.base + 1) false
  have hE2 : chk0 s (s.base + 1) (F1, 5) = (t, F1, 5) := by unfold chk0; rw [if_pos (show (5 : Int) ≠ 0 by decide)]; exact ht
  rw [hE2]
  exact .down (.inr rfl) d1 a1 ((h.x.spoil s1k).mono (Nat.le_succ n) hn) (by show F1.files.length ≤ _; omega)
 have e1 : r1 = 0 := e1
 subst e1
 have X1 : OnX F1 s size n (ckP s) := h.x.step s1k d1
 have hC1 : chk0 s (s.base + 1) (F1, 0) = chk1 s (s.base + 1) (rotateL s.log F1) := by unfold chk0; rw [if_neg (fun e => e rfl)]
 rw [hC1]
 clear hC1
 obtain ⟨f, q0, m0, segs, rc, hb1, hlog1, hh1, hc1, hf1⟩ := X1.ex
 have hpos1 := hlog1.pos
 have hroll := X1.roll hn (by omega)
 have hrot := rotate_out hlog1 (by have := X1.nl; have := X1.n1; omega) (by omega)
 obtain ⟨P, hP⟩ : ∃ P, P = rotateL s.log F1 := ⟨_, rfl⟩
 rw [← hP] at hroll hrot ⊢
 clear hP
 obtain ⟨L2, F2, r2⟩ := P
 rcases hroll with ⟨r0, X2, hL2, s2⟩ | ⟨r5, ra, rd, rf⟩
 rotate_left
 ·have r5 : r2 = 5 := r5
  subst r5
  obtain ⟨t, ht⟩ := fail_five { s with log := L2 } F2 (s.base + 1) false
  have hE2 : chk1 s (s.base + 1) (L2, F2, 5) = (t, F2, 5) := by unfold chk1; rw [if_pos (show (5 : Int) ≠ 0 by decide)]; exact ht
  rw [hE2]
  have rf : F2.files = F1.files := rf
  exact .down (.inr rfl) rd (fun e => ra (s1k.calm e).1) ((X1.disk.same (by rw [rf]; exact hr1) fun k => find_same rf k).mono (Nat.le_succ n) hn) (by show F2.files.length ≤ _; rw [rf]; omega)
 have r0 : r2 = 0 := r0
 subst r0
 have hon : LogOn F2 L2 (segs ++ [[]]) := by
  rcases hrot with ⟨_, _, _, e⟩ | ⟨e, _⟩
  ·exact e
  ·exact absurd (show (0 : Int) = 5 from e) (by decide)
 have hL2 : L2 = { s.log with last := s.log.last + 1 } := hL2
 have s2 : Step (fun k => segNum (nmOf s.dir sLog) k ≠ 0) 1 0 F1 F2 := s2
 have X2 : OnX F2 { s with log := L2 } size (n + 1) (ckP s) := X2
 clear hrot
 have hr2 : Rise slt F2.files := s2.rise hr1
 have hfew2 : F2.files.length ≤ F1.files.length + 1 := s2.few
 have hbase2 : F2.find (baseNm s.dir (s.base + 1)) = some (fl (imgB s.seq s.all)) := by rw [s2.others _ (by rw [base_seg]; simp)]; exact x1
 have hnext2 : F2.find (nmOf s.dir sNext) = none := by rw [s2.others _ (by rw [next_seg]; simp), s1.others _ (fun e => base_next _ _ e.symm)]; exact h.next_none
 have hC2 : chk1 s (s.base + 1) (L2, F2, 0) = chk2 { s with log := L2 } (s.base + 1) (laysR F2 (nmOf s.dir sNext) (frameOf (saidB (s.base + 1) L2.last))) := by unfold chk1; rw [if_neg (fun e => e rfl)]
 rw [hC2]
 clear hC2
 have hsl : (frameOf (saidB (s.base + 1) L2.last)).length = 24 := by rw [frameOf_len, said_len]
 obtain ⟨s3, o3⟩ := lays_out X2.up hr2 hdir.next hnext2 (by omega) (frameOf (saidB (s.base + 1) L2.last))
 rw [hsl] at s3 o3
 obtain ⟨P, hP⟩ : ∃ P, P = laysR F2 (nmOf s.dir sNext) (frameOf (saidB (s.base + 1) L2.last)) := ⟨_, rfl⟩
 rw [← hP] at s3 o3 ⊢
 clear hP
 obtain ⟨F3, r3⟩ := P
 have s3k : Step (ckP { s with log := L2 }) 1 24 F2 F3 := s3.mono (fun k e => .inr e) (Nat.le_refl _) (by decide)
 have s13 : Step (inDir s.dir) 3 ((imgB s.seq s.all).length + 24) F F3 := by
  have a1 := (s1k.mono (Q := inDir s.dir) (fun k e => ckP_in e) (Nat.le_refl 1) (Int.le_refl _)).trans (s2.mono (Q := inDir s.dir) (fun k e => inDir_seg s.dir e) (Nat.le_refl 1) (Int.le_refl 0))
  have a2 := a1.trans (s3k.mono (Q := inDir s.dir) (fun k e => ckP_in e) (Nat.le_refl 1) (Int.le_refl _))
  exact a2.mono (fun _ e => e) (Nat.le_refl _) (by omega)
 have ar2 : F2.armed ≠ 0 → F.armed ≠ 0 := fun e e2 => e (s2.calm (s1k.calm e2).1).1
 have hfew3 : F3.files.length ≤ F.files.length + 3 := s13.few
 have hr3 : Rise slt F3.files := s3.rise hr2
 rcases o3 with ⟨e3, d3, x3⟩ | ⟨e3, d3, hfull, x3⟩ | ⟨e3, d3, a3⟩
 rotate_left
 ·have e3 : r3 = 4 := e3
  subst e3
  have X3 : OnX F3 { s with log := L2 } size (n + 1) (ckP { s with log := L2 }) := OnX.step X2 s3k d3
  obtain ⟨t, G, hE, st, o⟩ := X3.fail
  have hE2 : chk2 { s with log := L2 } (s.base + 1) (F3, 4) = (t, G, 4) := by unfold chk2; rw [if_pos (show (4 : Int) ≠ 0 by decide)]; exact hE
  rw [hE2]
  have st2 : Step (inDir s.dir) 4 (((imgB s.seq s.all).length + 24 : Nat) : Int) F G := (s13.trans (st.mono (Q := inDir s.dir) (fun k e => ckP_in e) (Nat.le_refl 0) (Int.le_refl 0))).mono (fun _ e => e) (by omega) (by omega)
  rcases o with ⟨rfl, on⟩ | ⟨dn, ar, dk⟩
  ·refine .full rfl on rfl rfl rfl ?_ st2
   have h1 : F2.room - F2.used < ((24 : Nat) : Int) := hfull
   have h2 := s2.used
   have h3 := s1k.used
   have h4 := s2.room
   have h5 := s1k.room
   omega
  ·exact .down (.inl rfl) dn (fun e => ar (s13.calm e).1) dk st2.few
 ·have e3 : r3 = 5 := e3
  subst e3
  obtain ⟨t, ht⟩ := fail_five { s with log := L2 } F3 (s.base + 1) false
  have hE2 : chk2 { s with log := L2 } (s.base + 1) (F3, 5) = (t, F3, 5) := by unfold chk2; rw [if_pos (show (5 : Int) ≠ 0 by decide)]; exact ht
  rw [hE2]
  exact .down (.inr rfl) d3 (ar2 a3) (OnX.spoil (s := { s with log := L2 }) X2 s3k) (by show F3.files.length ≤ _; omega)
 have e3 : r3 = 0 := e3
 subst e3
 have X3 : OnX F3 { s with log := L2 } size (n + 1) (ckP { s with log := L2 }) := OnX.step X2 s3k d3
 have hC3 : chk2 { s with log := L2 } (s.base + 1) (F3, 0) = chk3 { s with log := L2 } (s.base + 1) (F3.rename (nmOf s.dir sNext) (nmOf s.dir sMan)) := by unfold chk2; rw [if_neg (fun e => e rfl)]
 rw [hC3]
 clear hC3
 have d3 : F3.down = false := d3
 obtain ⟨s4, o4⟩ := rename_1 d3 hr3 x3 hdir.man (fun e => man_next _ e.symm)
 obtain ⟨P, hP⟩ : ∃ P, P = F3.rename (nmOf s.dir sNext) (nmOf s.dir sMan) := ⟨_, rfl⟩
 rw [← hP] at s4 o4 ⊢
 clear hP
 obtain ⟨F4, r4⟩ := P
 have s14 : Step (inDir s.dir) 4 (((imgB s.seq s.all).length + 24 : Nat) : Int) F F4 := (s13.trans (s4.mono (Q := inDir s.dir) (fun k e => by rcases e with e | e; rw [e]; exact inDir_next _; rw [e]; exact inDir_man _) (Nat.le_refl 1) (Int.le_refl 0))).mono (fun _ e => e) (by omega) (by omega)
 have hr4 : Rise slt F4.files := s4.rise hr3
 rcases o4 with ⟨e4, d4, f4⟩ | ⟨e4, d4, a4, f4⟩
 rotate_left
 ·have e4 : r4 = 5 := e4
  subst e4
  obtain ⟨t, ht⟩ := fail_five { s with log := L2 } F4 (s.base + 1) false
  have hE2 : chk3 { s with log := L2 } (s.base + 1) (F4, 5) = (t, F4, 5) := by unfold chk3; rw [if_pos (show (5 : Int) ≠ 0 by decide)]; exact ht
  rw [hE2]
  exact .down (.inr rfl) d4 (fun e => a4 (s13.calm e).1) (X3.disk.same hr4 f4) s14.few
 have e4 : r4 = 0 := e4
 subst e4
 have hC4 : chk3 { s with log := L2 } (s.base + 1) (F4, 0) = chk4 { s with log := L2, base := s.base + 1 } (s.base + 1) (cleanR s.dir (s.base + 1) (namesL (dirOf s.dir) F4.files) F4) := by unfold chk3; rw [if_neg (fun e => e rfl)]
 rw [hC4]
 clear hC4
 have hdl : L2.dir = nmOf s.dir sLog := X2.ldir
 have hlastL : L2.last + 1 = L2.first + (segs ++ [[]]).length := hon.last
 have hseg3 : Segs F3 L2.dir L2.first ((segs ++ [[]]).map fl) := hon.sg.ext hr3 fun k hk => s3.others k fun e => hk (by rw [hdl]; rw [show k = nmOf s.dir sNext from e]; exact next_seg _)
 have hbase3 : F3.find (baseNm s.dir (s.base + 1)) = some (fl (imgB s.seq s.all)) := by rw [s3.others _ (base_next _ _)]; exact hbase2
 have hD := chk_disk (L := L2) X3 hfit hseg3 hlastL hon.pos.1 hh1 hc1 hr4 f4 hbase3 hnb
 have d4 : F4.down = false := d4
 obtain ⟨t, G, e, hE, st, o⟩ := chk_tail (size := size) hD d4 (by rw [List.length_append, List.length_singleton] at hlastL; omega) hdl (by rw [hL2]; exact h.lsize) hon.free h.free hon.name
 rw [hE]
 have st2 : Step (inDir s.dir) 4 (((imgB s.seq s.all).length + 24 : Nat) : Int) F G := (s14.trans st).mono (fun _ e => e) (by omega) (by omega)
 rcases o with ⟨rfl, on, ha, hq, hd, hb, lg⟩ | ⟨rfl, dn, ar, dk⟩
 ·exact .done rfl on ha hq hd hb lg st2
 ·exact .down (.inr rfl) dn (fun e => ar (s14.calm e).1) dk st2.few
end
set_option linter.unusedSectionVars false
open Go.RowKit Go.Shelf
def batV (l : List Chg) : Nat := 3000 + batW l
theorem flat_weigh {l : List Chg} (h : chkB l = 0) : (l.flatMap chgB).length ≤ batV l := by
 obtain ⟨h1, h2⟩ := chkB_ok h
 have h3 : ∀ l : List Chg, (∀ c ∈ l, 1 ≤ c.key.size ∧ c.key.size ≤ 200 ∧ (c.drop = false → c.val.size ≤ 65536)) → (l.flatMap chgB).length ≤ 6 * l.length + batW l := by
  intro l
  induction l with
  | nil => intro _; simp
  | cons c l ih =>
    intro hl
    have h1 := hl c (by simp)
    have h2 := ih fun c hc => hl c (by simp [hc])
    have h4 : batW (c :: l) = chgW c + batW l := by simp [batW]
    have h5 : chgW c = min c.key.size 20000 + min c.val.size 80000 := rfl
    rw [List.flatMap_cons, List.length_append, chgB_len, List.length_cons, h4, h5]
    split
    ·omega
    ·rename_i hd
     have := h1.2.2 (by simpa using hd)
     omega
 have := h3 l h2
 unfold batV
 omega
theorem encB_zero {q : Nat} {l : List Chg} (h : (encB ((q : Int) + 1) l).2 = 0) : chkB l = 0 ∧ (batB (q + 1) l).length ≤ 1048576 := by
 rw [encB_seq] at h
 by_cases hc : chkB l = 0
 ·rw [if_neg (by simp [hc])] at h
  by_cases hl : 1048576 < (batB (q + 1) l).length
  ·rw [if_pos hl] at h; cases h
  ·exact ⟨hc, by omega⟩
 ·rw [if_pos hc] at h
  exact absurd h hc
structure Sto (w0 w : World) (fb : Nat) (dir : ByteArray) (size : Int) (n c V : Nat) (F : FsS) (S : Nat → Prop) (lb sb tb : Nat) (s : StS) : Prop where
 db : Db w0 w fb F (1600 * c) S lb sb tb s (600000000 + 500 * c)
 on : On F s size n
 dir : s.dir = dir
 few : F.files.length ≤ 4 * n + 2
 used : F.used ≤ 810000 * (n : Int)
 wt : wgt s.all ≤ V
def StoU (S : Nat → Prop) (lb sb tb : Nat) (i : Nat) : Prop := S i ∨ i = lb ∨ i = sb ∨ i = tb
section
variable {w0 w w' : World} {fb n c V lb sb tb k N : Nat} {dir : ByteArray} {size : Int} {F G : FsS} {S : Nat → Prop} {s : StS} {l : List Chg}
theorem Db.notU (h : Db w0 w fb F k S lb sb tb s N) {b : Nat} {cs : Array Value} {T : TypeId} (hb : IsBlk w b cs T) (h1 : T ≠ 102) (h2 : T ≠ 107) (h3 : T ≠ 5) (h4 : T ≠ 165) (h5 : T ≠ 126) (h6 : T ≠ 160) : ¬ StoU S lb sb tb b := by
 obtain ⟨t, ver, ⟨root, ht, _⟩, _⟩ := h.st.tab
 rintro (e | e | e | e)
 ·exact h.pure.not hb h1 h2 h3 e
 ·exact blk_ne_type hb h.lg.log.blk h4 e
 ·exact blk_ne_type hb h.st.blk h5 e
 ·exact blk_ne_type hb ht h6 e
theorem Db.lowU (h : Db w0 w fb F k S lb sb tb s N) {b : Nat} (hb : b < w0.heap.size) : ¬ StoU S lb sb tb b := by
 rintro (e | e | e | e)
 ·have := h.lg.hd.low _ e; omega
 ·have := h.lg.log.low; omega
 ·have := h.low.1; omega
 ·have := h.low.2; omega
theorem Db.args (h : Db w0 w fb F k S lb sb tb s N) {a : Option Addr} {cap : Nat} (hr : RdAt chgKind w0 (.slice a l.length cap) l) (hl : l ≠ []) : ∀ g, (Value.slice a l.length cap).ownBlock = some g → ¬ S g ∧ g ≠ lb ∧ g ≠ sb ∧ g ≠ tb := fun g hg => by
 obtain ⟨off, x, hx⟩ := hr.first hl hg
 have h0 : ∃ u, w0.cell? ⟨g, off, none⟩ = some u := by
  rw [hx, List.getElem?_eq_getElem (by rw [chgKind.len]; exact chgKind.pos)]; exact ⟨_, rfl⟩
 obtain ⟨u, hu⟩ := h0
 have h2 := h.lowU (World.block_lt_of_cell? w0 _ hu)
 exact ⟨fun e => h2 (.inl e), fun e => h2 (.inr (.inl e)), fun e => h2 (.inr (.inr (.inl e))), fun e => h2 (.inr (.inr (.inr e)))⟩
theorem disk_last {q : Nat} {m : Prs} (h : Disk F dir n q m) (hdir : DirS dir) (h16 : 16 ≤ size) (h20 : size ≤ 1048576) (hd : F.down = false) (h0 : (openL F (nmOf dir sLog) size).2.2.2 = 0) : (openL F (nmOf dir sLog) size).2.1.last ≤ 1000 := by
 obtain ⟨b, f, q0, m0, first, old, cur, cc, t, sy, ro, rc, a, ma, d⟩ := h
 have ho := d.log (size := size) (hdir.seg 1) h16 h20 hd
 have hl := d.nl
 have hn := d.n1
 rcases ho.out with ⟨cut, e, _⟩ | ⟨e, _⟩
 ·rw [e]
  show first + (old ++ cur).length ≤ 1000
  omega
 ·rw [e] at h0
  cases h0
theorem open_disk {q : Nat} {m : Prs} (h : Hd w0 w fb F (1600 * c) S) (hD : Disk F dir n q m) (hdir : DirS dir) (h16 : 16 ≤ size) (h20 : size ≤ 1048576) (hd : F.down = false) (hc : c ≤ 400) :
 Calls Tryz.prog 24 #[.pointer (some ⟨fb, 0, none⟩), .string dir, .agg #[.int .i64 size]] w fun e w' => OpenOut F dir size n q m (openS F dir size) ∧ OpnPost w0 w fb (PS S w) (1600 * (c + 1)) (openS F dir size) e w' := by
 have ho := sopen_out (size := size) hD hdir h16 h20 hd
 refine (st_open2 h.ps (PS.pure _ _) (by omega) dir (by have := hdir.small; omega) size (fun h0 => disk_last hD hdir h16 h20 hd h0)).mono fun e w' hp => ⟨ho, ?_⟩
 refine ⟨hp.1, ?_⟩
 rcases hp.2 with ⟨s, lb, sb, tb, T, e1, e2, e3, hdb, hT⟩ | ⟨e1, e2, e3, T, e4, e5, e6⟩
 ·exact .inl ⟨s, lb, sb, tb, T, e1, e2, e3, hdb.more (by omega) (Nat.le_refl _), hT⟩
 ·exact .inr ⟨e1, e2, e3, T, e4, ⟨e5.fs, e5.low, e5.below, e5.ok.mono (by omega)⟩, e6⟩
theorem open_fresh (h : Hd w0 w fb F (1600 * c) S) (hcc : c ≤ 400) (hno : ∀ k x, F.find k = some x → ¬ inDir dir k) (hdir : DirS dir) (h16 : 16 ≤ size) (h20 : size ≤ 1048576) (hd : F.down = false) (ha : F.armed = 0) (hf : F.files.length ≤ 5) (hu : F.used ≤ 810000) :
 Calls Tryz.prog 24 #[.pointer (some ⟨fb, 0, none⟩), .string dir, .agg #[.int .i64 size]] w fun e w' => ∃ G T lb sb tb s, e = .returned (.tuple #[.pointer (some ⟨sb, 0, none⟩), .int .i64 0]) ∧ Sto w0 w' fb dir size 1 (c + 1) 0 G T lb sb tb s ∧ s.all = [] ∧ s.seq = 0 ∧ G.armed = 0 ∧ G.room = F.room ∧ Keeps (PS S w) w w' ∧ ((∀ i, T i → S i ∨ w.heap.size ≤ i) ∧ w.heap.size ≤ lb ∧ w.heap.size ≤ sb ∧ w.heap.size ≤ tb) ∧ G.used = F.used ∧ G.files = putL slt F.files (segName (nmOf dir sLog) 1) (fl []) := by
 obtain ⟨G, s, hO, hon, h1, h2, h3, h4, h5, h6, h7⟩ := sopen_fresh (size := size) (n := 1) h.ok.rise hno hdir h16 h20 hd ha (by omega) (by omega) (by omega)
 have hsg : Segs F (nmOf dir sLog) 1 [] := ⟨h.ok.rise, Nat.le_refl _, by simp, fun i d hi => by simp at hi, fun k x hx hk => absurd (inDir_seg dir hk) (hno k x hx)⟩
 obtain ⟨G2, e1, _⟩ := open_none hsg hdir.log h16 h20 hd ha (by omega)
 have hfl : G.files.length ≤ F.files.length + 1 := by rw [h7]; exact put_len_le h.ok.rise _ _
 refine (st_open2 h.ps (PS.pure _ _) (by omega) dir (by have := hdir.small; omega) size (fun _ => by rw [e1]; show (1 : Nat) ≤ 1000; decide)).mono fun e w' hp => ?_
 rw [hO] at hp
 rcases hp with ⟨hkp, ⟨s2, lb, sb, tb, T, k1, k2, k3, hdb, hT, k4, k5, k6⟩ | ⟨k1, _⟩⟩
 ·obtain rfl : s = s2 := Option.some.inj k1
  refine ⟨G, T, lb, sb, tb, s, k3, ⟨hdb.more (by omega) (by omega), hon, h1, by omega, by rw [h6]; omega, by rw [h3]; exact Nat.le_refl _⟩, h3, h2, h4, h5, hkp, ⟨fun i hi => ?_, k4, k5, k6⟩, h6, h7⟩
  rcases hT i hi with e | e
  ·exact .inl e.1
  ·exact .inr e
 ·cases k1
theorem Disk.apart {q : Nat} {m : Prs} (h : Disk F dir n q m) (hr : Rise slt G.files) (ho : ∀ k, inDir dir k → G.find k = F.find k) : Disk G dir n q m :=
 h.ext hr (fun k hk _ => ho k hk) fun k x hx hi => .inl ⟨x, by rw [← ho k hi]; exact hx⟩
end
abbrev nmDb : ByteArray := ⟨#[100, 98]⟩
theorem dirS_db : DirS nmDb := ⟨by decide, by decide, by decide, by decide⟩
def batsV (ls : List (List Chg)) (i : Nat) : Nat := ((ls.take i).map batV).sum
theorem batsV_zero (ls : List (List Chg)) : batsV ls 0 = 0 := by simp [batsV]
theorem batsV_next {ls : List (List Chg)} {i : Nat} {l : List Chg} (h : ls[i]? = some l) : batsV ls (i + 1) = batsV ls i + batV l := sum_take batV ls h
theorem sumV : ∀ ls : List (List Chg), (ls.map batV).sum = 3000 * ls.length + batsW ls
 | [] => by simp [batsW]
 | l :: ls => by
   have h := sumV ls
   have h2 : batsW (l :: ls) = batW l + batsW ls := by simp [batsW]
   rw [List.map_cons, List.sum_cons, h, h2, List.length_cons]
   unfold batV
   omega
theorem batsW_take : ∀ (ls : List (List Chg)) (i : Nat), batsW (ls.take i) ≤ batsW ls
 | [], i => by simp
 | l :: ls, 0 => by simp [batsW]
 | l :: ls, i + 1 => by
   have h := batsW_take ls i
   have h2 : batsW (l :: ls) = batW l + batsW ls := by simp [batsW]
   have h3 : batsW (l :: ls.take i) = batW l + batsW (ls.take i) := by simp [batsW]
   rw [List.take_succ_cons, h2, h3]
   omega
theorem FewB.small {ls : List (List Chg)} (h : FewB ls) (i : Nat) : batsV ls i ≤ 200000 := by
 unfold batsV
 rw [sumV]
 have h1 := batsW_take ls i
 have h2 := h.sum
 have h3 := h.len
 have h4 : (ls.take i).length ≤ ls.length := by rw [List.length_take]; omega
 omega
end Go.Proofs.YtagdchgkjjpacaaGreat
