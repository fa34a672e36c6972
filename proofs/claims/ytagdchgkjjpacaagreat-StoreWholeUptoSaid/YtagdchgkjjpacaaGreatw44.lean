/- Plain laws of a store: Open. No program. -/
import Derived.Test.YtagdchgkjjpacaaGreatw43
set_option linter.unusedSimpArgs false
set_option linter.unusedVariables false
namespace Go.Proofs.YtagdchgkjjpacaaGreat
section
variable {F G : FsS} {dir : ByteArray} {size : Int} {first sy n q b f q0 a : Nat} {m m0 ma : Prs} {ds os : List FileS} {d : FileS} {old cur ro rc : List (List UInt8)} {c t : List UInt8}
theorem Segs.tailF (h : Segs F dir first (d :: ds)) (hr : Rise slt G.files) (hfp : ∀ k, G.find k = if k = segName dir first then none else F.find k) : Segs G dir (first + 1) ds := by
 have htop := h.top
 rw [List.length_cons] at htop
 refine ⟨hr, by omega, by omega, fun j e hj => ?_, fun k x hx hn => ?_⟩
 ·have hl := (List.getElem?_eq_some_iff.1 hj).1
  rw [hfp, if_neg (fun e2 => by have := segName_inj dir (by omega) (by omega) e2; omega)]
  have := h.at_ (j + 1) e (by simpa using hj)
  rwa [show first + 1 + j = first + (j + 1) by omega]
 ·rw [hfp] at hx
  split at hx
  ·cases hx
  ·rename_i hne
   have := h.only k x hx hn
   rw [List.length_cons] at this
   have h2 : segNum dir k ≠ first := fun e => hne (by have := name_of_num dir k hn; rw [e] at this; exact this)
   omega
structure DropOut (F : FsS) (L : LogS) (os ds : List FileS) (R : LogS × FsS × Int) : Prop where
 step : Step (fun k => segNum L.dir k ≠ 0) 0 0 F R.2.1
 out : (R.2.2 = 0 ∧ R.1 = { L with first := L.first + os.length } ∧ R.2.1.down = false ∧ Segs R.2.1 L.dir (L.first + os.length) ds) ∨
   (R.2.2 = 5 ∧ R.2.1.down = true ∧ F.armed ≠ 0 ∧ ∃ g hs, os = g ++ hs ∧ Segs R.2.1 L.dir (L.first + g.length) (hs ++ ds))
theorem dropF_out : ∀ (os : List FileS) {F : FsS} {L : LogS}, Segs F L.dir L.first (os ++ ds) → F.down = false → DropOut F L os ds (dropF os.length L F)
 | [], F, L, h, hd => ⟨Step.refl _ _, .inl ⟨rfl, rfl, hd, h⟩⟩
 | o :: os, F, L, h, hd => by
   have hx : F.find (segName L.dir L.first) = some o := h.at_ 0 o rfl
   have htop := h.top
   simp only [List.cons_append, List.length_cons] at htop
   have hn : segNum L.dir (segName L.dir L.first) = L.first := segNum_name L.dir (by omega)
   have hpos := h.pos
   obtain ⟨s1, o1⟩ := remove_1 hd h.rise hx
   have s1' : Step (fun k => segNum L.dir k ≠ 0) 0 0 F (F.remove (segName L.dir L.first)).1 := s1.mono (fun k e => by rw [e, hn]; omega) (by omega) (by omega)
   simp only [List.length_cons, dropF]
   rcases o1 with ⟨e1, d1, f1⟩ | ⟨e1, d1, a1, f1⟩
   ·rw [if_pos e1]
    have h2 : Segs (F.remove (segName L.dir L.first)).1 L.dir (L.first + 1) (os ++ ds) := h.tailF (s1.rise h.rise) f1
    obtain ⟨s2, o2⟩ := dropF_out os (F := (F.remove (segName L.dir L.first)).1) (L := { L with first := L.first + 1 }) h2 d1
    refine ⟨by have := s1'.trans s2; simpa using this, ?_⟩
    rcases o2 with ⟨e2, r2, d2, g2⟩ | ⟨e2, d2, a2, g, hs, hg, g2⟩
    ·refine .inl ⟨e2, by rw [r2]; simp only [List.length_cons]; rw [show L.first + 1 + os.length = L.first + (os.length + 1) by omega], d2, ?_⟩
     rw [List.length_cons, show L.first + (os.length + 1) = L.first + 1 + os.length by omega]
     exact g2
    ·refine .inr ⟨e2, d2, fun e => ?_, o :: g, hs, by rw [hg]; rfl, ?_⟩
     ·exact a2 (s1.calm e).1
     ·rw [List.length_cons, show L.first + (g.length + 1) = L.first + 1 + g.length by omega]
      exact g2
   ·rw [if_neg (by rw [e1]; decide)]
    refine ⟨s1', .inr ⟨e1, d1, a1, [], o :: os, rfl, ?_⟩⟩
    exact h.ext (s1.rise h.rise) fun k _ => f1 k
theorem DiskA.replay {n : Nat} {a : Nat} (h : DiskA F dir n q m b f q0 m0 first old cur c t sy ro rc a ma) : replayR (ro ++ rc) q0 m0 = some (q, m) := by
 rw [replay_skip (by have := h.base.q1; omega) h.chO (Nat.le_refl _)]
 exact replay_do h.chC
theorem DiskA.holds {n : Nat} {a : Nat} (h : DiskA F dir n q m b f q0 m0 first old cur c t sy ro rc a ma) : Holds ((old ++ cur) ++ [c]) (ro ++ rc) := by
 rw [List.append_assoc]
 exact h.holdO.join h.holdC
theorem DiskA.log {n : Nat} {a : Nat} (h : DiskA F dir n q m b f q0 m0 first old cur c t sy ro rc a ma) (hok : okName (segName (nmOf dir sLog) 1) = true) (h16 : 16 ≤ size) (h20 : size ≤ 1048576) (hd : F.down = false) :
 LogOut F (nmOf dir sLog) size first (old ++ cur) (ro ++ rc) c t (openL F (nmOf dir sLog) size) := open_log h.sg h.sy1 h.sy2 h.holds h.torn hok h16 h20 hd
def Gone (dir : ByteArray) (b : Nat) (k : ByteArray) : Prop := k = nmOf dir sNext ∨ (baseNum dir k ≠ 0 ∧ baseNum dir k ≠ b)
theorem gone_not {k : ByteArray} : ¬ Gone dir b k ↔ k ≠ nmOf dir sNext ∧ (baseNum dir k = 0 ∨ baseNum dir k = b) := by
 unfold Gone
 constructor
 ·intro h
  refine ⟨fun e => h (.inl e), ?_⟩
  by_cases e : baseNum dir k = 0
  ·exact .inl e
  ·exact .inr (Classical.byContradiction fun e2 => h (.inr ⟨e, e2⟩))
 ·rintro ⟨h1, h2⟩ (e | e)
  ·exact h1 e
  ·rcases h2 with h2 | h2
   ·exact e.1 h2
   ·exact e.2 h2
structure CleanOut (dir : ByteArray) (b : Nat) (names : List ByteArray) (F : FsS) (R : FsS × Int) : Prop where
 step : Step (Gone dir b) 0 0 F R.1
 or_ : ∀ k, R.1.find k = F.find k ∨ R.1.find k = none
 out : (R.2 = 0 ∧ R.1.down = false ∧ (∀ k, ¬ (k ∈ names ∧ Gone dir b k) → R.1.find k = F.find k) ∧ ∀ k, k ∈ names → Gone dir b k → R.1.find k = none) ∨ (R.2 = 5 ∧ R.1.down = true ∧ F.armed ≠ 0)
theorem clean_out (dir : ByteArray) (b : Nat) : ∀ (names : List ByteArray) {F : FsS}, names.Nodup → (∀ k, k ∈ names → F.find k ≠ none) → F.down = false → Rise slt F.files → CleanOut dir b names F (cleanR dir b names F)
 | [], F, _, _, hd, _ => ⟨Step.refl _ _, fun _ => .inl rfl, .inl ⟨rfl, hd, fun _ _ => rfl, fun k hk => by simp at hk⟩⟩
 | k :: r, F, hn, hx, hd, hr => by
   have hn2 := List.nodup_cons.1 hn
   by_cases hg : Gone dir b k
   ·have hg2 : ¬ (k ≠ nmOf dir sNext ∧ (baseNum dir k = 0 ∨ baseNum dir k = b)) := fun e => gone_not.2 e hg
    simp only [cleanR]
    rw [if_neg hg2]
    obtain ⟨x, hx0⟩ : ∃ x, F.find k = some x := by
     cases h : F.find k with
     | none => exact absurd h (hx k (List.mem_cons_self ..))
     | some x => exact ⟨x, rfl⟩
    obtain ⟨s1, o1⟩ := remove_1 hd hr hx0
    have s1' : Step (Gone dir b) 0 0 F (F.remove k).1 := s1.mono (fun m e => by rw [e]; exact hg) (by omega) (by omega)
    rcases o1 with ⟨e1, d1, f1⟩ | ⟨e1, d1, a1, f1⟩
    ·rw [if_pos e1]
     obtain ⟨s2, oo, o2⟩ := clean_out dir b r (F := (F.remove k).1) hn2.2 (fun j hj => by rw [f1, if_neg (fun (e : j = k) => hn2.1 (by rw [← e]; exact hj))]; exact hx j (List.mem_cons_of_mem _ hj)) d1 (s1.rise hr)
     refine ⟨by have := s1'.trans s2; simpa using this, fun j => ?_, ?_⟩
     ·rcases oo j with e | e
      ·rw [e, f1]
       split
       ·exact .inr rfl
       ·exact .inl rfl
      ·exact .inr e
     rcases o2 with ⟨e2, d2, k2, g2⟩ | ⟨e2, d2, a2⟩
     ·refine .inl ⟨e2, d2, fun j hj => ?_, fun j hj hgj => ?_⟩
      ·have hjk : j ≠ k := fun e => hj ⟨by rw [e]; exact List.mem_cons_self .., by rw [e]; exact hg⟩
       rw [k2 j (fun e => hj ⟨List.mem_cons_of_mem _ e.1, e.2⟩), f1, if_neg hjk]
      ·by_cases hjr : j ∈ r
       ·exact g2 j hjr hgj
       ·have hjk : j = k := by rcases List.mem_cons.1 hj with e | e; exact e; exact absurd e hjr
        rw [k2 j (fun e => hjr e.1), f1, if_pos hjk]
     ·exact .inr ⟨e2, d2, fun e => a2 (s1.calm e).1⟩
    ·rw [if_neg (by rw [e1]; decide)]
     exact ⟨s1', fun j => .inl (f1 j), .inr ⟨e1, d1, a1⟩⟩
   ·have hg2 := gone_not.1 hg
    simp only [cleanR]
    rw [if_pos hg2]
    obtain ⟨s2, oo, o2⟩ := clean_out dir b r (F := F) hn2.2 (fun j hj => hx j (List.mem_cons_of_mem _ hj)) hd hr
    refine ⟨s2, oo, ?_⟩
    rcases o2 with ⟨e2, d2, k2, g2⟩ | ⟨e2, d2, a2⟩
    ·refine .inl ⟨e2, d2, fun j hj => k2 j (fun e => hj ⟨List.mem_cons_of_mem _ e.1, e.2⟩), fun j hj hgj => ?_⟩
     rcases List.mem_cons.1 hj with e | e
     ·rw [e] at hgj; exact absurd hgj hg
     ·exact g2 j e hgj
    ·exact .inr ⟨e2, d2, a2⟩
theorem Holds.cut {g hs want : List (List UInt8)} (h : Holds (g ++ hs) want) : ∃ r1 r2, want = r1 ++ r2 ∧ Holds hs r2 := by
 obtain ⟨rss, h1, h2, h3⟩ := h
 obtain ⟨x, y, hxy, hx, hy⟩ := List.append_eq_map_iff.1 h1
 refine ⟨x.flatten, y.flatten, by rw [← h2, hxy, List.flatten_append], y, hy.symm, rfl, fun p hp => h3 p ?_⟩
 rw [← h2, hxy, List.flatten_append]
 exact List.mem_append_right _ hp
theorem DiskA.cut {n a sy' : Nat} {g hs : List (List UInt8)} {t' : List UInt8} (h : DiskA F dir n q m b f q0 m0 first (g ++ hs) cur c t sy ro rc a ma) (hr : Rise slt G.files) (hb : BaseIs G dir b f q0 m0) (hsg : Segs G (nmOf dir sLog) (first + g.length) ((hs ++ cur).map fl ++ [⟨c ++ t', sy'⟩]))
 (s1 : c.length ≤ sy') (s2 : sy' ≤ c.length + t'.length) (ht : headOf t' = none) (hk : ∀ nm x, G.find nm = some x → segNum (nmOf dir sLog) nm ≠ 0 ∨ F.find nm = some x) :
 ∃ ro2 a2 ma2, DiskA G dir n q m b f q0 m0 (first + g.length) hs cur c t' sy' ro2 rc a2 ma2 := by
 obtain ⟨r1, r2, e, h2⟩ := h.holdO.cut
 have hc := h.chO
 rw [e] at hc
 obtain ⟨a2, ma2, _, hc2⟩ := hc.split
 refine ⟨r2, a2, ma2, hr, hb, hsg, s1, s2, ht, h2, h.holdC, hc2, h.chC, fun e => ?_, fun e => ?_, h.nb, ?_, h.nq, h.n1, fun nm x hx hi => ?_⟩
 ·have := h.none_ e
  exact (List.append_eq_nil_iff.1 this).2
 ·have := h.some_ e
  rw [List.length_append] at this
  omega
 ·have := h.nl
  simp only [List.length_append] at this ⊢
  omega
 ·rcases hk nm x hx with e | e
  ·exact .inl e
  ·exact h.kinds nm x e hi
theorem mem_names {front k : ByteArray} (hr : Rise slt F.files) : k ∈ namesL front F.files ↔ (∃ x, F.find k = some x) ∧ Lib.hasPrefix (tx k) (tx front) = true := by
 unfold namesL
 rw [List.mem_map]
 constructor
 ·rintro ⟨⟨k2, x⟩, h1, rfl⟩
  have h2 := List.mem_filter.1 h1
  exact ⟨⟨x, (mem_files hr).1 h2.1⟩, h2.2⟩
 ·rintro ⟨⟨x, hx⟩, h2⟩
  exact ⟨(k, x), List.mem_filter.2 ⟨(mem_files hr).2 hx, h2⟩, rfl⟩
theorem names_nodup {front : ByteArray} (hr : Rise slt F.files) : (namesL front F.files).Nodup := by
 unfold namesL
 unfold Rise at hr
 refine List.Pairwise.map _ (fun x y (hxy : slt x.1 y.1 = true) e => ?_) (List.Pairwise.filter _ hr)
 rw [e, slt_ord.irr] at hxy
 cases hxy
theorem gone_in {k : ByteArray} (h : Gone dir b k) : inDir dir k := by
 rcases h with e | e
 ·rw [e]; exact inDir_next dir
 ·rw [base_of_num e.1]; exact inDir_base dir _
theorem gone_seg {k : ByteArray} (h : Gone dir b k) : segNum (nmOf dir sLog) k = 0 := by
 rcases h with e | e
 ·rw [e]; exact next_seg dir
 ·rw [base_of_num e.1]; exact base_seg dir _
structure OpenOut (F : FsS) (dir : ByteArray) (size : Int) (n q : Nat) (m : Prs) (R : FsS × Option StS × Int) : Prop where
 step : Step (inDir dir) 0 0 F R.1
 out : (∃ s, R.2.1 = some s ∧ R.2.2 = 0 ∧ s.dir = dir ∧ s.seq = q ∧ s.all = m ∧ On R.1 s size n) ∨ (R.2.1 = none ∧ R.2.2 = 5 ∧ R.1.down = true ∧ F.armed ≠ 0 ∧ Disk R.1 dir n q m)
theorem sopen_out {n : Nat} (h : Disk F dir n q m) (hdir : DirS dir) (h16 : 16 ≤ size) (h20 : size ≤ 1048576) (hd : F.down = false) : OpenOut F dir size n q m (openS F dir size) := by
 obtain ⟨b, f, q0, m0, first, old, cur, c, t, sy, ro, rc, a, ma, h⟩ := h
 have hS : openS F dir size = openW dir b f q0 m0 (openL F (nmOf dir sLog) size) := by
  unfold openS
  rw [if_neg (by simp [hdir.seg 1, hdir.base 1]), if_neg (by omega), if_neg (by simp [hd]), h.base.man]
  rfl
 obtain ⟨s1, o1⟩ := h.log (hdir.seg 1) h16 h20 hd
 have hbs : ∀ {G : FsS}, (∀ k, segNum (nmOf dir sLog) k = 0 → G.find k = F.find k) → BaseIs G dir b f q0 m0 := fun hG => h.base.ext (hG _ (man_seg dir)) (fun _ => hG _ (base_seg dir b))
 have hks : ∀ {G : FsS}, (∀ k, segNum (nmOf dir sLog) k = 0 → G.find k = F.find k) → ∀ nm x, G.find nm = some x → segNum (nmOf dir sLog) nm ≠ 0 ∨ F.find nm = some x := fun hG nm x hx => by
  by_cases e : segNum (nmOf dir sLog) nm = 0
  ·exact .inr (by rw [← hG nm e]; exact hx)
  ·exact .inl e
 have s1i := s1.mono (Q := inDir dir) (fun k e => inDir_seg dir e) (Nat.le_refl 0) (Int.le_refl 0)
 obtain ⟨O, hO⟩ : ∃ O, O = openL F (nmOf dir sLog) size := ⟨_, rfl⟩
 rw [← hO] at hS s1 s1i o1
 clear hO
 obtain ⟨G, L, want, r⟩ := O
 have oth1 : ∀ k, segNum (nmOf dir sLog) k = 0 → G.find k = F.find k := fun k e => s1.others k (by simp [e])
 rcases o1 with ⟨cutv, e1, d1, g1, _⟩ | ⟨e1, d1, a1, t', sy', g1, k1, k2, k3⟩
 rotate_left
 ·have e1 : r = 5 := e1
  subst e1
  have hE : openS F dir size = (G, none, 5) := by rw [hS]; rfl
  rw [hE]
  obtain ⟨ro2, a2, ma2, hD⟩ := DiskA.cut (g := []) (hs := old) h g1.rise (hbs oth1) (by simpa using g1) k1 k2 k3 (hks oth1)
  exact ⟨s1i, .inr ⟨rfl, rfl, d1, a1, _, _, _, _, _, _, _, _, _, _, _, _, _, _, hD⟩⟩
 simp only [Prod.mk.injEq, true_and] at e1
 obtain ⟨rfl, rfl, rfl⟩ := e1
 have g1 : Segs G (nmOf dir sLog) first (((old ++ cur) ++ [c]).map fl) := g1
 obtain ⟨L, hL⟩ : ∃ L : LogS, L = ⟨nmOf dir sLog, size, first, first + (old ++ cur).length, cutv, false⟩ := ⟨_, rfl⟩
 rw [← hL] at hS
 have hpos := h.sg.pos
 have hD : (if L.first < f then dropLg L G ((min f L.last : Nat) : Int) else (L, G, 0)) = dropF (old.map fl).length L G := by
  rw [List.length_map]
  have hl1 : L.first = first := by rw [hL]
  have hl2 : L.last = first + (old ++ cur).length := by rw [hL]
  have hl3 : L.stuck = false := by rw [hL]
  rw [List.length_append] at hl2
  by_cases hlt : L.first < f
  ·have hb0 : b ≠ 0 := fun e => by
    rcases h.base.is with ⟨_, e2, _⟩ | ⟨e2, _⟩
    ·omega
    ·omega
   have hf := h.some_ hb0
   rw [if_pos hlt]
   unfold dropLg
   rw [if_neg (by simp [hl3]), if_neg (by omega), hl1]
   congr 1
   omega
  ·rw [if_neg hlt]
   have : old.length = 0 := by
    by_cases hb0 : b = 0
    ·rw [h.none_ hb0]; rfl
    ·have := h.some_ hb0; omega
   rw [this]
   rfl
 have hS2 : openS F dir size = openD dir b q m (dropF (old.map fl).length L G) := by
  rw [hS, ← hD]
  show openP dir b f L G (replayR (ro ++ rc) q0 m0) = _
  rw [h.replay]
  rfl
 clear hS hD
 have hgd : Segs G L.dir L.first (old.map fl ++ (cur ++ [c]).map fl) := by
  rw [hL, ← List.map_append, ← List.append_assoc]
  exact g1
 obtain ⟨s2, o2⟩ := dropF_out (ds := (cur ++ [c]).map fl) (old.map fl) hgd d1
 obtain ⟨D, hDD⟩ : ∃ D, D = dropF (old.map fl).length L G := ⟨_, rfl⟩
 rw [← hDD] at hS2 s2 o2
 clear hDD
 obtain ⟨L2, G2, r2⟩ := D
 have hLd : L.dir = nmOf dir sLog := by rw [hL]
 have hLf : L.first = first := by rw [hL]
 rw [hLd] at s2
 have oth2 : ∀ k, segNum (nmOf dir sLog) k = 0 → G2.find k = F.find k := fun k e => (s2.others k (by simp [e])).trans (oth1 k e)
 have s12 : Step (inDir dir) 0 0 F G2 := by
  have := s1i.trans (s2.mono (Q := inDir dir) (fun k e => inDir_seg dir e) (Nat.le_refl 0) (Int.le_refl 0))
  simpa using this
 rw [hLd, hLf] at o2
 rcases o2 with ⟨e2, l2, d2, g2⟩ | ⟨e2, d2, a2, g, hs, hg, g2⟩
 rotate_left
 ·have e2 : r2 = 5 := e2
  subst e2
  have hE : openS F dir size = (G2, none, 5) := by rw [hS2]; rfl
  rw [hE]
  obtain ⟨g', hs', rfl, rfl, rfl⟩ := List.map_eq_append_iff.1 hg
  obtain ⟨ro2, a2', ma2, hD⟩ := DiskA.cut (g := g') (hs := hs') (t' := []) (sy' := c.length) h g2.rise (hbs oth2) (by rw [List.length_map] at g2; simpa using g2) (Nat.le_refl _) (by simp) (by unfold headOf; simp) (hks oth2)
  exact ⟨s12, .inr ⟨rfl, rfl, d2, fun e => a2 (s1.calm e).1, _, _, _, _, _, _, _, _, _, _, _, _, _, _, hD⟩⟩
 have e2 : r2 = 0 := e2
 subst e2
 have l2 : L2 = { L with dir := nmOf dir sLog, first := first + (old.map fl).length } := l2
 have hS3 : openS F dir size = openC dir b q m L2 (cleanR dir b (namesL (dirOf dir) G2.files) G2) := by rw [hS2]; rfl
 obtain ⟨s3, s3_or, o3⟩ := clean_out dir b (namesL (dirOf dir) G2.files) (F := G2) (names_nodup g2.rise) (fun k hk => by obtain ⟨⟨x, hx⟩, _⟩ := (mem_names g2.rise).1 hk; rw [hx]; simp) d2 g2.rise
 obtain ⟨C, hC⟩ : ∃ C, C = cleanR dir b (namesL (dirOf dir) G2.files) G2 := ⟨_, rfl⟩
 rw [← hC] at hS3 s3 s3_or o3
 clear hC
 obtain ⟨G3, r3⟩ := C
 have s13 : Step (inDir dir) 0 0 F G3 := by
  have := s12.trans (s3.mono (Q := inDir dir) (fun k e => gone_in e) (Nat.le_refl 0) (Int.le_refl 0))
  simpa using this
 have hseg3 : Segs G3 (nmOf dir sLog) (first + old.length) ((cur ++ [c]).map fl) := by
  rw [List.length_map] at g2
  exact g2.ext (s3.rise g2.rise) fun k hk => s3.others k fun e => hk (gone_seg e)
 have hbase3 : BaseIs G3 dir b f q0 m0 := (hbs oth2).ext (s3.others _ fun e => by
  rcases e with e | e
  ·have h1 := nth_man dir
   rw [e, nth_next] at h1
   exact absurd h1 (by decide)
  ·exact e.1 (man_base dir)) fun hb0 => s3.others _ fun e => by
  have hb1 : b < 100000000 := by
   rcases h.base.is with ⟨e2, _⟩ | ⟨_, e2, _⟩
   ·omega
   ·omega
  rcases e with e | e
  ·have h1 := baseNum_nm dir hb1
   rw [e, next_base] at h1
   omega
  ·exact e.2 (baseNum_nm dir hb1)
 rcases o3 with ⟨e3, d3, k3, n3⟩ | ⟨e3, d3, a3⟩
 rotate_left
 ·have e3 : r3 = 5 := e3
  subst e3
  have hE : openS F dir size = (G3, none, 5) := by rw [hS3]; rfl
  rw [hE]
  obtain ⟨ro2, a2', ma2, hD⟩ := DiskA.cut (g := old) (hs := []) (t' := []) (sy' := c.length) (by rw [List.append_nil]; exact h) hseg3.rise hbase3 (by simpa using hseg3) (Nat.le_refl _) (by simp) (by unfold headOf; simp) (fun nm x hx => by
   by_cases eg : Gone dir b nm
   ·by_cases em : segNum (nmOf dir sLog) nm = 0
    ·right
     have h0 : G3.find nm = G2.find nm ∨ G3.find nm = none := s3_or nm
     rcases h0 with e | e
     ·rw [← oth2 nm em, ← e]; exact hx
     ·rw [e] at hx; cases hx
    ·exact .inl em
   ·exact hks (G := G2) oth2 nm x (by rw [← s3.others nm eg]; exact hx))
  exact ⟨s13, .inr ⟨rfl, rfl, d3, fun e => a3 (s12.calm e).1, _, _, _, _, _, _, _, _, _, _, _, _, _, _, hD⟩⟩
 have e3 : r3 = 0 := e3
 subst e3
 have hE : openS F dir size = (G3, some ⟨dir, L2, b, false, m, q⟩, 0) := by rw [hS3]; rfl
 rw [hE]
 have hL2d : L2.dir = nmOf dir sLog := by rw [l2]
 have hL2f : L2.first = first + old.length := by rw [l2, List.length_map]
 have hL2l : L2.last = first + (old ++ cur).length := by rw [l2, hL]
 have hL2s : L2.stuck = false := by rw [l2, hL]
 have hL2z : L2.size = size := by rw [l2, hL]
 rw [List.length_append] at hL2l
 refine ⟨s13, .inl ⟨_, rfl, rfl, rfl, rfl, rfl, d3, rfl, hL2d, hL2z, ⟨f, q0, m0, cur ++ [c], rc, hbase3, ⟨by rw [hL2d, hL2f]; exact hseg3, by simp, by rw [hL2l, hL2f]; simp; omega, hL2s, d3, fun k _ => by rw [hL2d]; exact hdir.seg k⟩, h.holdC, h.chC, fun hb0 => by rw [hL2f]; exact h.some_ hb0⟩, fun nm x hx hi => ?_, h.nb, by rw [hL2l]; have := h.nl; rw [List.length_append] at this; exact (by omega), h.nq, h.n1⟩⟩
 by_cases em : segNum (nmOf dir sLog) nm = 0
 rotate_left
 ·exact .inl em
 right
 have hng : ¬ Gone dir b nm := fun eg => by
  by_cases hmem : nm ∈ namesL (dirOf dir) G2.files
  ·have hx3 : G3.find nm = some x := hx
   rw [n3 nm hmem eg] at hx3
   cases hx3
  ·have h5 : G3.find nm = G2.find nm := k3 nm (fun e => hmem e.1)
   have hx3 : G3.find nm = some x := hx
   rw [h5] at hx3
   exact hmem ((mem_names g2.rise).2 ⟨⟨x, hx3⟩, hi⟩)
 have hxF : F.find nm = some x := by rw [← oth2 nm em, ← s3.others nm hng]; exact hx
 rcases h.kinds nm x hxF hi with e | ⟨e, e2⟩ | e | e
 ·exact absurd em e
 ·exact ⟨e, .inl e2⟩
 ·exact absurd (.inl e) hng
 ·have hbn : baseNum dir nm = b := Classical.byContradiction fun e2 => hng (.inr ⟨e, e2⟩)
  refine ⟨by rw [← hbn]; exact e, .inr ?_⟩
  have := base_of_num e
  rw [hbn] at this
  exact this
theorem clean_none (dir : ByteArray) (b : Nat) (F : FsS) : ∀ (names : List ByteArray), (∀ k, k ∈ names → ¬ Gone dir b k) → cleanR dir b names F = (F, 0)
 | [], _ => rfl
 | k :: r, h => by
   simp only [cleanR]
   rw [if_pos (gone_not.1 (h k (List.mem_cons_self ..)))]
   exact clean_none dir b F r fun j hj => h j (List.mem_cons_of_mem _ hj)
theorem sopen_fresh {n : Nat} (hr : Rise slt F.files) (hno : ∀ k x, F.find k = some x → ¬ inDir dir k) (hdir : DirS dir) (h16 : 16 ≤ size) (h20 : size ≤ 1048576) (hd : F.down = false) (ha : F.armed = 0) (hf : F.files.length < 400) (hn : 1 ≤ n) (h9 : n ≤ 900) :
 ∃ G s, openS F dir size = (G, some s, 0) ∧ On G s size n ∧ s.dir = dir ∧ s.seq = 0 ∧ s.all = [] ∧ G.armed = 0 ∧ G.room = F.room ∧ G.used = F.used ∧ G.files = putL slt F.files (segName (nmOf dir sLog) 1) (fl []) := by
 have hnone : ∀ k, inDir dir k → F.find k = none := fun k hk => by
  cases h : F.find k with
  | none => rfl
  | some x => exact absurd hk (hno k x h)
 have hsg : Segs F (nmOf dir sLog) 1 [] := ⟨hr, Nat.le_refl _, by simp, fun i d hi => by simp at hi, fun k x hx hk => absurd (inDir_seg dir hk) (hno k x hx)⟩
 obtain ⟨G, e1, hon, ha1, hro, hus, hfl⟩ := open_none hsg hdir.log h16 h20 hd ha hf
 have hman : manR F dir = some (0, 0, 0, []) := by
  unfold manR
  rw [hnone _ (inDir_man dir)]
 have hfp := find_put hr hfl
 have hrG : Rise slt G.files := hon.sg.rise
 have hS : openS F dir size = (G, some ⟨dir, ⟨nmOf dir sLog, size, 1, 1, 0, false⟩, 0, false, [], 0⟩, 0) := by
  unfold openS
  rw [if_neg (by simp [hdir.seg 1, hdir.base 1]), if_neg (by omega), if_neg (by simp [hd]), hman]
  show openW dir 0 0 0 [] (openL F (nmOf dir sLog) size) = _
  rw [e1]
  show openC dir 0 0 [] ⟨nmOf dir sLog, size, 1, 1, 0, false⟩ (cleanR dir 0 (namesL (dirOf dir) G.files) G) = _
  rw [clean_none dir 0 G _ fun k hk => ?_]
  ·rfl
  ·obtain ⟨⟨x, hx⟩, hi⟩ := (mem_names hrG).1 hk
   rw [hfp] at hx
   split at hx
   ·rename_i e
    rw [e]
    rintro (e2 | e2)
    ·have h1 := segNum_name (nmOf dir sLog) (n := 1) (by decide)
     rw [e2, next_seg] at h1
     exact absurd h1 (by decide)
    ·exact e2.1 (seg_base dir 1)
   ·exact absurd hi (hno k x hx)
 refine ⟨G, _, hS, ⟨hon.up, rfl, rfl, rfl, ⟨0, 0, [], [[]], [], ⟨Fit.zero, by decide, .inl ⟨rfl, rfl, rfl, rfl, ?_⟩⟩, hon, Holds.empty, ⟨rfl, rfl⟩, fun e => absurd rfl e⟩, fun nm x hx hi => ?_, Nat.zero_le _, hn, Nat.zero_le _, h9⟩, rfl, rfl, rfl, ha1, hro, hus, hfl⟩
 ·rw [hfp, if_neg (fun e => by
   have h1 := segNum_name (nmOf dir sLog) (n := 1) (by decide)
   rw [← e, man_seg] at h1
   exact absurd h1 (by decide))]
  exact hnone _ (inDir_man dir)
 ·left
  rw [hfp] at hx
  split at hx
  ·rename_i e
   rw [e, segNum_name _ (by decide)]
   decide
  ·exact absurd hi (hno nm x hx)
end
section
variable {F G : FsS} {dir : ByteArray} {size : Int} {n b : Nat} {s : StS}
theorem fold_init (dir : ByteArray) : ∀ (l : List ByteArray) (z : Nat), z ≤ l.foldl (fun n m => max n (baseNum dir m + 1)) z
 | [], z => Nat.le_refl _
 | k :: r, z => Nat.le_trans (Nat.le_max_left _ _) (fold_init dir r (max z (baseNum dir k + 1)))
theorem fold_mem (dir : ByteArray) {k : ByteArray} : ∀ (l : List ByteArray) (z : Nat), k ∈ l → baseNum dir k + 1 ≤ l.foldl (fun n m => max n (baseNum dir m + 1)) z
 | j :: r, z, h => by
   rcases List.mem_cons.1 h with e | e
   ·rw [e]
    exact Nat.le_trans (Nat.le_max_right z _) (fold_init dir r _)
   ·exact fold_mem dir r _ e
theorem fold_le (dir : ByteArray) {B : Nat} : ∀ (l : List ByteArray) (z : Nat), z ≤ B → (∀ k, k ∈ l → baseNum dir k + 1 ≤ B) → l.foldl (fun n m => max n (baseNum dir m + 1)) z ≤ B
 | [], _, hz, _ => hz
 | k :: r, z, hz, h => fold_le dir r _ (Nat.max_le.2 ⟨hz, h k (List.mem_cons_self ..)⟩) fun j hj => h j (List.mem_cons_of_mem _ hj)
theorem top_free (hr : Rise slt F.files) (ht : topBase dir F < 100000000) : F.find (baseNm dir (topBase dir F)) = none := by
 cases h : F.find (baseNm dir (topBase dir F)) with
 | none => rfl
 | some x =>
   have hm : baseNm dir (topBase dir F) ∈ namesL (nmOf dir sBase) F.files := (mem_names hr).2 ⟨⟨x, h⟩, pre_base dir _⟩
   have h1 := fold_mem dir _ 1 hm
   rw [baseNum_nm dir ht] at h1
   have h2 : (namesL (nmOf dir sBase) F.files).foldl (fun n m => max n (baseNum dir m + 1)) 1 = topBase dir F := rfl
   rw [h2] at h1
   omega
theorem On.top (h : On F s size n) : topBase s.dir F = s.base + 1 := by
 obtain ⟨f, q0, m0, segs, rc, h1, h2, _⟩ := h.ex
 have hr := h2.sg.rise
 refine Nat.le_antisymm ?_ ?_
 ·refine fold_le s.dir _ 1 (by omega) fun k hk => ?_
  obtain ⟨⟨x, hx⟩, hp⟩ := (mem_names hr).1 hk
  by_cases h0 : baseNum s.dir k = 0
  ·omega
  have e := base_of_num h0
  rcases h.only k x hx (by rw [e]; exact inDir_base _ _) with e2 | ⟨e2, e3⟩
  ·rw [e, base_seg] at e2
   exact absurd rfl e2
  ·rcases e3 with e3 | e3
   ·rw [e3, man_base] at h0
    exact absurd rfl h0
   ·have hb : s.base < 100000000 := by have := h.nb; have := h.n1; omega
    rw [e3, baseNum_nm _ hb]
    exact Nat.le_refl _
 ·by_cases h0 : s.base = 0
  ·rw [h0]
   exact fold_init s.dir _ 1
  ·have hb : s.base < 100000000 := by have := h.nb; have := h.n1; omega
   have hx : ∃ x, F.find (baseNm s.dir s.base) = some x := by
    rcases h1.is with ⟨e, _⟩ | ⟨_, _, _, _, _, e⟩
    ·exact absurd e h0
    ·exact ⟨_, e⟩
   have h3 := fold_mem s.dir (namesL (nmOf s.dir sBase) F.files) 1 ((mem_names hr).2 ⟨hx, pre_base _ _⟩)
   rw [baseNum_nm _ hb] at h3
   exact h3
theorem fail_out {N : Nat} {e : Int} (hd : G.down = false) (hr : Rise slt G.files) (hs : s.stuck = false) (he : e ≠ 5) :
 Step (fun k => k = baseNm s.dir N ∨ k = nmOf s.dir sNext) 0 0 G (failS s G N e false).2.1 ∧ (failS s G N e false).2.2 = e ∧
   (((failS s G N e false).2.1.down = false ∧ (failS s G N e false).1 = s ∧ (failS s G N e false).2.1.find (nmOf s.dir sNext) = none ∧ (baseNm s.dir N ≠ nmOf s.dir sNext → (failS s G N e false).2.1.find (baseNm s.dir N) = none)) ∨
     ((failS s G N e false).2.1.down = true ∧ (failS s G N e false).1 = { s with stuck := true } ∧ G.armed ≠ 0)) := by
 have hst : (s.stuck || e == 5) = false := by rw [hs]; simp [he]
 have hE : failS s G N e false = ({ s with stuck := (undoR (undoR (G, false) (baseNm s.dir N)) (nmOf s.dir sNext)).2 }, (undoR (undoR (G, false) (baseNm s.dir N)) (nmOf s.dir sNext)).1, e) := by
  unfold failS
  rw [if_pos ⟨rfl, he⟩, hst]
 obtain ⟨s1, o1⟩ := undo_out hd hr false (baseNm s.dir N)
 rw [hE]
 obtain ⟨U, hU⟩ : ∃ U, U = undoR (G, false) (baseNm s.dir N) := ⟨_, rfl⟩
 rw [← hU] at s1 o1 ⊢
 clear hU hE
 obtain ⟨G1, st1⟩ := U
 have s1' := s1.mono (Q := fun k => k = baseNm s.dir N ∨ k = nmOf s.dir sNext) (fun k e => .inl e) (Nat.le_refl 0) (Int.le_refl 0)
 rcases o1 with ⟨d1, t1, f1⟩ | ⟨d1, t1, a1⟩
 ·have t1 : st1 = false := t1
  subst t1
  obtain ⟨s2, o2⟩ := undo_out d1 (s1.rise hr) false (nmOf s.dir sNext)
  have s2' := s2.mono (Q := fun k => k = baseNm s.dir N ∨ k = nmOf s.dir sNext) (fun k e => .inr e) (Nat.le_refl 0) (Int.le_refl 0)
  refine ⟨by have := s1'.trans s2'; simpa using this, rfl, ?_⟩
  rcases o2 with ⟨d2, t2, f2⟩ | ⟨d2, t2, a2⟩
  ·refine .inl ⟨d2, ?_, f2, fun hne => ?_⟩
   ·show { s with stuck := _ } = s
    rw [t2, ← hs]
   ·show (undoR (G1, false) (nmOf s.dir sNext)).1.find (baseNm s.dir N) = none
    rw [s2.others _ hne]
    exact f1
  ·refine .inr ⟨d2, ?_, fun e => a2 (s1.calm e).1⟩
   show { s with stuck := _ } = _
   rw [t2]
 ·have t1 : st1 = true := t1
  subst t1
  obtain ⟨u1, u2⟩ := undo_down d1 (nmOf s.dir sNext)
  refine ⟨?_, rfl, .inr ⟨?_, ?_, a1⟩⟩
  ·show Step _ 0 0 G (undoR (G1, true) (nmOf s.dir sNext)).1
   rw [u1]
   exact s1'
  ·show (undoR (G1, true) (nmOf s.dir sNext)).1.down = true
   rw [u1]
   exact d1
  ·show { s with stuck := _ } = _
   rw [u2]
theorem On.next_none (h : On F s size n) : F.find (nmOf s.dir sNext) = none := by
 cases hx : F.find (nmOf s.dir sNext) with
 | none => rfl
 | some x =>
   rcases h.only _ x hx (inDir_next _) with e | ⟨e1, e | e⟩
   ·exact absurd (next_seg s.dir) e
   ·have h1 := nth_next s.dir
    rw [e, nth_man] at h1
    exact absurd h1 (by decide)
   ·have h1 := nth_next s.dir
    rw [e, nth_base] at h1
    exact absurd h1 (by decide)
theorem base_next (dir : ByteArray) (k : Nat) : baseNm dir k ≠ nmOf dir sNext := fun e => by
 have h1 := nth_next dir
 rw [← e, nth_base] at h1
 exact absurd h1 (by decide)
theorem On.base_none (h : On F s size n) : F.find (baseNm s.dir (s.base + 1)) = none := by
 obtain ⟨f, q0, m0, segs, rc, h1, h2, _⟩ := h.ex
 have h3 := top_free (dir := s.dir) h2.sg.rise (by rw [h.top]; have := h.nb; have := h.n1; omega)
 rwa [h.top] at h3
theorem On.roll (h : On F s size n) (hn : n + 1 ≤ 900) (hf : F.files.length < 400) :
 ((rotateL s.log F).2.2 = 0 ∧ On (rotateL s.log F).2.1 { s with log := (rotateL s.log F).1 } size (n + 1) ∧ (rotateL s.log F).1 = { s.log with last := s.log.last + 1 } ∧ Step (fun k => segNum (nmOf s.dir sLog) k ≠ 0) 1 0 F (rotateL s.log F).2.1) ∨
   ((rotateL s.log F).2.2 = 5 ∧ F.armed ≠ 0 ∧ (rotateL s.log F).2.1.down = true ∧ (rotateL s.log F).2.1.files = F.files) := by
 obtain ⟨f, q0, m0, segs, rc, h1, h2, h3, h4, h5⟩ := h.ex
 rcases rotate_out h2 (by have := h.nl; have := h.n1; omega) hf with ⟨r0, hc, hL, hon⟩ | ⟨r5, ha, _, hd, hfl, _⟩
 ·left
  have hst := calm_step hc hon.sg.rise h2.up hon.up
  rw [h.ldir] at hst
  refine ⟨r0, ⟨hon.up, h.free, by rw [hL]; exact h.ldir, by rw [hL]; exact h.lsize, ⟨f, q0, m0, segs ++ [[]], rc, h1.ext (hst.others _ (by rw [man_seg]; simp)) (fun _ => hst.others _ (by rw [base_seg]; simp)), hon, h3.new, h4, fun e => by rw [hL]; exact h5 e⟩, fun nm x hx hi => ?_, by have := h.nb; show s.base ≤ n + 1; omega, by rw [hL]; have := h.nl; show s.log.last + 1 ≤ n + 1; omega, by have := h.nq; show s.seq ≤ n + 1; omega, hn⟩, hL, hst⟩
  by_cases e : segNum (nmOf s.dir sLog) nm = 0
  ·exact h.only nm x (by rw [← hst.others nm (by simp [e])]; exact hx) hi
  ·exact .inl e
 ·exact .inr ⟨r5, ha, hd, hfl⟩
structure OnX (F : FsS) (s : StS) (size : Int) (n : Nat) (P : ByteArray → Prop) : Prop where
 up : F.down = false
 free : s.stuck = false
 ldir : s.log.dir = nmOf s.dir sLog
 lsize : s.log.size = size
 ex : ∃ f q0 m0 segs rc, BaseIs F s.dir s.base f q0 m0 ∧ LogOn F s.log segs ∧ Holds segs rc ∧ Chain q0 m0 rc s.seq s.all ∧ (s.base ≠ 0 → f = s.log.first)
 only : ∀ nm x, F.find nm = some x → inDir s.dir nm → segNum (nmOf s.dir sLog) nm ≠ 0 ∨ (s.base ≠ 0 ∧ (nm = nmOf s.dir sMan ∨ nm = baseNm s.dir s.base)) ∨ P nm
 nb : s.base ≤ n
 nl : s.log.last ≤ n
 nq : s.seq ≤ n
 n1 : n ≤ 900
abbrev ckP (s : StS) (k : ByteArray) : Prop := k = baseNm s.dir (s.base + 1) ∨ k = nmOf s.dir sNext
theorem ckP_seg {k : ByteArray} (e : ckP s k) : segNum (nmOf s.dir sLog) k = 0 := by
 rcases e with e | e
 ·rw [e]; exact base_seg _ _
 ·rw [e]; exact next_seg _
theorem ckP_man (e : ckP s (nmOf s.dir sMan)) : False := by
 rcases e with e | e
 ·have h1 := nth_man s.dir
  rw [e, nth_base] at h1
  exact absurd h1 (by decide)
 ·have h1 := nth_man s.dir
  rw [e, nth_next] at h1
  exact absurd h1 (by decide)
theorem ckP_base (hb : s.base + 1 < 100000000) (e : ckP s (baseNm s.dir s.base)) : False := by
 rcases e with e | e
 ·have := baseNm_inj s.dir (by omega) hb e
  omega
 ·exact base_next _ _ e
theorem On.x (h : On F s size n) : OnX F s size n (ckP s) := ⟨h.up, h.free, h.ldir, h.lsize, h.ex, fun nm x hx hi => (h.only nm x hx hi).elim .inl fun e => .inr (.inl e), h.nb, h.nl, h.nq, h.n1⟩
theorem OnX.step {i : Nat} {u : Int} (h : OnX F s size n (ckP s)) (st : Step (ckP s) i u F G) (hd : G.down = false) : OnX G s size n (ckP s) := by
 obtain ⟨f, q0, m0, segs, rc, h1, h2, h3, h4, h5⟩ := h.ex
 have hb : s.base + 1 < 100000000 := by have := h.nb; have := h.n1; omega
 have hr := st.rise h2.sg.rise
 refine ⟨hd, h.free, h.ldir, h.lsize, ⟨f, q0, m0, segs, rc, h1.ext (st.others _ ckP_man) (fun _ => st.others _ (ckP_base hb)), ⟨h2.sg.ext hr (fun k hk => st.others k fun e => hk (by rw [h.ldir]; exact ckP_seg e)), h2.ne, h2.last, h2.free, hd, h2.name⟩, h3, h4, h5⟩, fun nm x hx hi => ?_, h.nb, h.nl, h.nq, h.n1⟩
 by_cases e : ckP s nm
 ·exact .inr (.inr e)
 ·exact h.only nm x (by rw [← st.others nm e]; exact hx) hi
theorem OnX.back (h : OnX F s size n (ckP s)) (g1 : F.find (baseNm s.dir (s.base + 1)) = none) (g2 : F.find (nmOf s.dir sNext) = none) : On F s size n := by
 refine ⟨h.up, h.free, h.ldir, h.lsize, h.ex, fun nm x hx hi => ?_, h.nb, h.nl, h.nq, h.n1⟩
 rcases h.only nm x hx hi with e | e | e | e
 ·exact .inl e
 ·exact .inr e
 ·rw [e, g1] at hx; exact absurd hx (by simp)
 ·rw [e, g2] at hx; exact absurd hx (by simp)
theorem OnX.roll (h : OnX F s size n (ckP s)) (hn : n + 1 ≤ 900) (hf : F.files.length < 400) :
 ((rotateL s.log F).2.2 = 0 ∧ OnX (rotateL s.log F).2.1 { s with log := (rotateL s.log F).1 } size (n + 1) (ckP s) ∧ (rotateL s.log F).1 = { s.log with last := s.log.last + 1 } ∧ Step (fun k => segNum (nmOf s.dir sLog) k ≠ 0) 1 0 F (rotateL s.log F).2.1) ∨
   ((rotateL s.log F).2.2 = 5 ∧ F.armed ≠ 0 ∧ (rotateL s.log F).2.1.down = true ∧ (rotateL s.log F).2.1.files = F.files) := by
 obtain ⟨f, q0, m0, segs, rc, h1, h2, h3, h4, h5⟩ := h.ex
 rcases rotate_out h2 (by have := h.nl; have := h.n1; omega) hf with ⟨r0, hc, hL, hon⟩ | ⟨r5, ha, _, hd, hfl, _⟩
 ·left
  have hst := calm_step hc hon.sg.rise h2.up hon.up
  rw [h.ldir] at hst
  refine ⟨r0, ⟨hon.up, h.free, by rw [hL]; exact h.ldir, by rw [hL]; exact h.lsize, ⟨f, q0, m0, segs ++ [[]], rc, h1.ext (hst.others _ (by rw [man_seg]; simp)) (fun _ => hst.others _ (by rw [base_seg]; simp)), hon, h3.new, h4, fun e => by rw [hL]; exact h5 e⟩, fun nm x hx hi => ?_, by have := h.nb; show s.base ≤ n + 1; omega, by rw [hL]; have := h.nl; show s.log.last + 1 ≤ n + 1; omega, by have := h.nq; show s.seq ≤ n + 1; omega, hn⟩, hL, hst⟩
  by_cases e : segNum (nmOf s.dir sLog) nm = 0
  ·exact h.only nm x (by rw [← hst.others nm (by simp [e])]; exact hx) hi
  ·exact .inl e
 ·exact .inr ⟨r5, ha, hd, hfl⟩
theorem OnX.disk (h : OnX F s size n (ckP s)) : Disk F s.dir n s.seq s.all := by
 obtain ⟨f, q0, m0, segs, rc, h1, h2, h3, h4, h5⟩ := h.ex
 obtain ⟨cur, c, rfl⟩ : ∃ cur c, segs = cur ++ [c] := ⟨_, _, (List.dropLast_concat_getLast h2.ne).symm⟩
 have hsg := h2.sg
 rw [h.ldir] at hsg
 have hl := h2.last
 rw [List.length_append, List.length_singleton] at hl
 refine ⟨s.base, f, q0, m0, s.log.first, [], cur, c, [], c.length, [], rc, q0, m0, hsg.rise, h1, ?_, Nat.le_refl _, by simp, by unfold headOf; simp, ⟨[], rfl, rfl, fun p hp => by simp at hp⟩, h3, ⟨rfl, rfl⟩, h4, fun _ => rfl, fun e => by rw [h5 e]; rfl, h.nb, ?_, h.nq, h.n1, fun nm x hx hi => ?_⟩
 ·rw [List.nil_append, List.append_nil]
  simpa using hsg
 ·rw [List.nil_append]
  have := h.nl
  omega
 ·rcases h.only nm x hx hi with e | ⟨e1, e2⟩ | e | e
  ·exact .inl e
  ·rcases e2 with e2 | e2
   ·exact .inr (.inl ⟨e1, e2⟩)
   ·refine .inr (.inr (.inr ?_))
    rw [e2]
    have hb : s.base ≤ 99999999 := by have := h.nb; have := h.n1; omega
    rw [baseNum_nm s.dir (by omega)]
    exact e1
  ·right; right; right
   have hb : s.base + 1 < 100000000 := by have := h.nb; have := h.n1; omega
   rw [e, baseNum_nm _ hb]
   omega
  ·exact .inr (.inr (.inl e))
end
end Go.Proofs.YtagdchgkjjpacaaGreat
