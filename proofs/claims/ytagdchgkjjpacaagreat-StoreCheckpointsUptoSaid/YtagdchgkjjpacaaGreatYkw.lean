/- Plain laws of a store: the directory behind a checkpoint. No program. -/
import Derived.Test.YtagdchgkjjpacaaGreatz48
set_option linter.unusedSimpArgs false
set_option linter.unusedVariables false
namespace Go.Proofs.YtagdchgkjjpacaaGreat
section
variable {F : FsS} {dir k : ByteArray} {size : Int} {n : Nat} {s : StS}
theorem nth_pre {c : UInt8} {r : List UInt8} (h : Lib.hasPrefix (tx k) (tx (inD dir (c :: r))) = true) : nth dir k = some c := by
 unfold Lib.hasPrefix at h
 rw [List.isPrefixOf_iff_prefix, tx_st] at h
 obtain ⟨t, ht⟩ := h
 unfold nth
 have e : (tx dir).length = dir.size := rfl
 rw [← ht, List.append_assoc, List.getElem?_append_right (by omega), show dir.size + 1 - (tx dir).length = 0 + 1 by omega, List.cons_append, List.getElem?_cons_succ]
 rfl
theorem pre_dir {r : List UInt8} (h : Lib.hasPrefix (tx k) (tx (inD dir r)) = true) : inDir dir k := by
 unfold Lib.hasPrefix at h
 rw [List.isPrefixOf_iff_prefix, tx_st] at h
 obtain ⟨t, ht⟩ := h
 show Lib.hasPrefix _ _ = true
 unfold Lib.hasPrefix
 rw [List.isPrefixOf_iff_prefix]
 refine ⟨r ++ t, ?_⟩
 show (dirOf dir).data.toList ++ (r ++ t) = _
 rw [dirOf_list, ← ht, List.append_assoc, List.append_assoc]
 rfl
theorem nodup_len {α : Type} {l m : List α} (h1 : l.Nodup) (h2 : m.Nodup) (h : ∀ x, x ∈ l ↔ x ∈ m) : l.Perm m := (List.perm_ext_iff_of_nodup h1 h2).2 h
theorem On.three (h : On F s size n) (hb : s.base ≠ 0) (lg : LogOn F s.log [[]]) :
 (∀ x, ((∃ y, F.find x = some y) ∧ inDir s.dir x) ↔ (x = baseNm s.dir s.base ∨ x = segName (nmOf s.dir sLog) s.log.last ∨ x = nmOf s.dir sMan)) ∧ F.find (segName (nmOf s.dir sLog) s.log.last) = some (fl []) := by
 obtain ⟨f, q0, m0, segs, rc, h1, h2, h3, h4, h5⟩ := h.ex
 have hsg := lg.sg
 rw [h.ldir] at hsg
 have hl := lg.last
 have hll : s.log.last = s.log.first := by rw [List.length_singleton] at hl; omega
 have hpos := lg.pos
 have hat : F.find (segName (nmOf s.dir sLog) s.log.last) = some (fl []) := by
  have := hsg.at_ 0 (fl []) rfl
  rw [hll]; exact this
 have hex : (∃ y, F.find (nmOf s.dir sMan) = some y) ∧ ∃ y, F.find (baseNm s.dir s.base) = some y := by
  rcases h1.is with ⟨e, _⟩ | ⟨_, _, _, _, e1, e2⟩
  ·exact absurd e hb
  ·exact ⟨⟨_, e1⟩, ⟨_, e2⟩⟩
 refine ⟨fun x => ⟨?_, ?_⟩, hat⟩
 ·rintro ⟨⟨y, hy⟩, hi⟩
  rcases h.only x y hy hi with e | ⟨_, e | e⟩
  ·right; left
   have h6 := hsg.only x y hy e
   have h7 := name_of_num _ _ e
   have h8 : segNum (nmOf s.dir sLog) x = s.log.last := by
    simp only [List.map_cons, List.map_nil, List.length_singleton] at h6
    omega
   rw [h8] at h7
   exact h7
  ·exact .inr (.inr e)
  ·exact .inl e
 ·rintro (e | e | e)
  ·subst e; exact ⟨hex.2, inDir_base _ _⟩
  ·subst e; exact ⟨⟨_, hat⟩, by rw [segName_in]; exact pre_in _ _⟩
  ·subst e; exact ⟨hex.1, inDir_man _⟩
theorem On.names (h : On F s size n) (hb : s.base ≠ 0) (lg : LogOn F s.log [[]]) :
 (namesL (dirOf s.dir) F.files).length = 3 ∧ namesL (inD s.dir (tx sLog ++ [47])) F.files = [segName (nmOf s.dir sLog) s.log.last] ∧ (namesL (nmOf s.dir sBase) F.files).length = 1 ∧ (namesL (nmOf s.dir sMan) F.files).length = 1 := by
 obtain ⟨h3, -⟩ := h.three hb lg
 have hr : Rise slt F.files := h.x.rise
 have n1 : nth s.dir (baseNm s.dir s.base) = some 98 := nth_base _ _
 have n2 : nth s.dir (segName (nmOf s.dir sLog) s.log.last) = some 108 := nth_seg _ _
 have n3 : nth s.dir (nmOf s.dir sMan) = some 109 := nth_man _
 have d12 : baseNm s.dir s.base ≠ segName (nmOf s.dir sLog) s.log.last := fun e => by rw [e, n2] at n1; cases n1
 have d13 : baseNm s.dir s.base ≠ nmOf s.dir sMan := fun e => by rw [e, n3] at n1; cases n1
 have d23 : segName (nmOf s.dir sLog) s.log.last ≠ nmOf s.dir sMan := fun e => by rw [e, n3] at n2; cases n2
 have one : ∀ {front a : ByteArray}, (∀ x, ((∃ y, F.find x = some y) ∧ Lib.hasPrefix (tx x) (tx front) = true) ↔ x = a) → (namesL front F.files).Perm [a] := fun hm =>
  nodup_len (names_nodup hr) (by simp) fun x => by rw [mem_names hr, hm, List.mem_singleton]
 refine ⟨?_, ?_, ?_, ?_⟩
 ·have := nodup_len (l := namesL (dirOf s.dir) F.files) (m := [baseNm s.dir s.base, segName (nmOf s.dir sLog) s.log.last, nmOf s.dir sMan]) (names_nodup hr) (by simp [d12, d13, d23]) fun x => by
   rw [mem_names hr]
   have := h3 x
   rw [this]
   simp
  rw [this.length_eq]
  rfl
 ·refine List.perm_singleton.1 (one fun x => ⟨?_, ?_⟩)
  ·rintro ⟨hx, hp⟩
   have hn := nth_pre (dir := s.dir) (c := 108) (r := [111, 103, 47]) hp
   rcases (h3 x).1 ⟨hx, pre_dir hp⟩ with e | e | e
   ·rw [e, n1] at hn; cases hn
   ·exact e
   ·rw [e, n3] at hn; cases hn
  ·intro e
   refine ⟨((h3 x).2 (.inr (.inl e))).1, ?_⟩
   rw [e, segName_in]
   unfold Lib.hasPrefix
   rw [List.isPrefixOf_iff_prefix, tx_st, tx_st]
   exact ⟨digs 8 s.log.last, by simp⟩
 ·refine (one (a := baseNm s.dir s.base) fun x => ⟨?_, ?_⟩).length_eq
  ·rintro ⟨hx, hp⟩
   rw [nmOf_in] at hp
   have hn := nth_pre (dir := s.dir) (c := 98) (r := [97, 115, 101, 45]) hp
   rcases (h3 x).1 ⟨hx, pre_dir hp⟩ with e | e | e
   ·exact e
   ·rw [e, n2] at hn; cases hn
   ·rw [e, n3] at hn; cases hn
  ·intro e
   exact ⟨((h3 x).2 (.inl e)).1, by rw [e]; exact pre_base _ _⟩
 ·refine (one (a := nmOf s.dir sMan) fun x => ⟨?_, ?_⟩).length_eq
  ·rintro ⟨hx, hp⟩
   rw [nmOf_in] at hp
   have hn := nth_pre (dir := s.dir) (c := 109) (r := [97, 110, 105, 102, 101, 115, 116]) hp
   rcases (h3 x).1 ⟨hx, pre_dir hp⟩ with e | e | e
   ·rw [e, n1] at hn; cases hn
   ·rw [e, n2] at hn; cases hn
   ·exact e
  ·intro e
   refine ⟨((h3 x).2 (.inr (.inr e))).1, ?_⟩
   rw [e]
   unfold Lib.hasPrefix
   rw [List.isPrefixOf_iff_prefix]
   exact List.prefix_refl _
end
end Go.Proofs.YtagdchgkjjpacaaGreat
