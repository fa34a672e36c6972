/- Plain laws of WalWrites: each step on the log's files. -/
import Derived.Test.YthbfkjmpaifblaaWw
namespace Go.Proofs.Ythbfkjmpaifblaa
open Go.RowKit

structure WrP (F : FsS) (L : LogS) (fi : Nat) (size : Int) (l : List (List UInt8)) (j : Nat) (segs : List (List UInt8)) : Prop where
  on : LogOn F L segs
  calm : F.armed = 0
  all : AllSeg F nmW
  dir : L.dir = nmW
  size : L.size = size
  first : L.first = fi
  last : L.last ≤ 1 + j
  few : F.files.length ≤ 1 + j
  room : F.room = 67108864
  used : F.used ≤ ((8 * j + ((l.take j).map List.length).sum : Nat) : Int)
section
variable {F G : FsS} {L L' : LogS} {fi j : Nat} {size : Int} {l segs pre : List (List UInt8)} {b p : List UInt8}
theorem WrP.new {size : Int} {G : FsS} (l : List (List UInt8)) (h16 : 16 ≤ size) (h20 : size ≤ 1048576) (ho : openL (FsS.new 67108864) nmW size = (G, ⟨nmW, size, 1, 1, 0, false⟩, [], 0)) (hl : LogOn G ⟨nmW, size, 1, 1, 0, false⟩ [[]]) (ha : G.armed = 0) (hr : G.room = (FsS.new 67108864).room) (hu : G.used = (FsS.new 67108864).used) (hf : G.files = putL slt (FsS.new 67108864).files (segName nmW 1) (fl [])) : WrP G ⟨nmW, size, 1, 1, 0, false⟩ 1 size l 0 [[]] := by
  have hr0 : Rise slt (FsS.new 67108864).files := List.Pairwise.nil
  refine ⟨hl, ha, fun n x hx => ?_, rfl, rfl, rfl, Nat.le_refl _, by rw [hf]; exact Nat.le_refl _, by rw [hr]; decide, by rw [hu]; exact Int.le_refl _⟩
  rw [find_put hr0 hf] at hx
  split at hx
  · rename_i e
    subst e
    rw [segNum_name nmW (by decide)]
    decide
  · cases hx
theorem WrP.len (h : WrP F L fi size l j segs) : segs.length ≤ 1 + j ∧ segs ≠ [] ∧ L.last + 1 = fi + segs.length ∧ 1 ≤ fi := by
  have h1 := h.on.last
  have h2 := h.last
  have h3 := h.first
  have h4 := h.on.sg.pos
  exact ⟨by omega, h.on.ne, by omega, by omega⟩
theorem WrP.rotate (h : WrP F L fi size l j segs) (hj : j < 60) (hr : l[j]? = some p) : (rotateL L F).2.2 = 0 ∧ WrP (rotateL L F).2.1 (rotateL L F).1 fi size l (j + 1) (segs ++ [[]]) := by
  have hsum := sum_take l hr
  have hl := h.last
  have hf := h.few
  have hu := h.used
  rcases rotate_out h.on (by omega) (by omega) with ⟨e0, hC, eL, hLog⟩ | ⟨_, ha, _⟩
  · have hdir : (rotateL L F).1.dir = L.dir := by rw [eL]
    have hsz : (rotateL L F).1.size = L.size := by rw [eL]
    have hfi : (rotateL L F).1.first = L.first := by rw [eL]
    have hla : (rotateL L F).1.last = L.last + 1 := by rw [eL]
    refine ⟨e0, hLog, hC.calm h.calm, ?_, by rw [hdir]; exact h.dir, by rw [hsz]; exact h.size, by rw [hfi]; exact h.first, by rw [hla]; omega, by have := hC.few; omega, by rw [hC.room]; exact h.room, by rw [hC.used, hsum]; omega⟩
    have ho := hC.others
    rw [h.dir] at ho
    exact h.all.of ho
  · exact absurd h.calm ha
theorem WrP.drop (h : WrP F L fi size l j segs) (hr : l[j]? = some p) (d : Nat) :
    (segs.length ≤ d ∧ dropLg L F ((fi + d : Nat) : Int) = (L, F, 6) ∧ WrP F L fi size l (j + 1) segs) ∨
    (d < segs.length ∧ (dropLg L F ((fi + d : Nat) : Int)).2.2 = 0 ∧ WrP (dropLg L F ((fi + d : Nat) : Int)).2.1 (dropLg L F ((fi + d : Nat) : Int)).1 (fi + d) size l (j + 1) (segs.drop d)) := by
  have hsum := sum_take l hr
  have hl := h.last
  have hf := h.few
  have hu := h.used
  have hfi := h.first
  subst hfi
  rcases drop_out h.on h.calm d with ⟨hd, e⟩ | ⟨hd, F', e, hLog, ha, hro, hus, hfe, ho⟩
  · refine .inl ⟨hd, e, h.on, h.calm, h.all, h.dir, h.size, rfl, by omega, by omega, h.room, by rw [hsum]; omega⟩
  · rw [e]
    rw [h.dir] at ho
    exact .inr ⟨hd, rfl, hLog, ha, h.all.of ho, h.dir, h.size, rfl, by show L.last ≤ _; omega, by simp only; omega, by rw [hro]; exact h.room, by rw [hsum]; simp only; omega⟩
theorem WrP.append (h : WrP F L fi size l j (pre ++ [b])) (hj : j < 60) (hr : l[j]? = some p) (hs : (l.map List.length).sum ≤ 1048576) :
    (appendL L F p).2.2 = 0 ∧ WrP (appendL L F p).2.1 (appendL L F p).1 fi size l (j + 1) (if size ≤ (b.length : Int) then pre ++ [b] ++ [frameOf p] else pre ++ [b ++ frameOf p]) := by
  have hsum := sum_take l hr
  have hst := sum_take_le l (j + 1)
  have hp := sum_mem (List.mem_of_getElem? hr)
  have hl := h.last
  have hf := h.few
  have hu := h.used
  have hro := h.room
  rcases append_out h.on (p := p) (by omega) (by omega) (by omega) with ⟨e0, _, hC, eL, hLog⟩ | ⟨_, hfull, _⟩ | ⟨_, hT⟩
  · have hdir : (appendL L F p).1.dir = L.dir := by rw [eL]
    have hsz : (appendL L F p).1.size = L.size := by rw [eL]
    have hfi : (appendL L F p).1.first = L.first := by rw [eL]
    rw [h.size] at hLog
    have hla := hLog.last
    have hl0 := h.on.last
    have ho := hC.others
    rw [h.dir] at ho
    refine ⟨e0, hLog, hC.calm h.calm, h.all.of ho, by rw [hdir]; exact h.dir, by rw [hsz]; exact h.size, by rw [hfi]; exact h.first, ?_, by have := hC.few; omega, by rw [hC.room]; exact h.room, by rw [hC.used, hsum]; omega⟩
    split at hla <;> simp only [List.length_append, List.length_singleton] at hla hl0 <;> omega
  · omega
  · exact absurd h.calm hT.arm
theorem WrP.names (h : WrP F L fi size l j segs) : namesL ⟨#[]⟩ F.files = (List.range' fi segs.length).map (segName nmW) := by
  have hs := h.on.sg
  rw [h.dir, h.first] at hs
  have := h.all.names hs
  rwa [List.length_map] at this
theorem WrP.find (h : WrP F L fi size l j segs) {i : Nat} (hi : segs[i]? = some b) : F.find (segName nmW (fi + i)) = some (fl b) := by
  have hs := h.on.sg
  rw [h.dir, h.first] at hs
  exact hs.at_ i (fl b) (by rw [List.getElem?_map, hi]; rfl)
end
end Go.Proofs.Ythbfkjmpaifblaa
