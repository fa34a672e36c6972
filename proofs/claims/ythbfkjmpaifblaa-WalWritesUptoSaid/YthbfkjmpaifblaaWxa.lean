/- Plain laws of Open of any files: how they are laid, and what Open comes to. -/
import Derived.Test.YthbfkjmpaifblaaWx9
import Derived.Test.YthbfkjmpaifblaaWv
namespace Go.Proofs.Ythbfkjmpaifblaa
open Go.RowKit

section
variable {F G : FsS} {dir : ByteArray} {ns : List Nat} {bs : List (List UInt8)} {b : List UInt8} {n : Nat}
theorem Laid.last (h : Laid F dir (ns ++ [n]) (bs ++ [[]])) (hf : G.files = putL slt F.files (segName dir n) ⟨b, 0⟩) : Laid G dir (ns ++ [n]) (bs ++ [b]) := by
  have hfp := find_put h.rise hf
  have hl := h.len
  rw [List.length_append, List.length_append, List.length_singleton, List.length_singleton] at hl
  have hs := h.sort
  rw [List.pairwise_append] at hs
  have hp := h.pos n (by simp)
  refine ⟨by rw [hf]; exact rise_putL slt_ord h.rise _ _, h.sort, h.pos, by simp; omega, fun i m c hm hc => ?_, fun m x hx hz => ?_⟩
  · rw [hfp]
    by_cases hi : i < ns.length
    · have hm0 := hm
      rw [List.getElem?_append_left hi] at hm
      rw [List.getElem?_append_left (by omega)] at hc
      have hmem := List.mem_of_getElem? hm
      rw [if_neg (fun e => by have h1 := segName_inj dir (h.pos m (List.mem_of_getElem? hm0)).2 hp.2 e; have := hs.2.2 m hmem n (by simp); omega)]
      exact h.at_ i m c hm0 (by rw [List.getElem?_append_left (by omega)]; exact hc)
    · have hil := (List.getElem?_eq_some_iff.1 hm).1
      rw [List.length_append, List.length_singleton] at hil
      obtain rfl : i = ns.length := by omega
      rw [List.getElem?_append_right (Nat.le_refl _), Nat.sub_self] at hm
      rw [show ns.length = bs.length by omega, List.getElem?_append_right (Nat.le_refl _), Nat.sub_self] at hc
      simp only [List.getElem?_cons_zero, Option.some.injEq] at hm hc
      subst hm hc
      rw [if_pos rfl]
  · rw [hfp] at hx
    split at hx
    · rename_i e
      subst e
      rw [segNum_name dir hp.2]
      simp
    · exact h.only m x hx hz
/-- The number of the file at a place: behind the gap one more. -/
def posOf (fr : Nat) (gap : Int) (i : Nat) : Nat := fr + i + if 0 < gap ∧ gap ≤ i then 1 else 0
def numsTo (fr : Nat) (gap : Int) (j : Nat) : List Nat := (List.range j).map (posOf fr gap)
theorem numsTo_next (fr : Nat) (gap : Int) (j : Nat) : numsTo fr gap (j + 1) = numsTo fr gap j ++ [posOf fr gap j] := by
  unfold numsTo
  rw [List.range_succ, List.map_append]
  rfl
theorem numsTo_lt {fr : Nat} {gap : Int} {j : Nat} : ∀ m ∈ numsTo fr gap j, m < posOf fr gap j := by
  intro m hm
  obtain ⟨i, hi, rfl⟩ := List.mem_map.1 hm
  rw [List.mem_range] at hi
  unfold posOf
  split <;> split <;> omega
theorem numsTo_flat {fr : Nat} {gap : Int} {j : Nat} (h : ¬ (0 < gap ∧ gap < j)) : numsTo fr gap j = List.range' fr j := by
  unfold numsTo
  rw [List.range'_eq_map_range]
  refine List.map_congr_left fun i hi => ?_
  rw [List.mem_range] at hi
  unfold posOf
  rw [if_neg (by omega), Nat.add_zero]
theorem numsTo_gap {fr : Nat} {gap : Int} {j : Nat} (h0 : 0 < gap) (h1 : gap < j) : ∃ a c, 0 < a ∧ 0 < c ∧ numsTo fr gap j = List.range' fr a ++ List.range' (fr + a + 1) c := by
  obtain ⟨a, rfl⟩ : ∃ a : Nat, gap = (a : Int) := ⟨gap.toNat, by omega⟩
  refine ⟨a, j - a, by omega, by omega, ?_⟩
  refine List.ext_getElem? fun i => ?_
  unfold numsTo
  rw [List.getElem?_map]
  by_cases hi : i < a
  · rw [List.getElem?_append_left (by simpa using hi), List.getElem?_range (by omega), List.getElem?_range' hi]
    show some (posOf fr (a : Int) i) = _
    unfold posOf
    rw [if_neg (by omega)]
    congr 1; omega
  · rw [List.getElem?_append_right (by simp; omega), List.length_range']
    by_cases hj : i < j
    · rw [List.getElem?_range hj, List.getElem?_range' (by omega)]
      show some (posOf fr (a : Int) i) = _
      unfold posOf
      rw [if_pos (by omega)]
      congr 1; omega
    · rw [List.getElem?_eq_none (by simp; omega), List.getElem?_eq_none (by simp; omega)]
      rfl
/-- The files that WalOpens lays, up to a place. -/
structure LayI (F : FsS) (fr : Nat) (gap : Int) (l : List (List UInt8)) (j : Nat) : Prop where
  laid : Laid F nmW (numsTo fr gap j) (l.take j)
  all : AllSeg F nmW
  calm : F.armed = 0
  up : F.down = false
  room : F.room = 67108864
  used : F.used = (((l.take j).map List.length).sum : Nat)
  few : F.files.length ≤ j
theorem LayI.new (fr : Nat) (gap : Int) (l : List (List UInt8)) : LayI (FsS.new 67108864) fr gap l 0 :=
  ⟨Laid.new _ _, fun n x hx => (by cases hx), rfl, rfl, by decide, rfl, Nat.le_refl _⟩
theorem LayI.next {fr : Nat} {gap : Int} {l : List (List UInt8)} {j : Nat} (h : LayI F fr gap l j) (hb : l[j]? = some b) (h1 : 1 ≤ fr) (h5 : fr ≤ 50) (hj : j < 60) (hsum : (l.map List.length).sum ≤ 1048576) :
    LayI ((F.create (segName nmW (posOf fr gap j))).1.append (segName nmW (posOf fr gap j)) b).1 fr gap l (j + 1) := by
  have hp1 : 1 ≤ posOf fr gap j := by unfold posOf; omega
  have hp8 : posOf fr gap j < 100000000 := by unfold posOf; split <;> omega
  have hlt := numsTo_lt (fr := fr) (gap := gap) (j := j)
  have htk : l.take (j + 1) = l.take j ++ [b] := by
    rw [List.take_add_one, hb]; rfl
  have hfree := h.laid.free hlt hp1 hp8
  have hs := sum_take l hb
  have hs2 := sum_take_le l (j + 1)
  obtain ⟨q, hq⟩ : ∃ q, q = posOf fr gap j := ⟨_, rfl⟩
  rw [← hq] at hp1 hp8 hlt hfree ⊢
  rcases create_wr (n := segName nmW q) h.up (okName_seg dirOk_w _) hfree (by have := h.few; omega) with ⟨_, D⟩ | ⟨_, D⟩
  · have hL1 : Laid (F.create (segName nmW q)).1 nmW (numsTo fr gap j ++ [q]) (l.take j ++ [[]]) := h.laid.more hlt hp1 hp8 D.files
    have hx1 := find_put h.laid.rise D.files (segName nmW q)
    rw [if_pos rfl] at hx1
    have hr1 : Rise slt (F.create (segName nmW q)).1.files := hL1.rise
    have hl1 : (F.create (segName nmW q)).1.files.length ≤ F.files.length + 1 := by rw [D.files]; exact put_len_le h.laid.rise _ _
    have ha1 : AllSeg (F.create (segName nmW q)).1 nmW := h.all.of fun m hm => by
      rw [find_put h.laid.rise D.files, if_neg]
      intro e; rw [e, segNum_name nmW hp8] at hm; omega
    have hu1 := D.used
    have hd1 := D.down
    have hro1 := D.room
    have hc1 := D.calm h.calm
    generalize (F.create (segName nmW q)).1 = F1 at *
    rcases append_wr (n := segName nmW q) (b := b) (by rw [hd1]; exact h.up) hx1 (by rw [hro1, hu1, h.room, h.used]; omega) with ⟨_, D2⟩ | ⟨_, D2⟩
    · refine ⟨?_, ?_, D2.calm hc1, by rw [D2.down, hd1]; exact h.up, by rw [D2.room, hro1]; exact h.room, by rw [D2.used, hu1, h.used, hs]; omega, ?_⟩
      · rw [htk, numsTo_next]
        rw [← hq]
        exact hL1.last D2.files
      · exact ha1.of fun m hm => by
          rw [find_put hr1 D2.files, if_neg]
          intro e; rw [e, segNum_name nmW hp8] at hm; omega
      · rw [D2.files, put_len hx1 hr1]; have := h.few; omega
    · exact absurd hc1 D2.arm
  · exact absurd h.calm D.arm
/-- All is laid, and another file. -/
abbrev nmO : ByteArray := ⟨#[119, 47, 111, 116, 104, 101, 114]⟩
abbrev nmX : ByteArray := ⟨#[120]⟩
structure LayO (F : FsS) (fr : Nat) (gap : Int) (l : List (List UInt8)) : Prop where
  laid : Laid F nmW (numsTo fr gap l.length) l
  calm : F.armed = 0
  up : F.down = false
  used : F.used = ((l.map List.length).sum : Nat)
  few : F.files.length ≤ l.length + 1
  nox : F.find nmX = none
theorem numO : segNum nmW nmO = 0 := by kernel_rfl
theorem numX : segNum nmW nmX = 0 := by kernel_rfl
theorem LayI.other {fr : Nat} {gap : Int} {l : List (List UInt8)} (h : LayI F fr gap l l.length) (hl : l.length ≤ 20) : LayO (F.create nmO).1 fr gap l := by
  have hfree : F.find nmO = none := by
    cases hx : F.find nmO with
    | none => rfl
    | some x => exact absurd numO (h.all _ x hx)
  have hx : F.find nmX = none := by
    cases hx : F.find nmX with
    | none => rfl
    | some x => exact absurd numX (h.all _ x hx)
  have hla := h.laid
  rw [List.take_length] at hla
  have hu := h.used
  rw [List.take_length] at hu
  rcases create_wr (n := nmO) h.up (by kernel_rfl) hfree (by have := h.few; omega) with ⟨_, D⟩ | ⟨_, D⟩
  · refine ⟨hla.other numO D.files, D.calm h.calm, by rw [D.down]; exact h.up, by rw [D.used, hu], ?_, ?_⟩
    · rw [D.files]; have := put_len_le h.laid.rise nmO (fl []); have := h.few; omega
    · rw [find_put h.laid.rise D.files, if_neg (by decide)]; exact hx
  · exact absurd h.calm D.arm
theorem LayO.falls {fr : Nat} {gap : Int} {l : List (List UInt8)} (h : LayO F fr gap l) (hl : l.length ≤ 20) : (({ F with armed := max 1 0 } : FsS).create nmX).1 = { F with armed := 0, down := true } := by
  have hn : okName nmX = true := by kernel_rfl
  unfold FsS.create
  rw [if_neg (by simp [h.up]), if_neg (by simp [hn]), if_neg (show ¬ (({ F with armed := max 1 0 } : FsS).find nmX).isSome = true by have := h.nox; unfold FsS.find at this ⊢; simp [this]), if_neg (by have := h.few; simp only; omega)]
  rfl
theorem recs_few : ∀ l : List (List UInt8), 8 * (l.flatMap scanOf).length ≤ (l.map List.length).sum
  | [] => by simp
  | x :: l => by
    have h1 := recs_few l
    have h2 := endOf_len (scanOf x)
    have h3 := scan_end x
    simp only [List.flatMap_cons, List.length_append, List.map_cons, List.sum_cons]
    omega
theorem recs_small {l : List (List UInt8)} : ∀ q ∈ l.flatMap scanOf, q.length ≤ 1048576 := fun q hq => by
  obtain ⟨x, _, hx⟩ := List.mem_flatMap.1 hq
  exact scan_small x q hx
/-- How many bytes are cut of the last one that was seen. -/
def cutTo (l : List (List UInt8)) (j : Nat) : Nat := match (l.take j).getLast? with | none => 0 | some x => x.length - endOf (scanOf x)
theorem cutTo_next {l : List (List UInt8)} {j : Nat} (h : l[j]? = some b) : cutTo l (j + 1) = b.length - endOf (scanOf b) := by
  unfold cutTo
  rw [List.take_add_one, h]
  simp
def BadTo (l : List (List UInt8)) (gap : Int) (j : Nat) : Prop := (0 < gap ∧ gap < l.length) ∨ ∃ (i : Nat) (c : List UInt8), l[i]? = some c ∧ i < j ∧ i + 1 < l.length ∧ endOf (scanOf c) ≠ c.length
theorem BadTo.next {l : List (List UInt8)} {gap : Int} {j : Nat} (h : l[j]? = some b) : BadTo l gap (j + 1) ↔ BadTo l gap j ∨ (j + 1 < l.length ∧ endOf (scanOf b) ≠ b.length) := by
  unfold BadTo
  constructor
  · rintro (h1 | ⟨i, c, h1, h2, h3, h4⟩)
    · exact .inl (.inl h1)
    · by_cases e : i = j
      · subst e
        rw [h] at h1
        rw [← Option.some.inj h1] at h4
        exact .inr ⟨h3, h4⟩
      · exact .inl (.inr ⟨i, c, h1, by omega, h3, h4⟩)
  · rintro ((h1 | ⟨i, c, h1, h2, h3, h4⟩) | ⟨h3, h4⟩)
    · exact .inl h1
    · exact .inr ⟨i, c, h1, by omega, h3, h4⟩
    · exact .inr ⟨j, b, h, by omega, h3, h4⟩
theorem LayO.few_ {fr : Nat} {gap : Int} {l : List (List UInt8)} (h : LayO F fr gap l) (hl : l.length ≤ 20) (h1 : 1 ≤ fr) (h5 : fr ≤ 50) (hsum : (l.map List.length).sum ≤ 1048576) :
    ∀ f m, scanNums (segNums F nmW) 0 0 = some (f, m) → (m + 1 - f) * F.used.toNat ≤ 80000000 := by
  intro f m hfm
  by_cases hg : 0 < gap ∧ gap < l.length
  · obtain ⟨a, c, ha, hc, e⟩ := numsTo_gap (fr := fr) hg.1 hg.2
    have := h.laid
    rw [e] at this
    rw [this.gap h1 ha hc] at hfm
    cases hfm
  · have := h.laid
    rw [numsTo_flat hg] at this
    have hs := this.segs h1 (by omega)
    have hu := h.used
    cases l with
    | nil =>
      rw [hu]
      simp
    | cons x r =>
      rw [hs.nums (by simp)] at hfm
      simp only [Option.some.injEq, Prod.mk.injEq, List.length_map] at hfm
      obtain ⟨rfl, rfl⟩ := hfm
      exact Nat.le_trans (Nat.mul_le_mul (show fr + (x :: r).length - 1 + 1 - fr ≤ 20 by omega) (show F.used.toNat ≤ 1048576 by omega)) (by omega)
theorem LayO.none_ {fr : Nat} {gap : Int} (h : LayO F fr gap []) : ∃ G, openL F nmW 64 = (G, ⟨nmW, 64, 1, 1, 0, false⟩, [], 0) := by
  have h0 : Laid F nmW (List.range' 1 ([] : List (List UInt8)).length) [] := h.laid
  obtain ⟨G, ho, _⟩ := open_none (F := F) (size := 64) (h0.segs (Nat.le_refl _) (by simp)) dirOk_w (by decide) (by decide) h.up h.calm (by have := h.few; simp at this; omega)
  exact ⟨G, ho⟩
theorem LayO.bad {fr : Nat} {gap : Int} {l : List (List UInt8)} (h : LayO F fr gap l) (h1 : 1 ≤ fr) (h5 : fr ≤ 50) (hl : l.length ≤ 20) (hb : BadTo l gap l.length) :
    (openL F nmW 64).2.2 = ([], 14) := by
  by_cases hg : 0 < gap ∧ gap < l.length
  · obtain ⟨a, c, ha, hc, e⟩ := numsTo_gap (fr := fr) hg.1 hg.2
    have := h.laid
    rw [e] at this
    rw [open_gap (okName_seg dirOk_w 1) (by decide) (by decide) h.up (this.gap h1 ha hc)]
  · obtain ⟨i, b, hi, _, hil, hw⟩ := hb.resolve_left hg
    have hL := h.laid
    rw [numsTo_flat hg] at hL
    have hs := hL.segs h1 (by omega)
    have hne : l ≠ [] := by rintro rfl; simp at hil
    have e := List.dropLast_concat_getLast hne
    rw [← e, List.map_append] at hs
    refine (open_bad hs (okName_seg dirOk_w 1) (by decide) (by decide) h.up ⟨⟨b, 0⟩, ?_, hw⟩).2
    refine List.mem_map.2 ⟨b, ?_, rfl⟩
    refine List.mem_of_getElem? (i := i) ?_
    rw [← e, List.getElem?_append_left (by rw [List.length_dropLast]; omega)] at hi
    exact hi
theorem LayO.good {fr : Nat} {gap : Int} {l : List (List UInt8)} (h : LayO F fr gap l) (h1 : 1 ≤ fr) (h5 : fr ≤ 50) (hl : l.length ≤ 20) (hne : l ≠ []) (hb : ¬ BadTo l gap l.length) :
    ∃ G y x, openL F nmW 64 = (G, ⟨nmW, 64, fr, fr + (l.length - 1), cutTo l l.length, false⟩, l.flatMap scanOf, 0) ∧ G.find (segName nmW (fr + (l.length - 1))) = some y ∧ l[l.length - 1]? = some x ∧ y.data = x.take (x.length - cutTo l l.length) ∧ cutTo l l.length ≤ x.length := by
  have hg : ¬ (0 < gap ∧ gap < l.length) := fun e => hb (.inl e)
  obtain ⟨r, x, rfl⟩ : ∃ r x, l = r ++ [x] := ⟨l.dropLast, l.getLast hne, (List.dropLast_concat_getLast hne).symm⟩
  have hw : ∀ b ∈ r, endOf (scanOf b) = b.length := fun b hbr => Classical.byContradiction fun e => by
    obtain ⟨i, hi⟩ := List.getElem?_of_mem hbr
    have hil := (List.getElem?_eq_some_iff.1 hi).1
    exact hb (.inr ⟨i, b, by rw [List.getElem?_append_left hil]; exact hi, by simp; omega, by simp; omega, e⟩)
  have hL := h.laid
  rw [numsTo_flat hg] at hL
  have hs := hL.segs h1 (by omega)
  rw [List.map_append] at hs
  obtain ⟨G, y, ho, hO⟩ := open_out (size := 64) (x := ⟨x, 0⟩) hs (fun d hd => by
    obtain ⟨b, hb, rfl⟩ := List.mem_map.1 hd
    exact hw b hb) h.up h.calm (okName_seg dirOk_w 1) (by decide) (by decide)
  have hc : cutTo (r ++ [x]) (r ++ [x]).length = x.length - endOf (scanOf x) := by
    unfold cutTo
    rw [List.take_length]
    simp
  have hle := scan_end x
  rw [hc]
  rw [show (r ++ [x]).length - 1 = r.length by simp]
  refine ⟨G, y, x, ?_, ?_, by simp, ?_, by omega⟩
  · rw [ho]
    simp only [List.length_map, recsOf, List.flatMap_append, List.flatMap_map, List.flatMap_cons, List.flatMap_nil]
  · have := hO.sg.at_ r.length y (by simp)
    exact this
  · rw [show x.length - (x.length - endOf (scanOf x)) = endOf (scanOf x) by omega]
    exact hO.data
end
end Go.Proofs.Ythbfkjmpaifblaa
