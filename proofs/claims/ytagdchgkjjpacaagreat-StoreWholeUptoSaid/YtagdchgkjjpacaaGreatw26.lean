/- Plain laws of a log: what Open finds; a crash. -/
import Derived.Test.YtagdchgkjjpacaaGreatw25
import Derived.Test.YtagdchgkjjpacaaGreatw18
namespace Go.Proofs.YtagdchgkjjpacaaGreat
open Go.RowKit
abbrev recsOf (ds : List FileS) : List (List UInt8) := ds.flatMap fun d => scanOf d.data
theorem dec_ascii (s : ByteArray) (i : Nat) (h : (s.get! i).toNat < 128) : Utf8.decode s i = ((s.get! i).toNat, 1) := by
 unfold Utf8.decode
 simp only [Nat.add_zero]
 rw [if_pos h]
theorem odd_high {r : Nat} (h : 128 ≤ r) : oddR r = true := by
 unfold oddR
 have a1 : decide (r < 97) = false := decide_eq_false (by omega)
 have a2 : decide (122 < r) = true := decide_eq_true (by omega)
 have a3 : decide (57 < r) = true := decide_eq_true (by omega)
 have a4 : (r != 45) = true := bne_iff_ne.2 (by omega)
 have a5 : (r != 46) = true := bne_iff_ne.2 (by omega)
 have a6 : (r != 47) = true := bne_iff_ne.2 (by omega)
 rw [a1, a2, a3, a4, a5, a6]
 simp
theorem idx_none (s : ByteArray) : ∀ f pos, (∀ i, pos ≤ i → i < s.size → oddR (s.get! i).toNat = false) → Lib.idxFuncFrom oddR true s f pos = -1
 | 0, _, _ => rfl
 | f + 1, pos, h => by
   unfold Lib.idxFuncFrom
   by_cases hp : pos < s.size
   ·rw [if_pos hp]
    have h1 := h pos (Nat.le_refl _) hp
    have h2 : (s.get! pos).toNat < 128 := by
     rcases Nat.lt_or_ge (s.get! pos).toNat 128 with h2 | h2
     ·exact h2
     ·rw [odd_high h2] at h1; cases h1
    rw [dec_ascii s pos h2, h1, if_neg (by simp)]
    exact idx_none s f (pos + 1) fun i hi hl => h i (by omega) hl
   ·rw [if_neg hp]
theorem okName_all (n : ByteArray) (h0 : n.size ≠ 0) (h1 : n.size ≤ 100) (h2 : n.get! 0 ≠ 47) (h3 : n.get! (n.size - 1) ≠ 47) (h : ∀ i, i < n.size → oddR (n.get! i).toNat = false) : okName n = true := by
 unfold okName Lib.idxFunc
 rw [idx_none n n.size 0 (fun i _ hi => h i hi)]
 simp [h0, h1, h2, h3]
theorem get_list (n : ByteArray) {i : Nat} (hi : i < n.size) : n.data.toList[i]? = some (n.get! i) := by
 have hi : i < n.data.size := hi
 have h1 : n.get! i = n.data[i] := getElem!_pos n.data i hi
 rw [h1]
 simp
structure DirOk (dir : ByteArray) : Prop where
 small : dir.size ≤ 90
 some_ : 0 < dir.size
 front : dir.get! 0 ≠ 47
 all : ∀ x ∈ dir.data.toList, oddR x.toNat = false
theorem okName_seg {dir : ByteArray} (h : DirOk dir) (n : Nat) : okName (segName dir n) = true := by
 have hsz : (segName dir n).size = dir.size + 9 := by
  show (segName dir n).data.toList.length = dir.data.toList.length + 9
  rw [segName_list]
  simp [digs_len]
 have hdig : ∀ x ∈ digs 8 n, 48 ≤ x.toNat ∧ x.toNat ≤ 57 := fun x hx => by
  have := List.all_eq_true.1 (digs_all 8 n) x hx
  unfold isDig at this
  simpa using this
 have hall : ∀ x ∈ (segName dir n).data.toList, oddR x.toNat = false := fun x hx => by
  rw [segName_list] at hx
  rcases List.mem_append.1 hx with e | e
  ·exact h.all x e
  ·rcases List.mem_cons.1 e with e | e
   ·subst e; decide
   ·have := hdig x e
    unfold oddR
    have a3 : decide (x.toNat < 48) = false := decide_eq_false (by omega)
    have a4 : decide (57 < x.toNat) = false := decide_eq_false (by omega)
    rw [a3, a4]; simp
 have hd8 : (digs 8 n).length = 8 := digs_len 8 n
 refine okName_all _ (by omega) (by have := h.small; omega) ?_ ?_ (fun i hi => hall _ (List.mem_of_getElem? (get_list _ hi)))
 ·have h1 := get_list (segName dir n) (i := 0) (by omega)
  have h2 := get_list dir h.some_
  rw [segName_list, List.getElem?_append_left (by have := h.some_; exact this), h2] at h1
  rw [← Option.some.inj h1]
  exact h.front
 ·have h1 := get_list (segName dir n) (i := (segName dir n).size - 1) (by omega)
  intro e
  rw [e, segName_list, hsz] at h1
  have e9 : dir.size + 9 - 1 = dir.data.toList.length + (7 + 1) := by show dir.size + 9 - 1 = dir.size + 8; omega
  rw [e9, List.getElem?_append_right (by omega), show dir.data.toList.length + (7 + 1) - dir.data.toList.length = 7 + 1 by omega, List.getElem?_cons_succ] at h1
  have := hdig _ (List.mem_of_getElem? h1)
  have e47 : (47 : UInt8).toNat = 47 := rfl
  omega
def Holds (segs : List (List UInt8)) (want : List (List UInt8)) : Prop :=
 ∃ rss : List (List (List UInt8)), segs = rss.map (fun rs => rs.flatMap frameOf) ∧ rss.flatten = want ∧ ∀ p ∈ want, p.length ≤ 1048576
section
variable {F G : FsS} {L L' : LogS} {segs pre want : List (List UInt8)} {b p : List UInt8}
theorem scan_of_frames {rs : List (List UInt8)} (h : ∀ p ∈ rs, p.length ≤ 1048576) : scanOf (rs.flatMap frameOf) = rs := by
 have := scan_frames rs [] h
 rw [List.append_nil] at this
 rw [this, scanOf_none (by unfold headOf; simp)]
 simp
theorem Holds.empty : Holds [[]] [] := ⟨[[]], rfl, rfl, fun p hp => by simp at hp⟩
theorem Holds.new (h : Holds segs want) : Holds (segs ++ [[]]) want := by
 obtain ⟨rss, h1, h2, h3⟩ := h
 exact ⟨rss ++ [[]], by simp [h1], by simp [h2], h3⟩
theorem Holds.fresh (h : Holds segs want) (hp : p.length ≤ 1048576) : Holds (segs ++ [frameOf p]) (want ++ [p]) := by
 obtain ⟨rss, h1, h2, h3⟩ := h
 refine ⟨rss ++ [[p]], by simp [h1], by simp [h2], fun q hq => ?_⟩
 rcases List.mem_append.1 hq with e | e
 ·exact h3 q e
 ·rw [List.mem_singleton.1 e]; exact hp
theorem Holds.split (h : Holds (pre ++ [b]) want) : ∃ (rss : List (List (List UInt8))) (rs : List (List UInt8)), pre = rss.map (fun rs => rs.flatMap frameOf) ∧ b = rs.flatMap frameOf ∧ rss.flatten ++ rs = want ∧ ∀ p ∈ want, p.length ≤ 1048576 := by
 obtain ⟨rss, h1, h2, h3⟩ := h
 have hne : rss ≠ [] := by rintro rfl; simp at h1
 have e := List.dropLast_concat_getLast hne
 rw [← e, List.map_append] at h1
 have h4 := List.append_inj' h1 (by simp)
 refine ⟨rss.dropLast, rss.getLast hne, h4.1, by simpa using h4.2, ?_, h3⟩
 conv at h2 => lhs; rw [← e]
 simpa using h2
theorem Holds.next (h : Holds (pre ++ [b]) want) (hp : p.length ≤ 1048576) : Holds (pre ++ [b ++ frameOf p]) (want ++ [p]) := by
 obtain ⟨rss, rs, h1, h2, h3, h4⟩ := h.split
 refine ⟨rss ++ [rs ++ [p]], by simp [h1, h2], by simp [← h3], fun q hq => ?_⟩
 rcases List.mem_append.1 hq with e | e
 ·exact h4 q e
 ·rw [List.mem_singleton.1 e]; exact hp
theorem Holds.whole (h : Holds segs want) : (∀ d ∈ segs.map fl, Whole_ d) ∧ recsOf (segs.map fl) = want := by
 obtain ⟨rss, rfl, h2, h3⟩ := h
 have hs : ∀ rs ∈ rss, ∀ p ∈ rs, p.length ≤ 1048576 := fun rs hr p hp => h3 p (by rw [← h2]; exact List.mem_flatten.2 ⟨rs, hr, hp⟩)
 constructor
 ·intro d hd
  rw [List.map_map] at hd
  obtain ⟨rs, hr, rfl⟩ := List.mem_map.1 hd
  show endOf (scanOf (rs.flatMap frameOf)) = (rs.flatMap frameOf).length
  rw [scan_of_frames (hs rs hr), endOf_frames]
 ·rw [← h2]
  clear h2 h3
  induction rss with
  | nil => rfl
  | cons rs r ih =>
    simp only [recsOf, List.map_cons, List.flatMap_cons, List.flatten_cons] at ih ⊢
    rw [scan_of_frames (hs rs (by simp)), ih fun q hq => hs q (by simp [hq])]
end
section
variable {F G : FsS} {L L' : LogS} {dir : ByteArray} {size : Int} {first j : Nat} {segs pre want : List (List UInt8)} {b c t p : List UInt8}
theorem open_none (hs : Segs F dir 1 []) (hd : DirOk dir) (h16 : 16 ≤ size) (h20 : size ≤ 1048576) (hdn : F.down = false) (ha : F.armed = 0) (hf : F.files.length < 400) :
 ∃ G, openL F dir size = (G, ⟨dir, size, 1, 1, 0, false⟩, [], 0) ∧ LogOn G ⟨dir, size, 1, 1, 0, false⟩ [[]] ∧ G.armed = 0 ∧ G.room = F.room ∧ G.used = F.used ∧ G.files = putL slt F.files (segName dir 1) (fl []) := by
 have hfree : F.find (segName dir 1) = none := hs.free (by simp)
 rcases create_wr hdn (okName_seg hd 1) hfree hf with ⟨e, D⟩ | ⟨_, D⟩
 ·have hS : Segs (F.create (segName dir 1)).1 dir 1 ([[]].map fl) := hs.more (y := fl []) (by simp) D.files
  refine ⟨(F.create (segName dir 1)).1, ?_, ⟨hS, by simp, rfl, rfl, by rw [D.down]; exact hdn, fun n _ => okName_seg hd n⟩, D.calm ha, D.room, D.used, D.files⟩
  unfold openL
  rw [if_neg (by simp [okName_seg hd 1]), if_neg (by omega), if_neg (by simp [hdn]), hs.empty]
  simp only
  rw [if_pos trivial, if_pos e]
  unfold openR
  have := hS.read_all (fun d hd => by
   simp only [List.map_cons, List.map_nil, List.mem_singleton] at hd
   subst hd
   show endOf (scanOf []) = ([] : List UInt8).length
   rw [scanOf_none (by unfold headOf; simp)]; rfl) 1 0
  simp only [List.map_cons, List.map_nil, List.length_singleton] at this
  rw [this]
  simp only [List.flatMap_cons, List.flatMap_nil, List.append_nil]
  rw [scanOf_none (by unfold headOf; simp)]
 ·exact absurd ha D.arm
end
set_option linter.unusedSimpArgs false
set_option linter.unusedVariables false
def nmOf (dir what : ByteArray) : ByteArray := st (tx dir ++ 47 :: tx what)
abbrev sLog : ByteArray := ⟨#[108, 111, 103]⟩
abbrev sBase : ByteArray := ⟨#[98, 97, 115, 101, 45]⟩
abbrev sMan : ByteArray := ⟨#[109, 97, 110, 105, 102, 101, 115, 116]⟩
abbrev sNext : ByteArray := ⟨#[110, 101, 120, 116]⟩
def baseNm (dir : ByteArray) (n : Nat) : ByteArray := st (tx (nmOf dir sBase) ++ digs 8 n)
def baseNum (dir name : ByteArray) : Nat :=
 if Lib.hasPrefix (tx name) (tx (nmOf dir sBase)) = true then numTail ((tx name).drop (tx (nmOf dir sBase)).length) else 0
structure StS where
 dir : ByteArray
 log : LogS
 base : Nat
 stuck : Bool
 all : Prs
 seq : Nat
def manR (F : FsS) (dir : ByteArray) : Option (Nat × Nat × Nat × Prs) :=
 match F.find (nmOf dir sMan) with
 | none => some (0, 0, 0, [])
 | some x =>
   if endOf (scanOf x.data) ≠ x.data.length then none else match scanOf x.data with
   | [r] =>
     if r.length ≠ 16 then none
     else if 99999999 < numOf (r.take 8) ∨ numOf (r.drop 8) < 1 ∨ 9223372036854775808 ≤ numOf (r.drop 8) then none
     else if numOf (r.take 8) = 0 then some (0, numOf (r.drop 8), 0, [])
     else match F.find (baseNm dir (numOf (r.take 8))) with
      | none => none
      | some y => match loadB y.data with
        | none => none
        | some (q, m) => some (numOf (r.take 8), numOf (r.drop 8), q, m)
   | _ => none
def replayR : List (List UInt8) → Nat → Prs → Option (Nat × Prs)
 | [], q, m => some (q, m)
 | p :: r, q, m => match decB p with
   | none => none
   | some (s, l) => if 9223372036854775808 ≤ q + 1 ∨ q + 1 < s then none else if s ≤ q then replayR r q m else replayR r s (applyB m l)
def cleanR (dir : ByteArray) (base : Nat) : List ByteArray → FsS → FsS × Int
 | [], F => (F, 0)
 | n :: r, F => if n ≠ nmOf dir sNext ∧ (baseNum dir n = 0 ∨ baseNum dir n = base) then cleanR dir base r F
   else if (F.remove n).2 = 0 then cleanR dir base r (F.remove n).1 else F.remove n
def openC (dir : ByteArray) (b q : Nat) (m : Prs) (L : LogS) (R : FsS × Int) : FsS × Option StS × Int := if R.2 ≠ 0 then (R.1, none, R.2) else (R.1, some ⟨dir, L, b, false, m, q⟩, 0)
def openD (dir : ByteArray) (b q : Nat) (m : Prs) (R : LogS × FsS × Int) : FsS × Option StS × Int := if R.2.2 ≠ 0 then (R.2.1, none, R.2.2) else openC dir b q m R.1 (cleanR dir b (namesL (dirOf dir) R.2.1.files) R.2.1)
def openP (dir : ByteArray) (b f : Nat) (L : LogS) (F : FsS) (P : Option (Nat × Prs)) : FsS × Option StS × Int := match P with
 | none => (F, none, 14)
 | some (q, m) => openD dir b q m (if L.first < f then dropLg L F ((min f L.last : Nat) : Int) else (L, F, 0))
def openW (dir : ByteArray) (b f q : Nat) (m : Prs) (R : FsS × LogS × List (List UInt8) × Int) : FsS × Option StS × Int := if R.2.2.2 ≠ 0 then (R.1, none, R.2.2.2) else openP dir b f R.2.1 R.1 (replayR R.2.2.1 q m)
def openM (F : FsS) (dir : ByteArray) (size : Int) (M : Option (Nat × Nat × Nat × Prs)) : FsS × Option StS × Int := match M with
 | none => (F, none, 14)
 | some (b, f, q, m) => openW dir b f q m (openL F (nmOf dir sLog) size)
def openS (F : FsS) (dir : ByteArray) (size : Int) : FsS × Option StS × Int :=
 if okName (segName (nmOf dir sLog) 1) = false ∨ okName (baseNm dir 1) = false then (F, none, 1)
 else if size < 16 ∨ 1048576 < size then (F, none, 6) else if F.down = true then (F, none, 5) else openM F dir size (manR F dir)
def writeA (s : StS) (l : List Chg) (R : LogS × FsS × Int) : StS × FsS × Int :=
 if R.2.2 ≠ 0 then ({ s with log := R.1, stuck := R.2.2 == 5 }, R.2.1, R.2.2) else ({ s with log := R.1, all := applyB s.all l, seq := s.seq + 1 }, R.2.1, 0)
def writeE (s : StS) (F : FsS) (l : List Chg) (E : List UInt8 × Nat) : StS × FsS × Int := if E.2 ≠ 0 ∨ l = [] then (s, F, E.2) else writeA s l (appendL s.log F E.1)
def writeS (s : StS) (F : FsS) (l : List Chg) : StS × FsS × Int :=
 if s.stuck = true then (s, F, 25) else if chkB l ≠ 0 then (s, F, chkB l) else writeE s F l (encB ((s.seq : Int) + 1) l)
def laysR (F : FsS) (n : ByteArray) (b : List UInt8) : FsS × Int :=
 if (F.create n).2 ≠ 0 then F.create n else if ((F.create n).1.append n b).2 ≠ 0 then (F.create n).1.append n b else ((F.create n).1.append n b).1.sync n
def undoR (R : FsS × Bool) (n : ByteArray) : FsS × Bool := match R.1.find n with
 | none => R
 | some _ => ((R.1.remove n).1, R.2 || (R.1.remove n).2 == 5)
def failS (s : StS) (F : FsS) (n : Nat) (e : Int) (done : Bool) : StS × FsS × Int :=
 if done = false ∧ e ≠ 5 then ({ s with stuck := (undoR (undoR (F, s.stuck || e == 5) (baseNm s.dir n)) (nmOf s.dir sNext)).2 }, (undoR (undoR (F, s.stuck || e == 5) (baseNm s.dir n)) (nmOf s.dir sNext)).1, e)
 else ({ s with stuck := s.stuck || e == 5 }, F, e)
def topBase (dir : ByteArray) (F : FsS) : Nat := (namesL (nmOf dir sBase) F.files).foldl (fun n m => max n (baseNum dir m + 1)) 1
def saidB (n m : Nat) : List UInt8 := lowN 8 n ++ lowN 8 m
def chk5 (s : StS) (n : Nat) (R : LogS × FsS × Int) : StS × FsS × Int := failS { s with log := R.1 } R.2.1 n R.2.2 true
def chk4 (s : StS) (n : Nat) (R : FsS × Int) : StS × FsS × Int := if R.2 ≠ 0 then failS s R.1 n R.2 true else chk5 s n (dropLg s.log R.1 s.log.last)
def chk3 (s : StS) (n : Nat) (R : FsS × Int) : StS × FsS × Int := if R.2 ≠ 0 then failS s R.1 n R.2 false else chk4 { s with base := n } n (cleanR s.dir n (namesL (dirOf s.dir) R.1.files) R.1)
def chk2 (s : StS) (n : Nat) (R : FsS × Int) : StS × FsS × Int := if R.2 ≠ 0 then failS s R.1 n R.2 false else chk3 s n (R.1.rename (nmOf s.dir sNext) (nmOf s.dir sMan))
def chk1 (s : StS) (n : Nat) (R : LogS × FsS × Int) : StS × FsS × Int :=
 if R.2.2 ≠ 0 then failS { s with log := R.1 } R.2.1 n R.2.2 false else chk2 { s with log := R.1 } n (laysR R.2.1 (nmOf s.dir sNext) (frameOf (saidB n R.1.last)))
def chk0 (s : StS) (n : Nat) (R : FsS × Int) : StS × FsS × Int := if R.2 ≠ 0 then failS s R.1 n R.2 false else chk1 s n (rotateL s.log R.1)
def chkS (s : StS) (F : FsS) : StS × FsS × Int := if s.stuck = true then (s, F, 25) else chk0 s (topBase s.dir F) (laysR F (baseNm s.dir (topBase s.dir F)) (imgB s.seq s.all))
end Go.Proofs.YtagdchgkjjpacaaGreat
