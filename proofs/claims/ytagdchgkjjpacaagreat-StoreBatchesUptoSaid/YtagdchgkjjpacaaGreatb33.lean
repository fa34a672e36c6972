/- Plain laws of a log's files: what the file system's writes do to the segments. -/
import Derived.Test.YtagdchgkjjpacaaGreatb32
import Derived.Test.YtagdchgkjjpacaaGreatb14
import Derived.Test.YtagdchgkjjpacaaGreatb30
import Derived.Test.YtagdchgkjjpacaaGreatb04
import Derived.Test.YtagdchgkjjpacaaGreatb25
import Derived.Test.YtagdchgkjjpacaaGreatb21
set_option maxRecDepth 100000
open Go.Lib (hid)
namespace Go.Proofs.YtagdchgkjjpacaaGreat
open Go.RowKit
abbrev fl (b : List UInt8) : FileS := ⟨b, b.length⟩
section
variable {F G : FsS} {n : ByteArray} {x y : FileS} {dir : ByteArray} {first : Nat} {ds : List FileS} {d : FileS}
theorem find_put (hr : Rise slt F.files) (hf : G.files = putL slt F.files n y) (m : ByteArray) : G.find m = if m = n then some y else F.find m := by
 unfold FsS.find
 rw [hf]
 split
 ·rename_i e; subst e; exact findL_putL hr
 ·rename_i e; exact findL_putL_ne hr e
end
def Holds (segs : List (List UInt8)) (want : List (List UInt8)) : Prop :=
 ∃ rss : List (List (List UInt8)), segs = rss.map (fun rs => rs.flatMap frameOf) ∧ rss.flatten = want ∧ ∀ p ∈ want, p.length ≤ 1048576
set_option linter.unusedSimpArgs false
set_option linter.unusedVariables false
def nmOf (dir what : ByteArray) : ByteArray := st (tx dir ++ 47 :: tx what)
abbrev sLog : ByteArray := ⟨#[108, 111, 103]⟩
abbrev sBase : ByteArray := ⟨#[98, 97, 115, 101, 45]⟩
abbrev sMan : ByteArray := ⟨#[109, 97, 110, 105, 102, 101, 115, 116]⟩
abbrev sNext : ByteArray := ⟨#[110, 101, 120, 116]⟩
def baseNm (dir : ByteArray) (n : Nat) : ByteArray := st (tx (nmOf dir sBase) ++ digs 8 n)
def baseNum (dir name : ByteArray) : Nat :=
 if Lib.hasPrefix (tx name) (tx (nmOf dir sBase)) = true then numTail ((tx name).drop (tx (nmOf dir sBase)).length) else 0
structure StS where
 dir : ByteArray
 log : LogS
 base : Nat
 stuck : Bool
 all : Prs
 seq : Nat
def manR (F : FsS) (dir : ByteArray) : Option (Nat × Nat × Nat × Prs) :=
 match F.find (nmOf dir sMan) with
 | none => some (0, 0, 0, [])
 | some x =>
   if endOf (scanOf x.data) ≠ x.data.length then none else match scanOf x.data with
   | [r] =>
     if r.length ≠ 16 then none
     else if 99999999 < numOf (r.take 8) ∨ numOf (r.drop 8) < 1 ∨ 9223372036854775808 ≤ numOf (r.drop 8) then none
     else if numOf (r.take 8) = 0 then some (0, numOf (r.drop 8), 0, [])
     else match F.find (baseNm dir (numOf (r.take 8))) with
      | none => none
      | some y => match loadB y.data with
        | none => none
        | some (q, m) => some (numOf (r.take 8), numOf (r.drop 8), q, m)
   | _ => none
def replayR : List (List UInt8) → Nat → Prs → Option (Nat × Prs)
 | [], q, m => some (q, m)
 | p :: r, q, m => match decB p with
   | none => none
   | some (s, l) => if 9223372036854775808 ≤ q + 1 ∨ q + 1 < s then none else if s ≤ q then replayR r q m else replayR r s (applyB m l)
def cleanR (dir : ByteArray) (base : Nat) : List ByteArray → FsS → FsS × Int
 | [], F => (F, 0)
 | n :: r, F => if n ≠ nmOf dir sNext ∧ (baseNum dir n = 0 ∨ baseNum dir n = base) then cleanR dir base r F
   else if (F.remove n).2 = 0 then cleanR dir base r (F.remove n).1 else F.remove n
def openC (dir : ByteArray) (b q : Nat) (m : Prs) (L : LogS) (R : FsS × Int) : FsS × Option StS × Int := if R.2 ≠ 0 then (R.1, none, R.2) else (R.1, some ⟨dir, L, b, false, m, q⟩, 0)
def openD (dir : ByteArray) (b q : Nat) (m : Prs) (R : LogS × FsS × Int) : FsS × Option StS × Int := if R.2.2 ≠ 0 then (R.2.1, none, R.2.2) else openC dir b q m R.1 (cleanR dir b (namesL (dirOf dir) R.2.1.files) R.2.1)
def openP (dir : ByteArray) (b f : Nat) (L : LogS) (F : FsS) (P : Option (Nat × Prs)) : FsS × Option StS × Int := match P with
 | none => (F, none, 14)
 | some (q, m) => openD dir b q m (if L.first < f then dropLg L F ((min f L.last : Nat) : Int) else (L, F, 0))
def openW (dir : ByteArray) (b f q : Nat) (m : Prs) (R : FsS × LogS × List (List UInt8) × Int) : FsS × Option StS × Int := if R.2.2.2 ≠ 0 then (R.1, none, R.2.2.2) else openP dir b f R.2.1 R.1 (replayR R.2.2.1 q m)
def openM (F : FsS) (dir : ByteArray) (size : Int) (M : Option (Nat × Nat × Nat × Prs)) : FsS × Option StS × Int := match M with
 | none => (F, none, 14)
 | some (b, f, q, m) => openW dir b f q m (openL F (nmOf dir sLog) size)
def openS (F : FsS) (dir : ByteArray) (size : Int) : FsS × Option StS × Int :=
 if okName (segName (nmOf dir sLog) 1) = false ∨ okName (baseNm dir 1) = false then (F, none, 1)
 else if size < 16 ∨ 1048576 < size then (F, none, 6) else if F.down = true then (F, none, 5) else openM F dir size (manR F dir)
def writeA (s : StS) (l : List Chg) (R : LogS × FsS × Int) : StS × FsS × Int :=
 if R.2.2 ≠ 0 then ({ s with log := R.1, stuck := R.2.2 == 5 }, R.2.1, R.2.2) else ({ s with log := R.1, all := applyB s.all l, seq := s.seq + 1 }, R.2.1, 0)
def writeE (s : StS) (F : FsS) (l : List Chg) (E : List UInt8 × Nat) : StS × FsS × Int := if E.2 ≠ 0 ∨ l = [] then (s, F, E.2) else writeA s l (appendL s.log F E.1)
def writeS (s : StS) (F : FsS) (l : List Chg) : StS × FsS × Int :=
 if s.stuck = true then (s, F, 25) else if chkB l ≠ 0 then (s, F, chkB l) else writeE s F l (encB ((s.seq : Int) + 1) l)
def laysR (F : FsS) (n : ByteArray) (b : List UInt8) : FsS × Int :=
 if (F.create n).2 ≠ 0 then F.create n else if ((F.create n).1.append n b).2 ≠ 0 then (F.create n).1.append n b else ((F.create n).1.append n b).1.sync n
def undoR (R : FsS × Bool) (n : ByteArray) : FsS × Bool := match R.1.find n with
 | none => R
 | some _ => ((R.1.remove n).1, R.2 || (R.1.remove n).2 == 5)
def failS (s : StS) (F : FsS) (n : Nat) (e : Int) (done : Bool) : StS × FsS × Int :=
 if done = false ∧ e ≠ 5 then ({ s with stuck := (undoR (undoR (F, s.stuck || e == 5) (baseNm s.dir n)) (nmOf s.dir sNext)).2 }, (undoR (undoR (F, s.stuck || e == 5) (baseNm s.dir n)) (nmOf s.dir sNext)).1, e)
 else ({ s with stuck := s.stuck || e == 5 }, F, e)
def topBase (dir : ByteArray) (F : FsS) : Nat := (namesL (nmOf dir sBase) F.files).foldl (fun n m => max n (baseNum dir m + 1)) 1
def saidB (n m : Nat) : List UInt8 := lowN 8 n ++ lowN 8 m
def chk5 (s : StS) (n : Nat) (R : LogS × FsS × Int) : StS × FsS × Int := failS { s with log := R.1 } R.2.1 n R.2.2 true
def chk4 (s : StS) (n : Nat) (R : FsS × Int) : StS × FsS × Int := if R.2 ≠ 0 then failS s R.1 n R.2 true else chk5 s n (dropLg s.log R.1 s.log.last)
def chk3 (s : StS) (n : Nat) (R : FsS × Int) : StS × FsS × Int := if R.2 ≠ 0 then failS s R.1 n R.2 false else chk4 { s with base := n } n (cleanR s.dir n (namesL (dirOf s.dir) R.1.files) R.1)
def chk2 (s : StS) (n : Nat) (R : FsS × Int) : StS × FsS × Int := if R.2 ≠ 0 then failS s R.1 n R.2 false else chk3 s n (R.1.rename (nmOf s.dir sNext) (nmOf s.dir sMan))
def chk1 (s : StS) (n : Nat) (R : LogS × FsS × Int) : StS × FsS × Int :=
 if R.2.2 ≠ 0 then failS { s with log := R.1 } R.2.1 n R.2.2 false else chk2 { s with log := R.1 } n (laysR R.2.1 (nmOf s.dir sNext) (frameOf (saidB n R.1.last)))
def chk0 (s : StS) (n : Nat) (R : FsS × Int) : StS × FsS × Int := if R.2 ≠ 0 then failS s R.1 n R.2 false else chk1 s n (rotateL s.log R.1)
def chkS (s : StS) (F : FsS) : StS × FsS × Int := if s.stuck = true then (s, F, 25) else chk0 s (topBase s.dir F) (laysR F (baseNm s.dir (topBase s.dir F)) (imgB s.seq s.all))
set_option linter.unusedSectionVars false
open Go.RowKit Go.Shelf
structure StC where
 fb : Nat
 dir : ByteArray
 lv : Option Addr
 base : Int
 stuck : Bool
 tb : Nat
 seq : Int
abbrev stCells (c : StC) (s r : Int) : Array Value := #[.pointer (some ⟨c.fb, 0, none⟩), .string c.dir, .pointer c.lv, .int .i64 c.base, .bool c.stuck, .int .i32 s, .int .u32 0, .int .u32 0, .int .u32 0, .int .i32 r, .int .i32 0, .pointer (some ⟨c.tb, 0, none⟩), .int .i64 c.seq]
abbrev StIn (w : World) (sb : Nat) (c : StC) : Prop := IsBlk w sb (stCells c 0 0) 126
theorem StIn.below {w w' : World} {sb : Nat} {c : StC} (h : StIn w sb c) (k : Below w.heap.size w w') : StIn w' sb c := (k.block _ (lt_of_block h)).trans h
theorem nm_add (dir what : ByteArray) : dir ++ (⟨#[47]⟩ : ByteArray) ++ what = nmOf dir what := by
 have h1 : dir = ⟨dir.data.toList.toArray⟩ := (bytes_eta dir).symm
 have h2 : what = ⟨what.data.toList.toArray⟩ := (bytes_eta what).symm
 conv => lhs; rw [h1, h2, show (⟨#[47]⟩ : ByteArray) = ⟨[47].toArray⟩ from rfl, bytes_add, bytes_add, List.append_assoc]
 rfl
section
variable {w : World} {sb : Nat} {c : StC}
theorem st_name (h : StIn w sb c) (hd : c.dir.size ≤ 100000) (what : ByteArray) (hw : what.size ≤ 100000) :
 Calls Tryz.prog 65 #[.pointer (some ⟨sb, 0, none⟩), .string what] w fun e w' => e = .returned (.string (nmOf c.dir what)) ∧ w = w' := by
 have c1 : w.cell? ⟨sb, 1, none⟩ = some (.string c.dir) := blk_cell h 1
 have he := nm_add c.dir what
 clear h
 go_enter Tryz.func65, Tryz.ntmps65
 go_wp2_with (fail)
 go_ret
 first | exact ⟨rfl, rfl⟩ | exact ⟨by rw [he], rfl⟩
theorem base_add (a : ByteArray) (n : Nat) : a ++ (⟨(digs 8 n).toArray⟩ : ByteArray) = st (tx a ++ digs 8 n) := by
 have h1 : a = ⟨a.data.toList.toArray⟩ := (bytes_eta a).symm
 conv => lhs; rw [h1, bytes_add]
theorem trim_seg (n : Nat) : Lib.trimPrefix (segName ⟨#[]⟩ n).data.toList (⟨#[47]⟩ : ByteArray).data.toList = digs 8 n := by
 rw [segName_list]
 have e1 : (⟨#[47]⟩ : ByteArray).data.toList = [47] := rfl
 have e2 : (⟨#[]⟩ : ByteArray).data.toList = [] := rfl
 rw [e1, e2, List.nil_append]
 unfold Lib.trimPrefix Lib.hasPrefix
 simp
theorem st_baseName (h : StIn w sb c) (hd : c.dir.size ≤ 100000) (n : Nat) (hn : n < 100000000) (z : Int) (hz : z = (n : Int)) :
 Calls Tryz.prog 66 #[.pointer (some ⟨sb, 0, none⟩), .int .i64 z] w fun e w' => e = .returned (.string (baseNm c.dir n)) ∧ Below w.heap.size w w' := by
 have HNM := hid (st_name h hd ⟨#[98, 97, 115, 101, 45]⟩ (by decide))
 have HWN := hid (w_name w ⟨#[]⟩ (by decide) n hn)
 obtain ⟨a, ha⟩ : ∃ a, a = nmOf c.dir ⟨#[98, 97, 115, 101, 45]⟩ := ⟨_, rfl⟩
 have hasz : a.size ≤ 200000 := by
  rw [ha]; unfold nmOf; rw [st_size, List.length_append]
  have e : (tx c.dir).length = c.dir.size := rfl
  simp only [List.length_cons]
  have : (tx (⟨#[98, 97, 115, 101, 45]⟩ : ByteArray)).length = 5 := rfl
  omega
 have hfin : a ++ (⟨(digs 8 n).toArray⟩ : ByteArray) = baseNm c.dir n := by rw [base_add, ha]; rfl
 rw [← ha] at HNM
 have hng : ¬ 9223372036854775807 < a.size + (digs 8 n).length := by rw [digs_len]; omega
 have hz1 : (0 : Int) ≤ z := by omega
 have hz2 : z < 100000000 := by omega
 rw [← hz] at HWN
 have HTP : Hid (∀ W, Calls Tryz.prog 104 #[.string (segName ⟨#[]⟩ n), .string ⟨#[47]⟩] W fun e w' => e = .returned (.string ⟨(digs 8 n).toArray⟩) ∧ W = w') := hid fun W => by
  refine (Tryz.strings_TrimPrefix _ _ W).mono ?_
  rintro e w' ⟨rfl, rfl⟩
  exact ⟨by rw [trim_seg], rfl⟩
 clear h ha hz
 go_enter Tryz.func66, Tryz.ntmps66
 go_wp2_with (fail)
 refine HNM.out.mono ?_
 rintro e w1 ⟨rfl, rfl⟩
 go_wp2_with (fail)
 refine HWN.out.mono ?_
 rintro e w2 ⟨rfl, hb⟩
 have HB := hid hb
 clear hb
 go_wp2_with (fail)
 refine (HTP.out _).mono ?_
 rintro e w3 ⟨rfl, rfl⟩
 go_wp2_with (fail)
 go_ret
 first | exact ⟨rfl, HB.out⟩ | exact ⟨by rw [hfin], HB.out⟩
set_option maxHeartbeats 2000000 in
theorem st_baseNumber (h : StIn w sb c) (hd : c.dir.size ≤ 100000) (name : ByteArray) :
 Calls Tryz.prog 79 #[.pointer (some ⟨sb, 0, none⟩), .string name] w fun e w' => e = .returned (.int .i64 (baseNum c.dir name : Int)) ∧ w = w' := by
 have HNM := hid (st_name h hd ⟨#[98, 97, 115, 101, 45]⟩ (by decide))
 obtain ⟨F, hF⟩ : ∃ F, F = nmOf c.dir ⟨#[98, 97, 115, 101, 45]⟩ := ⟨_, rfl⟩
 have HB : Hid (baseNum c.dir name = if Lib.hasPrefix (tx name) (tx F) = true then numTail ((tx name).drop (tx F).length) else 0) := hid (by rw [hF]; rfl)
 rw [← hF] at HNM
 have HC := hid ((Tryz.strings_CutPrefix name F w).mono fun _ _ (h : _ ∧ _) => And.intro h.1 h.2.symm)
 clear h hF
 cases hp : Lib.hasPrefix name.data.toList F.data.toList with
 | false =>
   have HN : Hid (baseNum c.dir name = 0) := hid (by rw [HB.out, hp, if_neg (by simp)])
   rw [hp] at HC
   clear hp
   go_enter Tryz.func79, Tryz.ntmps79
   go_wp2_with (fail)
   refine HNM.out.mono ?_
   rintro e w' ⟨rfl, rfl⟩
   go_wp2_with (fail)
   refine HC.out.mono ?_
   rintro e w' ⟨rfl, rfl⟩
   go_wp2_with (fail)
   go_ret
   rw [HN.out]
   exact ⟨rfl, rfl⟩
 | true =>
   obtain ⟨s, hs⟩ : ∃ s : ByteArray, s = ⟨(Lib.trimPrefix name.data.toList F.data.toList).toArray⟩ := ⟨_, rfl⟩
   have HN : Hid (baseNum c.dir name = numTail s.data.toList) := hid (by
    rw [HB.out, hp, if_pos rfl, hs]
    unfold Lib.trimPrefix
    rw [hp, if_pos rfl])
   rw [hp, ← hs] at HC
   clear hp hs
   by_cases h8 : s.size = 8
   ·have h8' : (s.size : Int) = 8 := by omega
    have hl8 : s.data.toList.length = 8 := h8
    go_enter Tryz.func79, Tryz.ntmps79
    go_wp2_with (fail)
    refine HNM.out.mono ?_
    rintro e w' ⟨rfl, rfl⟩
    go_wp2_with (fail)
    refine HC.out.mono ?_
    rintro e w' ⟨rfl, rfl⟩
    go_wp2_with (fail)
    go_loopw [7, 25] (fun c i wr => ∃ k : Nat, k ≤ 8 ∧ i = .int .i64 (k : Int) ∧ c = .int .i64 (numDigs (s.data.toList.take k) : Int) ∧ Hid ((s.data.toList.take k).all isDig = true) ∧ wr = w) (fun _ i _ => (8 - intOf i).toNat)
    case atStart => exact ⟨0, Nat.zero_le _, rfl, rfl, hid rfl, rfl⟩
    case round =>
     obtain ⟨k, hk, rfl, rfl, HA, rfl⟩ := hrel
     by_cases hlt : k < 8
     ·have hks : k < s.size := by omega
      have hx := str_at s hks
      have HT := hid (numDigs_take hx)
      have HX := hid hx
      have hk0 : (0 : Int) ≤ (k : Int) := by omega
      have hk1 : (k : Int) < 8 := by omega
      have hk2 : (k : Int) < (s.size : Int) := by omega
      clear hx
      have HBAD : Hid (isDig s[k] = false → baseNum c.dir name = 0) := hid (fun hb => by
       rw [HN.out]
       unfold numTail
       rw [if_neg]
       rintro ⟨_, h2⟩
       have := List.all_eq_true.1 h2 _ (List.mem_of_getElem? HX.out)
       rw [hb] at this; cases this)
      go_wp2_with (fail)
      ·rename_i h1 h2
       go_ret
       rw [HBAD.out (by unfold isDig; simp; omega)]
       exact ⟨rfl, rfl⟩
      ·rename_i h1 h2
       have hlt2 : numDigs (s.data.toList.take k) < 10 ^ 8 := by
        have h3 := numDigs_lt _ HA.out
        have h4 : 10 ^ (s.data.toList.take k).length ≤ 10 ^ 8 := Nat.pow_le_pow_right (by omega) (by rw [List.length_take]; omega)
        omega
       have HD : Hid (isDig s[k] = true) := hid (by unfold isDig; simp; omega)
       have HE : Hid (wrap64 (wrap64 (10 * (numDigs (s.data.toList.take k) : Int)) + ((s[k].toNat : Int) - 48)) = (numDigs (s.data.toList.take (k + 1)) : Int)) := hid (by
        rw [HT.out, IntWalk.wrap64_in (10 * _) (by omega), IntWalk.wrap64_in _ (by omega)]
        omega)
       have HA2 : Hid ((s.data.toList.take (k + 1)).all isDig = true) := hid (by
        rw [List.take_add_one, HX.out, List.all_append, HA.out]
        simp [HD.out])
       clear hlt2
       go_roundw
       case rel => exact ⟨k + 1, by omega, by go_num, by rw [HE.out], HA2, trivial⟩
       case measure => simp [intOf]; omega
      ·rename_i h1
       go_ret
       rw [HBAD.out (by unfold isDig; simp; omega)]
       exact ⟨rfl, rfl⟩
     ·obtain rfl : k = 8 := by omega
      have HE : Hid (baseNum c.dir name = numDigs (s.data.toList.take 8)) := hid (by
       have e : s.data.toList.take 8 = s.data.toList := List.take_of_length_le (by omega)
       have ha := HA.out
       rw [e] at ha ⊢
       rw [HN.out]
       unfold numTail
       rw [if_pos ⟨hl8, ha⟩])
      go_wp2_with (fail)
      go_ret
      rw [HE.out]
      exact ⟨rfl, rfl⟩
   ·have h8' : ((s.size : Int) != 8) = true := by rw [bne_iff_ne]; omega
    have HE : Hid (baseNum c.dir name = 0) := hid (by
     rw [HN.out]
     unfold numTail
     rw [if_neg]
     rintro ⟨h1, _⟩
     exact h8 h1)
    clear h8
    go_enter Tryz.func79, Tryz.ntmps79
    go_wp2_with (fail)
    refine HNM.out.mono ?_
    rintro e w' ⟨rfl, rfl⟩
    go_wp2_with (fail)
    refine HC.out.mono ?_
    rintro e w' ⟨rfl, rfl⟩
    go_wp2_with (fail)
    go_ret
    rw [HE.out]
    exact ⟨rfl, rfl⟩
def StC.met (c : StC) (e : Int) : StC := { c with stuck := c.stuck || e == 5 }
theorem st_met (h : StIn w sb c) (r : Int) :
 Calls Tryz.prog 75 #[.pointer (some ⟨sb, 0, none⟩), .int .i64 r] w fun e w' => e = .returned (.int .i64 r) ∧ StIn w' sb (c.met r) ∧ Keeps (Only sb) w w' := by
 have c4 : w.cell? ⟨sb, 4, none⟩ = some (.bool c.stuck) := blk_cell h 4
 have z4 : w.frozen? ⟨sb, 4, none⟩ = false := blk_free h 4
 have H := hid h
 have HS : Hid (∀ b, b = (c.stuck || r == 5) → StIn (w.setCell ⟨sb, 4, none⟩ (.bool b)) sb (c.met r) ∧ Keeps (Only sb) w (w.setCell ⟨sb, 4, none⟩ (.bool b))) := hid fun b hb => by
  subst hb
  exact ⟨blk_set H.out 4 _, (Keeps.refl (Only sb) w).setCell (p := ⟨sb, 4, none⟩) (fun _ => rfl) _⟩
 clear h
 cases hs : c.stuck with
 | true =>
   rw [hs] at c4 HS
   clear hs
   go_enter Tryz.func75, Tryz.ntmps75
   go_wp2_with (fail)
   go_ret
   exact ⟨rfl, HS.out _ rfl⟩
 | false =>
   rw [hs] at c4 HS
   clear hs
   go_enter Tryz.func75, Tryz.ntmps75
   go_wp2_with (fail)
   go_ret
   exact ⟨rfl, HS.out _ rfl⟩
theorem LsAt.shape {B : Nat} {v : Value} {rs : List (List UInt8)} (h : LsAt B w v rs) : ∃ a cap, v = .slice a rs.length cap := h.rd.shape
theorem st_framed {a : Option Addr} {cap : Nat} {ys : List UInt8} (hu : RdAt byteKind w (.slice a ys.length cap) ys) (hn : ys.length ≤ 70000000) (hcap : ys.length ≤ cap) (hcm : cap ≤ 9223372036854775807) :
 Calls Tryz.prog 106 #[.slice a ys.length cap] w fun e w' => Below w.heap.size w w' ∧ ((endOf (scanOf ys) = ys.length ∧ ∃ va vc, e = .returned (.slice va (scanOf ys).length vc) ∧ LsAt w.heap.size w' (.slice va (scanOf ys).length vc) (scanOf ys)) ∨ (endOf (scanOf ys) ≠ ys.length ∧ e = spoiltE)) := by
 have HSC := hid ((w_scan hu hn hcap hcm).mono fun e w' (h : ScanPost w ys e w') => h)
 clear hu
 by_cases he : endOf (scanOf ys) = ys.length
 ·have HE := hid he
  have hd : decide (endOf (scanOf ys) = ys.length) = true := by simp [he]
  clear he
  go_enter Tryz.func106, Tryz.ntmps106
  go_wp2_with (fail)
  refine HSC.out.mono ?_
  rintro e w1 ⟨v, rfl, hl, hb⟩
  obtain ⟨va, vc, rfl⟩ := hl.shape
  rw [hd]
  have HL := hid (And.intro hl hb)
  clear hl hb hd
  go_wp2_with (fail)
  go_ret
  exact ⟨HL.out.2, .inl ⟨HE.out, va, vc, rfl, HL.out.1⟩⟩
 ·have HE := hid he
  have hd : decide (endOf (scanOf ys) = ys.length) = false := by simp [he]
  clear he
  go_enter Tryz.func106, Tryz.ntmps106
  go_wp2_with (fail)
  refine HSC.out.mono ?_
  rintro e w1 ⟨v, rfl, hl, hb⟩
  obtain ⟨va, vc, rfl⟩ := hl.shape
  rw [hd]
  have HL := hid (And.intro hl hb)
  clear hl hb hd
  go_wp2_with (fail)
  refine st_leave rfl ?_
  exact ⟨HL.out.2, .inr ⟨HE.out, rfl⟩⟩
end
end Go.Proofs.YtagdchgkjjpacaaGreat
