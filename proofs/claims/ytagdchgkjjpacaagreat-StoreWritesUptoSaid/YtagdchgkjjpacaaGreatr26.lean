/- Plain laws of a log: what Open finds; a crash. -/
import Derived.Test.YtagdchgkjjpacaaGreatr25
import Derived.Test.YtagdchgkjjpacaaGreatr18
import Derived.Test.YtagdchgkjjpacaaGreatr16
set_option maxRecDepth 100000
open Go.Lib (hid)
namespace Go.Proofs.YtagdchgkjjpacaaGreat
open Go.RowKit
abbrev recsOf (ds : List FileS) : List (List UInt8):=ds.flatMap fun d => scanOf d.data
theorem dec_ascii (s : ByteArray) (i : Nat) (h : (s.get! i).toNat < 128) : Utf8.decode s i = ((s.get! i).toNat,1):=by
 unfold Utf8.decode
 simp only [Nat.add_zero]
 rw [if_pos h]
theorem odd_high {r : Nat} (h : 128 ≤ r) : oddR r = true:=by
 unfold oddR
 have a1 : decide (r < 97) = false:=decide_eq_false (by omega)
 have a2 : decide (122 < r) = true:=decide_eq_true (by omega)
 have a3 : decide (57 < r) = true:=decide_eq_true (by omega)
 have a4 : (r != 45) = true:=bne_iff_ne.2 (by omega)
 have a5 : (r != 46) = true:=bne_iff_ne.2 (by omega)
 have a6 : (r != 47) = true:=bne_iff_ne.2 (by omega)
 rw [a1,a2,a3,a4,a5,a6]
 simp
theorem idx_none (s : ByteArray) : ∀ f pos,(∀ i,pos ≤ i → i < s.size → oddR (s.get! i).toNat = false) → Lib.idxFuncFrom oddR true s f pos = -1
 | 0,_,_ => rfl
 | f + 1,pos,h => by
   unfold Lib.idxFuncFrom
   by_cases hp : pos < s.size
   ·rw [if_pos hp]
    have h1:=h pos (Nat.le_refl _) hp
    have h2 : (s.get! pos).toNat < 128:=by
     rcases Nat.lt_or_ge (s.get! pos).toNat 128 with h2 | h2
     ·exact h2
     ·rw [odd_high h2] at h1; cases h1
    rw [dec_ascii s pos h2,h1,if_neg (by simp)]
    exact idx_none s f (pos + 1) fun i hi hl => h i (by omega) hl
   ·rw [if_neg hp]
theorem okName_all (n : ByteArray) (h0 : n.size ≠ 0) (h1 : n.size ≤ 100) (h2 : n.get! 0 ≠ 47) (h3 : n.get! (n.size - 1) ≠ 47) (h : ∀ i,i < n.size → oddR (n.get! i).toNat = false) : okName n = true:=by
 unfold okName Lib.idxFunc
 rw [idx_none n n.size 0 (fun i _ hi => h i hi)]
 simp [h0,h1,h2,h3]
theorem get_list (n : ByteArray) {i : Nat} (hi : i < n.size) : n.data.toList[i]? = some (n.get! i):=by
 have hi : i < n.data.size:=hi
 have h1 : n.get! i = n.data[i]:=getElem!_pos n.data i hi
 rw [h1]
 simp
structure DirOk (dir : ByteArray) : Prop where
 small : dir.size ≤ 90
 some_ : 0 < dir.size
 front : dir.get! 0 ≠ 47
 all : ∀ x ∈ dir.data.toList,oddR x.toNat = false
theorem okName_seg {dir : ByteArray} (h : DirOk dir) (n : Nat) : okName (segName dir n) = true:=by
 have hsz : (segName dir n).size = dir.size + 9:=by
  show (segName dir n).data.toList.length = dir.data.toList.length + 9
  rw [segName_list]
  simp [digs_len]
 have hdig : ∀ x ∈ digs 8 n,48 ≤ x.toNat ∧ x.toNat ≤ 57:=fun x hx => by
  have:=List.all_eq_true.1 (digs_all 8 n) x hx
  unfold isDig at this
  simpa using this
 have hall : ∀ x ∈ (segName dir n).data.toList,oddR x.toNat = false:=fun x hx => by
  rw [segName_list] at hx
  rcases List.mem_append.1 hx with e | e
  ·exact h.all x e
  ·rcases List.mem_cons.1 e with e | e
   ·subst e; decide
   ·have:=hdig x e
    unfold oddR
    have a3 : decide (x.toNat < 48) = false:=decide_eq_false (by omega)
    have a4 : decide (57 < x.toNat) = false:=decide_eq_false (by omega)
    rw [a3,a4]; simp
 have hd8 : (digs 8 n).length = 8:=digs_len 8 n
 refine okName_all _ (by omega) (by have:=h.small; omega) ?_ ?_ (fun i hi => hall _ (List.mem_of_getElem? (get_list _ hi)))
 ·have h1:=get_list (segName dir n) (i:=0) (by omega)
  have h2:=get_list dir h.some_
  rw [segName_list,List.getElem?_append_left (by have:=h.some_; exact this),h2] at h1
  rw [← Option.some.inj h1]
  exact h.front
 ·have h1:=get_list (segName dir n) (i:=(segName dir n).size - 1) (by omega)
  intro e
  rw [e,segName_list,hsz] at h1
  have e9 : dir.size + 9 - 1 = dir.data.toList.length + (7 + 1):=by show dir.size + 9 - 1 = dir.size + 8; omega
  rw [e9,List.getElem?_append_right (by omega),show dir.data.toList.length + (7 + 1) - dir.data.toList.length = 7 + 1 by omega,List.getElem?_cons_succ] at h1
  have:=hdig _ (List.mem_of_getElem? h1)
  have e47 : (47 : UInt8).toNat = 47:=rfl
  omega
def Holds (segs : List (List UInt8)) (want : List (List UInt8)) : Prop :=
 ∃ rss : List (List (List UInt8)),segs = rss.map (fun rs => rs.flatMap frameOf) ∧ rss.flatten = want ∧ ∀ p ∈ want,p.length ≤ 1048576
section
variable {F G : FsS} {L L' : LogS} {segs pre want : List (List UInt8)} {b p : List UInt8}
theorem scan_of_frames {rs : List (List UInt8)} (h : ∀ p ∈ rs,p.length ≤ 1048576) : scanOf (rs.flatMap frameOf) = rs:=by
 have:=scan_frames rs [] h
 rw [List.append_nil] at this
 rw [this,scanOf_none (by unfold headOf; simp)]
 simp
theorem Holds.empty : Holds [[]] []:=⟨[[]],rfl,rfl,fun p hp => by simp at hp⟩
theorem Holds.new (h : Holds segs want) : Holds (segs ++ [[]]) want:=by
 obtain ⟨rss,h1,h2,h3⟩:=h
 exact ⟨rss ++ [[]],by simp [h1],by simp [h2],h3⟩
theorem Holds.fresh (h : Holds segs want) (hp : p.length ≤ 1048576) : Holds (segs ++ [frameOf p]) (want ++ [p]):=by
 obtain ⟨rss,h1,h2,h3⟩:=h
 refine ⟨rss ++ [[p]],by simp [h1],by simp [h2],fun q hq => ?_⟩
 rcases List.mem_append.1 hq with e | e
 ·exact h3 q e
 ·rw [List.mem_singleton.1 e]; exact hp
theorem Holds.split (h : Holds (pre ++ [b]) want) : ∃ (rss : List (List (List UInt8))) (rs : List (List UInt8)),pre = rss.map (fun rs => rs.flatMap frameOf) ∧ b = rs.flatMap frameOf ∧ rss.flatten ++ rs = want ∧ ∀ p ∈ want,p.length ≤ 1048576:=by
 obtain ⟨rss,h1,h2,h3⟩:=h
 have hne : rss ≠ []:=by rintro rfl; simp at h1
 have e:=List.dropLast_concat_getLast hne
 rw [← e,List.map_append] at h1
 have h4:=List.append_inj' h1 (by simp)
 refine ⟨rss.dropLast,rss.getLast hne,h4.1,by simpa using h4.2,?_,h3⟩
 conv at h2 => lhs; rw [← e]
 simpa using h2
theorem Holds.next (h : Holds (pre ++ [b]) want) (hp : p.length ≤ 1048576) : Holds (pre ++ [b ++ frameOf p]) (want ++ [p]):=by
 obtain ⟨rss,rs,h1,h2,h3,h4⟩:=h.split
 refine ⟨rss ++ [rs ++ [p]],by simp [h1,h2],by simp [← h3],fun q hq => ?_⟩
 rcases List.mem_append.1 hq with e | e
 ·exact h4 q e
 ·rw [List.mem_singleton.1 e]; exact hp
theorem Holds.whole (h : Holds segs want) : (∀ d ∈ segs.map fl,Whole_ d) ∧ recsOf (segs.map fl) = want:=by
 obtain ⟨rss,rfl,h2,h3⟩:=h
 have hs : ∀ rs ∈ rss,∀ p ∈ rs,p.length ≤ 1048576:=fun rs hr p hp => h3 p (by rw [← h2]; exact List.mem_flatten.2 ⟨rs,hr,hp⟩)
 constructor
 ·intro d hd
  rw [List.map_map] at hd
  obtain ⟨rs,hr,rfl⟩:=List.mem_map.1 hd
  show endOf (scanOf (rs.flatMap frameOf)) = (rs.flatMap frameOf).length
  rw [scan_of_frames (hs rs hr),endOf_frames]
 ·rw [← h2]
  clear h2 h3
  induction rss with
  | nil => rfl
  | cons rs r ih =>
    simp only [recsOf,List.map_cons,List.flatMap_cons,List.flatten_cons] at ih ⊢
    rw [scan_of_frames (hs rs (by simp)),ih fun q hq => hs q (by simp [hq])]
end
section
variable {F G : FsS} {L L' : LogS} {dir : ByteArray} {size : Int} {first j : Nat} {segs pre want : List (List UInt8)} {b c t p : List UInt8}
theorem open_none (hs : Segs F dir 1 []) (hd : DirOk dir) (h16 : 16 ≤ size) (h20 : size ≤ 1048576) (hdn : F.down = false) (ha : F.armed = 0) (hf : F.files.length < 400) :
 ∃ G,openL F dir size = (G,⟨dir,size,1,1,0,false⟩,[],0) ∧ LogOn G ⟨dir,size,1,1,0,false⟩ [[]] ∧ G.armed = 0 ∧ G.room = F.room ∧ G.used = F.used ∧ G.files = putL slt F.files (segName dir 1) (fl []):=by
 have hfree : F.find (segName dir 1) = none:=hs.free (by simp)
 rcases create_wr hdn (okName_seg hd 1) hfree hf with ⟨e,D⟩ | ⟨_,D⟩
 ·have hS : Segs (F.create (segName dir 1)).1 dir 1 ([[]].map fl):=hs.more (y:=fl []) (by simp) D.files
  refine ⟨(F.create (segName dir 1)).1,?_,⟨hS,by simp,rfl,rfl,by rw [D.down]; exact hdn,fun n _ => okName_seg hd n⟩,D.calm ha,D.room,D.used,D.files⟩
  unfold openL
  rw [if_neg (by simp [okName_seg hd 1]),if_neg (by omega),if_neg (by simp [hdn]),hs.empty]
  simp only
  rw [if_pos trivial,if_pos e]
  unfold openR
  have:=hS.read_all (fun d hd => by
   simp only [List.map_cons,List.map_nil,List.mem_singleton] at hd
   subst hd
   show endOf (scanOf []) = ([] : List UInt8).length
   rw [scanOf_none (by unfold headOf; simp)]; rfl) 1 0
  simp only [List.map_cons,List.map_nil,List.length_singleton] at this
  rw [this]
  simp only [List.flatMap_cons,List.flatMap_nil,List.append_nil]
  rw [scanOf_none (by unfold headOf; simp)]
 ·exact absurd ha D.arm
end
set_option linter.unusedSimpArgs false
set_option linter.unusedVariables false
def nmOf (dir what : ByteArray) : ByteArray:=st (tx dir ++ 47 :: tx what)
abbrev sLog : ByteArray:=⟨#[108,111,103]⟩
abbrev sBase : ByteArray:=⟨#[98,97,115,101,45]⟩
abbrev sMan : ByteArray:=⟨#[109,97,110,105,102,101,115,116]⟩
abbrev sNext : ByteArray:=⟨#[110,101,120,116]⟩
def baseNm (dir : ByteArray) (n : Nat) : ByteArray:=st (tx (nmOf dir sBase) ++ digs 8 n)
def baseNum (dir name : ByteArray) : Nat :=
 if Lib.hasPrefix (tx name) (tx (nmOf dir sBase)) = true then numTail ((tx name).drop (tx (nmOf dir sBase)).length) else 0
structure StS where
 dir : ByteArray
 log : LogS
 base : Nat
 stuck : Bool
 all : Prs
 seq : Nat
def manR (F : FsS) (dir : ByteArray) : Option (Nat × Nat × Nat × Prs) :=
 match F.find (nmOf dir sMan) with
 | none => some (0,0,0,[])
 | some x =>
   if endOf (scanOf x.data) ≠ x.data.length then none else match scanOf x.data with
   | [r] =>
     if r.length ≠ 16 then none
     else if 99999999 < numOf (r.take 8) ∨ numOf (r.drop 8) < 1 ∨ 9223372036854775808 ≤ numOf (r.drop 8) then none
     else if numOf (r.take 8) = 0 then some (0,numOf (r.drop 8),0,[])
     else match F.find (baseNm dir (numOf (r.take 8))) with
      | none => none
      | some y => match loadB y.data with
        | none => none
        | some (q,m) => some (numOf (r.take 8),numOf (r.drop 8),q,m)
   | _ => none
def replayR : List (List UInt8) → Nat → Prs → Option (Nat × Prs)
 | [],q,m => some (q,m)
 | p :: r,q,m => match decB p with
   | none => none
   | some (s,l) => if 9223372036854775808 ≤ q + 1 ∨ q + 1 < s then none else if s ≤ q then replayR r q m else replayR r s (applyB m l)
def cleanR (dir : ByteArray) (base : Nat) : List ByteArray → FsS → FsS × Int
 | [],F => (F,0)
 | n :: r,F => if n ≠ nmOf dir sNext ∧ (baseNum dir n = 0 ∨ baseNum dir n = base) then cleanR dir base r F
   else if (F.remove n).2 = 0 then cleanR dir base r (F.remove n).1 else F.remove n
def openC (dir : ByteArray) (b q : Nat) (m : Prs) (L : LogS) (R : FsS × Int) : FsS × Option StS × Int:=if R.2 ≠ 0 then (R.1,none,R.2) else (R.1,some ⟨dir,L,b,false,m,q⟩,0)
def openD (dir : ByteArray) (b q : Nat) (m : Prs) (R : LogS × FsS × Int) : FsS × Option StS × Int:=if R.2.2 ≠ 0 then (R.2.1,none,R.2.2) else openC dir b q m R.1 (cleanR dir b (namesL (dirOf dir) R.2.1.files) R.2.1)
def openP (dir : ByteArray) (b f : Nat) (L : LogS) (F : FsS) (P : Option (Nat × Prs)) : FsS × Option StS × Int:=match P with
 | none => (F,none,14)
 | some (q,m) => openD dir b q m (if L.first < f then dropLg L F ((min f L.last : Nat) : Int) else (L,F,0))
def openW (dir : ByteArray) (b f q : Nat) (m : Prs) (R : FsS × LogS × List (List UInt8) × Int) : FsS × Option StS × Int:=if R.2.2.2 ≠ 0 then (R.1,none,R.2.2.2) else openP dir b f R.2.1 R.1 (replayR R.2.2.1 q m)
def openM (F : FsS) (dir : ByteArray) (size : Int) (M : Option (Nat × Nat × Nat × Prs)) : FsS × Option StS × Int:=match M with
 | none => (F,none,14)
 | some (b,f,q,m) => openW dir b f q m (openL F (nmOf dir sLog) size)
def openS (F : FsS) (dir : ByteArray) (size : Int) : FsS × Option StS × Int :=
 if okName (segName (nmOf dir sLog) 1) = false ∨ okName (baseNm dir 1) = false then (F,none,1)
 else if size < 16 ∨ 1048576 < size then (F,none,6) else if F.down = true then (F,none,5) else openM F dir size (manR F dir)
def writeA (s : StS) (l : List Chg) (R : LogS × FsS × Int) : StS × FsS × Int :=
 if R.2.2 ≠ 0 then ({ s with log:=R.1,stuck:=R.2.2 == 5 },R.2.1,R.2.2) else ({ s with log:=R.1,all:=applyB s.all l,seq:=s.seq + 1 },R.2.1,0)
def writeE (s : StS) (F : FsS) (l : List Chg) (E : List UInt8 × Nat) : StS × FsS × Int:=if E.2 ≠ 0 ∨ l = [] then (s,F,E.2) else writeA s l (appendL s.log F E.1)
def writeS (s : StS) (F : FsS) (l : List Chg) : StS × FsS × Int :=
 if s.stuck = true then (s,F,25) else if chkB l ≠ 0 then (s,F,chkB l) else writeE s F l (encB ((s.seq : Int) + 1) l)
def laysR (F : FsS) (n : ByteArray) (b : List UInt8) : FsS × Int :=
 if (F.create n).2 ≠ 0 then F.create n else if ((F.create n).1.append n b).2 ≠ 0 then (F.create n).1.append n b else ((F.create n).1.append n b).1.sync n
def undoR (R : FsS × Bool) (n : ByteArray) : FsS × Bool:=match R.1.find n with
 | none => R
 | some _ => ((R.1.remove n).1,R.2 || (R.1.remove n).2 == 5)
def failS (s : StS) (F : FsS) (n : Nat) (e : Int) (done : Bool) : StS × FsS × Int :=
 if done = false ∧ e ≠ 5 then ({ s with stuck:=(undoR (undoR (F,s.stuck || e == 5) (baseNm s.dir n)) (nmOf s.dir sNext)).2 },(undoR (undoR (F,s.stuck || e == 5) (baseNm s.dir n)) (nmOf s.dir sNext)).1,e)
 else ({ s with stuck:=s.stuck || e == 5 },F,e)
def topBase (dir : ByteArray) (F : FsS) : Nat:=(namesL (nmOf dir sBase) F.files).foldl (fun n m => max n (baseNum dir m + 1)) 1
def saidB (n m : Nat) : List UInt8:=lowN 8 n ++ lowN 8 m
def chk5 (s : StS) (n : Nat) (R : LogS × FsS × Int) : StS × FsS × Int:=failS { s with log:=R.1 } R.2.1 n R.2.2 true
def chk4 (s : StS) (n : Nat) (R : FsS × Int) : StS × FsS × Int:=if R.2 ≠ 0 then failS s R.1 n R.2 true else chk5 s n (dropLg s.log R.1 s.log.last)
def chk3 (s : StS) (n : Nat) (R : FsS × Int) : StS × FsS × Int:=if R.2 ≠ 0 then failS s R.1 n R.2 false else chk4 { s with base:=n } n (cleanR s.dir n (namesL (dirOf s.dir) R.1.files) R.1)
def chk2 (s : StS) (n : Nat) (R : FsS × Int) : StS × FsS × Int:=if R.2 ≠ 0 then failS s R.1 n R.2 false else chk3 s n (R.1.rename (nmOf s.dir sNext) (nmOf s.dir sMan))
def chk1 (s : StS) (n : Nat) (R : LogS × FsS × Int) : StS × FsS × Int :=
 if R.2.2 ≠ 0 then failS { s with log:=R.1 } R.2.1 n R.2.2 false else chk2 { s with log:=R.1 } n (laysR R.2.1 (nmOf s.dir sNext) (frameOf (saidB n R.1.last)))
def chk0 (s : StS) (n : Nat) (R : FsS × Int) : StS × FsS × Int:=if R.2 ≠ 0 then failS s R.1 n R.2 false else chk1 s n (rotateL s.log R.1)
def chkS (s : StS) (F : FsS) : StS × FsS × Int:=if s.stuck = true then (s,F,25) else chk0 s (topBase s.dir F) (laysR F (baseNm s.dir (topBase s.dir F)) (imgB s.seq s.all))
set_option linter.unusedSectionVars false
open Go.RowKit Go.Shelf
structure StC where
 fb : Nat
 dir : ByteArray
 lv : Option Addr
 base : Int
 stuck : Bool
 tb : Nat
 seq : Int
abbrev stCells (c : StC) (s r : Int) : Array Value:=#[.pointer (some ⟨c.fb,0,none⟩),.string c.dir,.pointer c.lv,.int .i64 c.base,.bool c.stuck,.int .i32 s,.int .u32 0,.int .u32 0,.int .u32 0,.int .i32 r,.int .i32 0,.pointer (some ⟨c.tb,0,none⟩),.int .i64 c.seq]
abbrev StIn (w : World) (sb : Nat) (c : StC) : Prop:=IsBlk w sb (stCells c 0 0) 126
theorem StIn.below {w w' : World} {sb : Nat} {c : StC} (h : StIn w sb c) (k : Below w.heap.size w w') : StIn w' sb c:=(k.block _ (lt_of_block h)).trans h
theorem nm_add (dir what : ByteArray) : dir ++ (⟨#[47]⟩ : ByteArray) ++ what = nmOf dir what:=by
 have h1 : dir = ⟨dir.data.toList.toArray⟩:=(bytes_eta dir).symm
 have h2 : what = ⟨what.data.toList.toArray⟩:=(bytes_eta what).symm
 conv => lhs; rw [h1,h2,show (⟨#[47]⟩ : ByteArray) = ⟨[47].toArray⟩ from rfl,bytes_add,bytes_add,List.append_assoc]
 rfl
section
variable {w : World} {sb : Nat} {c : StC}
theorem st_name (h : StIn w sb c) (hd : c.dir.size ≤ 100000) (what : ByteArray) (hw : what.size ≤ 100000) :
 Calls Tryz.prog 65 #[.pointer (some ⟨sb,0,none⟩),.string what] w fun e w' => e = .returned (.string (nmOf c.dir what)) ∧ w = w':=by
 have c1 : w.cell? ⟨sb,1,none⟩ = some (.string c.dir):=blk_cell h 1
 have he:=nm_add c.dir what
 clear h
 go_enter Tryz.func65,Tryz.ntmps65
 go_wp2_with (fail)
 go_ret
 first | exact ⟨rfl,rfl⟩ | exact ⟨by rw [he],rfl⟩
theorem base_add (a : ByteArray) (n : Nat) : a ++ (⟨(digs 8 n).toArray⟩ : ByteArray) = st (tx a ++ digs 8 n):=by
 have h1 : a = ⟨a.data.toList.toArray⟩:=(bytes_eta a).symm
 conv => lhs; rw [h1,bytes_add]
theorem trim_seg (n : Nat) : Lib.trimPrefix (segName ⟨#[]⟩ n).data.toList (⟨#[47]⟩ : ByteArray).data.toList = digs 8 n:=by
 rw [segName_list]
 have e1 : (⟨#[47]⟩ : ByteArray).data.toList = [47]:=rfl
 have e2 : (⟨#[]⟩ : ByteArray).data.toList = []:=rfl
 rw [e1,e2,List.nil_append]
 unfold Lib.trimPrefix Lib.hasPrefix
 simp
theorem st_baseName (h : StIn w sb c) (hd : c.dir.size ≤ 100000) (n : Nat) (hn : n < 100000000) (z : Int) (hz : z = (n : Int)) :
 Calls Tryz.prog 66 #[.pointer (some ⟨sb,0,none⟩),.int .i64 z] w fun e w' => e = .returned (.string (baseNm c.dir n)) ∧ Below w.heap.size w w':=by
 have HNM:=hid (st_name h hd ⟨#[98,97,115,101,45]⟩ (by decide))
 have HWN:=hid (w_name w ⟨#[]⟩ (by decide) n hn)
 obtain ⟨a,ha⟩ : ∃ a,a = nmOf c.dir ⟨#[98,97,115,101,45]⟩:=⟨_,rfl⟩
 have hasz : a.size ≤ 200000:=by
  rw [ha]; unfold nmOf; rw [st_size,List.length_append]
  have e : (tx c.dir).length = c.dir.size:=rfl
  simp only [List.length_cons]
  have : (tx (⟨#[98,97,115,101,45]⟩ : ByteArray)).length = 5:=rfl
  omega
 have hfin : a ++ (⟨(digs 8 n).toArray⟩ : ByteArray) = baseNm c.dir n:=by rw [base_add,ha]; rfl
 rw [← ha] at HNM
 have hng : ¬ 9223372036854775807 < a.size + (digs 8 n).length:=by rw [digs_len]; omega
 have hz1 : (0 : Int) ≤ z:=by omega
 have hz2 : z < 100000000:=by omega
 rw [← hz] at HWN
 have HTP : Hid (∀ W,Calls Tryz.prog 104 #[.string (segName ⟨#[]⟩ n),.string ⟨#[47]⟩] W fun e w' => e = .returned (.string ⟨(digs 8 n).toArray⟩) ∧ W = w'):=hid fun W => by
  refine (Tryz.strings_TrimPrefix _ _ W).mono ?_
  rintro e w' ⟨rfl,rfl⟩
  exact ⟨by rw [trim_seg],rfl⟩
 clear h ha hz
 go_enter Tryz.func66,Tryz.ntmps66
 go_wp2_with (fail)
 refine HNM.out.mono ?_
 rintro e w1 ⟨rfl,rfl⟩
 go_wp2_with (fail)
 refine HWN.out.mono ?_
 rintro e w2 ⟨rfl,hb⟩
 have HB:=hid hb
 clear hb
 go_wp2_with (fail)
 refine (HTP.out _).mono ?_
 rintro e w3 ⟨rfl,rfl⟩
 go_wp2_with (fail)
 go_ret
 first | exact ⟨rfl,HB.out⟩ | exact ⟨by rw [hfin],HB.out⟩
set_option maxHeartbeats 2000000 in
theorem st_baseNumber (h : StIn w sb c) (hd : c.dir.size ≤ 100000) (name : ByteArray) :
 Calls Tryz.prog 79 #[.pointer (some ⟨sb,0,none⟩),.string name] w fun e w' => e = .returned (.int .i64 (baseNum c.dir name : Int)) ∧ w = w':=by
 have HNM:=hid (st_name h hd ⟨#[98,97,115,101,45]⟩ (by decide))
 obtain ⟨F,hF⟩ : ∃ F,F = nmOf c.dir ⟨#[98,97,115,101,45]⟩:=⟨_,rfl⟩
 have HB : Hid (baseNum c.dir name = if Lib.hasPrefix (tx name) (tx F) = true then numTail ((tx name).drop (tx F).length) else 0):=hid (by rw [hF]; rfl)
 rw [← hF] at HNM
 have HC:=hid ((Tryz.strings_CutPrefix name F w).mono fun _ _ (h : _ ∧ _) => And.intro h.1 h.2.symm)
 clear h hF
 cases hp : Lib.hasPrefix name.data.toList F.data.toList with
 | false =>
   have HN : Hid (baseNum c.dir name = 0):=hid (by rw [HB.out,hp,if_neg (by simp)])
   rw [hp] at HC
   clear hp
   go_enter Tryz.func79,Tryz.ntmps79
   go_wp2_with (fail)
   refine HNM.out.mono ?_
   rintro e w' ⟨rfl,rfl⟩
   go_wp2_with (fail)
   refine HC.out.mono ?_
   rintro e w' ⟨rfl,rfl⟩
   go_wp2_with (fail)
   go_ret
   rw [HN.out]
   exact ⟨rfl,rfl⟩
 | true =>
   obtain ⟨s,hs⟩ : ∃ s : ByteArray,s = ⟨(Lib.trimPrefix name.data.toList F.data.toList).toArray⟩:=⟨_,rfl⟩
   have HN : Hid (baseNum c.dir name = numTail s.data.toList):=hid (by
    rw [HB.out,hp,if_pos rfl,hs]
    unfold Lib.trimPrefix
    rw [hp,if_pos rfl])
   rw [hp,← hs] at HC
   clear hp hs
   by_cases h8 : s.size = 8
   ·have h8' : (s.size : Int) = 8:=by omega
    have hl8 : s.data.toList.length = 8:=h8
    go_enter Tryz.func79,Tryz.ntmps79
    go_wp2_with (fail)
    refine HNM.out.mono ?_
    rintro e w' ⟨rfl,rfl⟩
    go_wp2_with (fail)
    refine HC.out.mono ?_
    rintro e w' ⟨rfl,rfl⟩
    go_wp2_with (fail)
    go_loopw [7,25] (fun c i wr => ∃ k : Nat,k ≤ 8 ∧ i = .int .i64 (k : Int) ∧ c = .int .i64 (numDigs (s.data.toList.take k) : Int) ∧ Hid ((s.data.toList.take k).all isDig = true) ∧ wr = w) (fun _ i _ => (8 - intOf i).toNat)
    case atStart => exact ⟨0,Nat.zero_le _,rfl,rfl,hid rfl,rfl⟩
    case round =>
     obtain ⟨k,hk,rfl,rfl,HA,rfl⟩:=hrel
     by_cases hlt : k < 8
     ·have hks : k < s.size:=by omega
      have hx:=str_at s hks
      have HT:=hid (numDigs_take hx)
      have HX:=hid hx
      have hk0 : (0 : Int) ≤ (k : Int):=by omega
      have hk1 : (k : Int) < 8:=by omega
      have hk2 : (k : Int) < (s.size : Int):=by omega
      clear hx
      have HBAD : Hid (isDig s[k] = false → baseNum c.dir name = 0):=hid (fun hb => by
       rw [HN.out]
       unfold numTail
       rw [if_neg]
       rintro ⟨_,h2⟩
       have:=List.all_eq_true.1 h2 _ (List.mem_of_getElem? HX.out)
       rw [hb] at this; cases this)
      go_wp2_with (fail)
      ·rename_i h1 h2
       go_ret
       rw [HBAD.out (by unfold isDig; simp; omega)]
       exact ⟨rfl,rfl⟩
      ·rename_i h1 h2
       have hlt2 : numDigs (s.data.toList.take k) < 10 ^ 8:=by
        have h3:=numDigs_lt _ HA.out
        have h4 : 10 ^ (s.data.toList.take k).length ≤ 10 ^ 8:=Nat.pow_le_pow_right (by omega) (by rw [List.length_take]; omega)
        omega
       have HD : Hid (isDig s[k] = true):=hid (by unfold isDig; simp; omega)
       have HE : Hid (wrap64 (wrap64 (10 * (numDigs (s.data.toList.take k) : Int)) + ((s[k].toNat : Int) - 48)) = (numDigs (s.data.toList.take (k + 1)) : Int)):=hid (by
        rw [HT.out,IntWalk.wrap64_in (10 * _) (by omega),IntWalk.wrap64_in _ (by omega)]
        omega)
       have HA2 : Hid ((s.data.toList.take (k + 1)).all isDig = true):=hid (by
        rw [List.take_add_one,HX.out,List.all_append,HA.out]
        simp [HD.out])
       clear hlt2
       go_roundw
       case rel => exact ⟨k + 1,by omega,by go_num,by rw [HE.out],HA2,trivial⟩
       case measure => simp [intOf]; omega
      ·rename_i h1
       go_ret
       rw [HBAD.out (by unfold isDig; simp; omega)]
       exact ⟨rfl,rfl⟩
     ·obtain rfl : k = 8:=by omega
      have HE : Hid (baseNum c.dir name = numDigs (s.data.toList.take 8)):=hid (by
       have e : s.data.toList.take 8 = s.data.toList:=List.take_of_length_le (by omega)
       have ha:=HA.out
       rw [e] at ha ⊢
       rw [HN.out]
       unfold numTail
       rw [if_pos ⟨hl8,ha⟩])
      go_wp2_with (fail)
      go_ret
      rw [HE.out]
      exact ⟨rfl,rfl⟩
   ·have h8' : ((s.size : Int) != 8) = true:=by rw [bne_iff_ne]; omega
    have HE : Hid (baseNum c.dir name = 0):=hid (by
     rw [HN.out]
     unfold numTail
     rw [if_neg]
     rintro ⟨h1,_⟩
     exact h8 h1)
    clear h8
    go_enter Tryz.func79,Tryz.ntmps79
    go_wp2_with (fail)
    refine HNM.out.mono ?_
    rintro e w' ⟨rfl,rfl⟩
    go_wp2_with (fail)
    refine HC.out.mono ?_
    rintro e w' ⟨rfl,rfl⟩
    go_wp2_with (fail)
    go_ret
    rw [HE.out]
    exact ⟨rfl,rfl⟩
def StC.met (c : StC) (e : Int) : StC:={ c with stuck:=c.stuck || e == 5 }
theorem st_met (h : StIn w sb c) (r : Int) :
 Calls Tryz.prog 75 #[.pointer (some ⟨sb,0,none⟩),.int .i64 r] w fun e w' => e = .returned (.int .i64 r) ∧ StIn w' sb (c.met r) ∧ Keeps (Only sb) w w':=by
 have c4 : w.cell? ⟨sb,4,none⟩ = some (.bool c.stuck):=blk_cell h 4
 have z4 : w.frozen? ⟨sb,4,none⟩ = false:=blk_free h 4
 have H:=hid h
 have HS : Hid (∀ b,b = (c.stuck || r == 5) → StIn (w.setCell ⟨sb,4,none⟩ (.bool b)) sb (c.met r) ∧ Keeps (Only sb) w (w.setCell ⟨sb,4,none⟩ (.bool b))):=hid fun b hb => by
  subst hb
  exact ⟨blk_set H.out 4 _,(Keeps.refl (Only sb) w).setCell (p:=⟨sb,4,none⟩) (fun _ => rfl) _⟩
 clear h
 cases hs : c.stuck with
 | true =>
   rw [hs] at c4 HS
   clear hs
   go_enter Tryz.func75,Tryz.ntmps75
   go_wp2_with (fail)
   go_ret
   exact ⟨rfl,HS.out _ rfl⟩
 | false =>
   rw [hs] at c4 HS
   clear hs
   go_enter Tryz.func75,Tryz.ntmps75
   go_wp2_with (fail)
   go_ret
   exact ⟨rfl,HS.out _ rfl⟩
theorem LsAt.shape {B : Nat} {v : Value} {rs : List (List UInt8)} (h : LsAt B w v rs) : ∃ a cap,v = .slice a rs.length cap:=h.rd.shape
theorem st_framed {a : Option Addr} {cap : Nat} {ys : List UInt8} (hu : RdAt byteKind w (.slice a ys.length cap) ys) (hn : ys.length ≤ 70000000) (hcap : ys.length ≤ cap) (hcm : cap ≤ 9223372036854775807) :
 Calls Tryz.prog 106 #[.slice a ys.length cap] w fun e w' => Below w.heap.size w w' ∧ ((endOf (scanOf ys) = ys.length ∧ ∃ va vc,e = .returned (.slice va (scanOf ys).length vc) ∧ LsAt w.heap.size w' (.slice va (scanOf ys).length vc) (scanOf ys)) ∨ (endOf (scanOf ys) ≠ ys.length ∧ e = spoiltE)):=by
 have HSC:=hid ((w_scan hu hn hcap hcm).mono fun e w' (h : ScanPost w ys e w') => h)
 clear hu
 by_cases he : endOf (scanOf ys) = ys.length
 ·have HE:=hid he
  have hd : decide (endOf (scanOf ys) = ys.length) = true:=by simp [he]
  clear he
  go_enter Tryz.func106,Tryz.ntmps106
  go_wp2_with (fail)
  refine HSC.out.mono ?_
  rintro e w1 ⟨v,rfl,hl,hb⟩
  obtain ⟨va,vc,rfl⟩:=hl.shape
  rw [hd]
  have HL:=hid (And.intro hl hb)
  clear hl hb hd
  go_wp2_with (fail)
  go_ret
  exact ⟨HL.out.2,.inl ⟨HE.out,va,vc,rfl,HL.out.1⟩⟩
 ·have HE:=hid he
  have hd : decide (endOf (scanOf ys) = ys.length) = false:=by simp [he]
  clear he
  go_enter Tryz.func106,Tryz.ntmps106
  go_wp2_with (fail)
  refine HSC.out.mono ?_
  rintro e w1 ⟨v,rfl,hl,hb⟩
  obtain ⟨va,vc,rfl⟩:=hl.shape
  rw [hd]
  have HL:=hid (And.intro hl hb)
  clear hl hb hd
  go_wp2_with (fail)
  refine st_leave rfl ?_
  exact ⟨HL.out.2,.inr ⟨HE.out,rfl⟩⟩
end
theorem tx_inj0 {a b : ByteArray} (h : tx a = tx b) : a = b:=by rw [← st_tx a,← st_tx b]; exact congrArg st h
theorem st_get {l : List UInt8} {i : Nat} {x : UInt8} (h : l[i]? = some x) : (st l).get! i = x:=by
 have hi:=(List.getElem?_eq_some_iff.1 h).1
 have h1:=get_list (st l) (i:=i) (by rw [st_size]; exact hi)
 rw [show (st l).data.toList = l from tx_st l,h] at h1
 exact (Option.some.inj h1).symm
theorem okName_st {l : List UInt8} (h1 : l.length ≤ 100) {x y : UInt8} (hx : l[0]? = some x) (hy : l.getLast? = some y) (x47 : x ≠ 47) (y47 : y ≠ 47) (h : ∀ z ∈ l,oddR z.toNat = false) : okName (st l) = true:=by
 have hpos : 0 < l.length:=(List.getElem?_eq_some_iff.1 hx).1
 refine okName_all _ (by rw [st_size]; omega) (by rw [st_size]; omega) (by rw [st_get hx]; exact x47) ?_ (fun i hi => ?_)
 ·rw [st_size,st_get (by rw [← List.getLast?_eq_getElem?]; exact hy)]; exact y47
 ·rw [st_size] at hi
  rw [st_get (List.getElem?_eq_getElem hi)]
  exact h _ (List.getElem_mem hi)
structure DirS (dir : ByteArray) : Prop where
 small : dir.size ≤ 70
 some_ : 0 < dir.size
 front : dir.get! 0 ≠ 47
 all : ∀ x ∈ tx dir,oddR x.toNat = false
abbrev inD (dir : ByteArray) (r : List UInt8) : ByteArray:=st (tx dir ++ 47 :: r)
theorem nmOf_in (dir what : ByteArray) : nmOf dir what = inD dir (tx what):=rfl
theorem baseNm_in (dir : ByteArray) (n : Nat) : baseNm dir n = inD dir (tx sBase ++ digs 8 n):=by
 unfold baseNm nmOf
 rw [tx_st,List.append_assoc,List.cons_append]
theorem segName_in (dir : ByteArray) (n : Nat) : segName (nmOf dir sLog) n = inD dir (tx sLog ++ 47 :: digs 8 n):=by
 show st (tx (nmOf dir sLog) ++ 47 :: digs 8 n) = _
 unfold nmOf
 rw [tx_st,List.append_assoc,List.cons_append]
section
variable {dir n : ByteArray} {r : List UInt8}
theorem okName_in (h : DirS dir) {y : UInt8} (hl : r.length ≤ 20) (hy : r.getLast? = some y) (y47 : y ≠ 47) (hr : ∀ z ∈ r,oddR z.toNat = false) : okName (inD dir r) = true:=by
 refine okName_st (x:=dir.get! 0) (y:=y) ?_ ?_ ?_ h.front y47 fun z hz => ?_
 ·have:=h.small
  have e : (tx dir).length = dir.size:=rfl
  rw [List.length_append,List.length_cons]; omega
 ·rw [List.getElem?_append_left (by have:=h.some_; exact this)]
  exact get_list dir h.some_
 ·rw [List.getLast?_append,List.getLast?_cons,hy]; rfl
 ·rcases List.mem_append.1 hz with e | e
  ·exact h.all z e
  ·rcases List.mem_cons.1 e with e | e
   ·subst e; decide
   ·exact hr z e
theorem digs_dig {k m : Nat} {x : UInt8} (hx : x ∈ digs k m) : oddR x.toNat = false:=by
 have h1 : 48 ≤ x.toNat ∧ x.toNat ≤ 57:=by
  have:=List.all_eq_true.1 (digs_all k m) x hx
  unfold isDig at this
  simpa using this
 unfold oddR
 have a3 : decide (x.toNat < 48) = false:=decide_eq_false (by omega)
 have a4 : decide (57 < x.toNat) = false:=decide_eq_false (by omega)
 rw [a3,a4]; simp
theorem DirS.log (h : DirS dir) : DirOk (nmOf dir sLog):=by
 have e : (nmOf dir sLog).size = dir.size + 4:=by rw [nmOf_in,st_size,List.length_append]; rfl
 refine ⟨by have:=h.small; omega,by omega,?_,fun x hx => ?_⟩
 ·rw [nmOf_in,st_get (x:=dir.get! 0) ?_]
  ·exact h.front
  ·rw [List.getElem?_append_left (by have:=h.some_; exact this)]
   exact get_list dir h.some_
 ·have hx : x ∈ tx (nmOf dir sLog):=hx
  rw [nmOf_in,tx_st] at hx
  rcases List.mem_append.1 hx with e | e
  ·exact h.all x e
  ·exact (by decide : ∀ z ∈ (47 :: tx sLog : List UInt8),oddR z.toNat = false) x e
theorem DirS.man (h : DirS dir) : okName (nmOf dir sMan) = true:=okName_in h (y:=116) (by decide) (by decide) (by decide) (by decide)
theorem DirS.next (h : DirS dir) : okName (nmOf dir sNext) = true:=okName_in h (y:=116) (by decide) (by decide) (by decide) (by decide)
theorem DirS.base (h : DirS dir) (n : Nat) : okName (baseNm dir n) = true:=by
 rw [baseNm_in]
 have hd : (digs 8 n).length = 8:=digs_len 8 n
 have hne : digs 8 n ≠ []:=by intro e; rw [e] at hd; cases hd
 have hodd : ∀ z ∈ tx sBase ++ digs 8 n,oddR z.toNat = false:=fun z hz => by
  rcases List.mem_append.1 hz with e | e
  ·exact (by decide : ∀ z ∈ (tx sBase : List UInt8),oddR z.toNat = false) z e
  ·exact digs_dig e
 obtain ⟨y,hy⟩ : ∃ y,(tx sBase ++ digs 8 n).getLast? = some y ∧ y ∈ digs 8 n:=by
  refine ⟨(digs 8 n).getLast hne,?_,List.getLast_mem hne⟩
  rw [List.getLast?_append,List.getLast?_eq_some_getLast hne]; rfl
 refine okName_in h (y:=y) (by rw [List.length_append,hd]; decide) hy.1 ?_ hodd
 rintro rfl
 have h1 : isDig 47 = true:=List.all_eq_true.1 (digs_all 8 n) _ hy.2
 exact absurd h1 (by decide)
theorem DirS.seg (h : DirS dir) (n : Nat) : okName (segName (nmOf dir sLog) n) = true:=okName_seg h.log n
def nth (dir n : ByteArray) : Option UInt8:=(tx n)[dir.size + 1]?
theorem nth_in (dir : ByteArray) (r : List UInt8) : nth dir (inD dir r) = r[0]?:=by
 unfold nth
 have e : (tx dir).length = dir.size:=rfl
 rw [tx_st,List.getElem?_append_right (by omega),show dir.size + 1 - (tx dir).length = 0 + 1 by omega,List.getElem?_cons_succ]
theorem nth_man (dir : ByteArray) : nth dir (nmOf dir sMan) = some 109:=nth_in _ _
theorem nth_next (dir : ByteArray) : nth dir (nmOf dir sNext) = some 110:=nth_in _ _
theorem nth_base (dir : ByteArray) (n : Nat) : nth dir (baseNm dir n) = some 98:=by rw [baseNm_in,nth_in]; rfl
theorem nth_seg (dir : ByteArray) (n : Nat) : nth dir (segName (nmOf dir sLog) n) = some 108:=by rw [segName_in,nth_in]; rfl
theorem nth_segNum (h : segNum (nmOf dir sLog) n ≠ 0) : nth dir n = some 108:=by rw [name_of_num _ _ h,nth_seg]
theorem segNum_zero (h : nth dir n ≠ some 108) : segNum (nmOf dir sLog) n = 0:=by
 by_cases e : segNum (nmOf dir sLog) n = 0
 ·exact e
 ·exact absurd (nth_segNum e) h
theorem pre_in (dir : ByteArray) (r : List UInt8) : Lib.hasPrefix (tx (inD dir r)) (tx (dirOf dir)) = true:=by
 unfold Lib.hasPrefix
 rw [List.isPrefixOf_iff_prefix,tx_st]
 refine ⟨r,?_⟩
 show (dirOf dir).data.toList ++ r = _
 rw [dirOf_list,List.append_assoc]
 rfl
theorem pre_base (dir : ByteArray) (k : Nat) : Lib.hasPrefix (tx (baseNm dir k)) (tx (nmOf dir sBase)) = true:=by
 unfold Lib.hasPrefix
 rw [List.isPrefixOf_iff_prefix]
 exact ⟨digs 8 k,(tx_st _).symm⟩
theorem base_split (h : Lib.hasPrefix (tx n) (tx (nmOf dir sBase)) = true) : ∃ t,tx n = tx (nmOf dir sBase) ++ t ∧ baseNum dir n = numTail t:=by
 have h2:=h
 unfold Lib.hasPrefix at h
 rw [List.isPrefixOf_iff_prefix] at h
 obtain ⟨t,ht⟩:=h
 refine ⟨t,ht.symm,?_⟩
 unfold baseNum
 rw [if_pos h2,← ht,List.drop_left' rfl]
theorem baseNum_nm (dir : ByteArray) {k : Nat} (hk : k < 100000000) : baseNum dir (baseNm dir k) = k:=by
 obtain ⟨t,h1,h2⟩:=base_split (pre_base dir k)
 have h3 : tx (baseNm dir k) = tx (nmOf dir sBase) ++ digs 8 k:=tx_st _
 rw [h3] at h1
 rw [h2,← List.append_cancel_left h1]
 unfold numTail
 rw [if_pos ⟨digs_len 8 k,digs_all 8 k⟩]
 exact numDigs_digs 8 k (by omega)
theorem base_of_num (h : baseNum dir n ≠ 0) : n = baseNm dir (baseNum dir n):=by
 by_cases hp : Lib.hasPrefix (tx n) (tx (nmOf dir sBase)) = true
 ·obtain ⟨t,h1,h2⟩:=base_split hp
  rw [h2] at h ⊢
  unfold numTail at h ⊢
  by_cases hd : t.length = 8 ∧ t.all isDig = true
  ·rw [if_pos hd]
   refine tx_inj0 ?_
   have h3:=digs_numDigs t hd.2
   rw [hd.1] at h3
   rw [h1]
   unfold baseNm
   rw [tx_st,h3]
  ·rw [if_neg hd] at h; exact absurd rfl h
 ·unfold baseNum at h
  rw [if_neg hp] at h; exact absurd rfl h
theorem baseNum_lt (dir n : ByteArray) : baseNum dir n < 100000000:=by
 by_cases hp : Lib.hasPrefix (tx n) (tx (nmOf dir sBase)) = true
 ·obtain ⟨t,h1,h2⟩:=base_split hp
  rw [h2]
  unfold numTail
  by_cases hd : t.length = 8 ∧ t.all isDig = true
  ·rw [if_pos hd]
   have:=numDigs_lt t hd.2
   rw [hd.1] at this
   omega
  ·rw [if_neg hd]; omega
 ·unfold baseNum
  rw [if_neg hp]; omega
theorem nth_baseNum (h : baseNum dir n ≠ 0) : nth dir n = some 98:=by rw [base_of_num h,nth_base]
theorem baseNum_zero (h : nth dir n ≠ some 98) : baseNum dir n = 0:=by
 by_cases e : baseNum dir n = 0
 ·exact e
 ·exact absurd (nth_baseNum e) h
theorem baseNm_inj (dir : ByteArray) {a b : Nat} (ha : a < 100000000) (hb : b < 100000000) (h : baseNm dir a = baseNm dir b) : a = b:=by rw [← baseNum_nm dir ha,← baseNum_nm dir hb,h]
theorem man_base (dir : ByteArray) : baseNum dir (nmOf dir sMan) = 0:=baseNum_zero (by rw [nth_man]; decide)
theorem next_base (dir : ByteArray) : baseNum dir (nmOf dir sNext) = 0:=baseNum_zero (by rw [nth_next]; decide)
theorem seg_base (dir : ByteArray) (k : Nat) : baseNum dir (segName (nmOf dir sLog) k) = 0:=baseNum_zero (by rw [nth_seg]; decide)
theorem man_seg (dir : ByteArray) : segNum (nmOf dir sLog) (nmOf dir sMan) = 0:=segNum_zero (by rw [nth_man]; decide)
theorem next_seg (dir : ByteArray) : segNum (nmOf dir sLog) (nmOf dir sNext) = 0:=segNum_zero (by rw [nth_next]; decide)
theorem base_seg (dir : ByteArray) (k : Nat) : segNum (nmOf dir sLog) (baseNm dir k) = 0:=segNum_zero (by rw [nth_base]; decide)
theorem man_next (dir : ByteArray) : nmOf dir sMan ≠ nmOf dir sNext:=fun e => by have:=nth_man dir; rw [e,nth_next] at this; cases this
theorem man_ne_base (dir : ByteArray) (k : Nat) : nmOf dir sMan ≠ baseNm dir k:=fun e => by have:=nth_man dir; rw [e,nth_base] at this; cases this
end
end Go.Proofs.YtagdchgkjjpacaaGreat
