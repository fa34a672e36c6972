/- A store while its lock is held; printed by mk_ta.py out of So. -/
import Derived.Test.YtagdchgkjjpacaaGreatr34
import Derived.Test.YtagdchgkjjpacaaGreatr09
set_option maxRecDepth 100000
open Go.Lib (hid)
set_option linter.unusedSimpArgs false
set_option linter.unusedVariables false
set_option linter.unusedSectionVars false
namespace Go.Proofs.YtagdchgkjjpacaaGreat
open Go.RowKit Go.Shelf
abbrev StInL (w : World) (sb : Nat) (c : StC) : Prop:=IsBlk w sb (stCells c 1 (-1073741824)) 126
theorem StInL.below {w w' : World} {sb : Nat} {c : StC} (h : StInL w sb c) (k : Below w.heap.size w w') : StInL w' sb c:=(k.block _ (lt_of_block h)).trans h
structure StBL (w : World) (sb : Nat) (c : StC) (m : Prs) (n : Nat) : Prop where
 blk : StInL w sb c
 tab : ∃ t ver,Ss.STab w c.tb t ver ∧ t.ino = m ∧ 0 ≤ ver ∧ ver ≤ (n : Int)
 rise : Rise slt m
 len : m.length ≤ n
theorem StBL.below {w w' : World} {sb : Nat} {c : StC} {m : Prs} {n : Nat} (h : StBL w sb c m n) (k : Below w.heap.size w w') : StBL w' sb c m n:=by
 obtain ⟨t,ver,h1,h2,h3⟩:=h.tab
 exact ⟨h.blk.below k,⟨t,ver,h1.below k,h2,h3⟩,h.rise,h.len⟩
theorem StBL.ne {w : World} {sb : Nat} {c : StC} {m : Prs} {n : Nat} (h : StBL w sb c m n) : sb ≠ c.tb:=by
 obtain ⟨t,ver,⟨root,hb,_⟩,_⟩:=h.tab
 exact blk_ne_type h.blk hb (by decide)
theorem StBL.lt {w : World} {sb : Nat} {c : StC} {m : Prs} {n : Nat} (h : StBL w sb c m n) : sb < w.heap.size ∧ c.tb < w.heap.size:=by
 obtain ⟨t,ver,⟨root,hb,_⟩,_⟩:=h.tab
 exact ⟨lt_of_block h.blk,lt_of_block hb⟩
section
variable {w : World} {sb : Nat} {c : StC} {m : Prs} {n : Nat}
theorem sb_putL (h : StBL w sb c m n) (k v : ByteArray) (hn : n < 800000000) : Hid (∀ W,Below w.heap.size w W → Calls Tryz.prog 129 #[.pointer (some ⟨c.tb,0,none⟩),.string k,.string v] W fun e w' => e = .returned (.tuple #[]) ∧ StBL w' sb c (applyC m ⟨k,v,false⟩) (n + 1) ∧ Keeps (Only c.tb) W w'):=hid fun W hW => by
 have h:=h.below hW
 obtain ⟨t,ver,h1,h2,h3,h4⟩:=h.tab
 have hs : t.size < 900000000:=by rw [← Tr.ino_length,h2]; have:=h.len; omega
 refine (Ss.t_put W c.tb t ver k v h1 h3 (by omega) hs).mono ?_
 rintro e w' ⟨rfl,ht,hk⟩
 have hr : Rise slt t.ino:=by rw [h2]; exact h.rise
 have hi : (t.put slt k v).ino = applyC m ⟨k,v,false⟩:=by rw [ino_put slt_ord t hr,h2]; rfl
 exact ⟨rfl,⟨hk.obj h.blk h.ne,⟨_,_,ht,hi,by omega,by omega⟩,rise_applyC h.rise _,by have:=(applyC_fit m ⟨k,v,false⟩).1; have:=h.len; omega⟩,hk⟩
theorem sb_delL (h : StBL w sb c m n) (k v : ByteArray) (hn : n < 800000000) : Hid (∀ W,Below w.heap.size w W → Calls Tryz.prog 128 #[.pointer (some ⟨c.tb,0,none⟩),.string k] W fun e w' => ∃ b : Bool,e = .returned (.bool b) ∧ StBL w' sb c (applyC m ⟨k,v,true⟩) (n + 1) ∧ Keeps (Only c.tb) W w'):=hid fun W hW => by
 have h:=h.below hW
 obtain ⟨t,ver,h1,h2,h3,h4⟩:=h.tab
 have hs : t.size < 900000000:=by rw [← Tr.ino_length,h2]; have:=h.len; omega
 refine (Ss.t_delete W c.tb t ver k h1 h3 (by omega) hs).mono ?_
 rintro e w' ⟨rfl,ht,hk⟩
 have hr : Rise slt t.ino:=by rw [h2]; exact h.rise
 have hi : (Ss.delT t k).ino = applyC m ⟨k,v,true⟩:=by rw [delT_ino hr,h2]; rfl
 exact ⟨_,rfl,⟨hk.obj h.blk h.ne,⟨_,_,ht,hi,by omega,by omega⟩,rise_applyC h.rise _,by have:=(applyC_fit m ⟨k,v,true⟩).1; have:=h.len; omega⟩,hk⟩
structure DoIL (w : World) (sb : Nat) (c : StC) (m : Prs) (n : Nat) (l : List Chg) (i : Nat) (wr : World) : Prop where
 st : StBL wr sb c (applyB m (l.take i)) (n + i)
 keeps : Keeps (Only c.tb) w wr
theorem applyB_snocL (m : Prs) (l : List Chg) {i : Nat} {x : Chg} (h : l[i]? = some x) : applyC (applyB m (l.take i)) x = applyB m (l.take (i + 1)):=by
 rw [List.take_add_one,h,applyB_append]; rfl
set_option maxHeartbeats 4000000 in
theorem st_doL (h : StBL w sb c m n) {l : List Chg} {a : Option Addr} {cap : Nat} (hr : RdAt chgKind w (.slice a l.length cap) l) (ho : ∀ g,(Value.slice a l.length cap).ownBlock = some g → g ≠ c.tb) (hn : n + l.length < 800000000) :
 Calls Tryz.prog 78 #[.pointer (some ⟨sb,0,none⟩),.slice a l.length cap] w fun e w' => e = .returned (.tuple #[]) ∧ StBL w' sb c (applyB m l) (n + l.length) ∧ Keeps (Only c.tb) w w':=by
 have HR:=hid hr
 have HO:=hid ho
 have HN:=hid hn
 have HI0 : Hid (DoIL w sb c m n l 0 w):=hid ⟨by simpa [applyB] using h,Keeps.refl _ _⟩
 have hl1 : (l.length : Int) < 800000000:=by omega
 clear h hr ho hn
 go_enter Tryz.func78,Tryz.ntmps78
 go_wp2_with (fail)
 go_loopw [8] (fun iv wr => ∃ i : Nat,i ≤ l.length ∧ iv = .int .i64 (i : Int) ∧ Hid (DoIL w sb c m n l i wr)) (fun iv _ => l.length - (intOf iv).toNat)
 case atStart => exact ⟨0,Nat.zero_le _,rfl,HI0⟩
 case round =>
  obtain ⟨i,hi,rfl,HI⟩:=hrel
  by_cases hlt : i < l.length
  ·have q1 : (0 : Int) ≤ (i : Int):=by omega
   have q2 : (i : Int) < (l.length : Int):=by omega
   obtain ⟨x,hx⟩ : ∃ x,l[i]? = some x:=⟨_,List.getElem?_eq_getElem hlt⟩
   have hrw : RdAt chgKind wr (.slice a l.length cap) l:=HR.out.block fun g hg hlt => HI.out.keeps.block g hlt (HO.out g hg)
   obtain ⟨g,off,rfl,d0,d1,d2⟩:=chg_cells hrw hx
   have HX:=hid (applyB_snocL m l hx)
   have HLT:=hid hlt
   obtain ⟨k,u,dr⟩:=x
   simp only at d0 d1 d2
   clear hx hlt hi hrw
   go_upto_region 3 with (fail)
   obtain ⟨W1,hW1,HB1⟩:=cbox_new wr ⟨k,u,dr⟩
   simp only at hW1
   rw [hW1]
   obtain ⟨xb,hxb⟩ : ∃ x,x = wr.heap.size:=⟨_,rfl⟩
   rw [← hxb]
   have HXB : Hid (CBox W1 xb ⟨k,u,dr⟩):=hid (by rw [hxb]; exact HB1.out.2.1)
   have HST : Hid (StBL W1 sb c (applyB m (l.take i)) (n + i)):=hid (HI.out.st.below HB1.out.1)
   have HK1 : Hid (Keeps (Only c.tb) w W1):=hid (HI.out.keeps.trans' ((Keeps.of_below HB1.out.1).mono fun _ _ e => e.elim))
   have HNE : Hid (sb ≠ c.tb ∧ xb ≠ c.tb):=hid ⟨HI.out.st.ne,fun e => by have:=HI.out.st.lt; omega⟩
   have s11 : W1.cell? ⟨sb,11,none⟩ = some (.pointer (some ⟨c.tb,0,none⟩)):=blk_cell HST.out.blk 11
   obtain ⟨⟨x0,x1,x2⟩,-⟩:=cbox_cells HXB.out
   simp only at x0 x1 x2
   have HP:=sb_putL HST.out k u (by have:=HN.out; have:=HLT.out; omega)
   have HD:=sb_delL HST.out k u (by have:=HN.out; have:=HLT.out; omega)
   clear hW1 hxb HB1 d0 d1 d2
   cases dr with
   | true =>
     go_upto_region 4 with (fail)
     clear x1 x2
     go_region_held3 (fun w' => w'.cell? ⟨sb,11,none⟩ = some (.pointer (some ⟨c.tb,0,none⟩)) ∧ w'.cell? ⟨xb,0,none⟩ = some (.string k))
       (first
         | go_keep
         | exact ⟨blk_cell s5.blk 11,blk_cell (k5.obj HXB.out HNE.out.2) 0⟩)
       (first
         | (go_at_call 128; (with_reducible refine (HD.out _ ?_).mono ?_); exact (Below.refl _ _).drew; rintro e w5 ⟨b5,rfl,s5,k5'⟩; have k5 : Keeps (Only c.tb) W1 w5:=((Keeps.of_below (Below.refl _ _).drew).mono (fun _ _ h => h.elim)).trans' k5'; clear k5'))
     have HI2 : Hid (DoIL w sb c m n l (i + 1) w5):=hid ⟨by rw [← HX.out]; exact s5,HK1.out.trans' k5⟩
     clear s11 x0 s5 k5
     go_wp2_with (fail)
     go_roundw
     case rel => exact ⟨i + 1,HLT.out,by go_num,HI2⟩
     case measure => have:=HLT.out; simp [intOf]; omega
   | false =>
     go_upto_region 5 with (fail)
     clear x2
     go_region_held3 (fun w' => w'.cell? ⟨sb,11,none⟩ = some (.pointer (some ⟨c.tb,0,none⟩)) ∧ w'.cell? ⟨xb,0,none⟩ = some (.string k) ∧ w'.cell? ⟨xb,1,none⟩ = some (.string u))
       (first
         | go_keep
         | exact ⟨blk_cell s5.blk 11,blk_cell (k5.obj HXB.out HNE.out.2) 0,blk_cell (k5.obj HXB.out HNE.out.2) 1⟩)
       (first
         | (go_at_call 129; (with_reducible refine (HP.out _ ?_).mono ?_); exact (Below.refl _ _).drew; rintro e w5 ⟨rfl,s5,k5'⟩; have k5 : Keeps (Only c.tb) W1 w5:=((Keeps.of_below (Below.refl _ _).drew).mono (fun _ _ h => h.elim)).trans' k5'; clear k5'))
     have HI2 : Hid (DoIL w sb c m n l (i + 1) w5):=hid ⟨by rw [← HX.out]; exact s5,HK1.out.trans' k5⟩
     clear s11 x0 x1 s5 k5
     go_wp2_with (fail)
     go_roundw
     case rel => exact ⟨i + 1,HLT.out,by go_num,HI2⟩
     case measure => have:=HLT.out; simp [intOf]; omega
  ·have q2 : ¬ (i : Int) < (l.length : Int):=by omega
   obtain rfl : i = l.length:=by omega
   have HE:=hid (show StBL wr sb c (applyB m l) (n + l.length) from by have:=HI.out.st; rwa [List.take_length] at this)
   clear hlt hi
   go_wp2_with (fail)
   go_end0
   exact ⟨rfl,HE.out,HI.out.keeps⟩
end
open Go.RowKit Go.Shelf Go.RwLone
theorem keeps_cell (w : World) (b i : Nat) (u : Value) : Keeps (Only b) w (w.setCell ⟨b,i,none⟩ u):=(Keeps.refl (Only b) w).setCell (p:=⟨b,i,none⟩) (fun _ => rfl) u
theorem so_lock {w : World} {sb : Nat} {c : StC} (h : StIn w sb c) :
 Calls Tryz.prog 76 #[.pointer (some ⟨sb,5,none⟩)] w fun e w' => e = .returned (.tuple #[]) ∧ StInL w' sb c ∧ Keeps (Only sb) w w' :=
 (wlock_free Tryz.rwWLib sb 5 (.int .u32 0) (.int .u32 0) w (blk_cell h 5) (blk_cell h 7) (blk_cell h 8) (blk_cell h 9) (blk_free h 5) (blk_free h 9)).mono
   (fun e w' ⟨he,hw⟩ => ⟨he,hw ▸ blk_set (blk_set h 5 _) 9 _,hw ▸ (keeps_cell w sb _ _).trans' (keeps_cell _ sb _ _)⟩)
theorem so_unlockD {w : World} {sb : Nat} {c : StC} (u : FrameMode) (h : StInL w sb c) :
 CallsD Tryz.prog 77 #[.pointer (some ⟨sb,5,none⟩)] u w fun e u' w' => u' = u ∧ e = .returned (.tuple #[]) ∧ StIn w' sb c ∧ Keeps (Only sb) w w' :=
 (wunlock_deferred Tryz.rwWLib sb 5 (.int .u32 0) (.int .u32 0) u w (blk_cell h 5) (blk_cell h 7) (blk_cell h 8) (blk_cell h 9) (blk_free h 5) (blk_free h 9)).mono
   (fun e u' w' ⟨hu,he,hw⟩ => ⟨hu,he,hw ▸ blk_set (blk_set h 9 _) 5 _,hw ▸ (keeps_cell w sb _ _).trans' (keeps_cell _ sb _ _)⟩)
abbrev StInR (w : World) (sb : Nat) (c : StC) : Prop:=IsBlk w sb (stCells c 0 1) 126
theorem so_rlock {w : World} {sb : Nat} {c : StC} (h : StIn w sb c) :
 Calls Tryz.prog 92 #[.pointer (some ⟨sb,5,none⟩)] w fun e w' => e = .returned (.tuple #[]) ∧ StInR w' sb c ∧ Keeps (Only sb) w w' :=
 (rlock_open Tryz.rwRLib sb 5 0 (.int .i32 0) (.int .u32 0) w (blk_cell h 5) (blk_cell h 8) (blk_cell h 9) (blk_free h 9) (by rw [w32_up]; decide)).mono
   (fun e w' ⟨he,hw⟩ => by rw [w32_up] at hw; exact ⟨he,hw ▸ blk_set h 9 _,hw ▸ keeps_cell w sb 9 _⟩)
theorem so_runlockD {w : World} {sb : Nat} {c : StC} (u : FrameMode) (h : StInR w sb c) :
 CallsD Tryz.prog 93 #[.pointer (some ⟨sb,5,none⟩)] u w fun e u' w' => u' = u ∧ e = .returned (.tuple #[]) ∧ StIn w' sb c ∧ Keeps (Only sb) w w' :=
 (runlock_deferred Tryz.rwRLib sb 5 1 (.int .i32 0) (.int .u32 0) u w (blk_cell h 5) (blk_cell h 7) (blk_cell h 9) (blk_free h 9) (by rw [w32_down]; decide)).mono
   (fun e u' w' ⟨hu,he,hw⟩ => by rw [w32_down] at hw; exact ⟨hu,he,hw ▸ blk_set h 9 _,hw ▸ keeps_cell w sb 9 _⟩)
structure WrsPost (w0 w : World) (fb : Nat) (S : Nat → Prop) (k n : Nat) (lb sb tb : Nat) (s : StS) (F : FsS) (w' : World) : Prop where
 ex : ∃ T,Db w0 w' fb F k T lb sb tb s n ∧ ∀ i,T i → S i ∨ w.heap.size ≤ i
 keeps : Keeps (fun i => S i ∨ i = lb ∨ i = sb ∨ i = tb) w w'
theorem StB.reblk {w w' : World} {sb : Nat} {c c' : StC} {m : Prs} {n : Nat} (h : StB w sb c m n) (hk : Keeps (Only sb) w w') (hb : StIn w' sb c') (ht : c'.tb = c.tb) : StB w' sb c' m n:=by
 obtain ⟨t,ver,h1,h2,h3⟩:=h.tab
 have h4 : Ss.STab w' c.tb t ver:=h1.keeps hk (fun e => h.ne e.symm) (fun b cs hx e => by
  have e : b = sb:=e
  subst e
  exact blk_ne_type hx h.blk (by decide) rfl)
 exact ⟨hb,⟨t,ver,by rw [ht]; exact h4,h2,h3⟩,h.rise,h.len⟩
theorem StB.lock {w w' : World} {sb : Nat} {c c' : StC} {m : Prs} {n : Nat} (h : StB w sb c m n) (hk : Keeps (Only sb) w w') (hb : StInL w' sb c') (ht : c'.tb = c.tb) : StBL w' sb c' m n:=by
 obtain ⟨t,ver,h1,h2,h3⟩:=h.tab
 have h4 : Ss.STab w' c.tb t ver:=h1.keeps hk (fun e => h.ne e.symm) (fun b cs hx e => by
  have e : b = sb:=e
  subst e
  exact blk_ne_type hx h.blk (by decide) rfl)
 exact ⟨hb,⟨t,ver,by rw [ht]; exact h4,h2,h3⟩,h.rise,h.len⟩
theorem StBL.unlock {w w' : World} {sb : Nat} {c c' : StC} {m : Prs} {n : Nat} (h : StBL w sb c m n) (hk : Keeps (Only sb) w w') (hb : StIn w' sb c') (ht : c'.tb = c.tb) : StB w' sb c' m n:=by
 obtain ⟨t,ver,h1,h2,h3⟩:=h.tab
 have h4 : Ss.STab w' c.tb t ver:=h1.keeps hk (fun e => h.ne e.symm) (fun b cs hx e => by
  have e : b = sb:=e
  subst e
  exact blk_ne_type hx h.blk (by decide) rfl)
 exact ⟨hb,⟨t,ver,by rw [ht]; exact h4,h2,h3⟩,h.rise,h.len⟩
section
variable {w0 w w' : World} {fb k lb sb tb n : Nat} {F G : FsS} {S T : Nat → Prop} {s : StS}
theorem Db.step {k' : Nat} {L' : LogS} (h : Db w0 w fb F k S lb sb tb s n) (hp : LPost w0 w fb S lb G k' L' w') :
 ∃ T,Lg w0 w' fb G k' T lb L' ∧ PureS T w' ∧ (∀ i,T i → S i ∨ w.heap.size ≤ i) ∧ StB w' sb ⟨fb,s.dir,some ⟨lb,0,none⟩,(s.base : Int),s.stuck,tb,(s.seq : Int)⟩ s.all n ∧ Keeps (fun i => S i ∨ i = lb) w w':=by
 refine ⟨_,hp.lg.ps,PS.pure _ _,fun i hi => ?_,h.st.keepsOut hp.keeps fun i hi cs T hT => ?_,hp.keeps⟩
 ·rcases hi.1 with e | e
  ·exact .inl e
  ·exact .inr e.1
 ·rcases hi with e | e
  ·rcases h.pure i e cs T hT with rfl | rfl | rfl <;> decide
  ·subst e
   have h1:=blk_type hT h.lg.log.blk
   subst h1; decide
theorem Db.apart (h : Db w0 w fb F k S lb sb tb s n) : ¬ S sb ∧ ¬ S tb ∧ sb ≠ lb ∧ tb ≠ lb ∧ sb ≠ tb ∧ sb < w.heap.size ∧ tb < w.heap.size ∧ lb < w.heap.size:=by
 obtain ⟨t,ver,⟨root,h1,_⟩,_⟩:=h.st.tab
 exact ⟨h.pure.not h.st.blk (by decide) (by decide) (by decide),h.pure.not h1 (by decide) (by decide) (by decide),blk_ne_type h.st.blk h.lg.log.blk (by decide),blk_ne_type h1 h.lg.log.blk (by decide),h.st.ne,h.st.lt.1,h.st.lt.2,h.lg.lt⟩
theorem Db.below (h : Db w0 w fb F k S lb sb tb s n) (hb : Below w.heap.size w w') : Db w0 w' fb F k S lb sb tb s n:=⟨h.lg.below hb,h.pure.below h.lg.hd.fs.lt hb,h.st.below hb,h.low⟩
theorem Db.more (h : Db w0 w fb F k S lb sb tb s n) {k' n' : Nat} (hk : k ≤ k') (hn : n ≤ n') : Db w0 w fb F k' S lb sb tb s n':=⟨⟨⟨h.lg.hd.fs,h.lg.hd.low,h.lg.hd.below,h.lg.hd.ok.mono hk⟩,h.lg.log⟩,h.pure,h.st.mono hn,h.low⟩
theorem WrsPost.same (h : Db w0 w fb F k S lb sb tb s n) (hb : Below w.heap.size w w') {k' n' : Nat} (hk : k ≤ k') (hn : n ≤ n') : WrsPost w0 w fb S k' n' lb sb tb s F w' :=
 ⟨⟨S,(h.below hb).more hk hn,fun i e => .inl e⟩,(Keeps.of_below hb).mono fun _ _ e => e.elim⟩
set_option maxHeartbeats 16000000 in
theorem st_write (h : Db w0 w fb F k S lb sb tb s n) (hk : k < 920000) (hdir : s.log.dir.size ≤ 1000) (hlast : s.log.last < 90000000) (hq : s.seq < 9223372036854775800) (hn : n < 700000000) {a : Option Addr} {cap : Nat} {l : List Chg} (hr : RdAt chgKind w (.slice a l.length cap) l)
 (ho : l ≠ [] → ∀ g,(Value.slice a l.length cap).ownBlock = some g → ¬ S g ∧ g ≠ lb ∧ g ≠ sb ∧ g ≠ tb) (hl : l.length ≤ 1000000000) :
 Calls Tryz.prog 25 #[.pointer (some ⟨sb,0,none⟩),.slice a l.length cap] w fun e w' => e = .returned (.int .i64 (writeS s F l).2.2) ∧ WrsPost w0 w fb S (k + 3) (n + 500) lb sb tb (writeS s F l).1 (writeS s F l).2.1 w':=by
 have H:=hid h
 have HR:=hid hr
 have HO:=hid ho
 have HC:=hid (And.intro hk (And.intro hdir (And.intro hlast (And.intro hq hn))))
 have HLL:=hid hl
 have s4 : w.cell? ⟨sb,4,none⟩ = some (.bool s.stuck):=blk_cell h.st.blk 4
 have hlI : (l.length : Int) ≤ 1000000000:=by omega
 clear h hr ho hk hdir hlast hq hn hl
 obtain ⟨stk,hstk⟩ : ∃ b,b = s.stuck:=⟨_,rfl⟩
 rw [← hstk] at s4
 have HSTK:=hid hstk
 clear hstk
 rcases Bool.eq_false_or_eq_true stk with e | e <;> subst e
 ·have HEQ : Hid (writeS s F l = (s,F,25)):=hid (by unfold writeS; rw [if_pos HSTK.out.symm])
  go_enter_defers Tryz.func25,Tryz.ntmps25
  go_wp2_with (fail)
  refine ⟨_,results_tmp rfl _ _ _,?_⟩
  rw [HEQ.out]
  exact ⟨rfl,WrsPost.same H.out (Below.refl _ _) (by omega) (by omega)⟩
 have HWS : Hid (writeS s F l = if chkB l ≠ 0 then (s,F,((chkB l : Nat) : Int)) else writeE s F l (encB ((s.seq : Int) + 1) l)):=hid (by unfold writeS; rw [if_neg (by rw [← HSTK.out]; decide)])
 go_enter_defers Tryz.func25,Tryz.ntmps25
 go_wp2_with (fail)
 refine (st_check HR.out HLL.out).mono ?_
 rintro e w1 ⟨rfl,hb1⟩
 have HB1:=hid hb1
 have HD1:=hid (H.out.below hb1)
 have HR1 : Hid (RdAt chgKind w1 (.slice a l.length cap) l):=hid (HR.out.block fun g hg hlt => hb1.block g hlt)
 clear hb1 s4
 obtain ⟨ck,hck⟩ : ∃ x : Nat,x = chkB l:=⟨_,rfl⟩
 rw [← hck] at HWS ⊢
 have HCK:=hid hck
 clear hck
 by_cases hbad : ck = 0
 rotate_left
 ·have t0 : (((ck : Nat) : Int) != 0) = true:=by simp; omega
  have t1 : ((ck : Nat) : Int) ≠ 0:=by omega
  have HBD:=hid hbad
  clear hbad
  go_wp2_with (fail)
  refine ⟨_,results_tmp rfl _ _ _,?_⟩
  rw [HWS.out,if_pos HBD.out]
  exact ⟨rfl,WrsPost.same H.out HB1.out (by omega) (by omega)⟩
 subst hbad
 have s12 : w1.cell? ⟨sb,12,none⟩ = some (.int .i64 ((s.seq : Nat) : Int)):=blk_cell HD1.out.st.blk 12
 obtain ⟨zq,hzq⟩ : ∃ z : Int,z = ((s.seq : Nat) : Int):=⟨_,rfl⟩
 rw [← hzq] at s12
 have hz1 : 0 ≤ zq:=by omega
 have hz2 : zq < 9223372036854775800:=by have:=HC.out.2.2.2.1; omega
 have HZQ:=hid hzq
 have HWS2 : Hid (writeS s F l = writeE s F l (encB (zq + 1) l)):=hid (by rw [HWS.out,if_neg (by simp),hzq])
 clear hzq HWS
 go_wp2_with (fail)
 refine (st_encode HR1.out HLL.out (zq + 1) (by omega)).mono ?_
 rintro e w2 ⟨bv,rfl,hb2⟩
 obtain ⟨E,hE⟩ : ∃ E,E = encB (zq + 1) l:=⟨_,rfl⟩
 rw [← hE] at HWS2 hb2 ⊢
 have HEN:=hid hE
 have HB2 : Hid (Below w.heap.size w w2):=hid (HB1.out.trans (hb2.out.below.mono HB1.out.size))
 have HD2 : Hid (Db w0 w2 fb F k S lb sb tb s n):=hid (H.out.below HB2.out)
 have HR2 : Hid (RdAt chgKind w2 (.slice a l.length cap) l):=hid (HR.out.block fun g hg hlt => HB2.out.block g hlt)
 have HBR:=hid hb2.out.sl.rd
 have HBN : Hid (∀ g,bv.ownBlock = some g → w.heap.size ≤ g):=hid fun g hg => by have:=hb2.out.new g hg; have:=HB1.out.size; omega
 clear hE hb2 s12 hz1 hz2 HD1 HR1
 obtain ⟨p,en⟩:=E
 by_cases hen : en = 0
 rotate_left
 ·have t0 : (((en : Nat) : Int) != 0) = true:=by simp; omega
  have t1 : ((en : Nat) : Int) ≠ 0:=by omega
  have HBD:=hid hen
  clear hen
  go_wp2_with (fail)
  refine ⟨_,results_tmp rfl _ _ _,?_⟩
  rw [HWS2.out]
  unfold writeE
  rw [if_pos (.inl HBD.out)]
  exact ⟨rfl,WrsPost.same H.out HB2.out (by omega) (by omega)⟩
 subst hen
 by_cases hl0 : l = []
 ·have t0 : l.length = 0:=by rw [hl0]; rfl
  have HBD:=hid hl0
  clear hl0
  go_wp2_with (fail)
  refine ⟨_,results_tmp rfl _ _ _,?_⟩
  rw [HWS2.out]
  unfold writeE
  rw [if_pos (.inr HBD.out)]
  exact ⟨rfl,WrsPost.same H.out HB2.out (by omega) (by omega)⟩
 have HO2:=hid (HO.out hl0)
 have t0 : ¬ l.length = 0:=fun e => hl0 (List.length_eq_zero_iff.1 e)
 have t1 : ¬ (l.length : Int) = 0:=by omega
 have t2 : decide ((l.length : Int) = 0) = false:=decide_eq_false t1
 have t3 : ((l.length : Int) == 0) = false:=by simp; omega
 have HWS3 : Hid (writeS s F l = writeA s l (appendL s.log F p)):=hid (by rw [HWS2.out]; unfold writeE; rw [if_neg (by rintro (e | e); exact e rfl; exact hl0 e)])
 have HLE : Hid (l.length ≤ 500 ∧ p.length ≤ 10000000):=hid (by
  have h1:=HCK.out
  have h2:=HEN.out
  constructor
  ·unfold chkB at h1
   split at h1
   ·omega
   ·omega
  ·unfold encB at h2
   split at h2
   ·simp only [Prod.mk.injEq] at h2; rw [h2.1]; simp
   split at h2
   ·simp only [Prod.mk.injEq] at h2; rw [h2.1]; simp
   split at h2
   ·simp only [Prod.mk.injEq] at h2; rw [h2.1]; simp
   ·simp only [Prod.mk.injEq] at h2; rw [h2.1]; omega)
 obtain ⟨ba,bc,rfl,-⟩:=HBR.out
 have s2 : w2.cell? ⟨sb,2,none⟩ = some (.pointer (some ⟨lb,0,none⟩)):=blk_cell HD2.out.st.blk 2
 clear hl0 HWS2
 go_wp2_with (fail)
 have HAP:=hid HD2.out.apart
 have hoa : ∀ g,(Value.slice ba p.length bc).ownBlock = some g → p ≠ [] → ¬ S g ∧ g ≠ lb:=fun g hg _ => ⟨fun e => by have:=HBN.out g hg; have:=H.out.lg.hd.fs.lt _ e; omega,fun e => by have:=HBN.out g hg; have:=H.out.lg.lt; omega⟩
 refine (w_append HD2.out.lg (by have:=HC.out.1; omega) (by have:=HC.out.2.1; omega) (by have:=HC.out.2.2.1; omega) HBR.out hoa HLE.out.2).mono ?_
 rintro e w3 ⟨rfl,hp3⟩
 obtain ⟨A,hA⟩ : ∃ A,A = appendL s.log F p:=⟨_,rfl⟩
 rw [← hA] at hp3 HWS3 ⊢
 obtain ⟨T3,hl3,hpu3,hT3,hs3,hk3⟩:=HD2.out.step hp3
 have HL3:=hid hl3
 have HP3:=hid hpu3
 have HS3:=hid hs3
 have HT3 : Hid (∀ i,T3 i → S i ∨ w.heap.size ≤ i):=hid fun i hi => by rcases hT3 i hi with e | e; exact .inl e; exact .inr (by have:=HB2.out.size; omega)
 have HTN : Hid (¬ T3 sb ∧ ¬ T3 tb):=hid ⟨hpu3.not hs3.blk (by decide) (by decide) (by decide),by
  obtain ⟨t,ver,⟨root,h1,_⟩,_⟩:=hs3.tab
  exact hpu3.not h1 (by decide) (by decide) (by decide)⟩
 have HK3 : Hid (Keeps (fun i => S i ∨ i = lb ∨ i = sb ∨ i = tb) w w3):=hid (((Keeps.of_below HB2.out).mono fun _ _ e => e.elim).trans (hk3.mono fun i _ e => by rcases e with e | e; exact Or.inl e; exact Or.inr (.inl e)) fun i _ e => e)
 have HLW : Hid (w0.heap.size ≤ sb ∧ w0.heap.size ≤ tb):=hid H.out.low
 have HR3 : Hid (RdAt chgKind w3 (.slice a l.length cap) l):=hid (HR2.out.block fun g hg hlt => hk3.block g hlt fun e => by
  have:=HO2.out g hg
  rcases e with e | e
  ·exact this.1 e
  ·exact this.2.1 e)
 clear hp3 hA hl3 hpu3 hT3 hs3 hk3 hoa s2
 by_cases hr : A.2.2 = 0
 rotate_left
 ·have r0 : (A.2.2 != 0) = true:=by simp [hr]
  have HBD:=hid hr
  clear hr
  go_wp2_with (fail)
  refine (st_met HS3.out.blk A.2.2).mono ?_
  rintro e w4 ⟨rfl,hs4,hk4⟩
  have HS4 : Hid (StB w4 sb (StC.met ⟨fb,s.dir,some ⟨lb,0,none⟩,(s.base : Int),s.stuck,tb,(s.seq : Int)⟩ A.2.2) s.all n):=hid (HS3.out.reblk hk4 hs4 rfl)
  have HK4:=hid hk4
  clear hs4 hk4
  go_wp2_with (fail)
  refine ⟨_,results_tmp rfl _ _ _,?_⟩
  rw [HWS3.out]
  unfold writeA
  rw [if_pos HBD.out]
  refine ⟨rfl,⟨T3,⟨HL3.out.keepsOut HK4.out (fun i (e : i = sb) => by rw [e]; exact HTN.out.1) (fun i (e : i = sb) => by rw [e]; exact HAP.out.2.2.1) (fun i (e : i = sb) => by rw [e]; exact HLW.out.1),HP3.out.keeps HL3.out.hd.fs.lt HK4.out (fun i (e : i = sb) => by rw [e]; exact HTN.out.1),?_,HLW.out⟩,HT3.out⟩,HK3.out.trans' (HK4.out.mono fun i _ (e : i = sb) => .inr (.inr (.inl e)))⟩
  have h1:=HS4.out.mono (show n ≤ n + 500 by omega)
  unfold StC.met at h1
  simp only at h1
  rw [← HSTK.out,Bool.false_or] at h1
  exact h1
 have r0 : (A.2.2 != 0) = false:=by simp [hr]
 have HBD:=hid hr
 clear hr
 go_wp2_with (fail)
 refine (so_lock HS3.out.blk).mono ?_
 rintro e w4 ⟨rfl,hs4,hk4⟩
 have HS4 : Hid (StBL w4 sb ⟨fb,s.dir,some ⟨lb,0,none⟩,(s.base : Int),s.stuck,tb,(s.seq : Int)⟩ s.all n):=hid (HS3.out.lock hk4 hs4 rfl)
 have HK4:=hid hk4
 have HR4 : Hid (RdAt chgKind w4 (.slice a l.length cap) l):=hid (HR3.out.block fun g hg hlt => hk4.block g hlt fun (e : g = sb) => (HO2.out g hg).2.2.1 e)
 clear hs4 hk4 r0
 go_wp2_with (fail)
 refine (st_doL HS4.out HR4.out (fun g hg => (HO2.out g hg).2.2.2) (by have:=HC.out.2.2.2.2; have:=HLE.out.1; omega)).mono ?_
 rintro e w5 ⟨rfl,hs5,hk5⟩
 have HS5:=hid hs5
 have HK5 : Hid (Keeps (Only tb) w4 w5):=hid hk5
 have z12 : w5.frozen? ⟨sb,12,none⟩ = false:=blk_free hs5.blk 12
 have s12 : w5.cell? ⟨sb,12,none⟩ = some (.int .i64 zq):=by rw [HZQ.out]; exact blk_cell hs5.blk 12
 have hz1 : 0 ≤ zq:=by rw [HZQ.out]; omega
 have hz2 : zq < 9223372036854775800:=by have:=HC.out.2.2.2.1; rw [HZQ.out]; omega
 clear hs5 hk5
 go_wp2_with (fail)
 refine leaves_cons (f:=77) (args:=#[.pointer (some ⟨sb,5,none⟩)]) (by simp) (by simp [go_sem]) ?_
 have hb6 : StInL (w5.setCell ⟨sb,12,none⟩ (.int .i64 (zq + 1))) sb ⟨fb,s.dir,some ⟨lb,0,none⟩,(s.base : Int),s.stuck,tb,zq + 1⟩:=blk_set HS5.out.blk 12 _
 have hk6 : Keeps (Only sb) w5 (w5.setCell ⟨sb,12,none⟩ (.int .i64 (zq + 1))):=keeps_cell _ _ _ _
 refine (so_unlockD .returning hb6).mono ?_
 rintro e u' w7 ⟨rfl,rfl,hb7,hk7⟩
 refine ⟨_,results_tmp rfl _ _ _,?_⟩
 have hs7:=HS5.out.unlock (hk6.trans' hk7) hb7 rfl
 have hk37 : Keeps (fun i => i = sb ∨ i = tb) w3 w7:=((HK4.out.mono fun _ _ e => .inl e).trans' (HK5.out.mono fun _ _ e => .inr e)).trans' ((hk6.trans' hk7).mono fun _ _ e => .inl e)
 rw [HWS3.out]
 unfold writeA
 rw [if_neg (by rw [HBD.out]; simp)]
 refine ⟨rfl,⟨T3,⟨HL3.out.keepsOut hk37 (fun i e => by rcases e with e | e <;> (rw [e]; first | exact HTN.out.1 | exact HTN.out.2)) (fun i e => by rcases e with e | e <;> (rw [e]; first | exact HAP.out.2.2.1 | exact HAP.out.2.2.2.1)) (fun i e => by rcases e with e | e <;> (rw [e]; first | exact HLW.out.1 | exact HLW.out.2)),HP3.out.keeps HL3.out.hd.fs.lt hk37 (fun i e => by rcases e with e | e <;> (rw [e]; first | exact HTN.out.1 | exact HTN.out.2)),?_,HLW.out⟩,HT3.out⟩,HK3.out.trans' (hk37.mono fun i _ e => .inr (.inr e))⟩
 have h1:=hs7.mono (show n + l.length ≤ n + 500 by have:=HLE.out.1; omega)
 rw [HZQ.out] at h1
 exact h1
end
section
variable {w : World} {sb : Nat} {c : StC} {m : Prs} {n : Nat}
theorem so_seq (h : StIn w sb c) :
 Calls Tryz.prog 32 #[.pointer (some ⟨sb,0,none⟩)] w fun e w' => e = .returned (.int .i64 c.seq) ∧ Below w.heap.size w w':=by
 have H:=hid h
 have HL:=hid (so_rlock h)
 clear h
 go_enter_defers Tryz.func32,Tryz.ntmps32
 go_wp2_with (fail)
 refine HL.out.mono ?_
 rintro e w1 ⟨rfl,hb1,hk1⟩
 have s12 : w1.cell? ⟨sb,12,none⟩ = some (.int .i64 c.seq):=blk_cell hb1 12
 have HB1:=hid hb1
 have HK1:=hid hk1
 clear hb1 hk1
 go_wp2_with (fail)
 refine leaves_cons (f:=93) (args:=#[.pointer (some ⟨sb,5,none⟩)]) (by simp) (by simp [go_sem]) ?_
 refine (so_runlockD .returning HB1.out).mono ?_
 rintro e u' w5 ⟨rfl,rfl,hb5,hk5⟩
 refine ⟨_,results_tmp rfl _ _ _,rfl,?_⟩
 exact (HK1.out.trans' hk5).back H.out hb5
theorem so_snapshot (h : StB w sb c m n) :
 Calls Tryz.prog 42 #[.pointer (some ⟨sb,0,none⟩)] w fun e w' => ∃ bb t ver,e = .returned (.pointer (some ⟨bb,0,none⟩)) ∧ Ss.SSnap w' bb t ver ∧ t.ino = m ∧ w.heap.size ≤ bb ∧ Below w.heap.size w w':=by
 have H:=hid h
 have HL:=hid (so_rlock h.blk)
 clear h
 go_enter_defers Tryz.func42,Tryz.ntmps42
 go_wp2_with (fail)
 refine HL.out.mono ?_
 rintro e w1 ⟨rfl,hb1,hk1⟩
 have s11 : w1.cell? ⟨sb,11,none⟩ = some (.pointer (some ⟨c.tb,0,none⟩)):=blk_cell hb1 11
 have HB1:=hid hb1
 have HK1:=hid hk1
 obtain ⟨t,ver,ht,hi,-⟩:=H.out.tab
 have ht1 : Ss.STab w1 c.tb t ver:=ht.keeps hk1 (fun e => H.out.ne e.symm) (fun b cs hx e => by
  have e : b = sb:=e
  subst e
  exact blk_ne_type hx H.out.blk (by decide) rfl)
 have HT1:=hid ht1
 have HI:=hid hi
 clear hb1 hk1 ht ht1 hi
 go_wp2_with (fail)
 refine (Ss.t_snapshot w1 c.tb t ver HT1.out).mono ?_
 rintro e w2 ⟨bb,rfl,hs2,hl2,hb2⟩
 have HS2:=hid hs2
 have HB2:=hid hb2
 have HL2:=hid hl2
 clear hs2 hb2 hl2
 go_wp2_with (fail)
 refine leaves_cons (f:=93) (args:=#[.pointer (some ⟨sb,5,none⟩)]) (by simp) (by simp [go_sem]) ?_
 have hb3 : StInR w2 sb c:=(HB2.out.block _ (lt_of_block HB1.out)).trans HB1.out
 refine (so_runlockD .returning hb3).mono ?_
 rintro e u' w5 ⟨rfl,rfl,hb5,hk5⟩
 refine ⟨_,results_tmp rfl _ _ _,bb,t,ver,rfl,HS2.out.keeps hk5 (fun (e : bb = sb) => by have:=HL2.out; have:=HK1.out.size; have:=H.out.lt.1; omega) (fun b cs hx e => ?_),HI.out,Nat.le_trans HK1.out.size HL2.out,?_⟩
 ·have e : b = sb:=e
  subst e
  exact blk_ne_type hx hb3 (by decide) rfl
 ·exact ((HK1.out.trans' ((Keeps.of_below HB2.out).mono fun _ _ e => e.elim)).trans' hk5).back H.out.blk hb5
theorem so_len (h : StB w sb c m n) :
 Calls Tryz.prog 31 #[.pointer (some ⟨sb,0,none⟩)] w fun e w' => e = .returned (.int .i64 (m.length : Int)) ∧ Below w.heap.size w w':=by
 have HS:=hid (so_snapshot h)
 clear h
 go_enter Tryz.func31,Tryz.ntmps31
 go_wp2_with (fail)
 refine HS.out.mono ?_
 rintro e w1 ⟨bb,t,ver,rfl,hs,hi,hl,hb⟩
 have HB:=hid hb
 have HI : Hid (t.size = m.length):=hid (by rw [← Tr.ino_length,hi])
 have HG:=hid (Ss.t_slen w1 bb t ver hs)
 clear hb hs hi hl
 go_wp2_with (fail)
 refine HG.out.mono ?_
 rintro e wx ⟨rfl,rfl⟩
 rw [HI.out]
 go_wp2_with (fail)
 go_ret
 exact ⟨rfl,HB.out⟩
theorem so_get (h : StB w sb c m n) (k : ByteArray) :
 Calls Tryz.prog 45 #[.pointer (some ⟨sb,0,none⟩),.string k] w fun e w' => e = .returned (Ss.getRes (findL slt m k)) ∧ Below w.heap.size w w':=by
 have HS:=hid (so_snapshot h)
 have HR:=hid h.rise
 clear h
 go_enter Tryz.func45,Tryz.ntmps45
 go_wp2_with (fail)
 refine HS.out.mono ?_
 rintro e w1 ⟨bb,t,ver,rfl,hs,hi,hl,hb⟩
 have HB:=hid hb
 have HI : Hid (t.get slt k = findL slt m k):=hid (by rw [get_ino slt_ord t (by rw [hi]; exact HR.out),hi])
 have HG:=hid (Ss.t_sget w1 bb t ver k hs)
 clear hb hs hi hl
 go_wp2_with (fail)
 refine HG.out.mono ?_
 rintro e wx ⟨rfl,rfl⟩
 rw [HI.out]
 simp only [Ss.getRes]
 go_wp2
 go_ret2
 exact ⟨rfl,HB.out⟩
end
end Go.Proofs.YtagdchgkjjpacaaGreat
