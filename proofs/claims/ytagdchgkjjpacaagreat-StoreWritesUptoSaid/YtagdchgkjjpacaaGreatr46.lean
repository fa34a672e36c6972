/- An open store on its disk: the calls of exlaw4's statements, nothing armed. -/
import Derived.Test.YtagdchgkjjpacaaGreatr41
import Derived.Test.YtagdchgkjjpacaaGreatr45
import Derived.Deep.CutBlock
import Derived.Deep.DeepCutAuto
set_option linter.unusedSimpArgs false
set_option linter.unusedVariables false
set_option linter.unusedSectionVars false
namespace Go.Proofs.YtagdchgkjjpacaaGreat
open Go.RowKit Go.Shelf
def batV (l : List Chg) : Nat:=3000 + batW l
theorem flat_weigh {l : List Chg} (h : chkB l = 0) : (l.flatMap chgB).length ≤ batV l:=by
 obtain ⟨h1,h2⟩:=chkB_ok h
 have h3 : ∀ l : List Chg,(∀ c ∈ l,1 ≤ c.key.size ∧ c.key.size ≤ 200 ∧ (c.drop = false → c.val.size ≤ 65536)) → (l.flatMap chgB).length ≤ 6 * l.length + batW l:=by
  intro l
  induction l with
  | nil => intro _; simp
  | cons c l ih =>
    intro hl
    have h1:=hl c (by simp)
    have h2:=ih fun c hc => hl c (by simp [hc])
    have h4 : batW (c :: l) = chgW c + batW l:=by simp [batW]
    have h5 : chgW c = min c.key.size 20000 + min c.val.size 80000:=rfl
    rw [List.flatMap_cons,List.length_append,chgB_len,List.length_cons,h4,h5]
    split
    ·omega
    ·rename_i hd
     have:=h1.2.2 (by simpa using hd)
     omega
 have:=h3 l h2
 unfold batV
 omega
theorem encB_zero {q : Nat} {l : List Chg} (h : (encB ((q : Int) + 1) l).2 = 0) : chkB l = 0 ∧ (batB (q + 1) l).length ≤ 1048576:=by
 rw [encB_seq] at h
 by_cases hc : chkB l = 0
 ·rw [if_neg (by simp [hc])] at h
  by_cases hl : 1048576 < (batB (q + 1) l).length
  ·rw [if_pos hl] at h; cases h
  ·exact ⟨hc,by omega⟩
 ·rw [if_pos hc] at h
  exact absurd h hc
structure Sto (w0 w : World) (fb : Nat) (dir : ByteArray) (size : Int) (n c V : Nat) (F : FsS) (S : Nat → Prop) (lb sb tb : Nat) (s : StS) : Prop where
 db : Db w0 w fb F (1600 * c) S lb sb tb s (600000000 + 500 * c)
 on : On F s size n
 dir : s.dir = dir
 few : F.files.length ≤ 4 * n + 2
 used : F.used ≤ 810000 * (n : Int)
 wt : wgt s.all ≤ V
def StoU (S : Nat → Prop) (lb sb tb : Nat) (i : Nat) : Prop:=S i ∨ i = lb ∨ i = sb ∨ i = tb
section
variable {w0 w w' : World} {fb n c V lb sb tb k N : Nat} {dir : ByteArray} {size : Int} {F G : FsS} {S : Nat → Prop} {s : StS} {l : List Chg}
theorem Db.notU (h : Db w0 w fb F k S lb sb tb s N) {b : Nat} {cs : Array Value} {T : TypeId} (hb : IsBlk w b cs T) (h1 : T ≠ 102) (h2 : T ≠ 107) (h3 : T ≠ 5) (h4 : T ≠ 165) (h5 : T ≠ 126) (h6 : T ≠ 160) : ¬ StoU S lb sb tb b:=by
 obtain ⟨t,ver,⟨root,ht,_⟩,_⟩:=h.st.tab
 rintro (e | e | e | e)
 ·exact h.pure.not hb h1 h2 h3 e
 ·exact blk_ne_type hb h.lg.log.blk h4 e
 ·exact blk_ne_type hb h.st.blk h5 e
 ·exact blk_ne_type hb ht h6 e
theorem Db.lowU (h : Db w0 w fb F k S lb sb tb s N) {b : Nat} (hb : b < w0.heap.size) : ¬ StoU S lb sb tb b:=by
 rintro (e | e | e | e)
 ·have:=h.lg.hd.low _ e; omega
 ·have:=h.lg.log.low; omega
 ·have:=h.low.1; omega
 ·have:=h.low.2; omega
theorem Sto.below (h : Sto w0 w fb dir size n c V F S lb sb tb s) (hb : Below w.heap.size w w') : Sto w0 w' fb dir size n c V F S lb sb tb s:=⟨h.db.below hb,h.on,h.dir,h.few,h.used,h.wt⟩
theorem Sto.more (h : Sto w0 w fb dir size n c V F S lb sb tb s) {n' c' V' : Nat} (hn : n ≤ n') (hc : c ≤ c') (hV : V ≤ V') (h9 : n' ≤ 900) : Sto w0 w fb dir size n' c' V' F S lb sb tb s :=
 ⟨h.db.more (by omega) (by omega),h.on.mono hn h9,h.dir,by have:=h.few; omega,by have:=h.used; omega,Nat.le_trans h.wt hV⟩
theorem Db.args (h : Db w0 w fb F k S lb sb tb s N) {a : Option Addr} {cap : Nat} (hr : RdAt chgKind w0 (.slice a l.length cap) l) (hl : l ≠ []) : ∀ g,(Value.slice a l.length cap).ownBlock = some g → ¬ S g ∧ g ≠ lb ∧ g ≠ sb ∧ g ≠ tb:=fun g hg => by
 obtain ⟨off,x,hx⟩:=hr.first hl hg
 have h0 : ∃ u,w0.cell? ⟨g,off,none⟩ = some u:=by
  rw [hx,List.getElem?_eq_getElem (by rw [chgKind.len]; exact chgKind.pos)]; exact ⟨_,rfl⟩
 obtain ⟨u,hu⟩:=h0
 have h2:=h.lowU (World.block_lt_of_cell? w0 _ hu)
 exact ⟨fun e => h2 (.inl e),fun e => h2 (.inr (.inl e)),fun e => h2 (.inr (.inr (.inl e))),fun e => h2 (.inr (.inr (.inr e)))⟩
theorem Sto.wrote (h : Sto w0 w fb dir size n c V F S lb sb tb s) (hn : n + 1 ≤ 900) (hB : batW l ≤ 80000) {R : StS × FsS × Int} (o : WrOut F s size n l R) (hp : WrsPost w0 w fb S (1600 * (c + 1)) (600000000 + 500 * (c + 1)) lb sb tb R.1 R.2.1 w') (h5 : R.2.2 ≠ 5) :
 (∃ S',Sto w0 w' fb dir size (n + 1) (c + 1) (V + batV l) R.2.1 S' lb sb tb R.1 ∧ ∀ i,S' i → S i ∨ w.heap.size ≤ i) ∧ (F.armed = 0 → R.2.1.armed = 0) ∧ R.2.1.room = F.room ∧
   ((R.2.2 = ((encB ((s.seq : Int) + 1) l).2 : Int) ∧ R.2.2 ≠ 0 ∧ R.1.all = s.all ∧ R.1.seq = s.seq) ∨
     (R.2.2 = 0 ∧ (encB ((s.seq : Int) + 1) l).2 = 0 ∧ R.1.all = applyB s.all l ∧ R.1.seq = if l = [] then s.seq else s.seq + 1) ∨
     (R.2.2 = 4 ∧ (encB ((s.seq : Int) + 1) l).2 = 0 ∧ R.1.all = s.all ∧ R.1.seq = s.seq ∧ F.room - F.used < ((18 + batV l : Nat) : Int))):=by
 obtain ⟨T,h1,h2⟩:=hp.ex
 have hfew:=h.few
 have hused:=h.used
 have hwt:=h.wt
 have hbv : batV l = 3000 + batW l:=rfl
 rcases o with ⟨e,he,h5',henc,rfl⟩ | ⟨henc,hl,rfl⟩ | ⟨henc,hl,hR,on,ha,hq,hd,st⟩ | ⟨henc,hl,hR,on,ha,hq,hd,hf,st⟩ | ⟨henc,hl,hR,hd,arm,disk,few,rise⟩
 ·refine ⟨⟨T,⟨h1,h.on.mono (Nat.le_succ n) hn,h.dir,by show F.files.length ≤ _; omega,by show F.used ≤ _; omega,by show wgt s.all ≤ _; omega⟩,h2⟩,fun e => e,rfl,.inl ⟨by rw [henc],by show (e : Int) ≠ 0; omega,rfl,rfl⟩⟩
 ·refine ⟨⟨T,⟨h1,h.on.mono (Nat.le_succ n) hn,h.dir,by show F.files.length ≤ _; omega,by show F.used ≤ _; omega,by show wgt s.all ≤ _; omega⟩,h2⟩,fun e => e,rfl,.inr (.inl ⟨rfl,henc,by rw [hl]; rfl,by rw [if_pos hl]⟩)⟩
 ·have hz:=encB_zero henc
  have hw:=flat_weigh hz.1
  have hfl:=applyB_fit l s.all
  have hbl:=batB_len (s.seq + 1) l
  have hsf:=st.few
  have hsu:=st.used
  refine ⟨⟨T,⟨h1,on,by rw [hd.1]; exact h.dir,by omega,by omega,by rw [ha]; omega⟩,h2⟩,fun e => (st.calm e).1,st.room,.inr (.inl ⟨hR,henc,ha,by rw [if_neg hl]; exact hq⟩)⟩
 ·have hz:=encB_zero henc
  have hw:=flat_weigh hz.1
  have hbl:=batB_len (s.seq + 1) l
  have hsf:=st.few
  have hsu:=st.used
  refine ⟨⟨T,⟨h1,on,by rw [hd.1]; exact h.dir,by omega,by omega,by rw [ha]; omega⟩,h2⟩,fun e => (st.calm e).1,st.room,.inr (.inr ⟨hR,henc,ha,hq,by omega⟩)⟩
 ·exact absurd hR h5
theorem Sto.write (h : Sto w0 w fb dir size n c V F S lb sb tb s) (hdir : DirS dir) (hn : n ≤ 90) (hc : c ≤ 400) {a : Option Addr} {cap : Nat} (hr : RdAt chgKind w0 (.slice a l.length cap) l) (hl : l.length ≤ 1048576) :
 Calls Tryz.prog 25 #[.pointer (some ⟨sb,0,none⟩),.slice a l.length cap] w fun e w' => e = .returned (.int .i64 (writeS s F l).2.2) ∧ WrOut F s size n l (writeS s F l) ∧ WrsPost w0 w fb S (1600 * (c + 1)) (600000000 + 500 * (c + 1)) lb sb tb (writeS s F l).1 (writeS s F l).2.1 w':=by
 have ho:=swrite_out h.on (by omega) (by have:=h.few; omega) l
 have hds : s.dir.size ≤ 70:=by rw [h.dir]; exact hdir.small
 refine (st_write h.db (by omega) ?_ (by have:=h.on.nl; omega) (by have:=h.on.nq; omega) (by omega) (hr.below h.db.lg.hd.below) (fun hne => h.db.args hr hne) (by omega)).mono fun e w' ⟨he,hp⟩ => ⟨he,ho,?_⟩
 ·rw [h.on.ldir,nm_size]
  have : sLog.size = 3:=rfl
  omega
 ·obtain ⟨T,h1,h2⟩:=hp.ex
  exact ⟨⟨T,h1.more (by omega) (by omega),h2⟩,hp.keeps⟩
theorem Sto.ckpt (h : Sto w0 w fb dir size n c V F S lb sb tb s) (hn : n + 1 ≤ 900) (hV : V ≤ 200000) {R : StS × FsS × Int} (o : ChkOut F s size n R) (hp : WrsPost w0 w fb S (1600 * (c + 1)) (600000000 + 500 * (c + 1)) lb sb tb R.1 R.2.1 w') (h5 : R.2.1.down = false) :
 (∃ S',Sto w0 w' fb dir size (n + 1) (c + 1) V R.2.1 S' lb sb tb R.1 ∧ ∀ i,S' i → S i ∨ w.heap.size ≤ i) ∧ (F.armed = 0 → R.2.1.armed = 0) ∧ R.2.1.room = F.room ∧ R.1.all = s.all ∧ R.1.seq = s.seq ∧
   ((R.2.2 = 0 ∧ R.1.base ≠ 0 ∧ LogOn R.2.1 R.1.log [[]]) ∨ (R.2.2 = 4 ∧ F.room - F.used < 810000)):=by
 obtain ⟨T,h1,h2⟩:=hp.ex
 have hfew:=h.few
 have hused:=h.used
 have hwt:=h.wt
 have him:=img_len s.seq h.on.fit.ok
 rcases o with ⟨hR,on,ha,hq,hd,hb,lg,st⟩ | ⟨hR,on,ha,hq,hd,hf,st⟩ | ⟨hR,hd,arm,disk,few⟩
 ·have hsf:=st.few
  have hsu:=st.used
  exact ⟨⟨T,⟨h1,on,by rw [hd]; exact h.dir,by omega,by omega,by rw [ha]; exact hwt⟩,h2⟩,fun e => (st.calm e).1,st.room,ha,hq,.inl ⟨hR,by omega,lg⟩⟩
 ·have hsf:=st.few
  have hsu:=st.used
  exact ⟨⟨T,⟨h1,on,by rw [hd]; exact h.dir,by omega,by omega,by rw [ha]; exact hwt⟩,h2⟩,fun e => (st.calm e).1,st.room,ha,hq,.inr ⟨hR,by omega⟩⟩
 ·rw [hd] at h5; cases h5
theorem Sto.chk (h : Sto w0 w fb dir size n c V F S lb sb tb s) (hdir : DirS dir) (hn : n ≤ 90) (hc : c ≤ 400) (hV : V ≤ 200000) :
 Calls Tryz.prog 26 #[.pointer (some ⟨sb,0,none⟩)] w fun e w' => e = .returned (.int .i64 (chkS s F).2.2) ∧ ChkOut F s size n (chkS s F) ∧ WrsPost w0 w fb S (1600 * (c + 1)) (600000000 + 500 * (c + 1)) lb sb tb (chkS s F).1 (chkS s F).2.1 w':=by
 have ho:=chk_out h.on (by rw [h.dir]; exact hdir) (by omega) (by have:=h.few; omega)
 have hds : s.dir.size ≤ 70:=by rw [h.dir]; exact hdir.small
 have hls : s.log.dir.size ≤ 1000:=by
  rw [h.on.ldir,nm_size]
  have : sLog.size = 3:=rfl
  omega
 have him:=img_len s.seq h.on.fit.ok
 have hwt:=h.wt
 refine (st_checkpoint h.db (by omega) (by omega) hls (by have:=h.on.nl; omega) (by have:=h.on.nq; omega) (by omega) h.on.fit.ok (by omega) (by rw [h.on.top]; have:=h.on.nb; omega)).mono fun e w' ⟨he,hp⟩ => ⟨he,ho,?_⟩
 obtain ⟨T,h1,h2⟩:=hp.ex
 exact ⟨⟨T,h1.more (by omega) (by omega),h2⟩,hp.keeps⟩
theorem disk_last {q : Nat} {m : Prs} (h : Disk F dir n q m) (hdir : DirS dir) (h16 : 16 ≤ size) (h20 : size ≤ 1048576) (hd : F.down = false) (h0 : (openL F (nmOf dir sLog) size).2.2.2 = 0) : (openL F (nmOf dir sLog) size).2.1.last ≤ 1000:=by
 obtain ⟨b,f,q0,m0,first,old,cur,cc,t,sy,ro,rc,a,ma,d⟩:=h
 have ho:=d.log (size:=size) (hdir.seg 1) h16 h20 hd
 have hl:=d.nl
 have hn:=d.n1
 rcases ho.out with ⟨cut,e,_⟩ | ⟨e,_⟩
 ·rw [e]
  show first + (old ++ cur).length ≤ 1000
  omega
 ·rw [e] at h0
  cases h0
theorem open_disk {q : Nat} {m : Prs} (h : Hd w0 w fb F (1600 * c) S) (hD : Disk F dir n q m) (hdir : DirS dir) (h16 : 16 ≤ size) (h20 : size ≤ 1048576) (hd : F.down = false) (hc : c ≤ 400) :
 Calls Tryz.prog 24 #[.pointer (some ⟨fb,0,none⟩),.string dir,.agg #[.int .i64 size]] w fun e w' => OpenOut F dir size n q m (openS F dir size) ∧ OpnPost w0 w fb (PS S w) (1600 * (c + 1)) (openS F dir size) e w':=by
 have ho:=sopen_out (size:=size) hD hdir h16 h20 hd
 refine (st_open2 h.ps (PS.pure _ _) (by omega) dir (by have:=hdir.small; omega) size (fun h0 => disk_last hD hdir h16 h20 hd h0)).mono fun e w' hp => ⟨ho,?_⟩
 refine ⟨hp.1,?_⟩
 rcases hp.2 with ⟨s,lb,sb,tb,T,e1,e2,e3,hdb,hT⟩ | ⟨e1,e2,e3,T,e4,e5,e6⟩
 ·exact .inl ⟨s,lb,sb,tb,T,e1,e2,e3,hdb.more (by omega) (Nat.le_refl _),hT⟩
 ·exact .inr ⟨e1,e2,e3,T,e4,⟨e5.fs,e5.low,e5.below,e5.ok.mono (by omega)⟩,e6⟩
theorem open_calm {q : Nat} {m : Prs} (h : Hd w0 w fb F (1600 * c) S) (hD : Disk F dir n q m) (hdir : DirS dir) (h16 : 16 ≤ size) (h20 : size ≤ 1048576) (hd : F.down = false) (hc : c ≤ 400) (ha : F.armed = 0) (hf : F.files.length ≤ 4 * n + 2) (hu : F.used ≤ 810000 * (n : Int)) (hw : wgt m ≤ V) :
 Calls Tryz.prog 24 #[.pointer (some ⟨fb,0,none⟩),.string dir,.agg #[.int .i64 size]] w fun e w' => ∃ G T lb sb tb s,e = .returned (.tuple #[.pointer (some ⟨sb,0,none⟩),.int .i64 0]) ∧ Sto w0 w' fb dir size n (c + 1) V G T lb sb tb s ∧ s.all = m ∧ s.seq = q ∧ G.armed = 0 ∧ G.room = F.room ∧ Keeps (PS S w) w w' ∧ ((∀ i,T i → S i ∨ w.heap.size ≤ i) ∧ w.heap.size ≤ lb ∧ w.heap.size ≤ sb ∧ w.heap.size ≤ tb) ∧ Step (inDir dir) 0 0 F G:=by
 refine (open_disk h hD hdir h16 h20 hd hc).mono fun e w' ⟨ho,hk,hp⟩ => ?_
 obtain ⟨st,o⟩:=ho
 rcases hp with ⟨s,lb,sb,tb,T,e1,e2,e3,hdb,hT,h1,h2,h3⟩ | ⟨e1,e2,_⟩
 ·rcases o with ⟨s2,k1,k2,k3,k4,k5,k6⟩ | ⟨k1,_⟩
  ·rw [e1] at k1
   obtain rfl : s = s2:=Option.some.inj k1
   have hsf:=st.few
   have hsu:=st.used
   refine ⟨_,T,lb,sb,tb,s,e3,⟨hdb.more (Nat.le_refl _) (by omega),k6,k3,by omega,by omega,by rw [k5]; exact hw⟩,k5,k4,(st.calm ha).1,st.room,hk,⟨fun i hi => ?_,h1,h2,h3⟩,st⟩
   rcases hT i hi with e | e
   ·exact .inl e.1
   ·exact .inr e
  ·rw [e1] at k1; cases k1
 ·rcases o with ⟨s2,k1,_⟩ | ⟨_,_,_,k,_⟩
  ·rw [e1] at k1; cases k1
  ·exact absurd ha k
theorem open_fresh (h : Hd w0 w fb F (1600 * c) S) (hcc : c ≤ 400) (hno : ∀ k x,F.find k = some x → ¬ inDir dir k) (hdir : DirS dir) (h16 : 16 ≤ size) (h20 : size ≤ 1048576) (hd : F.down = false) (ha : F.armed = 0) (hf : F.files.length ≤ 5) (hu : F.used ≤ 810000) :
 Calls Tryz.prog 24 #[.pointer (some ⟨fb,0,none⟩),.string dir,.agg #[.int .i64 size]] w fun e w' => ∃ G T lb sb tb s,e = .returned (.tuple #[.pointer (some ⟨sb,0,none⟩),.int .i64 0]) ∧ Sto w0 w' fb dir size 1 (c + 1) 0 G T lb sb tb s ∧ s.all = [] ∧ s.seq = 0 ∧ G.armed = 0 ∧ G.room = F.room ∧ Keeps (PS S w) w w' ∧ ((∀ i,T i → S i ∨ w.heap.size ≤ i) ∧ w.heap.size ≤ lb ∧ w.heap.size ≤ sb ∧ w.heap.size ≤ tb) ∧ G.used = F.used ∧ G.files = putL slt F.files (segName (nmOf dir sLog) 1) (fl []):=by
 obtain ⟨G,s,hO,hon,h1,h2,h3,h4,h5,h6,h7⟩:=sopen_fresh (size:=size) (n:=1) h.ok.rise hno hdir h16 h20 hd ha (by omega) (by omega) (by omega)
 have hsg : Segs F (nmOf dir sLog) 1 []:=⟨h.ok.rise,Nat.le_refl _,by simp,fun i d hi => by simp at hi,fun k x hx hk => absurd (inDir_seg dir hk) (hno k x hx)⟩
 obtain ⟨G2,e1,_⟩:=open_none hsg hdir.log h16 h20 hd ha (by omega)
 have hfl : G.files.length ≤ F.files.length + 1:=by rw [h7]; exact put_len_le h.ok.rise _ _
 refine (st_open2 h.ps (PS.pure _ _) (by omega) dir (by have:=hdir.small; omega) size (fun _ => by rw [e1]; show (1 : Nat) ≤ 1000; decide)).mono fun e w' hp => ?_
 rw [hO] at hp
 rcases hp with ⟨hkp,⟨s2,lb,sb,tb,T,k1,k2,k3,hdb,hT,k4,k5,k6⟩ | ⟨k1,_⟩⟩
 ·obtain rfl : s = s2:=Option.some.inj k1
  refine ⟨G,T,lb,sb,tb,s,k3,⟨hdb.more (by omega) (by omega),hon,h1,by omega,by rw [h6]; omega,by rw [h3]; exact Nat.le_refl _⟩,h3,h2,h4,h5,hkp,⟨fun i hi => ?_,k4,k5,k6⟩,h6,h7⟩
  rcases hT i hi with e | e
  ·exact .inl e.1
  ·exact .inr e
 ·cases k1
theorem StB.keepsOther {N : Nat} {cc : StC} {m : Prs} {U : Nat → Prop} (h : StB w sb cc m N) (hk : Keeps U w w') (h1 : ¬ U sb) (h2 : ¬ U cc.tb) (h3 : ∀ b cs,IsBlk w b cs 188 → ¬ U b) : StB w' sb cc m N:=by
 obtain ⟨t,ver,ht,k2,k3⟩:=h.tab
 obtain ⟨root,hb,htr⟩:=ht
 exact ⟨hk.obj h.blk h1,⟨t,ver,Ss.STab.keeps ⟨root,hb,htr⟩ hk h2 (fun b cs hbk e => h3 b cs hbk e),k2,k3⟩,h.rise,h.len⟩
theorem Sto.moved (h : Sto w0 w fb dir size n c V F S lb sb tb s) {U : Nat → Prop} {n' c' : Nat} {G : FsS} {T : Nat → Prop} (hk : Keeps U w w') (h1 : ¬ U lb) (h2 : ¬ U sb) (h3 : ¬ U tb) (h4 : ∀ b cs,IsBlk w b cs 188 → ¬ U b) (hd : Hd w0 w' fb G (1600 * c') T) (hp : PureS T w') (hT : ∀ i,T i → S i ∨ w.heap.size ≤ i)
 (hup : G.down = false) (ho : ∀ m,inDir dir m → G.find m = F.find m) (hf : G.files.length ≤ 4 * n' + 2) (hu : G.used ≤ 810000 * (n' : Int)) (hn : n ≤ n') (hc : c ≤ c') (h9 : n' ≤ 900) : Sto w0 w' fb dir size n' c' V G T lb sb tb s:=by
 have ha:=h.db.apart
 refine ⟨⟨⟨hd,⟨hk.obj h.db.lg.log.blk h1,fun e => ?_,h.db.lg.log.low⟩⟩,hp,(h.db.st.keepsOther hk h2 h3 h4).mono (by omega),h.db.low⟩,(h.on.ext hd.ok.rise hup (by rw [h.dir]; exact ho)).mono hn h9,h.dir,hf,hu,h.wt⟩
 rcases hT _ e with e | e
 ·exact h.db.lg.log.out e
 ·omega
end
abbrev nmDb : ByteArray:=⟨#[100,98]⟩
theorem dirS_db : DirS nmDb:=⟨by decide,by decide,by decide,by decide⟩
def batsV (ls : List (List Chg)) (i : Nat) : Nat:=((ls.take i).map batV).sum
theorem batsV_zero (ls : List (List Chg)) : batsV ls 0 = 0:=by simp [batsV]
theorem batsV_next {ls : List (List Chg)} {i : Nat} {l : List Chg} (h : ls[i]? = some l) : batsV ls (i + 1) = batsV ls i + batV l:=sum_take batV ls h
theorem sumV : ∀ ls : List (List Chg),(ls.map batV).sum = 3000 * ls.length + batsW ls
 | [] => by simp [batsW]
 | l :: ls => by
   have h:=sumV ls
   have h2 : batsW (l :: ls) = batW l + batsW ls:=by simp [batsW]
   rw [List.map_cons,List.sum_cons,h,h2,List.length_cons]
   unfold batV
   omega
theorem batsW_take : ∀ (ls : List (List Chg)) (i : Nat),batsW (ls.take i) ≤ batsW ls
 | [],i => by simp
 | l :: ls,0 => by simp [batsW]
 | l :: ls,i + 1 => by
   have h:=batsW_take ls i
   have h2 : batsW (l :: ls) = batW l + batsW ls:=by simp [batsW]
   have h3 : batsW (l :: ls.take i) = batW l + batsW (ls.take i):=by simp [batsW]
   rw [List.take_succ_cons,h2,h3]
   omega
theorem FewB.small {ls : List (List Chg)} (h : FewB ls) (i : Nat) : batsV ls i ≤ 200000:=by
 unfold batsV
 rw [sumV]
 have h1:=batsW_take ls i
 have h2:=h.sum
 have h3:=h.len
 have h4 : (ls.take i).length ≤ ls.length:=by rw [List.length_take]; omega
 omega
theorem FewB.bat {ls : List (List Chg)} (h : FewB ls) {i : Nat} {l : List Chg} (hl : ls[i]? = some l) : batW l ≤ 80000:=by
 have h1:=sum_take batW ls hl
 have h2:=batsW_take ls (i + 1)
 have h3:=h.sum
 have h4 : batsW (ls.take (i + 1)) = batsW (ls.take i) + batW l:=h1
 omega
theorem WrOut.calm {F : FsS} {s : StS} {size : Int} {n : Nat} {l : List Chg} {R : StS × FsS × Int} (h : WrOut F s size n l R) (ha : F.armed = 0) : R.2.2 ≠ 5:=by
 rcases h with ⟨e,he,h5',henc,rfl⟩ | ⟨henc,hl,rfl⟩ | ⟨henc,hl,hR,_⟩ | ⟨henc,hl,hR,_⟩ | ⟨henc,hl,hR,hd,arm,_⟩
 ·show (e : Int) ≠ 5; omega
 ·show (0 : Int) ≠ 5; decide
 ·omega
 ·omega
 ·exact absurd ha arm
theorem ChkOut.calm {F : FsS} {s : StS} {size : Int} {n : Nat} {R : StS × FsS × Int} (h : ChkOut F s size n R) (ha : F.armed = 0) : R.2.1.down = false:=by
 rcases h with ⟨hR,on,_⟩ | ⟨hR,on,_⟩ | ⟨_,_,arm,_⟩
 ·exact on.up
 ·exact on.up
 ·exact absurd ha arm
theorem crashFile_len (kf : ByteArray → Int → Int) (n : ByteArray) (x : FileS) : (crashFile kf n x).data.length ≤ x.data.length:=by
 unfold crashFile
 split
 ·simp only [List.length_take]; omega
 ·simp only [List.length_take]; omega
theorem crash_used (F : FsS) {k : Nat} (h : FsOk F k) (kf : ByteArray → Int → Int) : (F.crash kf).used ≤ F.used:=by
 have h1:=(h.crash kf).used
 rw [h1,h.used,crash_files (F:=F) kf]
 have h2 : ∀ l : List (ByteArray × FileS),sumLen (l.map fun x => (x.1,crashFile kf x.1 x.2)) ≤ sumLen l:=by
  intro l
  induction l with
  | nil => exact Int.le_refl _
  | cons x l ih =>
    rw [List.map_cons,sumLen_cons,sumLen_cons]
    have:=crashFile_len kf x.1 x.2
    simp only at this ⊢
    omega
 exact h2 _
end Go.Proofs.YtagdchgkjjpacaaGreat
