/- The log in memory; the walk of does. -/
import Derived.Test.YtagdchgkjjpacaaGreatr19
set_option maxRecDepth 100000
open Go.Lib (hid)
namespace Go.Proofs.YtagdchgkjjpacaaGreat
open Go.RowKit Go.Shelf
structure LogS where
 dir : ByteArray
 size : Int
 first : Nat
 last : Nat
 cut : Nat
 stuck : Bool
abbrev logCells (fb : Nat) (L : LogS) : Array Value:=#[.pointer (some ⟨fb,0,none⟩),.string L.dir,.int .i64 L.size,.int .i64 (L.first : Int),.int .i64 (L.last : Int),.int .i64 (L.cut : Int),.bool L.stuck]
structure LogAt (B : Nat) (S : Nat → Prop) (w : World) (lb fb : Nat) (L : LogS) : Prop where
 blk : IsBlk w lb (logCells fb L) 165
 out : ¬ S lb
 low : B ≤ lb
theorem LogAt.post {B : Nat} {S : Nat → Prop} {w w' : World} {lb fb : Nat} {L : LogS} (h : LogAt B S w lb fb L) (k : Keeps S w w') : LogAt B (New w w' S) w' lb fb L :=
 ⟨k.obj h.blk h.out,fun e => by
  rcases e with e | e
  ·exact h.out e
  ·have:=lt_of_block h.blk; omega,h.low⟩
theorem LogAt.below {B : Nat} {S : Nat → Prop} {w w' : World} {lb fb : Nat} {L : LogS} (h : LogAt B S w lb fb L) (k : Below w.heap.size w w') : LogAt B S w' lb fb L :=
 ⟨(k.block _ (lt_of_block h.blk)).trans h.blk,h.out,h.low⟩
structure FnV where
 g : Nat
 lb : Array Value
abbrev FnV.val (f : FnV) : Value:=.func (.func f.g) #[] f.lb
def DoesPost (lb : Nat) (n : Nat) (P : Nat → World → Prop) (Q : Int → Bool → World → Prop) (e : Ending) (w' : World) : Prop :=
 (e = .returned (.int .i64 0) ∧ P n w') ∨ ∃ (r : Int) (sb : Bool) (W : World),e = .returned (.int .i64 r) ∧ r ≠ 0 ∧ Q r sb W ∧ w' = W.setCell ⟨lb,6,none⟩ (.bool (sb || r == 5))
def DoPost (lb : Nat) (j : Nat) (P : Nat → World → Prop) (Q : Int → Bool → World → Prop) (e : Ending) (w' : World) : Prop :=
 (e = .returned (.int .i64 0) ∧ P (j + 1) w') ∨ ∃ (r : Int) (sb : Bool),e = .returned (.int .i64 r) ∧ r ≠ 0 ∧ Q r sb w' ∧ w'.cell? ⟨lb,6,none⟩ = some (.bool sb) ∧ w'.frozen? ⟨lb,6,none⟩ = false
set_option maxHeartbeats 1000000 in
theorem w_does {w : World} (ab lb : Nat) (fs : List FnV) (hn : fs.length ≤ 10) (P : Nat → World → Prop) (Q : Int → Bool → World → Prop) (h0 : P 0 w) (hcell : ∀ j W f,P j W → fs[j]? = some f → W.cell? ⟨ab,j,none⟩ = some f.val)
 (eg : ∀ f ∈ fs,∀ args w,(callFunc f.g args).run Tryz.prog w = .ok (.enter f.g args) w) (hcall : ∀ j W f,P j W → fs[j]? = some f → Calls Tryz.prog f.g f.lb W (DoPost lb j P Q)) :
 Calls Tryz.prog 110 #[.pointer (some ⟨lb,0,none⟩),.slice (some ⟨ab,0,none⟩) fs.length fs.length] w (DoesPost lb fs.length P Q):=by
 have H0:=hid h0
 have HC:=hid hcell
 have HE:=hid eg
 have HK:=hid hcall
 have hn2 : (fs.length : Int) ≤ 10:=by omega
 clear h0 hcell eg hcall hn
 go_enter Tryz.func110,Tryz.ntmps110
 go_wp2_with (fail)
 go_loopw [10] (fun i wr => ∃ j : Nat,j ≤ fs.length ∧ i = .int .i64 j ∧ Hid (P j wr)) (fun i _ => fs.length - (intOf i).toNat)
 case atStart => exact ⟨0,Nat.zero_le _,rfl,H0⟩
 case round =>
  obtain ⟨j,hj,rfl,HP⟩:=hrel
  by_cases hlt : j < fs.length
  ·obtain ⟨f,hf⟩ : ∃ f,fs[j]? = some f:=⟨_,List.getElem?_eq_getElem hlt⟩
   have hc:=HC.out j wr f HP.out hf
   have e:=HE.out f (List.mem_of_getElem? hf)
   have HD:=hid (HK.out j wr f HP.out hf)
   have hk0 : (0 : Int) ≤ (j : Int):=by omega
   have hk1 : (j : Int) < (fs.length : Int):=by omega
   clear hf
   go_wp2_with (fail)
   refine HD.out.mono ?_
   rintro e w' (⟨rfl,hp⟩ | ⟨r,sb,rfl,hr,hq,hc6,hz6⟩)
   ·have HP2:=hid hp
    clear hp hc
    go_wp2_with (fail)
    go_roundw
    case rel => exact ⟨j + 1,by omega,by go_num,HP2⟩
    case measure => simp [intOf]; omega
   ·have hr1 : (r != 0) = true:=by rw [bne_iff_ne]; exact hr
    have HQ:=hid hq
    have HR:=hid hr
    clear hq hc hr
    cases sb with
    | true =>
      go_wp2_with (fail)
      go_ret
      exact .inr ⟨r,true,w',rfl,HR.out,HQ.out,rfl⟩
    | false =>
      cases h5 : (r == 5) with
      | true =>
        go_wp2_with (fail)
        go_ret
        exact .inr ⟨r,false,w',rfl,HR.out,HQ.out,by rw [h5]; rfl⟩
      | false =>
        go_wp2_with (fail)
        go_ret
        exact .inr ⟨r,false,w',rfl,HR.out,HQ.out,by rw [h5]; rfl⟩
  ·have hk1 : ¬ ((j : Int) < (fs.length : Int)):=by omega
   obtain rfl : j = fs.length:=by omega
   go_wp2_with (fail)
   go_ret
   exact .inl ⟨rfl,HP.out⟩
structure Lg (w0 w : World) (fb : Nat) (F : FsS) (k : Nat) (S : Nat → Prop) (lb : Nat) (L : LogS) : Prop where
 hd : Hd w0 w fb F k S
 log : LogAt w0.heap.size S w lb fb L
section
variable {w0 w w' W W1 W2 : World} {fb k k' lb : Nat} {F G : FsS} {S : Nat → Prop} {L : LogS}
theorem Lg.below (h : Lg w0 w fb F k S lb L) (hb : Below w.heap.size w w') : Lg w0 w' fb F k S lb L:=⟨h.hd.read hb,h.log.below hb⟩
theorem Lg.lt (h : Lg w0 w fb F k S lb L) : lb < w.heap.size:=lt_of_block h.log.blk
theorem Lg.step (h : Lg w0 W fb F k S lb L) (hb : Below W.heap.size W W1) (hp : FsPost W1 fb G S W2) {k' : Nat} (ho : FsOk G k') : Lg w0 W2 fb G k' (New W W2 S) lb L ∧ Keeps S W W2:=by
 have hp2:=FsPost.trans_keeps hb h.hd.fs.lt hp
 exact ⟨⟨h.hd.post hp2 ho,h.log.post hp2.2⟩,hp2.2⟩
structure LgC (w : World) (fb lb : Nat) (L : LogS) : Prop where
 c0 : w.cell? ⟨lb,0,none⟩ = some (.pointer (some ⟨fb,0,none⟩))
 c1 : w.cell? ⟨lb,1,none⟩ = some (.string L.dir)
 c2 : w.cell? ⟨lb,2,none⟩ = some (.int .i64 L.size)
 c3 : w.cell? ⟨lb,3,none⟩ = some (.int .i64 (L.first : Int))
 c4 : w.cell? ⟨lb,4,none⟩ = some (.int .i64 (L.last : Int))
 c5 : w.cell? ⟨lb,5,none⟩ = some (.int .i64 (L.cut : Int))
 c6 : w.cell? ⟨lb,6,none⟩ = some (.bool L.stuck)
theorem Lg.cells (h : Lg w0 w fb F k S lb L) : LgC w fb lb L:=⟨blk_cell h.log.blk 0,blk_cell h.log.blk 1,blk_cell h.log.blk 2,blk_cell h.log.blk 3,blk_cell h.log.blk 4,blk_cell h.log.blk 5,blk_cell h.log.blk 6⟩
theorem Lg.free (h : Lg w0 w fb F k S lb L) (i : Nat) : w.frozen? ⟨lb,i,none⟩ = false:=blk_free h.log.blk i
structure BoxAt (S : Nat → Prop) (w : World) (b : Nat) (v : Value) (T : TypeId) : Prop where
 blk : IsBlk w b #[v] T
 out : ¬ S b
theorem BoxAt.below {b : Nat} {v : Value} {T : TypeId} (h : BoxAt S w b v T) (hb : Below w.heap.size w w') : BoxAt S w' b v T:=⟨(hb.block _ (lt_of_block h.blk)).trans h.blk,h.out⟩
theorem BoxAt.keep {b : Nat} {v : Value} {T : TypeId} (h : BoxAt S w b v T) (hk : Keeps S w w') : IsBlk w' b #[v] T:=hk.obj h.blk h.out
theorem name_last (w : World) (L : LogS) (hd : L.dir.size ≤ 100000) (n : Nat) (hn : n < 100000000) (z : Int) (hz : z = (n : Int)) :
 Calls Tryz.prog 64 #[.string L.dir,.int .i64 z] w fun e w' => e = .returned (.string (segName L.dir n)) ∧ Below w.heap.size w w':=by
 subst hz; exact w_name w L.dir hd n hn
set_option maxHeartbeats 2000000 in
theorem q_rotate1 (h : Lg w0 W fb F k S lb L) (hk : k < 1000000) (hdir : L.dir.size ≤ 100000) (hlast : L.last < 99999999) {bl : Nat} (hb : BoxAt S W bl (.pointer (some ⟨lb,0,none⟩)) 112) :
 Calls Tryz.prog 137 #[.pointer (some ⟨bl,0,none⟩)] W fun e W' => e = .returned (.int .i64 (F.create (segName L.dir (L.last + 1))).2) ∧ Lg w0 W' fb (F.create (segName L.dir (L.last + 1))).1 (k + 1) (New W W' S) lb L ∧ Keeps S W W':=by
 have HNM : Hid (∀ W1,Below W.heap.size W W1 → Calls Tryz.prog 64 #[.string L.dir,.int .i64 ((L.last : Int) + 1)] W1 fun e w2 => e = .returned (.string (segName L.dir (L.last + 1))) ∧
     (w2.cell? ⟨bl,0,none⟩ = some (.pointer (some ⟨lb,0,none⟩)) ∧ w2.cell? ⟨lb,0,none⟩ = some (.pointer (some ⟨fb,0,none⟩)) ∧ w2.cell? ⟨lb,1,none⟩ = some (.string L.dir) ∧ w2.cell? ⟨lb,4,none⟩ = some (.int .i64 (L.last : Int))) ∧ Hid (Below W.heap.size W w2)):=hid fun W1 hW1 =>
   (name_last W1 L hdir (L.last + 1) (by omega) _ rfl).mono fun e w2 ⟨he,hb2⟩ => by
     have hb3 : Below W.heap.size W w2:=hW1.trans (hb2.mono hW1.size)
     have hc:=(h.below hb3).cells
     exact ⟨he,⟨blk_cell (hb.below hb3).blk 0,hc.c0,hc.c1,hc.c4⟩,hid hb3⟩
 have HCR : Hid (∀ W1,Below W.heap.size W W1 → Calls Tryz.prog 22 #[.pointer (some ⟨fb,0,none⟩),.string (segName L.dir (L.last + 1))] W1 fun e w2 => e = .returned (.int .i64 (F.create (segName L.dir (L.last + 1))).2) ∧
     (w2.cell? ⟨bl,0,none⟩ = some (.pointer (some ⟨lb,0,none⟩)) ∧ w2.cell? ⟨lb,0,none⟩ = some (.pointer (some ⟨fb,0,none⟩)) ∧ w2.cell? ⟨lb,1,none⟩ = some (.string L.dir) ∧ w2.cell? ⟨lb,4,none⟩ = some (.int .i64 (L.last : Int))) ∧
     Hid (Lg w0 w2 fb (F.create (segName L.dir (L.last + 1))).1 (k + 1) (New W w2 S) lb L ∧ Keeps S W w2)):=hid fun W1 hW1 => by
   obtain ⟨mb,rs,h1⟩:=h.hd.fs.below hW1
   refine (f_create h1 h.hd.ok hk _).mono fun e w2 ⟨he,hp⟩ => ?_
   have hs:=h.step hW1 hp (h.hd.ok.create _)
   have hc:=hs.1.cells
   exact ⟨he,⟨blk_cell (hb.keep hs.2) 0,hc.c0,hc.c1,hc.c4⟩,hid hs⟩
 have c:=h.cells
 have c0:=c.c0
 have c1:=c.c1
 have c4:=c.c4
 have cb : W.cell? ⟨bl,0,none⟩ = some (.pointer (some ⟨lb,0,none⟩)):=blk_cell hb.blk 0
 have hb0 : Below W.heap.size W W.drew:=(Below.refl _ _).drew
 have hl2 : (L.last : Int) < 99999999:=by omega
 have hl0 : (0 : Int) ≤ (L.last : Int):=by omega
 have hw1 : IntKind.i64.wrap ((L.last : Int) + 1) = (L.last : Int) + 1:=IntWalk.i64_in _ (by omega)
 clear h hb c hdir hlast
 go_enter Tryz.func137,Tryz.ntmps137
 go_wp2_with (fail)
 go_region_held3 (fun w' => w'.cell? ⟨bl,0,none⟩ = some (.pointer (some ⟨lb,0,none⟩)) ∧ w'.cell? ⟨lb,0,none⟩ = some (.pointer (some ⟨fb,0,none⟩)) ∧ w'.cell? ⟨lb,1,none⟩ = some (.string L.dir) ∧ w'.cell? ⟨lb,4,none⟩ = some (.int .i64 (L.last : Int)))
   (first
     | go_keep
     | exact s2
     | exact s1)
   (first
     | (go_at_call 64; (with_reducible refine (HNM.out _ ?_).mono ?_); exact hb0; rintro e w2 ⟨rfl,s1,HC⟩)
     | (go_at_call 22; (with_reducible refine (HCR.out _ HC.out).mono ?_); rintro e w2 ⟨rfl,s2,HD⟩))
 go_wp2_with (fail)
 go_ret
 exact ⟨rfl,HD.out.1,HD.out.2⟩
theorem Lg.setLog (h : Lg w0 w fb F k S lb L) {L' : LogS} (i : Nat) (u : Value) (hc : (logCells fb L).setIfInBounds i u = logCells fb L') : Lg w0 (w.setCell ⟨lb,i,none⟩ u) fb F k S lb L':=by
 have hk : Keeps (fun j => j = lb) w (w.setCell ⟨lb,i,none⟩ u):=(Keeps.refl (fun j => j = lb) w).setCell (p:=⟨lb,i,none⟩) (fun _ => rfl) _
 exact ⟨⟨h.hd.fs.keeps hk (fun j e hs => h.log.out (e ▸ hs)),h.hd.low,h.hd.below.setCell (p:=⟨lb,i,none⟩) h.log.low _,h.hd.ok⟩,⟨hc ▸ blk_set h.log.blk i u,h.log.out,h.log.low⟩⟩
theorem Lg.widen {a b : World} (h : Lg w0 W fb F k (New b W S) lb L) (hb : Below a.heap.size a b) (hlow : ∀ i,S i → w0.heap.size ≤ i) (h0 : w0.heap.size ≤ a.heap.size) (hlb : lb < a.heap.size) (hS : ¬ S lb) (hlt : ∀ i,S i → i < a.heap.size) (hz : b.heap.size ≤ W.heap.size) : Lg w0 W fb F k (New a W S) lb L:=by
 refine ⟨⟨h.hd.fs.mono (fun i e => ?_) (fun i e => ?_),fun i e => ?_,h.hd.below,h.hd.ok⟩,⟨h.log.blk,fun e => ?_,h.log.low⟩⟩
 ·rcases e with e | e
  ·exact .inl e
  ·exact .inr ⟨by have:=hb.size; omega,e.2⟩
 ·rcases e with e | e
  ·have:=hlt i e; have:=hb.size; omega
  ·exact e.2
 ·rcases e with e | e
  ·exact hlow i e
  ·omega
 ·rcases e with e | e
  ·exact hS e
  ·omega
structure LPost (w0 w : World) (fb : Nat) (S : Nat → Prop) (lb : Nat) (F' : FsS) (k' : Nat) (L' : LogS) (w' : World) : Prop where
 lg : Lg w0 w' fb F' k' (New w w' S) lb L'
 keeps : Keeps (fun i => S i ∨ i = lb) w w'
theorem Lg.same (h : Lg w0 w fb F k S lb L) (hb : Below w.heap.size w w') {k' : Nat} (hk : k ≤ k') : LPost w0 w fb S lb F k' L w':=by
 have h1:=h.below hb
 refine ⟨⟨⟨h1.hd.fs.mono (fun i e => .inl e) (new_lt h.hd.fs.lt hb.size),fun i e => ?_,h1.hd.below,h1.hd.ok.mono hk⟩,⟨h1.log.blk,fun e => ?_,h1.log.low⟩⟩,(Keeps.of_below hb).mono (fun _ _ e => e.elim)⟩
 ·rcases e with e | e
  ·exact h.hd.low i e
  ·have:=h.hd.below.size; omega
 ·rcases e with e | e
  ·exact h.log.out e
  ·have:=h.lt; omega
def LogS.after (L : LogS) (r : Int) : LogS:=if r = 0 then L else { L with stuck:=L.stuck || r == 5 }
theorem LPost.of_set (hW : Lg w0 W2 fb G k (New W W2 S) lb L) (hK : Keeps S W W2) (h : Lg w0 w fb F k' S lb L) (hb : Below w.heap.size w W) {r : Int} (hr : r ≠ 0) :
 LPost w0 w fb S lb G k (L.after r) (W2.setCell ⟨lb,6,none⟩ (.bool (L.stuck || r == 5))):=by
 have h1:=(hW.widen hb h.hd.low h.hd.below.size h.lt h.log.out h.hd.fs.lt hK.size).setLog (L':=L.after r) 6 (.bool (L.stuck || r == 5)) (by unfold LogS.after; rw [if_neg hr]; rfl)
 have e : New w W2 S = New w (W2.setCell ⟨lb,6,none⟩ (.bool (L.stuck || r == 5))) S:=by funext i; simp [New]
 rw [e] at h1
 refine ⟨h1,?_⟩
 exact ((((Keeps.of_below hb).mono (fun _ _ e => e.elim)).trans' (hK.mono (fun i _ e => .inl e))).trans' ((Keeps.refl (fun i => S i ∨ i = lb) W2).setCell (p:=⟨lb,6,none⟩) (fun _ => .inr rfl) _))
theorem LPost.of_ok (hW : Lg w0 W2 fb G k (New W W2 S) lb L) (hK : Keeps S W W2) (h : Lg w0 w fb F k' S lb L) (hb : Below w.heap.size w W) : LPost w0 w fb S lb G k L W2 :=
 ⟨hW.widen hb h.hd.low h.hd.below.size h.lt h.log.out h.hd.fs.lt hK.size,((Keeps.of_below hb).mono (fun _ _ e => e.elim)).trans' (hK.mono (fun _ _ e => .inl e))⟩
theorem LPost.setLog {L' L2 : LogS} (h : LPost w0 w fb S lb G k L' w') (i : Nat) (u : Value) (hc : (logCells fb L').setIfInBounds i u = logCells fb L2) : LPost w0 w fb S lb G k L2 (w'.setCell ⟨lb,i,none⟩ u):=by
 have h1:=h.lg.setLog (L':=L2) i u hc
 have e : New w w' S = New w (w'.setCell ⟨lb,i,none⟩ u) S:=by funext j; simp [New]
 rw [e] at h1
 exact ⟨h1,h.keeps.trans' ((Keeps.refl (fun i => S i ∨ i = lb) w').setCell (p:=⟨lb,i,none⟩) (fun _ => .inr rfl) _)⟩
theorem does_one (h : Lg w0 w fb F k S lb L) (hb : Below w.heap.size w W) {ab : Nat} {f : FnV} (hc : W.cell? ⟨ab,0,none⟩ = some f.val) (eg : ∀ args w,(callFunc f.g args).run Tryz.prog w = .ok (.enter f.g args) w) (res : FsS × Int)
 (hcall : Calls Tryz.prog f.g f.lb W fun e W' => e = .returned (.int .i64 res.2) ∧ Lg w0 W' fb res.1 (k + 1) (New W W' S) lb L ∧ Keeps S W W') :
 Calls Tryz.prog 110 #[.pointer (some ⟨lb,0,none⟩),.slice (some ⟨ab,0,none⟩) 1 1] W fun e w' => e = .returned (.int .i64 res.2) ∧ LPost w0 w fb S lb res.1 (k + 1) (L.after res.2) w' ∧ Keeps (fun i => S i ∨ i = lb) W w':=by
 refine (w_does ab lb [f] (by simp) (fun j W' => (j = 0 ∧ W' = W) ∨ (j = 1 ∧ res.2 = 0 ∧ Lg w0 W' fb res.1 (k + 1) (New W W' S) lb L ∧ Keeps S W W'))
   (fun r sb W' => r = res.2 ∧ sb = L.stuck ∧ Lg w0 W' fb res.1 (k + 1) (New W W' S) lb L ∧ Keeps S W W') (.inl ⟨rfl,rfl⟩) ?_ ?_ ?_).mono ?_
 ·rintro j W' g (⟨rfl,rfl⟩ | ⟨rfl,_⟩) hg
  ·simp only [List.getElem?_cons_zero,Option.some.injEq] at hg
   subst hg; exact hc
  ·simp at hg
 ·intro g hg
  simp only [List.mem_cons,List.not_mem_nil,or_false] at hg
  subst hg; exact eg
 ·rintro j W' g (⟨rfl,rfl⟩ | ⟨rfl,_⟩) hg
  ·simp only [List.getElem?_cons_zero,Option.some.injEq] at hg
   subst hg
   refine hcall.mono fun e W2 ⟨he,h1,h2⟩ => ?_
   by_cases hr : res.2 = 0
   ·exact .inl ⟨by rw [he,hr],.inr ⟨rfl,hr,h1,h2⟩⟩
   ·exact .inr ⟨res.2,L.stuck,he,hr,⟨rfl,rfl,h1,h2⟩,h1.cells.c6,h1.free 6⟩
  ·simp at hg
 ·rintro e w' (⟨rfl,hp⟩ | ⟨r,sb,W2,rfl,hr,⟨rfl,rfl,h1,h2⟩,rfl⟩)
  ·rcases hp with ⟨h0,_⟩ | ⟨_,h0,h1,h2⟩
   ·cases h0
   ·refine ⟨by rw [h0],?_,h2.mono (fun i _ e => .inl e)⟩
    have:=LPost.of_ok h1 h2 h hb
    unfold LogS.after
    rwa [if_pos h0]
  ·exact ⟨rfl,LPost.of_set h1 h2 h hb hr,(h2.mono (fun i _ e => .inl e)).trans' ((Keeps.refl (fun i => S i ∨ i = lb) W2).setCell (p:=⟨lb,6,none⟩) (fun _ => .inr rfl) _)⟩
def rotateL (L : LogS) (F : FsS) : LogS × FsS × Int :=
 if L.stuck = true then (L,F,25) else if 99999999 ≤ L.last then (L,F,6) else
  if (F.create (segName L.dir (L.last + 1))).2 = 0 then ({ L with last:=L.last + 1 },(F.create (segName L.dir (L.last + 1))).1,0)
  else ({ L with stuck:=L.stuck || (F.create (segName L.dir (L.last + 1))).2 == 5 },(F.create (segName L.dir (L.last + 1))).1,(F.create (segName L.dir (L.last + 1))).2)
set_option maxHeartbeats 2000000 in
theorem w_rotate (h : Lg w0 w fb F k S lb L) (hk : k < 1000000) (hdir : L.dir.size ≤ 100000) :
 Calls Tryz.prog 84 #[.pointer (some ⟨lb,0,none⟩)] w fun e w' => e = .returned (.int .i64 (rotateL L F).2.2) ∧ LPost w0 w fb S lb (rotateL L F).2.1 (k + 1) (rotateL L F).1 w':=by
 have eg:=enters_of Tryz.func137 (P:=Tryz.prog) (by kernel_rfl) rfl
 have H:=hid h
 have hlt:=h.lt
 have h1 : Lg w0 (w.alloc (.cells #[.pointer (some ⟨lb,0,none⟩)] 112)) fb F k S lb L:=h.below ((Below.refl _ _).alloc (Nat.le_refl _) _)
 have hb1 : Below w.heap.size w (w.alloc (.cells #[.pointer (some ⟨lb,0,none⟩)] 112)):=(Below.refl _ _).alloc (Nat.le_refl _) _
 have c4:=h1.cells.c4
 have c6:=h1.cells.c6
 cases hst : L.stuck with
 | true =>
   have hr : Hid (rotateL L F = (L,F,25)):=hid (by unfold rotateL; rw [if_pos hst])
   rw [hst] at c6
   have H1:=hid hb1
   clear h h1 hb1 hst
   go_enter Tryz.func84,Tryz.ntmps84
   go_wp2_with (fail)
   go_ret
   rw [hr.out]
   exact ⟨rfl,H.out.same H1.out (by omega)⟩
 | false =>
   rw [hst] at c6
   by_cases hmax : (99999999 : Int) ≤ (L.last : Int)
   ·have hr : Hid (rotateL L F = (L,F,6)):=hid (by unfold rotateL; rw [if_neg (by simp [hst]),if_pos (by omega)])
    have H1:=hid hb1
    clear h h1 hb1 hst
    go_enter Tryz.func84,Tryz.ntmps84
    go_wp2_with (fail)
    go_ret
    rw [hr.out]
    exact ⟨rfl,H.out.same H1.out (by omega)⟩
   ·have HST:=hid hst
    have HMX : Hid (L.last < 99999999):=hid (by omega)
    obtain ⟨cr,hcr⟩ : ∃ cr,cr = F.create (segName L.dir (L.last + 1)):=⟨_,rfl⟩
    have hr0 : Hid (rotateL L F = if cr.2 = 0 then ({ L with last:=L.last + 1 },cr.1,0) else ({ L with stuck:=L.stuck || cr.2 == 5 },cr.1,cr.2)):=hid (by unfold rotateL; rw [if_neg (by simp [hst]),if_neg (by omega),hcr])
    have HDO : Hid (Calls Tryz.prog 110 #[.pointer (some ⟨lb,0,none⟩),.slice (some ⟨w.heap.size + 1,0,none⟩) 1 1] ((w.alloc (.cells #[.pointer (some ⟨lb,0,none⟩)] 112)).alloc (.cells #[.func (.func 137) #[] #[.pointer (some ⟨w.heap.size,0,none⟩)]] 55))
        fun e w' => e = .returned (.int .i64 cr.2) ∧ LPost w0 w fb S lb cr.1 (k + 1) (L.after cr.2) w' ∧ w'.cell? ⟨w.heap.size,0,none⟩ = some (.pointer (some ⟨lb,0,none⟩))):=hid (by
      rw [hcr]
      obtain ⟨a1,a2,a3,a4⟩:=alloc2 w (.cells #[.pointer (some ⟨lb,0,none⟩)] 112) (.cells #[.func (.func 137) #[] #[.pointer (some ⟨w.heap.size,0,none⟩)]] 55)
      exact (does_one h a1 (f:=⟨137,#[.pointer (some ⟨w.heap.size,0,none⟩)]⟩) (blk_cell a3 0) eg (F.create (segName L.dir (L.last + 1))) (q_rotate1 (h.below a1) hk hdir HMX.out ⟨a2,fun e => by have:=h.hd.fs.lt _ e; omega⟩)).mono
        fun e w' ⟨he,h1,h2⟩ => ⟨he,h1,blk_cell (h2.obj a2 (fun e => by rcases e with e | e; have:=h.hd.fs.lt _ e; omega; omega)) 0⟩)
    clear h h1 hb1 hst hcr
    go_enter Tryz.func84,Tryz.ntmps84
    go_wp2_with (fail)
    refine HDO.out.mono ?_
    rintro e w' ⟨rfl,hp,hbx⟩
    by_cases hr : cr.2 = 0
    ·have hr1 : Hid (rotateL L F = ({ L with last:=L.last + 1 },cr.1,0)):=hid (by rw [hr0.out,if_pos hr])
     unfold LogS.after at hp
     rw [if_pos hr] at hp
     have d4:=hp.lg.cells.c4
     have z4:=hp.lg.free 4
     have hfin:=hp.setLog (L2:={ L with last:=L.last + 1 }) 4 (.int .i64 ((L.last : Int) + 1)) rfl
     have HF:=hid hfin
     have hw1 : wrap64 ((L.last : Int) + 1) = (L.last : Int) + 1:=IntWalk.wrap64_in _ (by have:=HMX.out; omega)
     rw [hr]
     clear hp hr hfin hmax
     go_wp2_with (fail)
     go_ret
     rw [hr1.out]
     exact ⟨rfl,HF.out⟩
    ·have hr2 : Hid (rotateL L F = ({ L with stuck:=L.stuck || cr.2 == 5 },cr.1,cr.2)):=hid (by rw [hr0.out,if_neg hr])
     unfold LogS.after at hp
     rw [if_neg hr] at hp
     have hr1 : (cr.2 == 0) = false:=beq_eq_false_iff_ne.2 hr
     have HF:=hid hp
     clear hp hr hmax
     go_wp2_with (fail)
     go_ret
     rw [hr2.out]
     exact ⟨rfl,HF.out⟩
end
section
variable {w0 w w' W W1 W2 W3 : World} {fb k k' lb : Nat} {F G : FsS} {S : Nat → Prop} {L : LogS}
theorem Lg.mono {T : Nat → Prop} (h : Lg w0 w fb F k S lb L) (hs : ∀ i,S i → T i) (hl : ∀ i,T i → i < w.heap.size) (hlow : ∀ i,T i → w0.heap.size ≤ i) (ho : ¬ T lb) : Lg w0 w fb F k T lb L :=
 ⟨⟨h.hd.fs.mono hs hl,hlow,h.hd.below,h.hd.ok⟩,⟨h.log.blk,ho,h.log.low⟩⟩
theorem Lg.flat {a b c : World} (h : Lg w0 c fb F k (New b c (New a b S)) lb L) (h0 : Lg w0 a fb G k' S lb L) (hk : a.heap.size ≤ b.heap.size) (hc : b.heap.size ≤ c.heap.size) : Lg w0 c fb F k (New a c S) lb L :=
 h.mono (new_trans hk hc) (new_lt h0.hd.fs.lt (Nat.le_trans hk hc)) (fun i e => by
  rcases e with e | e
  ·exact h0.hd.low i e
  ·have:=h0.hd.below.size; omega) (fun e => by
  rcases e with e | e
  ·exact h0.log.out e
  ·have:=h0.lt; omega)
def twoRes (a b : FsS × Int) : FsS × Int:=if a.2 = 0 then b else a
theorem does_two (h : Lg w0 w fb F k S lb L) (hb : Below w.heap.size w W) {ab : Nat} {f1 f2 : FnV} (hab : IsBlk W ab #[f1.val,f2.val] 55) (hout : ¬ S ab)
 (eg1 : ∀ args w,(callFunc f1.g args).run Tryz.prog w = .ok (.enter f1.g args) w) (eg2 : ∀ args w,(callFunc f2.g args).run Tryz.prog w = .ok (.enter f2.g args) w) (r1 r2 : FsS × Int)
 (hcall1 : Calls Tryz.prog f1.g f1.lb W fun e W' => e = .returned (.int .i64 r1.2) ∧ Lg w0 W' fb r1.1 (k + 1) (New W W' S) lb L ∧ Keeps S W W')
 (hcall2 : ∀ W',r1.2 = 0 → Lg w0 W' fb r1.1 (k + 1) (New W W' S) lb L → Keeps S W W' → Calls Tryz.prog f2.g f2.lb W' fun e W2 => e = .returned (.int .i64 r2.2) ∧ Lg w0 W2 fb r2.1 (k + 1 + 1) (New W' W2 (New W W' S)) lb L ∧ Keeps (New W W' S) W' W2) :
 Calls Tryz.prog 110 #[.pointer (some ⟨lb,0,none⟩),.slice (some ⟨ab,0,none⟩) 2 2] W fun e w' => e = .returned (.int .i64 (twoRes r1 r2).2) ∧ LPost w0 w fb S lb (twoRes r1 r2).1 (k + 1 + 1) (L.after (twoRes r1 r2).2) w':=by
 refine (w_does ab lb [f1,f2] (by simp) (fun j W' => (j = 0 ∧ W' = W) ∨ (j = 1 ∧ r1.2 = 0 ∧ Lg w0 W' fb r1.1 (k + 1) (New W W' S) lb L ∧ Keeps S W W') ∨ (j = 2 ∧ r1.2 = 0 ∧ r2.2 = 0 ∧ Lg w0 W' fb r2.1 (k + 1 + 1) (New W W' S) lb L ∧ Keeps S W W'))
   (fun r sb W' => sb = L.stuck ∧ Keeps S W W' ∧ r = (twoRes r1 r2).2 ∧ Lg w0 W' fb (twoRes r1 r2).1 (k + 1 + 1) (New W W' S) lb L) (.inl ⟨rfl,rfl⟩) ?_ ?_ ?_).mono ?_
 ·rintro j W' g (⟨rfl,rfl⟩ | ⟨rfl,_,_,hk⟩ | ⟨rfl,_⟩) hg
  ·simp only [List.getElem?_cons_zero,Option.some.injEq] at hg
   subst hg; exact blk_cell hab 0
  ·simp only [List.getElem?_cons_succ,List.getElem?_cons_zero,Option.some.injEq] at hg
   subst hg; exact blk_cell (hk.obj hab hout) 1
  ·simp at hg
 ·intro g hg
  simp only [List.mem_cons,List.not_mem_nil,or_false] at hg
  rcases hg with rfl | rfl
  ·exact eg1
  ·exact eg2
 ·rintro j W' g (⟨rfl,rfl⟩ | ⟨rfl,h0,h1,hk⟩ | ⟨rfl,_⟩) hg
  ·simp only [List.getElem?_cons_zero,Option.some.injEq] at hg
   subst hg
   refine hcall1.mono fun e W2 ⟨he,h1,h2⟩ => ?_
   by_cases hr : r1.2 = 0
   ·exact .inl ⟨by rw [he,hr],.inr (.inl ⟨rfl,hr,h1,h2⟩)⟩
   ·refine .inr ⟨r1.2,L.stuck,he,hr,⟨rfl,h2,by unfold twoRes; rw [if_neg hr],?_⟩,h1.cells.c6,h1.free 6⟩
    unfold twoRes; rw [if_neg hr]
    exact ⟨⟨h1.hd.fs,h1.hd.low,h1.hd.below,h1.hd.ok.mono (by omega)⟩,h1.log⟩
  ·simp only [List.getElem?_cons_succ,List.getElem?_cons_zero,Option.some.injEq] at hg
   subst hg
   refine (hcall2 W' h0 h1 hk).mono fun e W2 ⟨he,h3,h4⟩ => ?_
   have h5:=h3.flat (h.below hb) hk.size h4.size
   have h6:=keeps_new hk h4
   by_cases hr : r2.2 = 0
   ·exact .inl ⟨by rw [he,hr],.inr (.inr ⟨rfl,h0,hr,h5,h6⟩)⟩
   ·refine .inr ⟨r2.2,L.stuck,he,hr,⟨rfl,h6,by unfold twoRes; rw [if_pos h0],?_⟩,h5.cells.c6,h5.free 6⟩
    unfold twoRes; rw [if_pos h0]; exact h5
  ·simp at hg
 ·rintro e w' (⟨rfl,hp⟩ | ⟨r,sb,W2,rfl,hr,⟨rfl,h2,rfl,h1⟩,rfl⟩)
  ·rcases hp with ⟨h0,_⟩ | ⟨h0,_⟩ | ⟨_,h0,h3,h1,h2⟩
   ·cases h0
   ·cases h0
   ·have e1 : twoRes r1 r2 = r2:=by unfold twoRes; rw [if_pos h0]
    rw [e1]
    refine ⟨by rw [h3],?_⟩
    have:=LPost.of_ok h1 h2 h hb
    unfold LogS.after
    rwa [if_pos h3]
  ·exact ⟨rfl,LPost.of_set h1 h2 h hb hr⟩
set_option maxHeartbeats 2000000 in
theorem q_append1 (h : Lg w0 W fb F k S lb L) (hk : k < 1000000) {bl bn bp : Nat} {nm : ByteArray} {a : Option Addr} {cap : Nat} {p : List UInt8} (hbl : BoxAt S W bl (.pointer (some ⟨lb,0,none⟩)) 112) (hbn : BoxAt S W bn (.string nm) 9) (hbp : BoxAt S W bp (.slice a p.length cap) 23)
 (hu : RdAt byteKind W (.slice a p.length cap) p) (hp : p.length ≤ 10000000) :
 Calls Tryz.prog 113 #[.pointer (some ⟨bl,0,none⟩),.pointer (some ⟨bn,0,none⟩),.pointer (some ⟨bp,0,none⟩)] W fun e W' => e = .returned (.int .i64 (F.append nm (frameOf p)).2) ∧ Lg w0 W' fb (F.append nm (frameOf p)).1 (k + 1) (New W W' S) lb L ∧ Keeps S W W':=by
 have HFR : Hid (∀ W1,Below W.heap.size W W1 → Calls Tryz.prog 85 #[.slice a p.length cap] W1 fun e w2 => ∃ v,e = .returned v ∧
     (w2.cell? ⟨bl,0,none⟩ = some (.pointer (some ⟨lb,0,none⟩)) ∧ w2.cell? ⟨lb,0,none⟩ = some (.pointer (some ⟨fb,0,none⟩)) ∧ w2.cell? ⟨bn,0,none⟩ = some (.string nm) ∧ w2.cell? ⟨bp,0,none⟩ = some (.slice a p.length cap)) ∧ Hid (Below W.heap.size W w2 ∧ RdAt byteKind w2 v (frameOf p))):=hid fun W1 hW1 =>
   (w_frame (hu.below hW1) (by omega)).mono fun e w2 ⟨v,he,hf⟩ => by
     have hb3 : Below W.heap.size W w2:=hW1.trans (hf.below.mono hW1.size)
     have hc:=(h.below hb3).cells
     exact ⟨v,he,⟨blk_cell (hbl.below hb3).blk 0,hc.c0,blk_cell (hbn.below hb3).blk 0,blk_cell (hbp.below hb3).blk 0⟩,hid ⟨hb3,hf.sl.rd⟩⟩
 have HAP : Hid (∀ W1 W2 v,Below W.heap.size W W1 → RdAt byteKind W1 v (frameOf p) → Below W1.heap.size W1 W2 → Calls Tryz.prog 23 #[.pointer (some ⟨fb,0,none⟩),.string nm,v] W2 fun e w2 => e = .returned (.int .i64 (F.append nm (frameOf p)).2) ∧
     (w2.cell? ⟨bl,0,none⟩ = some (.pointer (some ⟨lb,0,none⟩)) ∧ w2.cell? ⟨lb,0,none⟩ = some (.pointer (some ⟨fb,0,none⟩)) ∧ w2.cell? ⟨bn,0,none⟩ = some (.string nm) ∧ w2.cell? ⟨bp,0,none⟩ = some (.slice a p.length cap)) ∧
     Hid (Lg w0 w2 fb (F.append nm (frameOf p)).1 (k + 1) (New W w2 S) lb L ∧ Keeps S W w2)):=hid fun W1 W2 v hW1 hr hW2 => by
   have hW : Below W.heap.size W W2:=hW1.trans (hW2.mono hW1.size)
   obtain ⟨mb,rs,h1⟩:=h.hd.fs.below hW
   refine (f_append h1 h.hd.ok hk nm (hr.below hW2) (by rw [frameOf_len]; omega)).mono fun e w2 ⟨he,hp⟩ => ?_
   have hs:=h.step hW hp (h.hd.ok.append _ _)
   have hc:=hs.1.cells
   exact ⟨he,⟨blk_cell (hbl.keep hs.2) 0,hc.c0,blk_cell (hbn.keep hs.2) 0,blk_cell (hbp.keep hs.2) 0⟩,hid hs⟩
 have c0:=h.cells.c0
 have cl : W.cell? ⟨bl,0,none⟩ = some (.pointer (some ⟨lb,0,none⟩)):=blk_cell hbl.blk 0
 have cn : W.cell? ⟨bn,0,none⟩ = some (.string nm):=blk_cell hbn.blk 0
 have cp : W.cell? ⟨bp,0,none⟩ = some (.slice a p.length cap):=blk_cell hbp.blk 0
 have hb0 : Below W.heap.size W W.drew:=(Below.refl _ _).drew
 clear h hbl hbn hbp hu hp
 go_enter Tryz.func113,Tryz.ntmps113
 go_wp2_with (fail)
 go_region_held3 (fun w' => w'.cell? ⟨bl,0,none⟩ = some (.pointer (some ⟨lb,0,none⟩)) ∧ w'.cell? ⟨lb,0,none⟩ = some (.pointer (some ⟨fb,0,none⟩)) ∧ w'.cell? ⟨bn,0,none⟩ = some (.string nm) ∧ w'.cell? ⟨bp,0,none⟩ = some (.slice a p.length cap))
   (first
     | go_keep
     | exact s2
     | exact s1)
   (first
     | (go_at_call 85; (with_reducible refine (HFR.out _ ?_).mono ?_); exact hb0; rintro e w2 ⟨v,rfl,s1,HC⟩)
     | (go_at_call 23; (with_reducible refine (HAP.out _ _ _ HC.out.1 HC.out.2 (Below.refl _ _)).mono ?_); rintro e w2 ⟨rfl,s2,HD⟩))
 go_wp2_with (fail)
 go_ret
 exact ⟨rfl,HD.out.1,HD.out.2⟩
set_option maxHeartbeats 2000000 in
theorem q_append2 (h : Lg w0 W fb F k S lb L) (hk : k < 1000000) {bl bn : Nat} {nm : ByteArray} (hbl : BoxAt S W bl (.pointer (some ⟨lb,0,none⟩)) 112) (hbn : BoxAt S W bn (.string nm) 9) :
 Calls Tryz.prog 114 #[.pointer (some ⟨bl,0,none⟩),.pointer (some ⟨bn,0,none⟩)] W fun e W' => e = .returned (.int .i64 (F.sync nm).2) ∧ Lg w0 W' fb (F.sync nm).1 (k + 1) (New W W' S) lb L ∧ Keeps S W W':=by
 have HAP : Hid (∀ W2,Below W.heap.size W W2 → Calls Tryz.prog 115 #[.pointer (some ⟨fb,0,none⟩),.string nm] W2 fun e w2 => e = .returned (.int .i64 (F.sync nm).2) ∧
     (w2.cell? ⟨bl,0,none⟩ = some (.pointer (some ⟨lb,0,none⟩)) ∧ w2.cell? ⟨lb,0,none⟩ = some (.pointer (some ⟨fb,0,none⟩)) ∧ w2.cell? ⟨bn,0,none⟩ = some (.string nm)) ∧
     Hid (Lg w0 w2 fb (F.sync nm).1 (k + 1) (New W w2 S) lb L ∧ Keeps S W w2)):=hid fun W2 hW => by
   obtain ⟨mb,rs,h1⟩:=h.hd.fs.below hW
   refine (f_sync h1 h.hd.ok hk nm).mono fun e w2 ⟨he,hp⟩ => ?_
   have hs:=h.step hW hp (h.hd.ok.sync _)
   have hc:=hs.1.cells
   exact ⟨he,⟨blk_cell (hbl.keep hs.2) 0,hc.c0,blk_cell (hbn.keep hs.2) 0⟩,hid hs⟩
 have c0:=h.cells.c0
 have cl : W.cell? ⟨bl,0,none⟩ = some (.pointer (some ⟨lb,0,none⟩)):=blk_cell hbl.blk 0
 have cn : W.cell? ⟨bn,0,none⟩ = some (.string nm):=blk_cell hbn.blk 0
 have hb0 : Below W.heap.size W W.drew:=(Below.refl _ _).drew
 clear h hbl hbn
 go_enter Tryz.func114,Tryz.ntmps114
 go_wp2_with (fail)
 go_region_held3 (fun w' => w'.cell? ⟨bl,0,none⟩ = some (.pointer (some ⟨lb,0,none⟩)) ∧ w'.cell? ⟨lb,0,none⟩ = some (.pointer (some ⟨fb,0,none⟩)) ∧ w'.cell? ⟨bn,0,none⟩ = some (.string nm))
   (first
     | go_keep
     | exact s2)
   (first
     | (go_at_call 115; (with_reducible refine (HAP.out _ ?_).mono ?_); exact hb0; rintro e w2 ⟨rfl,s2,HD⟩))
 go_wp2_with (fail)
 go_ret
 exact ⟨rfl,HD.out.1,HD.out.2⟩
end
end Go.Proofs.YtagdchgkjjpacaaGreat
