/- The walk of package store's Checkpoint. -/
import Derived.Test.YtagdchgkjjpacaaGreatr36
import Derived.Test.YtagdchgkjjpacaaGreatr29
import Derived.Maps.RangeWalk
set_option maxRecDepth 100000
open Go.Lib (hid)
set_option linter.unusedSimpArgs false
set_option linter.unusedVariables false
set_option linter.unusedSectionVars false
namespace Go.Proofs.YtagdchgkjjpacaaGreat
open Go.RowKit Go.Shelf
structure CnI (w wr : World) (x3 : Nat) (dir : ByteArray) (names : List ByteArray) (v : Value) (i : Nat) : Prop where
 box : IsBlk wr x3 #[.int .i64 (((names.take i).foldl (fun n m => max n (baseNum dir m + 1)) 1 : Nat) : Int)] 3
 sl : SlAt textKind 9 wr v names
 below : Below w.heap.size w wr
theorem fold_max (dir : ByteArray) (names : List ByteArray) {i : Nat} {m : ByteArray} (h : names[i]? = some m) : (names.take (i + 1)).foldl (fun n m => max n (baseNum dir m + 1)) 1 = max ((names.take i).foldl (fun n m => max n (baseNum dir m + 1)) 1) (baseNum dir m + 1):=by
 rw [List.take_add_one,h,List.foldl_append]; rfl
theorem eres_cell {fn : Func} {p : Tmp} (hf : fn.results = #[.cell p 27]) {w : World} {b : Nat} {x : Int} (h : IsBlk w b #[.int .i64 x] 27) (tmps : Array Value) (h2 : tmps.getD p undef = .pointer (some ⟨b,0,none⟩)) :
 (results fn tmps).run Tryz.prog w = .ok (.int .i64 x) w:=by
 have c0 : w.cell? ⟨b,0,none⟩ = some (.int .i64 x):=blk_cell h 0
 rw [results_cell1 hf,h2]
 go_simp
theorem rotate_last (L : LogS) (F : FsS) : (rotateL L F).1.last ≤ L.last + 1 ∧ (rotateL L F).1.dir = L.dir:=by
 unfold rotateL
 repeat' split
 all_goals (simp [LogS.after])
structure CkX (w : World) (sb x1 x2 x3 x6 : Nat) (er : Int) (N : Nat) (done : Bool) : Prop where
 b1 : IsBlk w x1 #[.pointer (some ⟨sb,0,none⟩)] 49
 b2 : IsBlk w x2 #[.int .i64 er] 27
 b3 : IsBlk w x3 #[.int .i64 (N : Int)] 3
 b6 : IsBlk w x6 #[.bool done] 4
theorem CkX.keeps {U : Nat → Prop} {w w' : World} {sb x1 x2 x3 x6 : Nat} {er : Int} {N : Nat} {done : Bool} (h : CkX w sb x1 x2 x3 x6 er N done) (hk : Keeps U w w') (hU : ∀ i,U i → ∀ cs T,IsBlk w i cs T → T ≠ 49 ∧ T ≠ 27 ∧ T ≠ 3 ∧ T ≠ 4) : CkX w' sb x1 x2 x3 x6 er N done :=
 ⟨hk.obj h.b1 fun e => (hU _ e _ _ h.b1).1 rfl,hk.obj h.b2 fun e => (hU _ e _ _ h.b2).2.1 rfl,hk.obj h.b3 fun e => (hU _ e _ _ h.b3).2.2.1 rfl,hk.obj h.b6 fun e => (hU _ e _ _ h.b6).2.2.2 rfl⟩
theorem CkX.below {w w' : World} {sb x1 x2 x3 x6 : Nat} {er : Int} {N : Nat} {done : Bool} (h : CkX w sb x1 x2 x3 x6 er N done) (hb : Below w.heap.size w w') : CkX w' sb x1 x2 x3 x6 er N done:=h.keeps (Keeps.of_below hb) fun _ e => e.elim
structure CkW (w0 w : World) (fb : Nat) (S : Nat → Prop) (k n lb sb tb : Nat) (s : StS) (G : FsS) (x1 x2 x3 x6 : Nat) (er : Int) (N : Nat) (done : Bool) (w' : World) : Prop where
 ex : ∃ T,Lg w0 w' fb G k T lb s.log ∧ PureS T w' ∧ ∀ i,T i → S i ∨ w.heap.size ≤ i
 st : StB w' sb ⟨fb,s.dir,some ⟨lb,0,none⟩,(s.base : Int),s.stuck,tb,(s.seq : Int)⟩ s.all n
 keeps : Keeps (fun i => S i ∨ i = lb ∨ i = sb ∨ i = tb) w w'
 bx : CkX w' sb x1 x2 x3 x6 er N done
def CkC (w : World) (fb lb sb x1 x3 N : Nat) : Prop:=w.cell? ⟨x1,0,none⟩ = some (.pointer (some ⟨sb,0,none⟩)) ∧ w.cell? ⟨x3,0,none⟩ = some (.int .i64 (N : Int)) ∧ w.cell? ⟨sb,0,none⟩ = some (.pointer (some ⟨fb,0,none⟩)) ∧ w.cell? ⟨sb,2,none⟩ = some (.pointer (some ⟨lb,0,none⟩))
section
variable {w0 w w' W W' : World} {fb k k' lb sb tb n x1 x2 x3 x6 N : Nat} {F G G' : FsS} {S T : Nat → Prop} {s : StS} {er : Int} {done : Bool}
theorem CkW.cells (h : CkW w0 w fb S k n lb sb tb s G x1 x2 x3 x6 er N done W) : CkC W fb lb sb x1 x3 N:=⟨blk_cell h.bx.b1 0,blk_cell h.bx.b3 0,blk_cell h.st.blk 0,blk_cell h.st.blk 2⟩
theorem CkW.below (h : CkW w0 w fb S k n lb sb tb s G x1 x2 x3 x6 er N done W) (hb : Below W.heap.size W W') : CkW w0 w fb S k n lb sb tb s G x1 x2 x3 x6 er N done W':=by
 obtain ⟨T,h1,h2,h3⟩:=h.ex
 exact ⟨⟨T,h1.below hb,h2.below h1.hd.fs.lt hb,h3⟩,h.st.below hb,h.keeps.trans' ((Keeps.of_below hb).mono fun _ _ e => e.elim),h.bx.below hb⟩
theorem CkW.lg (h : CkW w0 w fb S k n lb sb tb s G x1 x2 x3 x6 er N done W) (hl : Lg w0 W fb G k T lb s.log) (hp : PureS T W) (hT : ∀ i,T i → S i ∨ w.heap.size ≤ i) {L' : LogS} (hq : LPost w0 W fb T lb G' k' L' W') : CkW w0 w fb S k' n lb sb tb { s with log:=L' } G' x1 x2 x3 x6 er N done W':=by
 have hty : ∀ i,(T i ∨ i = lb) → ∀ cs U,IsBlk W i cs U → U = 102 ∨ U = 107 ∨ U = 5 ∨ U = 165:=fun i hi cs U hb => by
  rcases hi with e | e
  ·rcases hp i e cs U hb with e | e | e
   ·exact .inl e
   ·exact .inr (.inl e)
   ·exact .inr (.inr (.inl e))
  ·subst e; exact .inr (.inr (.inr (blk_type hb hl.log.blk)))
 refine ⟨⟨_,hq.lg.ps,PS.pure _ _,fun i hi => ?_⟩,h.st.keepsOut hq.keeps fun i hi cs U hb => ?_,h.keeps.trans hq.keeps fun i hi e => ?_,h.bx.keeps hq.keeps fun i hi cs U hb => ?_⟩
 ·rcases hi.1 with e | e
  ·exact hT i e
  ·exact .inr (Nat.le_trans h.keeps.size e.1)
 ·rcases hty i hi cs U hb with rfl | rfl | rfl | rfl <;> decide
 ·rcases e with e | e
  ·rcases hT i e with e | e; exact .inl e; omega
  ·exact .inr (.inl e)
 ·rcases hty i hi cs U hb with rfl | rfl | rfl | rfl <;> decide
theorem CkW.fs (h : CkW w0 w fb S k n lb sb tb s G x1 x2 x3 x6 er N done W) (hl : Lg w0 W fb G k T lb s.log) (hp : PureS T W) (hT : ∀ i,T i → S i ∨ w.heap.size ≤ i) (hf : FwP w0 W fb T k' G' W') : CkW w0 w fb S k' n lb sb tb s G' x1 x2 x3 x6 er N done W':=by
 obtain ⟨U,u1,u2,u3⟩:=hf.ex
 refine ⟨⟨U,⟨u1,⟨hp.obj hf.keeps hl.log.blk (by decide) (by decide) (by decide),fun e => ?_,hl.log.low⟩⟩,u2,fun i hi => ?_⟩,h.st.pure hp hf.keeps,h.keeps.trans hf.keeps fun i hi e => ?_,h.bx.keeps hf.keeps fun i hi cs V hb => ?_⟩
 ·rcases u3 _ e with e | e
  ·exact hl.log.out e
  ·have:=hl.lt; omega
 ·rcases u3 i hi with e | e
  ·exact hT i e
  ·exact .inr (Nat.le_trans h.keeps.size e)
 ·rcases hT i e with e | e; exact .inl e; omega
 ·rcases hp i hi cs V hb with rfl | rfl | rfl <;> decide
theorem CkW.set (h : CkW w0 w fb S k n lb sb tb s G x1 x2 x3 x6 er N done W) (hw : w0.heap.size ≤ w.heap.size) {x : Nat} {cs : Array Value} {U : TypeId} (hb : IsBlk W x cs U) (hx : w.heap.size ≤ x) (hU : U = 27 ∨ U = 4) {er' : Int} {done' : Bool} {v : Value} (hX : CkX (W.setCell ⟨x,0,none⟩ v) sb x1 x2 x3 x6 er' N done') : CkW w0 w fb S k n lb sb tb s G x1 x2 x3 x6 er' N done' (W.setCell ⟨x,0,none⟩ v):=by
 obtain ⟨T,h1,h2,h3⟩:=h.ex
 have hk : Keeps (Only x) W (W.setCell ⟨x,0,none⟩ v):=keeps_cell _ _ _ _
 have hn : ¬ T x:=h2.not hb (by rcases hU with rfl | rfl <;> decide) (by rcases hU with rfl | rfl <;> decide) (by rcases hU with rfl | rfl <;> decide)
 have hl : x ≠ lb:=blk_ne_type hb h1.log.blk (by rcases hU with rfl | rfl <;> decide)
 refine ⟨⟨T,h1.keepsOut hk (fun i (e : i = x) => by rw [e]; exact hn) (fun i (e : i = x) => by rw [e]; exact hl) (fun i (e : i = x) => by rw [e]; omega),h2.keeps h1.hd.fs.lt hk (fun i (e : i = x) => by rw [e]; exact hn),h3⟩,h.st.keepsOut hk fun i (e : i = x) cs2 V hV => ?_,h.keeps.trans hk fun i hi (e : i = x) => by omega,hX⟩
 subst e
 have e2:=blk_type hV hb
 subst e2
 rcases hU with rfl | rfl <;> decide
theorem CkW.err (h : CkW w0 w fb S k n lb sb tb s G x1 x2 x3 x6 er N done W) (hw : w0.heap.size ≤ w.heap.size) (hx : w.heap.size ≤ x2) (er' : Int) : CkW w0 w fb S k n lb sb tb s G x1 x2 x3 x6 er' N done (W.setCell ⟨x2,0,none⟩ (.int .i64 er')):=by
 have hk : Keeps (Only x2) W (W.setCell ⟨x2,0,none⟩ (.int .i64 er')):=keeps_cell _ _ _ _
 exact h.set hw h.bx.b2 hx (.inl rfl) ⟨hk.obj h.bx.b1 (fun (e : x1 = x2) => blk_ne_type h.bx.b1 h.bx.b2 (by decide) e),blk_set h.bx.b2 0 _,hk.obj h.bx.b3 (fun (e : x3 = x2) => blk_ne_type h.bx.b3 h.bx.b2 (by decide) e),hk.obj h.bx.b6 (fun (e : x6 = x2) => blk_ne_type h.bx.b6 h.bx.b2 (by decide) e)⟩
theorem CkW.did (h : CkW w0 w fb S k n lb sb tb s G x1 x2 x3 x6 er N done W) (hw : w0.heap.size ≤ w.heap.size) (hx : w.heap.size ≤ x6) (b : Bool) : CkW w0 w fb S k n lb sb tb s G x1 x2 x3 x6 er N b (W.setCell ⟨x6,0,none⟩ (.bool b)):=by
 have hk : Keeps (Only x6) W (W.setCell ⟨x6,0,none⟩ (.bool b)):=keeps_cell _ _ _ _
 exact h.set hw h.bx.b6 hx (.inr rfl) ⟨hk.obj h.bx.b1 (fun (e : x1 = x6) => blk_ne_type h.bx.b1 h.bx.b6 (by decide) e),hk.obj h.bx.b2 (fun (e : x2 = x6) => blk_ne_type h.bx.b2 h.bx.b6 (by decide) e),hk.obj h.bx.b3 (fun (e : x3 = x6) => blk_ne_type h.bx.b3 h.bx.b6 (by decide) e),blk_set h.bx.b6 0 _⟩
theorem CkW.base (h : CkW w0 w fb S k n lb sb tb s G x1 x2 x3 x6 er N done W) (hlow : w0.heap.size ≤ sb) (b : Nat) : CkW w0 w fb S k n lb sb tb { s with base:=b } G x1 x2 x3 x6 er N done (W.setCell ⟨sb,3,none⟩ (.int .i64 (b : Int))):=by
 obtain ⟨T,h1,h2,h3⟩:=h.ex
 have hs:=h.st.setBase (b : Int)
 have hk:=hs.2
 have hn : ¬ T sb:=h2.not h.st.blk (by decide) (by decide) (by decide)
 refine ⟨⟨T,h1.keepsOut hk (fun i (e : i = sb) => by rw [e]; exact hn) (fun i (e : i = sb) => by rw [e]; exact blk_ne_type h.st.blk h1.log.blk (by decide)) (fun i (e : i = sb) => by rw [e]; exact hlow),h2.keeps h1.hd.fs.lt hk (fun i (e : i = sb) => by rw [e]; exact hn),h3⟩,hs.1,h.keeps.trans' (hk.mono fun i _ (e : i = sb) => .inr (.inr (.inl e))),h.bx.keeps hk fun i (e : i = sb) cs V hV => ?_⟩
 subst e
 have e2:=blk_type hV h.st.blk
 subst e2
 decide
theorem WrsPost.more (h : WrsPost w0 w fb S k n lb sb tb s G w') (hk : k ≤ k') : WrsPost w0 w fb S k' n lb sb tb s G w':=by
 obtain ⟨T,h1,h2⟩:=h.ex
 exact ⟨⟨T,h1.more hk (Nat.le_refl _),h2⟩,h.keeps⟩
theorem failS_ck (c : StC) (hd : c.dir = s.dir) (hs : c.stuck = s.stuck) : failS s G N er done = ({ s with stuck:=(ckU G c N er done).2 },(ckU G c N er done).1,er):=by
 unfold failS ckU
 rw [hd,hs]
 split <;> rfl
theorem CkW.fin (h : CkW w0 w fb S k n lb sb tb s G x1 x2 x3 x6 er N done W) (hk : k < 800000) (hlow : w0.heap.size ≤ sb ∧ w0.heap.size ≤ tb) (hdir : s.dir.size ≤ 900) (hN : N < 100000000) :
 CallsD Tryz.prog 80 #[.pointer (some ⟨x1,0,none⟩),.pointer (some ⟨x2,0,none⟩),.pointer (some ⟨x6,0,none⟩),.pointer (some ⟨x3,0,none⟩)] .returning W fun e u' w' => u' = .returning ∧ e = .returned (.tuple #[]) ∧ IsBlk w' x2 #[.int .i64 er] 27 ∧ WrsPost w0 w fb S (k + 2) n lb sb tb (failS s G N er done).1 (failS s G N er done).2.1 w' ∧ (failS s G N er done).2.2 = er:=by
 obtain ⟨T,h1,h2,h3⟩:=h.ex
 refine (q_ckpt1 .returning h1.hd h2 hk h.st rfl hlow.1 hdir hN h.bx.b1 h.bx.b2 h.bx.b6 h.bx.b3).mono ?_
 rintro e u' w' ⟨hu,he,hw⟩
 refine ⟨hu,he,hw.box h2 h.st.blk h.bx.b2 (by decide) (by decide) (by decide) (by decide),?_,?_⟩
 ·rw [failS_ck (s:=s) ⟨fb,s.dir,some ⟨lb,0,none⟩,(s.base : Int),s.stuck,tb,(s.seq : Int)⟩ rfl rfl]
  obtain ⟨U,u1,u2,u3⟩:=hw.ex
  have hsb : sb ≠ lb:=blk_ne_type h.st.blk h1.log.blk (by decide)
  refine ⟨⟨U,⟨⟨u1,⟨hw.keeps.obj h1.log.blk fun e => ?_,fun e => ?_,h1.log.low⟩⟩,u2,hw.st,hlow⟩,fun i hi => ?_⟩,h.keeps.trans hw.keeps fun i hi e => ?_⟩
  ·rcases e with e | e
   ·exact h1.log.out e
   ·exact hsb e.symm
  ·rcases u3 _ e with e | e
   ·exact h1.log.out e
   ·have:=h1.lt; omega
  ·rcases u3 i hi with e | e
   ·exact h3 i e
   ·exact .inr (Nat.le_trans h.keeps.size e)
  ·rcases e with e | e
   ·rcases h3 i e with e | e; exact .inl e; omega
   ·exact .inr (.inr (.inl e))
 ·rw [failS_ck (s:=s) ⟨fb,s.dir,some ⟨lb,0,none⟩,(s.base : Int),s.stuck,tb,(s.seq : Int)⟩ rfl rfl]
end
section
variable {w0 w w' : World} {fb k lb sb tb n : Nat} {F G : FsS} {S T : Nat → Prop} {s : StS}
set_option maxHeartbeats 32000000 in
theorem st_checkpoint (h : Db w0 w fb F k S lb sb tb s n) (hk : k < 700000) (hdir : s.dir.size ≤ 900) (hdl : s.log.dir.size ≤ 1000) (hlast : s.log.last < 900) (hq : s.seq < 9223372036854775800) (hn : n < 700000000) (hok : PrsOk s.all) (hlen : (imgB s.seq s.all).length ≤ 1000000) (hN : topBase s.dir F < 100000000) :
 Calls Tryz.prog 26 #[.pointer (some ⟨sb,0,none⟩)] w fun e w' => e = .returned (.int .i64 (chkS s F).2.2) ∧ WrsPost w0 w fb S (k + 1500) n lb sb tb (chkS s F).1 (chkS s F).2.1 w':=by
 have H:=hid h
 have HC:=hid (And.intro hk (And.intro hdir (And.intro hdl (And.intro hlast (And.intro hq hn)))))
 have HC2:=hid (And.intro hok (And.intro hlen hN))
 have s4 : w.cell? ⟨sb,4,none⟩ = some (.bool s.stuck):=blk_cell h.st.blk 4
 obtain ⟨w1,hw1⟩ : ∃ x,x = w.alloc (.cells #[.pointer (some ⟨sb,0,none⟩)] 49):=⟨_,rfl⟩
 obtain ⟨w2,hw2⟩ : ∃ x,x = w1.alloc (.cells #[.int .i64 0] 27):=⟨_,rfl⟩
 obtain ⟨x1,hx1⟩ : ∃ x,x = w.heap.size:=⟨_,rfl⟩
 obtain ⟨x2,hx2⟩ : ∃ x,x = w.heap.size + 1:=⟨_,rfl⟩
 have z1 : w1.heap.size = w.heap.size + 1:=by rw [hw1]; simp
 have z2 : w2.heap.size = w.heap.size + 1 + 1:=by rw [hw2]; simp; omega
 have k1 : Below w.heap.size w w1:=by rw [hw1]; exact (Below.refl _ _).alloc (Nat.le_refl _) _
 have k2 : Below w1.heap.size w1 w2:=by rw [hw2]; exact (Below.refl _ _).alloc (Nat.le_refl _) _
 have i1 : IsBlk w1 x1 #[.pointer (some ⟨sb,0,none⟩)] 49:=by rw [hw1,hx1]; exact blk_new _ _
 have i2 : IsBlk w2 x2 #[.int .i64 0] 27:=by rw [hw2,hx2,← z1]; exact blk_new _ _
 have i1' : IsBlk w2 x1 #[.pointer (some ⟨sb,0,none⟩)] 49:=(k2.block _ (lt_of_block i1)).trans i1
 have HB2 : Hid (Below w.heap.size w w2):=hid (k1.trans (k2.mono k1.size))
 have HX2:=hid (And.intro i1' i2)
 have HXS : Hid (x1 = w.heap.size ∧ x2 = w.heap.size + 1 ∧ w2.heap.size = w.heap.size + 1 + 1):=hid ⟨hx1,hx2,z2⟩
 have HW1 : Hid (w.alloc (.cells #[.pointer (some ⟨sb,0,none⟩)] 49) = w1):=hid hw1.symm
 have HW2 : Hid (w1.alloc (.cells #[.int .i64 0] 27) = w2):=hid hw2.symm
 have HD2 : Hid (Db w0 w2 fb F k S lb sb tb s n):=hid (H.out.below HB2.out)
 have s4 : w2.cell? ⟨sb,4,none⟩ = some (.bool s.stuck):=blk_cell HD2.out.st.blk 4
 have b1 : w2.cell? ⟨x1,0,none⟩ = some (.pointer (some ⟨sb,0,none⟩)):=blk_cell i1' 0
 have b2 : w2.cell? ⟨x2,0,none⟩ = some (.int .i64 0):=blk_cell i2 0
 have f2 : w2.frozen? ⟨x2,0,none⟩ = false:=blk_free i2 0
 clear h hk hdir hdl hlast hq hn hok hlen hN hw1 hw2 hx1 hx2 z1 z2 k1 k2 i1 i2 i1'
 obtain ⟨stk,hstk⟩ : ∃ b,b = s.stuck:=⟨_,rfl⟩
 rw [← hstk] at s4
 have HSTK:=hid hstk
 clear hstk
 obtain ⟨RR,hRR⟩ : ∃ R,R = chkS s F:=⟨_,rfl⟩
 rw [← hRR]
 have HRR:=hid hRR
 clear hRR
 rcases Bool.eq_false_or_eq_true stk with e | e <;> subst e
 ·have HEQ : Hid (RR = (s,F,25)):=hid (by rw [HRR.out]; unfold chkS; rw [if_pos HSTK.out.symm])
  go_enter_defers Tryz.func26,Tryz.ntmps26
  go_upto_region 1 with (fail)
  rw [HW1.out,HW2.out,← HXS.out.2.1,← HXS.out.1]
  go_wp2_with (fail)
  have hk2 : Below w.heap.size w (w2.setCell ⟨x2,0,none⟩ (.int .i64 25)):=below_keeps HB2.out ((Keeps.refl (Only x2) w2).setCell (p:=⟨x2,0,none⟩) (fun _ => rfl) _) (fun i (e : i = x2) => by rw [e,HXS.out.2.1]; omega) HB2.out.size
  refine ⟨_,eres_cell rfl (blk_set HX2.out.2 0 (.int .i64 25)) _ rfl,?_⟩
  rw [HEQ.out]
  exact ⟨rfl,WrsPost.same H.out hk2 (by omega) (by omega)⟩
 have HCH : Hid (RR = chk0 s (topBase s.dir F) (laysR F (baseNm s.dir (topBase s.dir F)) (imgB s.seq s.all))):=hid (by rw [HRR.out]; unfold chkS; rw [if_neg (by rw [← HSTK.out]; decide)])
 go_enter_defers Tryz.func26,Tryz.ntmps26
 go_upto_region 1 with (fail)
 rw [HW1.out,HW2.out,← HXS.out.2.1,← HXS.out.1]
 go_upto_region 3 with (fail)
 go_upto_region 4 with (fail)
 obtain ⟨w3,hw3⟩ : ∃ x,x = w2.alloc (.cells #[.int .i64 1] 3):=⟨_,rfl⟩
 obtain ⟨x3,hx3⟩ : ∃ x,x = w2.heap.size:=⟨_,rfl⟩
 rw [← hw3,← hx3]
 have k3 : Below w2.heap.size w2 w3:=by rw [hw3]; exact (Below.refl _ _).alloc (Nat.le_refl _) _
 have i3 : IsBlk w3 x3 #[.int .i64 1] 3:=by rw [hw3,hx3]; exact blk_new _ _
 have HB3 : Hid (Below w.heap.size w w3):=hid (HB2.out.trans (k3.mono HB2.out.size))
 have HX3 : Hid (IsBlk w3 x1 #[.pointer (some ⟨sb,0,none⟩)] 49 ∧ IsBlk w3 x2 #[.int .i64 0] 27 ∧ IsBlk w3 x3 #[.int .i64 1] 3):=hid ⟨(k3.block _ (lt_of_block HX2.out.1)).trans HX2.out.1,(k3.block _ (lt_of_block HX2.out.2)).trans HX2.out.2,i3⟩
 have HXL : Hid (x1 = w.heap.size ∧ x2 = w.heap.size + 1 ∧ x3 = w.heap.size + 1 + 1):=hid ⟨HXS.out.1,HXS.out.2.1,by rw [hx3]; exact HXS.out.2.2⟩
 have HD3 : Hid (Db w0 w3 fb F k S lb sb tb s n):=hid (H.out.below HB3.out)
 clear hw3 hx3 k3 i3 HX2 HXS HW1 HW2 HD2 HB2 s4 b1 b2 f2 HSTK
 have b1 : w3.cell? ⟨x1,0,none⟩ = some (.pointer (some ⟨sb,0,none⟩)):=blk_cell HX3.out.1 0
 have b3 : w3.cell? ⟨sb,0,none⟩ = some (.pointer (some ⟨fb,0,none⟩)):=blk_cell HD3.out.st.blk 0
 have hb0 : Below w3.heap.size w3 w3.drew:=(Below.refl _ _).drew
 obtain ⟨names,hnm⟩ : ∃ x,x = namesL (nmOf s.dir sBase) F.files:=⟨_,rfl⟩
 have HNF : Hid (names.length ≤ 400):=hid (by rw [hnm]; unfold namesL; rw [List.length_map]; have:=List.length_filter_le (fun x : ByteArray × FileS => Lib.hasPrefix x.1.data.toList (nmOf s.dir sBase).data.toList) F.files; have:=H.out.lg.hd.ok.few; omega)
 have HNM : Hid (∀ V,Below w3.heap.size w3 V → Calls Tryz.prog 65 #[.pointer (some ⟨sb,0,none⟩),.string sBase] V fun e w' => e = .returned (.string (nmOf s.dir sBase)) ∧ V = w'):=hid fun V hV =>
  st_name (c:=⟨fb,s.dir,some ⟨lb,0,none⟩,(s.base : Int),s.stuck,tb,(s.seq : Int)⟩) (HD3.out.st.below hV).blk (by have:=HC.out.2.1; show s.dir.size ≤ _; omega) sBase (by decide)
 have HNL : Hid (∀ W,Below w3.heap.size w3 W → Calls Tryz.prog 27 #[.pointer (some ⟨fb,0,none⟩),.string (nmOf s.dir sBase)] W fun e w' => ∃ na nc,e = .returned (.slice na names.length nc) ∧ (w'.cell? ⟨x1,0,none⟩ = some (.pointer (some ⟨sb,0,none⟩)) ∧ w'.cell? ⟨sb,0,none⟩ = some (.pointer (some ⟨fb,0,none⟩))) ∧ Hid (TextsAt W w' (.slice na names.length nc) names ∧ Below w3.heap.size w3 w')):=hid fun W hW => by
  rw [hnm]
  refine (s_names (HD3.out.lg.hd.fs.below hW) HD3.out.lg.hd.ok (nmOf s.dir sBase)).mono ?_
  rintro e w' ⟨a,cap,he,ht⟩
  have hb:=hW.trans (ht.below.mono hW.size)
  exact ⟨a,cap,he,⟨blk_cell ((hb.block _ (lt_of_block HX3.out.1)).trans HX3.out.1) 0,blk_cell ((hb.block _ (lt_of_block HD3.out.st.blk)).trans HD3.out.st.blk) 0⟩,hid ⟨ht,hb⟩⟩
 have HNE : Hid (topBase s.dir F = names.foldl (fun n m => max n (baseNum s.dir m + 1)) 1):=hid (by rw [hnm]; rfl)
 clear hnm
 go_region_held3 (fun w' => w'.cell? ⟨x1,0,none⟩ = some (.pointer (some ⟨sb,0,none⟩)) ∧ w'.cell? ⟨sb,0,none⟩ = some (.pointer (some ⟨fb,0,none⟩)))
   (first
     | go_keep
     | exact s5)
   (first
     | (go_at_call 65; (with_reducible refine (HNM.out _ ?_).mono ?_); exact hb0; rintro e w4 ⟨rfl,rfl⟩)
     | (go_at_call 27; (with_reducible refine (HNL.out _ ?_).mono ?_); exact hb0; rintro e w4 ⟨na,nc,rfl,s5,HT4⟩))
 have HI0 : Hid (CnI w w4 x3 s.dir names (.slice na names.length nc) 0):=hid ⟨(HT4.out.2.block _ (lt_of_block HX3.out.2.2)).trans HX3.out.2.2,HT4.out.1.sl,HB3.out.trans (HT4.out.2.mono HB3.out.size)⟩
 have HIK : Hid (IsBlk w4 x1 #[.pointer (some ⟨sb,0,none⟩)] 49 ∧ IsBlk w4 x2 #[.int .i64 0] 27):=hid ⟨(HT4.out.2.block _ (lt_of_block HX3.out.1)).trans HX3.out.1,(HT4.out.2.block _ (lt_of_block HX3.out.2.1)).trans HX3.out.2.1⟩
 have hnI : (names.length : Int) ≤ 400:=by have:=HNF.out; omega
 clear b1 b3 hb0 s5 HT4 HNM HNL HX3 HD3 HB3
 go_wp2_with (fail)
 go_loopw [25] (fun iv wr => ∃ i : Nat,i ≤ names.length ∧ iv = .int .i64 (i : Int) ∧ Hid (CnI w wr x3 s.dir names (.slice na names.length nc) i ∧ IsBlk wr x1 #[.pointer (some ⟨sb,0,none⟩)] 49 ∧ IsBlk wr x2 #[.int .i64 0] 27)) (fun iv _ => names.length - (intOf iv).toNat)
 case atStart => exact ⟨0,Nat.zero_le _,rfl,hid ⟨HI0.out,HIK.out⟩⟩
 case round =>
  obtain ⟨i,hi,rfl,HI⟩:=hrel
  obtain ⟨z,hz⟩ : ∃ z : Nat,z = (names.take i).foldl (fun n m => max n (baseNum s.dir m + 1)) 1:=⟨_,rfl⟩
  by_cases hlt : i < names.length
  ·have q1 : (0 : Int) ≤ (i : Int):=by omega
   have q2 : (i : Int) < (names.length : Int):=by omega
   obtain ⟨nm,hnm⟩ : ∃ nm,names[i]? = some nm:=⟨_,List.getElem?_eq_getElem hlt⟩
   obtain ⟨g,off,rfl,d0⟩:=text_cell HI.out.1.sl.rd rfl hnm
   have HDR : Hid (Db w0 wr fb F k S lb sb tb s n):=hid (H.out.below HI.out.1.below)
   obtain ⟨y,hy⟩ : ∃ y : Nat,y = baseNum s.dir nm:=⟨_,rfl⟩
   have HBN : Hid (∀ V,Below wr.heap.size wr V → Calls Tryz.prog 79 #[.pointer (some ⟨sb,0,none⟩),.string nm] V fun e w' => e = .returned (.int .i64 (y : Int)) ∧ V = w'):=hid fun V hV => by
    rw [hy]
    exact st_baseNumber (c:=⟨fb,s.dir,some ⟨lb,0,none⟩,(s.base : Int),s.stuck,tb,(s.seq : Int)⟩) (HDR.out.st.below hV).blk (by have:=HC.out.2.1; show s.dir.size ≤ _; omega) nm
   have HY : Hid (y < 100000000):=hid (by rw [hy]; exact baseNum_lt _ _)
   have HNX : Hid ((names.take (i + 1)).foldl (fun n m => max n (baseNum s.dir m + 1)) 1 = max z (y + 1)):=hid (by rw [fold_max s.dir names hnm,← hz,← hy])
   have b1 : wr.cell? ⟨x1,0,none⟩ = some (.pointer (some ⟨sb,0,none⟩)):=blk_cell HI.out.2.1 0
   have b3 : wr.cell? ⟨x3,0,none⟩ = some (.int .i64 (z : Int)):=by rw [hz]; exact blk_cell HI.out.1.box 0
   have f3 : wr.frozen? ⟨x3,0,none⟩ = false:=blk_free HI.out.1.box 0
   have HLT:=hid hlt
   have HZ:=hid hz
   obtain ⟨yi,hyi⟩ : ∃ yi : Int,yi = (y : Int):=⟨_,rfl⟩
   obtain ⟨zi,hzi⟩ : ∃ zi : Int,zi = (z : Int):=⟨_,rfl⟩
   rw [← hyi] at HBN
   rw [← hzi] at b3
   have hy1 : 0 ≤ yi:=by omega
   have hy2 : yi < 100000000:=by have:=HY.out; omega
   have HYZ:=hid (And.intro hyi hzi)
   have hwp : IntKind.i64.wrap (yi + 1) = yi + 1:=IntWalk.i64_in _ (by omega)
   have hb0 : Below wr.heap.size wr wr.drew:=(Below.refl _ _).drew
   clear hz hnm hlt hi hy hyi hzi
   go_wp2_with (fail)
   have hT0 : (fun X : World => X.cell? ⟨x1,0,none⟩ = some (.pointer (some ⟨sb,0,none⟩)) ∧ X.cell? ⟨x3,0,none⟩ = some (.int .i64 zi) ∧ X.frozen? ⟨x3,0,none⟩ = false) wr.drew:=⟨b1,b3,f3⟩
   refine wp_region_noPanic ?_
   refine wp_region_B (T:=fun X : World => X.cell? ⟨x1,0,none⟩ = some (.pointer (some ⟨sb,0,none⟩)) ∧ X.cell? ⟨x3,0,none⟩ = some (.int .i64 zi) ∧ X.frozen? ⟨x3,0,none⟩ = false) (B:=fun i => i != 6) (by kernel_rfl) ?_
   have HBV : Hid (Below wr.heap.size wr wr.drew):=hid hb0
   generalize wr.drew = V at hT0 HBV ⊢
   refine wpAnyB_load (i:=0) (oi:=⟨some 29,.load 3 (.tmp 3),3,"store.go:282",#[],none⟩) (v:=?mv0) rfl (by kernel_rfl) (by kernel_rfl) (by kernel_rfl) (by kernel_rfl) (fun _ _ _ h => h) (Or.inl ⟨by kernel_rfl,?my0⟩) (by assumption) ?ms0
   case my0 => (intro w hSw; obtain ⟨u0,u1,u2⟩:=hSw; go_simp) <;> with_reducible rfl
   try go_frame
   refine wpAnyB_load (i:=1) (oi:=⟨some 30,.load 49 (.tmp 1),49,"store.go:282",#[],none⟩) (v:=?mv1) rfl (by kernel_rfl) (by kernel_rfl) (by kernel_rfl) (by kernel_rfl) (fun _ _ _ h => h) (Or.inl ⟨by kernel_rfl,?my1⟩) (by assumption) ?ms1
   case my1 => (intro w hSw; obtain ⟨u0,u1,u2⟩:=hSw; go_simp) <;> with_reducible rfl
   try go_frame
   refine wpAnyB_take (i:=2) (oi:=⟨some 31,.move (.tmp 5),9,"store.go:282",#[],none⟩) (v:=?mv2) rfl (by kernel_rfl) (by kernel_rfl) (by kernel_rfl) (fun _ _ _ h => h) (Or.inl ⟨by kernel_rfl,?my2⟩) ?ms2
   case my2 => (intro w; go_simp) <;> with_reducible rfl
   try go_frame
   refine wpAnyB_ready (rs:=[3]) (by kernel_rfl) (by simp) ?_
   refine AllReadyB.cons (o:=⟨some 32,.call ⟨.value (.func 79),#[.tmp 30,.tmp 31],#[49,9]⟩,3,"store.go:282",#[⟨1,.data⟩,⟨2,.data⟩],none⟩) rfl (fun K hK => ?_) AllReadyB.nil
   go_simp
   go_at_call 79
   refine (HBN.out _ HBV.out).mono ?_
   rintro e X1 ⟨rfl,rfl⟩
   refine hK.out _ _ (fun _ h => h) ?_
   clear hK K
   try go_frame
   refine wpAnyB_take (i:=4) (oi:=⟨some 33,.binOp .add 3 (.tmp 32) (.const (.int .i64 1)) 3,3,"store.go:282",#[⟨3,.data⟩],none⟩) (v:=?mv4) rfl (by kernel_rfl) (by kernel_rfl) (by kernel_rfl) (fun _ _ _ h => h) (Or.inl ⟨by kernel_rfl,?my4⟩) ?ms4
   case my4 => (intro w; go_simp) <;> with_reducible rfl
   try go_frame
   refine wpAnyB_take (i:=5) (oi:=⟨some 34,.call ⟨.builtin .max,#[.tmp 29,.tmp 33],#[3,3]⟩,3,"store.go:282",#[⟨0,.data⟩,⟨4,.data⟩],none⟩) (v:=?mv5) rfl (by kernel_rfl) (by kernel_rfl) (by kernel_rfl) (fun _ _ _ h => h) (Or.inl ⟨by kernel_rfl,?my5⟩) ?ms5
   case my5 => (intro w; go_simp) <;> with_reducible rfl
   try go_frame
   obtain ⟨t1,t2,t3⟩:=hT0
   refine wpAnyB_ready (rs:=[6]) (by kernel_rfl) (by simp) ?_
   refine AllReadyB.cons (o:=⟨none,.store 3 (.tmp 3) (.tmp 34),0,"store.go:282",#[⟨5,.data⟩,⟨3,.chain⟩,⟨0,.phase⟩,⟨1,.phase⟩,⟨2,.phase⟩,⟨3,.phase⟩,⟨4,.phase⟩,⟨5,.phase⟩],none⟩) rfl (fun K hK => ?_) AllReadyB.nil
   go_simp
   refine hK.out _ _ (fun h => by simp at h) ?_
   clear hK K
   try go_frame
   refine wpAnyB_done (by kernel_rfl) ?_ _
   simp only [NoPanic]
   have HVX : Hid (IsBlk V x1 #[.pointer (some ⟨sb,0,none⟩)] 49 ∧ IsBlk V x2 #[.int .i64 0] 27 ∧ IsBlk V x3 #[.int .i64 (z : Int)] 3):=hid ⟨(HBV.out.block _ (lt_of_block HI.out.2.1)).trans HI.out.2.1,(HBV.out.block _ (lt_of_block HI.out.2.2)).trans HI.out.2.2,by rw [HZ.out]; exact (HBV.out.block _ (lt_of_block HI.out.1.box)).trans HI.out.1.box⟩
   have HI2 : Hid (CnI w (V.setCell ⟨x3,0,none⟩ (.int .i64 (max zi (yi + 1)))) x3 s.dir names (.slice (some ⟨g,off,none⟩) names.length nc) (i + 1) ∧ IsBlk (V.setCell ⟨x3,0,none⟩ (.int .i64 (max zi (yi + 1)))) x1 #[.pointer (some ⟨sb,0,none⟩)] 49 ∧ IsBlk (V.setCell ⟨x3,0,none⟩ (.int .i64 (max zi (yi + 1)))) x2 #[.int .i64 0] 27):=hid (by
    have hks : Keeps (Only x3) V (V.setCell ⟨x3,0,none⟩ (.int .i64 (max zi (yi + 1)))):=keeps_cell _ _ _ _
    have hbw : Below w.heap.size w V:=HI.out.1.below.trans (HBV.out.mono HI.out.1.below.size)
    have he : ((max z (y + 1) : Nat) : Int) = max zi (yi + 1):=by rw [HYZ.out.1,HYZ.out.2]; omega
    refine ⟨⟨?_,?_,?_⟩,hks.obj HVX.out.1 (fun (e : x1 = x3) => by have:=HXL.out; omega),hks.obj HVX.out.2.1 (fun (e : x2 = x3) => by have:=HXL.out; omega)⟩
    ·rw [HNX.out,he]
     exact blk_set HVX.out.2.2 0 _
    ·have hsl:=HI.out.1.sl.below HBV.out
     refine hsl.keeps hks fun g2 hg2 e => ?_
     obtain ⟨cur,hb⟩:=hsl.own g2 hg2
     have e : g2 = x3:=e
     subst e
     exact blk_ne_type hb HVX.out.2.2 (by decide) rfl
    ·exact below_keeps hbw hks (fun i (e : i = x3) => by have:=HXL.out; omega) hbw.size)
   go_wp2_with (fail)
   go_roundw
   case rel => exact ⟨i + 1,HLT.out,by go_num,HI2⟩
   case measure => have:=HLT.out; simp [intOf]; omega
  ·have q2 : ¬ (i : Int) < (names.length : Int):=by omega
   obtain rfl : i = names.length:=by omega
   obtain ⟨N,hNN⟩ : ∃ N,N = topBase s.dir F:=⟨_,rfl⟩
   have HNB : Hid (N < 100000000):=hid (by rw [hNN]; exact HC2.out.2.2)
   have HBW : Hid (Below w.heap.size w wr):=hid HI.out.1.below
   have HX4 : Hid (IsBlk wr x1 #[.pointer (some ⟨sb,0,none⟩)] 49 ∧ IsBlk wr x2 #[.int .i64 0] 27 ∧ IsBlk wr x3 #[.int .i64 (N : Int)] 3):=hid ⟨HI.out.2.1,HI.out.2.2,by rw [hNN,HNE.out]; have h1:=HI.out.1.box; rwa [List.take_length] at h1⟩
   rw [← hNN] at HCH
   clear hNN HI hlt hi hz z HNE HI0 HIK
   go_upto_region 9 with (fail)
   go_upto_region 11 with (fail)
   obtain ⟨w5,hw5⟩ : ∃ x,x = wr.alloc (.cells #[.bool false] 4):=⟨_,rfl⟩
   obtain ⟨x6,hx6⟩ : ∃ x,x = wr.heap.size:=⟨_,rfl⟩
   rw [← hw5,← hx6]
   have k5 : Below wr.heap.size wr w5:=by rw [hw5]; exact (Below.refl _ _).alloc (Nat.le_refl _) _
   have i6 : IsBlk w5 x6 #[.bool false] 4:=by rw [hw5,hx6]; exact blk_new _ _
   have HB5 : Hid (Below w.heap.size w w5):=hid (HBW.out.trans (k5.mono HBW.out.size))
   have HXL6 : Hid (w.heap.size ≤ x2 ∧ w.heap.size ≤ x6):=hid ⟨by have:=HXL.out; omega,by rw [hx6]; exact HBW.out.size⟩
   have HK5 : Hid (CkW w0 w fb S k n lb sb tb s F x1 x2 x3 x6 0 N false w5):=hid (by
    have hd:=H.out.below HB5.out
    exact ⟨⟨S,hd.lg,hd.pure,fun _ e => .inl e⟩,hd.st,(Keeps.of_below HB5.out).mono fun _ _ e => e.elim,⟨(k5.block _ (lt_of_block HX4.out.1)).trans HX4.out.1,(k5.block _ (lt_of_block HX4.out.2.1)).trans HX4.out.2.1,(k5.block _ (lt_of_block HX4.out.2.2)).trans HX4.out.2.2,i6⟩⟩)
   have HWW : Hid (w0.heap.size ≤ w.heap.size ∧ w0.heap.size ≤ sb ∧ w0.heap.size ≤ tb):=hid ⟨H.out.lg.hd.below.size,H.out.low⟩
   clear hw5 hx6 k5 i6 HX4 HBW HB5
   obtain ⟨T5,hl5,hp5,ht5⟩:=HK5.out.ex
   have HL5:=hid (And.intro hl5 (And.intro hp5 ht5))
   clear hl5 hp5 ht5
   have HNM : Hid (∀ V,Below w5.heap.size w5 V → Calls Tryz.prog 66 #[.pointer (some ⟨sb,0,none⟩),.int .i64 (N : Int)] V fun e w' => e = .returned (.string (baseNm s.dir N)) ∧ CkC w' fb lb sb x1 x3 N ∧ Hid (Below w5.heap.size w5 w' ∧ Below V.heap.size V w')):=hid fun V hV => by
    refine (st_baseName (c:=⟨fb,s.dir,some ⟨lb,0,none⟩,(s.base : Int),s.stuck,tb,(s.seq : Int)⟩) (HK5.out.below hV).st.blk (by have:=HC.out.2.1; show s.dir.size ≤ _; omega) N HNB.out (N : Int) rfl).mono ?_
    rintro e w' ⟨he,hb⟩
    have hb2:=hV.trans (hb.mono hV.size)
    exact ⟨he,(HK5.out.below hb2).cells,hid ⟨hb2,hb⟩⟩
   have HIM : Hid (∀ V,Below w5.heap.size w5 V → Calls Tryz.prog 83 #[.pointer (some ⟨sb,0,none⟩)] V fun e w' => ∃ ia ic,e = .returned (.slice ia (imgB s.seq s.all).length ic) ∧ CkC w' fb lb sb x1 x3 N ∧ Hid (FreshAt V w' (.slice ia (imgB s.seq s.all).length ic) (imgB s.seq s.all) ∧ Below w5.heap.size w5 w')):=hid fun V hV => by
    refine (st_image (HK5.out.below hV).st rfl (by have:=HC.out.2.2.2.2.1; omega) HC2.out.1 (by have:=HC.out.2.2.2.2.2; omega) (by have:=HC2.out.2.1; omega)).mono ?_
    rintro e w' ⟨v,he,hf⟩
    have hb2:=hV.trans (hf.out.below.mono hV.size)
    obtain ⟨ia,ic,rfl,-⟩:=hf.out.sl.rd
    exact ⟨ia,ic,he,(HK5.out.below hb2).cells,hid ⟨hf.out,hb2⟩⟩
   have HLY : Hid (∀ V V1 ia ic,Below w5.heap.size w5 V1 → FreshAt V V1 (.slice ia (imgB s.seq s.all).length ic) (imgB s.seq s.all) → Below w5.heap.size w5 V → ∀ V2,Below V1.heap.size V1 V2 → Calls Tryz.prog 82 #[.pointer (some ⟨sb,0,none⟩),.string (baseNm s.dir N),.slice ia (imgB s.seq s.all).length ic] V2 fun e w' => e = .returned (.int .i64 (laysR F (baseNm s.dir N) (imgB s.seq s.all)).2) ∧ CkC w' fb lb sb x1 x3 N ∧ Hid (CkW w0 w fb S (k + 3) n lb sb tb s (laysR F (baseNm s.dir N) (imgB s.seq s.all)).1 x1 x2 x3 x6 0 N false w')):=hid fun V V1 ia ic hV1 hf hV V2 hV2 => by
    have hb2:=hV1.trans (hV2.mono hV1.size)
    refine (st_lays (HL5.out.1.hd.read hb2) (HL5.out.2.1.below HL5.out.1.hd.fs.lt hb2) (by have:=HC.out.1; omega) (HK5.out.below hb2).st.blk rfl (baseNm s.dir N) (hf.sl.rd.below hV2) (fun g hg => ?_) (by have:=HC2.out.2.1; omega)).mono ?_
    ·obtain ⟨cur,hb⟩:=hf.sl.own g hg
     have h1:=hf.new g hg
     have h2:=lt_of_block hb
     have h3:=hV2.size
     refine ⟨by omega,fun e => ?_⟩
     have h4:=HL5.out.1.hd.fs.lt g e
     have h5:=hV.size
     omega
    ·rintro e w' ⟨he,hw⟩
     have h1:=HK5.out.fs HL5.out.1 HL5.out.2.1 HL5.out.2.2 (hw.base hb2)
     exact ⟨he,h1.cells,hid h1⟩
   obtain ⟨LY,hLY⟩ : ∃ x,x = laysR F (baseNm s.dir N) (imgB s.seq s.all):=⟨_,rfl⟩
   rw [← hLY] at HLY HCH
   clear hLY
   have hb0 : Below w5.heap.size w5 w5.drew:=(Below.refl _ _).drew
   obtain ⟨c1,c3,c0,c2⟩:=HK5.out.cells
   go_cut [7] from 37 (fun v wx => v = .int .i64 LY.2 ∧ Hid (CkW w0 w fb S (k + 3) n lb sb tb s LY.1 x1 x2 x3 x6 0 N false wx))
   case first =>
    go_region_held3 (fun w' => w'.cell? ⟨x1,0,none⟩ = some (.pointer (some ⟨sb,0,none⟩)) ∧ w'.cell? ⟨x3,0,none⟩ = some (.int .i64 (N : Int)) ∧ w'.cell? ⟨sb,0,none⟩ = some (.pointer (some ⟨fb,0,none⟩)) ∧ w'.cell? ⟨sb,2,none⟩ = some (.pointer (some ⟨lb,0,none⟩)))
      (first
        | go_keep
        | exact s7
        | exact sB
        | exact sA)
      (first
        | (go_at_call 66; (with_reducible refine (HNM.out _ ?_).mono ?_); (first | exact hb0 | exact HIb.out.2); rintro e wA ⟨rfl,sA,HBa⟩)
        | (go_at_call 83; (with_reducible refine (HIM.out _ ?_).mono ?_); (first | exact hb0 | exact HBa.out.1); rintro e wB ⟨ia,ic,rfl,sB,HIb⟩)
        | (go_at_call 82; (with_reducible refine (HLY.out _ _ ia ic HIb.out.2 HIb.out.1 HBa.out.1 _ (Below.refl _ _)).mono ?_); rintro e w7 ⟨rfl,s7,HK7⟩)
        | (go_at_call 82; (with_reducible refine (HLY.out _ _ ia ic HIb.out.2 HIb.out.1 hb0 _ HBa.out.2).mono ?_); rintro e w7 ⟨rfl,s7,HK7⟩))
    all_goals
     go_wp2_with (fail)
     go_meet
     exact ⟨rfl,HK7⟩
   case rest =>
    obtain ⟨rfl,HK7⟩:=hcut
    clear HLY HIM HNM c0 c1 c2 c3 hb0 HL5 HK5
    have c2 : wc.cell? ⟨x2,0,none⟩ = some (.int .i64 0):=blk_cell HK7.out.bx.b2 0
    have f2 : wc.frozen? ⟨x2,0,none⟩ = false:=blk_free HK7.out.bx.b2 0
    obtain ⟨c1,c3,c0,cl⟩:=HK7.out.cells
    by_cases hr : LY.2 = 0
    rotate_left
    ·have r0 : (LY.2 != 0) = true:=by simp [hr]
     have HEQ : Hid (RR = failS s LY.1 N LY.2 false):=hid (by rw [HCH.out]; unfold chk0; rw [if_pos hr])
     have HE:=hid (HK7.out.err HWW.out.1 HXL6.out.1 LY.2)
     clear hr
     go_wp2_with (fail)
     refine leaves_cons (f:=80) (args:=#[.pointer (some ⟨x1,0,none⟩),.pointer (some ⟨x2,0,none⟩),.pointer (some ⟨x6,0,none⟩),.pointer (some ⟨x3,0,none⟩)]) (by simp) (by simp [go_sem]) ?_
     refine (HE.out.fin (by have:=HC.out.1; omega) HWW.out.2 HC.out.2.1 HNB.out).mono ?_
     rintro e u' w9 ⟨rfl,rfl,hb9,hp9,he9⟩
     refine ⟨_,eres_cell rfl hb9 _ rfl,?_⟩
     rw [HEQ.out]
     exact ⟨by rw [he9],hp9.more (by omega)⟩
    have r0 : (LY.2 != 0) = false:=by simp [hr]
    have HCH1 : Hid (RR = chk1 s N (rotateL s.log LY.1)):=hid (by rw [HCH.out]; unfold chk0; rw [if_neg (by rw [hr]; simp)])
    clear hr HCH
    obtain ⟨T7,hl7,hp7,ht7⟩:=HK7.out.ex
    have HL7:=hid (And.intro hl7 (And.intro hp7 ht7))
    clear hl7 hp7 ht7
    go_wp2_with (fail)
    refine (w_rotate HL7.out.1 (by have:=HC.out.1; omega) (by have:=HC.out.2.2.1; omega)).mono ?_
    rintro e w8 ⟨rfl,hp8⟩
    obtain ⟨RT,hRT⟩ : ∃ x,x = rotateL s.log LY.1:=⟨_,rfl⟩
    rw [← hRT] at hp8 HCH1 ⊢
    have HK8:=hid (HK7.out.lg HL7.out.1 HL7.out.2.1 HL7.out.2.2 hp8)
    have HRT:=hid hRT
    clear hp8 hRT c2 f2 c1 c3 c0 cl HL7 HK7
    have c2 : w8.cell? ⟨x2,0,none⟩ = some (.int .i64 0):=blk_cell HK8.out.bx.b2 0
    have f2 : w8.frozen? ⟨x2,0,none⟩ = false:=blk_free HK8.out.bx.b2 0
    obtain ⟨c1,c3,c0,cl⟩:=HK8.out.cells
    by_cases hr : RT.2.2 = 0
    rotate_left
    ·have r1 : (RT.2.2 != 0) = true:=by simp [hr]
     have HEQ : Hid (RR = failS { s with log:=RT.1 } RT.2.1 N RT.2.2 false):=hid (by rw [HCH1.out]; unfold chk1; rw [if_pos hr])
     have HE:=hid (HK8.out.err HWW.out.1 HXL6.out.1 RT.2.2)
     clear hr
     go_wp2_with (fail)
     refine leaves_cons (f:=80) (args:=#[.pointer (some ⟨x1,0,none⟩),.pointer (some ⟨x2,0,none⟩),.pointer (some ⟨x6,0,none⟩),.pointer (some ⟨x3,0,none⟩)]) (by simp) (by simp [go_sem]) ?_
     refine (HE.out.fin (by have:=HC.out.1; omega) HWW.out.2 HC.out.2.1 HNB.out).mono ?_
     rintro e u' w9 ⟨rfl,rfl,hb9,hp9,he9⟩
     refine ⟨_,eres_cell rfl hb9 _ rfl,?_⟩
     rw [HEQ.out]
     exact ⟨by rw [he9],hp9.more (by omega)⟩
    have r1 : (RT.2.2 != 0) = false:=by simp [hr]
    obtain ⟨s2,hs2⟩ : ∃ x,x = ({ s with log:=RT.1 } : StS):=⟨_,rfl⟩
    have HS2 : Hid (s2.dir = s.dir ∧ s2.all = s.all ∧ s2.seq = s.seq):=hid (by rw [hs2]; exact ⟨rfl,rfl,rfl⟩)
    have HCH2 : Hid (RR = chk2 s2 N (laysR RT.2.1 (nmOf s.dir sNext) (frameOf (saidB N s2.log.last)))):=hid (by rw [HCH1.out,hs2]; unfold chk1; rw [if_neg (by rw [hr]; simp)])
    have HK8' : Hid (CkW w0 w fb S (k + 3 + 1) n lb sb tb s2 RT.2.1 x1 x2 x3 x6 0 N false w8):=hid (by rw [hs2]; exact HK8.out)
    have HS3 : Hid (s2.log.last ≤ 900 ∧ s2.log.dir.size ≤ 1000):=hid (by
     have h1:=rotate_last s.log LY.1
     rw [← HRT.out] at h1
     rw [hs2]
     refine ⟨by have:=HC.out.2.2.2.1; show RT.1.last ≤ 900; omega,?_⟩
     show RT.1.dir.size ≤ 1000
     rw [h1.2]
     exact HC.out.2.2.1)
    clear hr HCH1 HK8 hs2
    go_upto_region 17 with (fail)
    obtain ⟨la,hla⟩ : ∃ x,x = s2.log.last:=⟨_,rfl⟩
    have HLA:=hid hla
    rw [← hla] at HCH2
    clear hla
    obtain ⟨T8,hl8,hp8,ht8⟩:=HK8'.out.ex
    have HL8:=hid (And.intro hl8 (And.intro hp8 ht8))
    clear hl8 hp8 ht8
    have HNU1 : Hid (∀ V,Below w8.heap.size w8 V → Calls Tryz.prog 48 #[.slice none 0 0,.int .i64 (N : Int),.int .i64 8] V fun e w' => ∃ va vc,e = .returned (.slice va (lowN 8 N).length vc) ∧ CkC w' fb lb sb x1 x3 N ∧ Hid (FreshAt V w' (.slice va (lowN 8 N).length vc) (lowN 8 N) ∧ Below w8.heap.size w8 w')):=hid fun V hV => by
     refine (st_number (w:=V) (v:=.slice none 0 0) (xs:=[]) SlAt.nil (by simp) N (by have:=HNB.out; omega) 8 (by omega)).mono ?_
     rintro e w' ⟨v',rfl,hg⟩
     rw [List.nil_append] at hg
     obtain ⟨va,vc,rfl⟩:=hg.sl.shape
     have hb:=hV.trans (hg.new.below.mono hV.size)
     exact ⟨va,vc,rfl,(HK8'.out.below hb).cells,hid ⟨hg.new,hb⟩⟩
    have HSEG : Hid (∀ V,Below w8.heap.size w8 V → Calls Tryz.prog 72 #[.pointer (some ⟨lb,0,none⟩)] V fun e w' => e = .returned (.int .i64 (la : Int)) ∧ V = w'):=hid fun V hV => by
     rw [HLA.out]
     exact w_segment (HL8.out.1.below hV)
    have HNU2 : Hid (∀ V V1 va vc,Below w8.heap.size w8 V → FreshAt V V1 (.slice va (lowN 8 N).length vc) (lowN 8 N) → Below w8.heap.size w8 V1 → Calls Tryz.prog 48 #[.slice va (lowN 8 N).length vc,.int .i64 (la : Int),.int .i64 8] V1 fun e w' => ∃ vb vd,e = .returned (.slice vb (saidB N la).length vd) ∧ CkC w' fb lb sb x1 x3 N ∧ Hid (Below w8.heap.size w8 w' ∧ SlAt byteKind 5 w' (.slice vb (saidB N la).length vd) (saidB N la))):=hid fun V V1 va vc hV hf hV1 => by
     refine (st_number hf.sl (by rw [lowN_len]; omega) la (by have:=HS3.out.1; rw [HLA.out]; omega) 8 (by omega)).mono ?_
     rintro e w' ⟨v',rfl,hg⟩
     have he : lowN 8 N ++ lowN 8 la = saidB N la:=rfl
     rw [he] at hg
     obtain ⟨vb,vd,rfl⟩:=hg.sl.shape
     have hb : Below w8.heap.size w8 w':=below_keeps hV1 hg.keeps (fun i (e : _ = some i) => by have:=hf.new i e; have:=hV.size; omega) hV1.size
     exact ⟨vb,vd,rfl,(HK8'.out.below hb).cells,hid ⟨hb,hg.sl⟩⟩
    have hb0 : Below w8.heap.size w8 w8.drew:=(Below.refl _ _).drew
    go_cut [9] from 55 (fun v wx => ∃ vb vd,v = .slice vb (saidB N la).length vd ∧ Hid (Below w8.heap.size w8 wx ∧ SlAt byteKind 5 wx (.slice vb (saidB N la).length vd) (saidB N la)))
    case first =>
     go_region_held3 (fun w' => w'.cell? ⟨x1,0,none⟩ = some (.pointer (some ⟨sb,0,none⟩)) ∧ w'.cell? ⟨x3,0,none⟩ = some (.int .i64 (N : Int)) ∧ w'.cell? ⟨sb,0,none⟩ = some (.pointer (some ⟨fb,0,none⟩)) ∧ w'.cell? ⟨sb,2,none⟩ = some (.pointer (some ⟨lb,0,none⟩)))
       (first
         | go_keep
         | exact sB
         | exact sA)
       (first
         | (go_at_call 48; (with_reducible refine (HNU1.out _ ?_).mono ?_); exact hb0; rintro e wA ⟨va,vc,rfl,sA,HNa⟩)
         | (go_at_call 72; (with_reducible refine (HSEG.out _ ?_).mono ?_); (first | exact hb0 | exact HNa.out.2); rintro e wx ⟨rfl,rfl⟩)
         | (go_at_call 48; (with_reducible refine (HNU2.out _ _ va vc hb0 HNa.out.1 HNa.out.2).mono ?_); rintro e wB ⟨vb,vd,rfl,sB,HNb⟩))
     all_goals
      go_wp2_with (fail)
      go_meet
      exact ⟨vb,vd,rfl,HNb⟩
    case rest =>
     obtain ⟨vb,vd,rfl,hcc⟩:=hcut
     have HK9:=hid (HK8'.out.below hcc.out.1)
     have HSL9:=hid hcc.out.2
     clear hcc HNU1 HNU2 HSEG HL8 HK8' hb0 c0 c1 c2 c3 cl f2
     obtain ⟨T9,hl9,hp9,ht9⟩:=HK9.out.ex
     have HL9:=hid (And.intro hl9 (And.intro hp9 ht9))
     clear hl9 hp9 ht9
     obtain ⟨fr,hfr⟩ : ∃ x,x = frameOf (saidB N la):=⟨_,rfl⟩
     rw [← hfr] at HCH2
     have HNM : Hid (∀ V,Below wc.heap.size wc V → Calls Tryz.prog 65 #[.pointer (some ⟨sb,0,none⟩),.string sNext] V fun e w' => e = .returned (.string (nmOf s.dir sNext)) ∧ V = w'):=hid fun V hV => by
      rw [← HS2.out.1]
      exact st_name (HK9.out.below hV).st.blk (by have:=HC.out.2.1; show s2.dir.size ≤ _; rw [HS2.out.1]; omega) sNext (by decide)
     have HFR : Hid (∀ V,Below wc.heap.size wc V → Calls Tryz.prog 85 #[.slice vb (saidB N la).length vd] V fun e w' => ∃ ia ic,e = .returned (.slice ia fr.length ic) ∧ CkC w' fb lb sb x1 x3 N ∧ Hid (FreshAt V w' (.slice ia fr.length ic) fr ∧ Below wc.heap.size wc w')):=hid fun V hV => by
      refine (w_frame (HSL9.out.below hV).rd (by unfold saidB; rw [List.length_append,lowN_len,lowN_len]; omega)).mono ?_
      rintro e w' ⟨v,rfl,hf⟩
      rw [← hfr] at hf
      have hb2:=hV.trans (hf.below.mono hV.size)
      obtain ⟨ia,ic,rfl,-⟩:=hf.sl.rd
      exact ⟨ia,ic,rfl,(HK9.out.below hb2).cells,hid ⟨hf,hb2⟩⟩
     have hfl : fr.length ≤ 1000000000:=by rw [hfr,frameOf_len]; unfold saidB; rw [List.length_append,lowN_len,lowN_len]; omega
     have HFL:=hid hfl
     have HLY : Hid (∀ V V1 ia ic,Below wc.heap.size wc V1 → FreshAt V V1 (.slice ia fr.length ic) fr → Below wc.heap.size wc V → Calls Tryz.prog 82 #[.pointer (some ⟨sb,0,none⟩),.string (nmOf s.dir sNext),.slice ia fr.length ic] V1 fun e w' => e = .returned (.int .i64 (laysR RT.2.1 (nmOf s.dir sNext) fr).2) ∧ CkC w' fb lb sb x1 x3 N ∧ Hid (CkW w0 w fb S (k + 3 + 1 + 3) n lb sb tb s2 (laysR RT.2.1 (nmOf s.dir sNext) fr).1 x1 x2 x3 x6 0 N false w')):=hid fun V V1 ia ic hV1 hf hV => by
      refine (st_lays (HL9.out.1.hd.read hV1) (HL9.out.2.1.below HL9.out.1.hd.fs.lt hV1) (by have:=HC.out.1; omega) (HK9.out.below hV1).st.blk rfl (nmOf s.dir sNext) hf.sl.rd (fun g hg => ?_) HFL.out).mono ?_
      ·obtain ⟨cur,hb⟩:=hf.sl.own g hg
       have h1:=hf.new g hg
       have h2:=lt_of_block hb
       refine ⟨by omega,fun e => ?_⟩
       have h4:=HL9.out.1.hd.fs.lt g e
       have h5:=hV.size
       omega
      ·rintro e w' ⟨he,hw⟩
       have h1:=HK9.out.fs HL9.out.1 HL9.out.2.1 HL9.out.2.2 (hw.base hV1)
       exact ⟨he,h1.cells,hid h1⟩
     clear hfl hfr
     obtain ⟨LZ,hLZ⟩ : ∃ x,x = laysR RT.2.1 (nmOf s.dir sNext) fr:=⟨_,rfl⟩
     rw [← hLZ] at HLY HCH2
     clear hLZ
     have hb0 : Below wc.heap.size wc wc.drew:=(Below.refl _ _).drew
     obtain ⟨c1,c3,c0,cl⟩:=HK9.out.cells
     go_upto_region 18 with (fail)
     go_cut [10] from 63 (fun v wx => v = .int .i64 LZ.2 ∧ Hid (CkW w0 w fb S (k + 3 + 1 + 3) n lb sb tb s2 LZ.1 x1 x2 x3 x6 0 N false wx))
     case first =>
      go_region_held3 (fun w' => w'.cell? ⟨x1,0,none⟩ = some (.pointer (some ⟨sb,0,none⟩)) ∧ w'.cell? ⟨x3,0,none⟩ = some (.int .i64 (N : Int)) ∧ w'.cell? ⟨sb,0,none⟩ = some (.pointer (some ⟨fb,0,none⟩)) ∧ w'.cell? ⟨sb,2,none⟩ = some (.pointer (some ⟨lb,0,none⟩)))
        (first
          | go_keep
          | exact s7
          | exact sB)
        (first
          | (go_at_call 65; (with_reducible refine (HNM.out _ ?_).mono ?_); (first | exact hb0 | exact HIb.out.2); rintro e wA ⟨rfl,rfl⟩)
          | (go_at_call 85; (with_reducible refine (HFR.out _ ?_).mono ?_); exact hb0; rintro e wB ⟨ia,ic,rfl,sB,HIb⟩)
          | (go_at_call 82; (with_reducible refine (HLY.out _ _ ia ic HIb.out.2 HIb.out.1 hb0).mono ?_); rintro e w7 ⟨rfl,s7,HK7⟩))
      all_goals
       go_wp2_with (fail)
       go_meet
       exact ⟨rfl,HK7⟩
     case rest =>
      obtain ⟨rfl,HKA⟩:=hcut
      clear HLY HNM HFR c0 c1 c3 cl hb0 HL9 HK9 HSL9
      have c2 : wc.cell? ⟨x2,0,none⟩ = some (.int .i64 0):=blk_cell HKA.out.bx.b2 0
      have f2 : wc.frozen? ⟨x2,0,none⟩ = false:=blk_free HKA.out.bx.b2 0
      obtain ⟨c1,c3,c0,cl⟩:=HKA.out.cells
      by_cases hr : LZ.2 = 0
      rotate_left
      ·have r2 : (LZ.2 != 0) = true:=by simp [hr]
       have HEQ : Hid (RR = failS s2 LZ.1 N LZ.2 false):=hid (by rw [HCH2.out]; unfold chk2; rw [if_pos hr])
       have HE:=hid (HKA.out.err HWW.out.1 HXL6.out.1 LZ.2)
       clear hr
       go_wp2_with (fail)
       refine leaves_cons (f:=80) (args:=#[.pointer (some ⟨x1,0,none⟩),.pointer (some ⟨x2,0,none⟩),.pointer (some ⟨x6,0,none⟩),.pointer (some ⟨x3,0,none⟩)]) (by simp) (by simp [go_sem]) ?_
       refine (HE.out.fin (by have:=HC.out.1; omega) HWW.out.2 (by first | exact HC.out.2.1 | (rw [HS2.out.1]; exact HC.out.2.1)) HNB.out).mono ?_
       rintro e u' w9 ⟨rfl,rfl,hb9,hp9,he9⟩
       refine ⟨_,eres_cell rfl hb9 _ rfl,?_⟩
       rw [HEQ.out]
       exact ⟨by rw [he9],hp9.more (by omega)⟩
      have r2 : (LZ.2 != 0) = false:=by simp [hr]
      have HCH3 : Hid (RR = chk3 s2 N (LZ.1.rename (nmOf s.dir sNext) (nmOf s.dir sMan))):=hid (by rw [HCH2.out]; unfold chk2; rw [if_neg (by rw [hr]; simp),HS2.out.1])
      clear hr HCH2
      go_upto_region 21 with (fail)
      obtain ⟨TA,hlA,hpA,htA⟩:=HKA.out.ex
      have HLA2:=hid (And.intro hlA (And.intro hpA htA))
      clear hlA hpA htA
      have HNX : Hid (∀ V,Below wc.heap.size wc V → Calls Tryz.prog 65 #[.pointer (some ⟨sb,0,none⟩),.string sNext] V fun e w' => e = .returned (.string (nmOf s.dir sNext)) ∧ V = w'):=hid fun V hV => by
       rw [← HS2.out.1]
       exact st_name (HKA.out.below hV).st.blk (by have:=HC.out.2.1; show s2.dir.size ≤ _; rw [HS2.out.1]; omega) sNext (by decide)
      have HMX : Hid (∀ V,Below wc.heap.size wc V → Calls Tryz.prog 65 #[.pointer (some ⟨sb,0,none⟩),.string sMan] V fun e w' => e = .returned (.string (nmOf s.dir sMan)) ∧ V = w'):=hid fun V hV => by
       rw [← HS2.out.1]
       exact st_name (HKA.out.below hV).st.blk (by have:=HC.out.2.1; show s2.dir.size ≤ _; rw [HS2.out.1]; omega) sMan (by decide)
      have HRN : Hid (∀ V,Below wc.heap.size wc V → Calls Tryz.prog 86 #[.pointer (some ⟨fb,0,none⟩),.string (nmOf s.dir sNext),.string (nmOf s.dir sMan)] V fun e w' => e = .returned (.int .i64 (LZ.1.rename (nmOf s.dir sNext) (nmOf s.dir sMan)).2) ∧ CkC w' fb lb sb x1 x3 N ∧ Hid (CkW w0 w fb S (k + 3 + 1 + 3 + 1) n lb sb tb s2 (LZ.1.rename (nmOf s.dir sNext) (nmOf s.dir sMan)).1 x1 x2 x3 x6 0 N false w')):=hid fun V hV => by
       refine (d_rename (HLA2.out.1.hd.read hV) (by have:=HC.out.1; omega) (nmOf s.dir sNext) (nmOf s.dir sMan)).mono ?_
       rintro e w' ⟨he,hh,hkk⟩
       have h1:=HKA.out.fs HLA2.out.1 HLA2.out.2.1 HLA2.out.2.2 ((FwP.of hh hkk).base hV)
       exact ⟨he,h1.cells,hid h1⟩
      obtain ⟨RN,hRN⟩ : ∃ x,x = LZ.1.rename (nmOf s.dir sNext) (nmOf s.dir sMan):=⟨_,rfl⟩
      rw [← hRN] at HRN HCH3
      clear hRN
      have hb0 : Below wc.heap.size wc wc.drew:=(Below.refl _ _).drew
      go_cut [11] from 72 (fun v wx => v = .int .i64 RN.2 ∧ Hid (CkW w0 w fb S (k + 3 + 1 + 3 + 1) n lb sb tb s2 RN.1 x1 x2 x3 x6 0 N false wx))
      case first =>
       go_region_held3 (fun w' => w'.cell? ⟨x1,0,none⟩ = some (.pointer (some ⟨sb,0,none⟩)) ∧ w'.cell? ⟨x3,0,none⟩ = some (.int .i64 (N : Int)) ∧ w'.cell? ⟨sb,0,none⟩ = some (.pointer (some ⟨fb,0,none⟩)) ∧ w'.cell? ⟨sb,2,none⟩ = some (.pointer (some ⟨lb,0,none⟩)))
         (first
           | go_keep
           | exact s7)
         (first
           | (go_at_call 65; (with_reducible refine (HNX.out _ ?_).mono ?_); exact hb0; rintro e wA ⟨rfl,rfl⟩)
           | (go_at_call 65; (with_reducible refine (HMX.out _ ?_).mono ?_); exact hb0; rintro e wA ⟨rfl,rfl⟩)
           | (go_at_call 86; (with_reducible refine (HRN.out _ hb0).mono ?_); rintro e w7 ⟨rfl,s7,HK7⟩))
       all_goals
        go_wp2_with (fail)
        go_meet
        exact ⟨rfl,HK7⟩
      case rest =>
       obtain ⟨rfl,HKB⟩:=hcut
       clear HNX HMX HRN c0 c1 c3 cl hb0 HLA2 HKA c2 f2
       have c2 : wc.cell? ⟨x2,0,none⟩ = some (.int .i64 0):=blk_cell HKB.out.bx.b2 0
       have f2 : wc.frozen? ⟨x2,0,none⟩ = false:=blk_free HKB.out.bx.b2 0
       have HSD : Hid (s2.dir = s.dir ∧ True):=hid ⟨HS2.out.1,trivial⟩
       by_cases hr : RN.2 = 0
       rotate_left
       ·have r3 : (RN.2 != 0) = true:=by simp [hr]
        have HEQ : Hid (RR = failS s2 RN.1 N RN.2 false):=hid (by rw [HCH3.out]; unfold chk3; rw [if_pos hr])
        have HE:=hid (HKB.out.err HWW.out.1 HXL6.out.1 RN.2)
        clear hr
        go_wp2_with (fail)
        refine leaves_cons (f:=80) (args:=#[.pointer (some ⟨x1,0,none⟩),.pointer (some ⟨x2,0,none⟩),.pointer (some ⟨x6,0,none⟩),.pointer (some ⟨x3,0,none⟩)]) (by simp) (by simp [go_sem]) ?_
        refine (HE.out.fin (by have:=HC.out.1; omega) HWW.out.2 (by rw [HSD.out.1]; exact HC.out.2.1) HNB.out).mono ?_
        rintro e u' w9 ⟨rfl,rfl,hb9,hp9,he9⟩
        refine ⟨_,eres_cell rfl hb9 _ rfl,?_⟩
        rw [HEQ.out]
        exact ⟨by rw [he9],hp9.more (by omega)⟩
       have r3 : (RN.2 != 0) = false:=by simp [hr]
       obtain ⟨s3,hs3⟩ : ∃ x,x = ({ s2 with base:=N } : StS):=⟨_,rfl⟩
       have HS3b : Hid (s3.dir = s.dir ∧ s3.log = s2.log ∧ s3.base = N):=hid (by rw [hs3]; exact ⟨HS2.out.1,rfl,rfl⟩)
       have HCH4 : Hid (RR = chk4 s3 N (cleanR s.dir N (namesL (dirOf s.dir) RN.1.files) RN.1)):=hid (by rw [HCH3.out,hs3]; unfold chk3; rw [if_neg (by rw [hr]; simp),HS2.out.1])
       have hdone:=HKB.out.did HWW.out.1 HXL6.out.2 true
       have c6 : wc.cell? ⟨x6,0,none⟩ = some (.bool false):=blk_cell HKB.out.bx.b6 0
       have f6 : wc.frozen? ⟨x6,0,none⟩ = false:=blk_free HKB.out.bx.b6 0
       obtain ⟨w10,hw10⟩ : ∃ x,x = wc.setCell ⟨x6,0,none⟩ (.bool true):=⟨_,rfl⟩
       have HW10 : Hid (wc.setCell ⟨x6,0,none⟩ (.bool true) = w10):=hid hw10.symm
       rw [← hw10] at hdone
       have HK10:=hid hdone
       clear hr HCH3 hdone hw10 c2 f2
       go_upto_region 25 with (fail)
       rw [HW10.out]
       clear c6 f6 HW10
       obtain ⟨c1,c3,c0,cl⟩:=HK10.out.cells
       have cb : w10.cell? ⟨sb,3,none⟩ = some (.int .i64 (s2.base : Int)):=blk_cell HK10.out.st.blk 3
       have fb3 : w10.frozen? ⟨sb,3,none⟩ = false:=blk_free HK10.out.st.blk 3
       have hbase:=HK10.out.base HWW.out.2.1 N
       rw [← hs3] at hbase
       obtain ⟨w11,hw11⟩ : ∃ x,x = w10.setCell ⟨sb,3,none⟩ (.int .i64 (N : Int)):=⟨_,rfl⟩
       have HW11 : Hid (w10.setCell ⟨sb,3,none⟩ (.int .i64 (N : Int)) = w11):=hid hw11.symm
       rw [← hw11] at hbase
       have HK11:=hid hbase
       clear hbase hw11 hs3
       go_upto_region 26 with (fail)
       rw [HW11.out]
       clear c0 c1 c3 cl cb fb3 HW11
       obtain ⟨c1,c3,c0,cl⟩:=HK11.out.cells
       obtain ⟨TB,hlB,hpB,htB⟩:=HK11.out.ex
       have HLB:=hid (And.intro hlB (And.intro hpB htB))
       clear hlB hpB htB
       go_wp2_with (fail)
       refine (st_clean HLB.out.1.hd HLB.out.2.1 HK11.out.st rfl rfl (by have:=HC.out.2.1; show s3.dir.size ≤ _; rw [HS3b.out.1]; omega) (by have:=HC.out.1; omega)).mono ?_
       rintro e wD ⟨rfl,hcl⟩
       obtain ⟨CL,hCL⟩ : ∃ x,x = cleanR s.dir N (namesL (dirOf s.dir) RN.1.files) RN.1:=⟨_,rfl⟩
       have hCL2 : cleanR (StC.dir ⟨fb,s3.dir,some ⟨lb,0,none⟩,(s3.base : Int),s3.stuck,tb,(s3.seq : Int)⟩) s3.base (namesL (dirOf (StC.dir ⟨fb,s3.dir,some ⟨lb,0,none⟩,(s3.base : Int),s3.stuck,tb,(s3.seq : Int)⟩)) RN.1.files) RN.1 = CL:=by rw [hCL,HS3b.out.2.2]; show cleanR s3.dir N (namesL (dirOf s3.dir) RN.1.files) RN.1 = _; rw [HS3b.out.1]
       rw [hCL2] at hcl ⊢
       rw [← hCL] at HCH4
       have HKD:=hid (HK11.out.fs HLB.out.1 HLB.out.2.1 HLB.out.2.2 ⟨hcl.ex,hcl.keeps⟩)
       clear hCL hCL2 hcl c0 c1 c3 cl HLB HK11 HK10 HKB
       have c2 : wD.cell? ⟨x2,0,none⟩ = some (.int .i64 0):=blk_cell HKD.out.bx.b2 0
       have f2 : wD.frozen? ⟨x2,0,none⟩ = false:=blk_free HKD.out.bx.b2 0
       by_cases hr : CL.2 = 0
       rotate_left
       ·have r4 : (CL.2 != 0) = true:=by simp [hr]
        have HEQ : Hid (RR = failS s3 CL.1 N CL.2 true):=hid (by rw [HCH4.out]; unfold chk4; rw [if_pos hr])
        have HE:=hid (HKD.out.err HWW.out.1 HXL6.out.1 CL.2)
        clear hr
        go_wp2_with (fail)
        refine leaves_cons (f:=80) (args:=#[.pointer (some ⟨x1,0,none⟩),.pointer (some ⟨x2,0,none⟩),.pointer (some ⟨x6,0,none⟩),.pointer (some ⟨x3,0,none⟩)]) (by simp) (by simp [go_sem]) ?_
        refine (HE.out.fin (by have:=HC.out.1; omega) HWW.out.2 (by show s3.dir.size ≤ 900; rw [HS3b.out.1]; exact HC.out.2.1) HNB.out).mono ?_
        rintro e u' w9 ⟨rfl,rfl,hb9,hp9,he9⟩
        refine ⟨_,eres_cell rfl hb9 _ rfl,?_⟩
        rw [HEQ.out]
        exact ⟨by rw [he9],hp9.more (by omega)⟩
       have r4 : (CL.2 != 0) = false:=by simp [hr]
       have HCH5 : Hid (RR = chk5 s3 N (dropLg s3.log CL.1 s3.log.last)):=hid (by rw [HCH4.out]; unfold chk4; rw [if_neg (by rw [hr]; simp)])
       clear hr HCH4
       obtain ⟨TD,hlD,hpD,htD⟩:=HKD.out.ex
       have HLD:=hid (And.intro hlD (And.intro hpD htD))
       clear hlD hpD htD
       obtain ⟨lc,hlc⟩ : ∃ x,x = s3.log.last:=⟨_,rfl⟩
       have HLC:=hid hlc
       rw [← hlc] at HCH5
       clear hlc
       have HSEG : Hid (∀ V,Below wD.heap.size wD V → Calls Tryz.prog 72 #[.pointer (some ⟨lb,0,none⟩)] V fun e w' => e = .returned (.int .i64 (lc : Int)) ∧ V = w'):=hid fun V hV => by
        rw [HLC.out]
        exact w_segment (HLD.out.1.below hV)
       have HDR : Hid (∀ V,Below wD.heap.size wD V → Calls Tryz.prog 71 #[.pointer (some ⟨lb,0,none⟩),.int .i64 (lc : Int)] V fun e w' => e = .returned (.int .i64 (dropLg s3.log CL.1 lc).2.2) ∧ w'.cell? ⟨x2,0,none⟩ = some (.int .i64 0) ∧ w'.frozen? ⟨x2,0,none⟩ = false ∧ CkC w' fb lb sb x1 x3 N ∧ Hid (CkW w0 w fb S (k + 3 + 1 + 3 + 1 + 400 + 1001) n lb sb tb { s3 with log:=(dropLg s3.log CL.1 lc).1 } (dropLg s3.log CL.1 lc).2.1 x1 x2 x3 x6 0 N true w')):=hid fun V hV => by
        refine (w_drop (HLD.out.1.below hV) (by have:=HC.out.1; omega) (by have:=HS3.out.2; rw [HS3b.out.2.1]; omega) (by have:=HS3.out.1; rw [HS3b.out.2.1]; omega) (lc : Int)).mono ?_
        rintro e w' ⟨he,hq⟩
        have h1:=(HKD.out.below hV).lg (HLD.out.1.below hV) (HLD.out.2.1.below HLD.out.1.hd.fs.lt hV) HLD.out.2.2 hq
        exact ⟨he,blk_cell h1.bx.b2 0,blk_free h1.bx.b2 0,h1.cells,hid h1⟩
       obtain ⟨DG,hDG⟩ : ∃ x,x = dropLg s3.log CL.1 lc:=⟨_,rfl⟩
       rw [← hDG] at HDR HCH5
       clear hDG
       have hb0 : Below wD.heap.size wD wD.drew:=(Below.refl _ _).drew
       obtain ⟨c1,c3,c0,cl⟩:=HKD.out.cells
       go_upto_region 29 with (fail)
       have hT0 : (fun X : World => X.cell? ⟨x1,0,none⟩ = some (.pointer (some ⟨sb,0,none⟩)) ∧ X.cell? ⟨sb,2,none⟩ = some (.pointer (some ⟨lb,0,none⟩))) wD.drew:=⟨c1,cl⟩
       refine wp_region_noPanic ?_
       refine wp_region_B (T:=fun X : World => X.cell? ⟨x1,0,none⟩ = some (.pointer (some ⟨sb,0,none⟩)) ∧ X.cell? ⟨sb,2,none⟩ = some (.pointer (some ⟨lb,0,none⟩))) (B:=fun i => i != 10) (by kernel_rfl) ?_
       have HBV : Hid (Below wD.heap.size wD wD.drew):=hid hb0
       generalize wD.drew = V at hT0 HBV ⊢
       refine wpAnyB_load (i:=0) (oi:=⟨some 93,.load 49 (.tmp 1),49,"store.go:310",#[],none⟩) (v:=?zv0) rfl (by kernel_rfl) (by kernel_rfl) (by kernel_rfl) (by kernel_rfl) (fun _ _ _ h => h) (Or.inl ⟨by kernel_rfl,?zy0⟩) (by assumption) ?zs0
       case zy0 => (intro w hSw; obtain ⟨u0,u1⟩:=hSw; go_simp) <;> with_reducible rfl
       try go_frame
       refine wpAnyB_take (i:=1) (oi:=⟨some 94,.nilCheck (.tmp 93),0,"store.go:310",#[⟨0,.data⟩],none⟩) (v:=?zv1) rfl (by kernel_rfl) (by kernel_rfl) (by kernel_rfl) (fun _ _ _ h => h) (Or.inl ⟨by kernel_rfl,?zy1⟩) ?zs1
       case zy1 => (intro w; go_simp) <;> with_reducible rfl
       try go_frame
       refine wpAnyB_take (i:=2) (oi:=⟨some 95,.fieldAddr 126 (.tmp 94) 2,0,"store.go:310",#[⟨1,.data⟩],none⟩) (v:=?zv2) rfl (by kernel_rfl) (by kernel_rfl) (by kernel_rfl) (fun _ _ _ h => h) (Or.inl ⟨by kernel_rfl,?zy2⟩) ?zs2
       case zy2 => (intro w; go_simp) <;> with_reducible rfl
       try go_frame
       refine wpAnyB_load (i:=3) (oi:=⟨some 96,.load 112 (.tmp 95),112,"store.go:310",#[⟨2,.data⟩],none⟩) (v:=?zv3) rfl (by kernel_rfl) (by kernel_rfl) (by kernel_rfl) (by kernel_rfl) (fun _ _ _ h => h) (Or.inl ⟨by kernel_rfl,?zy3⟩) (by assumption) ?zs3
       case zy3 => (intro w hSw; obtain ⟨u0,u1⟩:=hSw; go_simp) <;> with_reducible rfl
       try go_frame
       refine wpAnyB_load (i:=4) (oi:=⟨some 97,.load 49 (.tmp 1),49,"store.go:310",#[],none⟩) (v:=?zv4) rfl (by kernel_rfl) (by kernel_rfl) (by kernel_rfl) (by kernel_rfl) (fun _ _ _ h => h) (Or.inl ⟨by kernel_rfl,?zy4⟩) (by assumption) ?zs4
       case zy4 => (intro w hSw; obtain ⟨u0,u1⟩:=hSw; go_simp) <;> with_reducible rfl
       try go_frame
       refine wpAnyB_take (i:=5) (oi:=⟨some 98,.nilCheck (.tmp 97),0,"store.go:310",#[⟨4,.data⟩],none⟩) (v:=?zv5) rfl (by kernel_rfl) (by kernel_rfl) (by kernel_rfl) (fun _ _ _ h => h) (Or.inl ⟨by kernel_rfl,?zy5⟩) ?zs5
       case zy5 => (intro w; go_simp) <;> with_reducible rfl
       try go_frame
       refine wpAnyB_take (i:=6) (oi:=⟨some 99,.fieldAddr 126 (.tmp 98) 2,0,"store.go:310",#[⟨5,.data⟩],none⟩) (v:=?zv6) rfl (by kernel_rfl) (by kernel_rfl) (by kernel_rfl) (fun _ _ _ h => h) (Or.inl ⟨by kernel_rfl,?zy6⟩) ?zs6
       case zy6 => (intro w; go_simp) <;> with_reducible rfl
       try go_frame
       refine wpAnyB_load (i:=7) (oi:=⟨some 100,.load 112 (.tmp 99),112,"store.go:310",#[⟨6,.data⟩],none⟩) (v:=?zv7) rfl (by kernel_rfl) (by kernel_rfl) (by kernel_rfl) (by kernel_rfl) (fun _ _ _ h => h) (Or.inl ⟨by kernel_rfl,?zy7⟩) (by assumption) ?zs7
       case zy7 => (intro w hSw; obtain ⟨u0,u1⟩:=hSw; go_simp) <;> with_reducible rfl
       try go_frame
       refine wpAnyB_ready (rs:=[8]) (by kernel_rfl) (by simp) ?_
       refine AllReadyB.cons (o:=⟨some 101,.call ⟨.value (.func 72),#[.tmp 100],#[112]⟩,3,"store.go:310",#[⟨7,.data⟩],none⟩) rfl (fun K hK => ?_) AllReadyB.nil
       go_simp
       go_at_call 72
       refine (HSEG.out _ HBV.out).mono ?_
       rintro e X1 ⟨rfl,rfl⟩
       refine hK.out _ _ (fun _ h => h) ?_
       clear hK K
       try go_frame
       refine wpAnyB_ready (rs:=[9]) (by kernel_rfl) (by simp) ?_
       refine AllReadyB.cons (o:=⟨some 102,.call ⟨.value (.func 71),#[.tmp 96,.tmp 101],#[112,3]⟩,27,"store.go:310",#[⟨3,.data⟩,⟨8,.data⟩,⟨8,.chain⟩],none⟩) rfl (fun K hK => ?_) AllReadyB.nil
       go_simp
       go_at_call 71
       refine (HDR.out _ HBV.out).mono ?_
       rintro e wE ⟨rfl,d2,g2,dc,HKE⟩
       refine hK.out _ _ (fun _ _ => ⟨dc.1,dc.2.2.2⟩) ?_
       clear hK K
       try go_frame
       refine wpAnyB_ready (rs:=[10]) (by kernel_rfl) (by simp) ?_
       refine AllReadyB.cons (o:=⟨none,.store 27 (.tmp 2) (.tmp 102),0,"store.go:310",#[⟨9,.data⟩,⟨9,.chain⟩,⟨0,.phase⟩,⟨1,.phase⟩,⟨2,.phase⟩,⟨3,.phase⟩,⟨4,.phase⟩,⟨5,.phase⟩,⟨6,.phase⟩,⟨7,.phase⟩,⟨8,.phase⟩,⟨9,.phase⟩],none⟩) rfl (fun K hK => ?_) AllReadyB.nil
       go_simp
       refine hK.out _ _ (fun h => by simp at h) ?_
       clear hK K
       try go_frame
       refine wpAnyB_done (by kernel_rfl) ?_ _
       simp only [NoPanic]
       have HEQ : Hid (RR = failS { s3 with log:=DG.1 } DG.2.1 N DG.2.2 true):=hid (by rw [HCH5.out]; rfl)
       have HE:=hid (HKE.out.err HWW.out.1 HXL6.out.1 DG.2.2)
       go_wp2_with (fail)
       refine leaves_cons (f:=80) (args:=#[.pointer (some ⟨x1,0,none⟩),.pointer (some ⟨x2,0,none⟩),.pointer (some ⟨x6,0,none⟩),.pointer (some ⟨x3,0,none⟩)]) (by simp) (by simp [go_sem]) ?_
       refine (HE.out.fin (by have:=HC.out.1; omega) HWW.out.2 (by show s3.dir.size ≤ 900; rw [HS3b.out.1]; exact HC.out.2.1) HNB.out).mono ?_
       rintro e u' w9 ⟨rfl,rfl,hb9,hp9,he9⟩
       refine ⟨_,eres_cell rfl hb9 _ rfl,?_⟩
       rw [HEQ.out]
       exact ⟨by rw [he9],hp9.more (by omega)⟩
end
end Go.Proofs.YtagdchgkjjpacaaGreat
