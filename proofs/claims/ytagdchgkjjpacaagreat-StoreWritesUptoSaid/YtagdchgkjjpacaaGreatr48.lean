/- The walk of the statement StoreWrites. -/
import Derived.Test.YtagdchgkjjpacaaGreatr47
import Derived.LoopIn
import Derived.StillTailTactics
import Derived.BigQuiet
import Derived.Deep.CutBlock
set_option maxRecDepth 100000
open Go.Lib (hid)
set_option linter.unusedSimpArgs false
set_option linter.unusedVariables false
set_option linter.unusedSectionVars false
namespace Go.Proofs.YtagdchgkjjpacaaGreat
open Go.RowKit Go.Shelf
attribute [local go_sem] Oper.semAt_some
theorem open_range {w0 w : World} {fb k : Nat} {F : FsS} {S : Nat → Prop} {size : Int} (h : Hd w0 w fb F k S) (hk : k < 700000) (hs : size < 16 ∨ 1048576 < size) :
 Calls Tryz.prog 24 #[.pointer (some ⟨fb,0,none⟩),.string nmDb,.agg #[.int .i64 size]] w fun e w' => e = .returned (.tuple #[.pointer none,.int .i64 6]) ∧ Below w0.heap.size w0 w' ∧ KeepQ w w':=by
 have hl : (openL F (nmOf nmDb sLog) size).2.2.2 ≠ 0:=by
  unfold openL
  rw [if_neg (by simp [dirS_db.seg 1]),if_pos hs]
  simp
 have hS : openS F nmDb size = (F,none,6):=by
  unfold openS
  rw [if_neg (by simp [dirS_db.seg 1,dirS_db.base 1]),if_pos hs]
 refine (st_open2 h.ps (PS.pure _ _) hk nmDb (by have:=dirS_db.small; omega) size (fun h0 => absurd h0 hl)).mono ?_
 rw [hS]
 rintro e w' ⟨hk,⟨s,lb,sb,tb,T,e1,_⟩ | ⟨-,-,e3,T,-,h5,-⟩⟩
 ·cases e1
 ·exact ⟨e3,h5.below,KeepQ.pure (PS.pure _ _) hk⟩
structure WtX (w : World) (N wb : Nat) (lo hi : ByteArray) (pv : Value) (M : Prs) (wr : World) : Prop where
 z0 : IsBlk wr N #[.string lo] 9
 z1 : IsBlk wr (N + 1) #[.string hi] 9
 z2 : IsBlk wr (N + 2) #[.bool false] 4
 zw : IsBlk wr wb #[pv] 64
 sl : SlAt prKind 85 wr pv M
 own : ∀ g,pv.ownBlock = some g → w.heap.size ≤ g
theorem WtX.keep {w : World} {N wb : Nat} {lo hi : ByteArray} {pv : Value} {M : Prs} {wr w' : World} (h : WtX w N wb lo hi pv M wr) (k : KeepQ wr w') : WtX w N wb lo hi pv M w' :=
 ⟨k _ _ _ h.z0 (by decide),k _ _ _ h.z1 (by decide),k _ _ _ h.z2 (by decide),k _ _ _ h.zw (by decide),k.sl h.sl,h.own⟩
theorem marked_of {P : Program} {fn : Func} {tmps : Array Value} {R : Ending → World → Prop} : ∀ (bs : List Nat) (W : World),(∀ b ∈ bs,W.heap[b]? = some (.deferred (some []))) → bs.Nodup →
 (∀ W',Keeps (fun k => k ∈ bs) W W' → ∃ v,(results fn tmps).run P W' = .ok v W' ∧ R (.returned v) W') → Marked P fn tmps R bs W
 | [],W,_,_,h => h W (Keeps.refl _ _)
 | b :: bs,W,hb,hn,h => by
   have hn:=List.nodup_cons.1 hn
   refine ⟨hb b (by simp),marked_of bs _ (fun c hc => (World.putObj_heap_other (fun e => by subst e; exact hn.1 hc)).trans (hb c (by simp [hc]))) hn.2 fun W' hk => h W' ?_⟩
   exact ((keeps_putObj W b (.deferred none)).mono (fun k _ e => by subst e; exact List.mem_cons_self)).trans (hk.mono (fun k _ e => List.mem_cons_of_mem _ e)) (fun _ _ e => e)
theorem wt_end {w W : World} {N : Nat} (bs : List Nat) (tmps : Array Value) (hN : w.heap.size ≤ N) (hm : ∀ b ∈ bs,W.heap[b]? = some (.deferred (some [])) ∧ N + 3 ≤ b) (hn : bs.Nodup) (hB : Below w.heap.size w W)
 (h2 : IsBlk W (N + 2) #[.bool true] 4) (h10 : tmps[10]? = some (.pointer (some ⟨N + 2,0,none⟩)):=by rfl) :
 bodyPostM Fence.wide 0 Tryz.prog Tryz.f9 (fun e w' => e = .returned (.bool true) ∧ Below w.heap.size w w') Exit.ret { tmps:=tmps,defers:=bs.map fun b => { target:=.collected b,args:=#[] } } W:=by
 refine leaves_of_marked bs W (marked_of bs W (fun b hb => (hm b hb).1) hn fun W' hk => ?_)
 have c:=blk_cell (hk.obj h2 (fun hb => by have:=(hm _ hb).2; omega)) 0
 have c' : W'.cell? ⟨N + 2,0,none⟩ = some (.bool true):=c
 exact ⟨.bool true,by simp [results,Tryz.results9,go_sem,h10,c'],rfl,below_keeps hB hk (fun k hk => by have:=(hm _ hk).2; omega) hB.size⟩
def KeepR (W W' : World) : Prop:=∀ T : TypeId,T ∈ [188,9,79,150,110,49] → KeepT T W W'
theorem KeepR.refl (W : World) : KeepR W W:=fun T _ => KeepT.refl T W
theorem KeepR.trans {A B C : World} (h : KeepR A B) (k : KeepR B C) : KeepR A C:=fun T hT => (h T hT).trans (k T hT)
theorem KeepR.w {A B : World} (h : KeepR A B) : Ss.KeepW A B:=fun T hT => h T (List.mem_append_left [49] hT)
theorem KeepR.str {A B : World} (h : KeepR A B) : KeepT 9 A B:=h 9 (by simp)
theorem KeepR.store {A B : World} (h : KeepR A B) : KeepT 49 A B:=h 49 (by simp)
theorem keepR_put {W : World} {l : Nat} {r : Loop} (o : Obj) (h : W.heap[l]? = some (.loop r)) : KeepR W (W.putObj l o):=by
 intro T _ b cs hb
 have hne : b ≠ l:=by
  rintro rfl
  have:=h.symm.trans hb
  simp at this
 exact (World.putObj_heap_other hne).trans hb
theorem keepR_keeps {S : Nat → Prop} {A B : World} (h : Keeps S A B) (hS : ∀ T,T ∈ [188,9,79,150,110,49] → ∀ b cs,IsBlk A b cs T → ¬ S b) : KeepR A B :=
 fun T hT => KeepT.of_keeps h (hS T hT)
theorem egSoRange1 : ∀ args w,(callFunc 98 args).run Tryz.prog w = .ok (.enter 98 args) w:=enters_of Tryz.func98 (P:=Tryz.prog) (by kernel_rfl) rfl
theorem iter_soRange {w : World} {bb bl bh sb n : Nat} {c : StC} {m : Prs} {lo hi : ByteArray} (hrise : Rise slt m) (hb : IsBlk w bb #[.pointer (some ⟨sb,0,none⟩)] 49) (hl : IsBlk w bl #[.string lo] 9) (hh : IsBlk w bh #[.string hi] 9) (hs : StB w sb c m n) :
 IterC Tryz.prog 98 #[.pointer (some ⟨bb,0,none⟩),.pointer (some ⟨bl,0,none⟩),.pointer (some ⟨bh,0,none⟩)] Ss.encKV KeepR (Ss.rangeL lo hi m) w:=by
 intro l J Jx W hW hg hr h0
 have b1 : IsBlk W bb #[.pointer (some ⟨sb,0,none⟩)] 49:=(hW.block _ (lt_of_block hb)).trans hb
 have b2 : IsBlk W bl #[.string lo] 9:=(hW.block _ (lt_of_block hl)).trans hl
 have b3 : IsBlk W bh #[.string hi] 9:=(hW.block _ (lt_of_block hh)).trans hh
 have H : Ss.SeqIn l (fun ys B => J ys B ∧ IsBlk B bb #[.pointer (some ⟨sb,0,none⟩)] 49 ∧ IsBlk B bl #[.string lo] 9 ∧ IsBlk B bh #[.string hi] 9) (fun ys B => Jx ys B ∧ IsBlk B bb #[.pointer (some ⟨sb,0,none⟩)] 49 ∧ IsBlk B bl #[.string lo] 9 ∧ IsBlk B bh #[.string hi] 9) (Ss.rangeL lo hi m) :=
  ⟨fun ys A B ⟨h1,h2,h3,h4⟩ hk => ⟨hg _ _ _ h1 hk,(hk.block _ (lt_of_block h2)).trans h2,(hk.block _ (lt_of_block h3)).trans h3,(hk.block _ (lt_of_block h4)).trans h4⟩,
    fun pre x A ⟨h1,h2,h3,h4⟩ hp => by
     obtain ⟨fn,tmps,assign,body,hy,hR⟩:=hr pre x A h1 hp
     refine ⟨fn,tmps,assign,body,hy,hR.mono ?_⟩
     rintro e B (⟨he,hj,hk⟩ | ⟨he,hj,hk⟩)
     ·exact .inl ⟨he,⟨hj,hk.store _ _ h2,hk.str _ _ h3,hk.str _ _ h4⟩,hk.w⟩
     ·exact .inr ⟨he,⟨hj,hk.store _ _ h2,hk.str _ _ h3,hk.str _ _ h4⟩,hk.w⟩⟩
 refine (q_soRange l _ _ lo hi hrise H bb bl bh W b1 b2 b3 (fun ys B h => h.elim (fun h => h.2) (fun h => h.2)) (hs.below hW) ⟨h0,b1,b2,b3⟩).mono ?_
 rintro e B ⟨he,h⟩
 exact ⟨he,h.imp (fun h => h.1) (fun ⟨q,hq,h⟩ => ⟨q,hq,h.1⟩)⟩
theorem soRange_blocks (w : World) (sb : Nat) (lo hi : ByteArray) (w' : World) (h : w' = ((w.alloc (.cells #[.pointer (some ⟨sb,0,none⟩)] 49)).alloc (.cells #[.string lo] 9)).alloc (.cells #[.string hi] 9)) :
 Below w.heap.size w w' ∧ IsBlk w' w.heap.size #[.pointer (some ⟨sb,0,none⟩)] 49 ∧ IsBlk w' (w.heap.size + 1) #[.string lo] 9 ∧ IsBlk w' (w.heap.size + 1 + 1) #[.string hi] 9 ∧ w'.heap.size = w.heap.size + 3:=by
 subst h
 have q1:=blk_new (w.alloc (.cells #[.pointer (some ⟨sb,0,none⟩)] 49)) (.cells #[.string lo] 9)
 have q2:=blk_new ((w.alloc (.cells #[.pointer (some ⟨sb,0,none⟩)] 49)).alloc (.cells #[.string lo] 9)) (.cells #[.string hi] 9)
 rw [World.size_alloc] at q1
 rw [World.size_alloc,World.size_alloc] at q2
 exact ⟨(((Below.refl _ _).alloc (Nat.le_refl _) _).alloc (by simp) _).alloc (by simp; omega) _,blk_alloc (blk_alloc (blk_new w _)),blk_alloc q1,q2,by simp⟩
structure RwI (w : World) (N wb ib : Nat) (lo hi : ByteArray) (pv : Value) (M : Prs) (j : Int) (wr : World) : Prop where
 x : WtX w N wb lo hi pv M wr
 zi : IsBlk wr ib #[.int .i64 j] 3
 low : Below w.heap.size w wr
theorem WtX.keeps {w : World} {N wb : Nat} {lo hi : ByteArray} {pv : Value} {M : Prs} {A B : World} {S : Nat → Prop} (h : WtX w N wb lo hi pv M A) (hk : Keeps S A B) (hS : ∀ b cs T,IsBlk A b cs T → T ∈ [85,64,9,4] → ¬ S b) : WtX w N wb lo hi pv M B :=
 ⟨hk.obj h.z0 (hS _ _ _ h.z0 (by decide)),hk.obj h.z1 (hS _ _ _ h.z1 (by decide)),hk.obj h.z2 (hS _ _ _ h.z2 (by decide)),hk.obj h.zw (hS _ _ _ h.zw (by decide)),h.sl.keeps hk (fun g hg => by
  obtain ⟨cs,hcs⟩:=h.sl.own g hg
  exact hS _ _ _ hcs (by decide)),h.own⟩
section
variable {w : World} {N wb ib : Nat} {lo hi : ByteArray} {pv : Value} {M : Prs} {j : Int} {A B : World}
theorem RwI.loop (h : RwI w N wb ib lo hi pv M j A) {l : Nat} (hk : Keeps (LoopAt l A) A B) (hl : w.heap.size ≤ l) : RwI w N wb ib lo hi pv M j B :=
 ⟨h.x.keeps hk fun b cs T hb _ => loopAt_not hb,hk.obj h.zi (loopAt_not h.zi),below_keeps h.low hk (fun k e => by have:=e.1; omega) h.low.size⟩
theorem RwI.ext (h : RwI w N wb ib lo hi pv M j A) (hk : Below A.heap.size A B) : RwI w N wb ib lo hi pv M j B :=
 ⟨h.x.keep (KeepQ.below hk),(hk.block _ (lt_of_block h.zi)).trans h.zi,h.low.trans (hk.mono h.low.size)⟩
theorem RwI.set (h : RwI w N wb ib lo hi pv M j A) (hi' : w.heap.size ≤ ib) (z : Int) : RwI w N wb ib lo hi pv M z (A.setCell ⟨ib,0,none⟩ (.int .i64 z)):=by
 have hk : Keeps (Only ib) A (A.setCell ⟨ib,0,none⟩ (.int .i64 z)):=keeps_set _ _ _ _
 exact ⟨h.x.keeps hk fun b cs T hb hT e => by
  have e : b = ib:=e
  subst e
  exact blk_ne_type hb h.zi (fun e => by subst e; revert hT; decide) rfl,blk_set h.zi 0 _,h.low.setCell (p:=⟨ib,0,none⟩) hi' _⟩
theorem RwI.r (h : RwI w N wb ib lo hi pv M j A) (z : Int) : KeepR A (A.setCell ⟨ib,0,none⟩ (.int .i64 z)) :=
 keepR_keeps (keeps_set _ _ _ _) fun T hT b cs hb e => by
  have e : b = ib:=e
  subst e
  exact blk_ne_type hb h.zi (fun e => by subst e; revert hT; decide) rfl
end
def numAt (W : World) (b : Nat) : Nat:=match W.cell? ⟨b,0,none⟩ with
 | some x => (intOf x).toNat
 | none => 0
theorem numAt_eq {W : World} {b : Nat} {i : Nat} {T : TypeId} (h : IsBlk W b #[.int .i64 (i : Int)] T) : numAt W b = i:=by
 have c : W.cell? ⟨b,0,none⟩ = some (.int .i64 (i : Int)):=blk_cell h 0
 simp [numAt,c,intOf]
section
variable {w : World}
set_option maxHeartbeats 16000000 in
theorem l_storeWrites {u : Value} {ls : List (List Chg)} (hl : BatsAt w u ls) (size : Int) {v2 : Value} {ks : List Int} (hk : IntsAt w v2 ks) (hkl : ks.length ≤ maxLen) (lo hi : ByteArray) :
 Calls Tryz.prog 9 #[.int .i64 size,u,v2,.string lo,.string hi] w fun e w' => e = .returned (.bool true) ∧ Below w.heap.size w w':=by
 obtain ⟨a0,c0,rfl⟩:=hl.shape
 obtain ⟨a2,c2,rfl,-⟩:=id hk
 have HL:=hid hl
 have HK:=hid hk
 obtain ⟨N,hN⟩ : ∃ N,N = w.heap.size:=⟨_,rfl⟩
 obtain ⟨W0,hW0⟩ : ∃ x,x = ((w.alloc (.cells #[.string lo] 9)).alloc (.cells #[.string hi] 9)).alloc (.cells #[.bool false] 4):=⟨_,rfl⟩
 have hkl : (ks.length : Int) ≤ 9223372036854775807:=by unfold maxLen at hkl; omega
 clear hl hk
 refine calls_of_wp_marks Tryz.func9 rfl ?_
 simp only [Tryz.ntmps9,List.size_toArray,List.length_cons,List.length_nil,Nat.reduceAdd,Nat.reduceSub,Array.replicate_succ,Array.replicate_zero,List.push_toArray,List.append_toArray,List.nil_append,List.cons_append]
 go_upto_region 1 with fail
 rw [← hW0,← hN]
 simp only [Nat.add_assoc,Nat.reduceAdd]
 have hx0 : IsBlk W0 N #[.string lo] 9 ∧ IsBlk W0 (N + 1) #[.string hi] 9 ∧ IsBlk W0 (N + 2) #[.bool false] 4 ∧ Below w.heap.size w W0 ∧ W0.heap.size = N + 3:=by
  have q1:=blk_new (w.alloc (.cells #[.string lo] 9)) (.cells #[.string hi] 9)
  have q2:=blk_new ((w.alloc (.cells #[.string lo] 9)).alloc (.cells #[.string hi] 9)) (.cells #[.bool false] 4)
  rw [World.size_alloc] at q1
  rw [World.size_alloc,World.size_alloc] at q2
  rw [hW0,hN]
  exact ⟨blk_alloc (blk_alloc (blk_new w _)),blk_alloc q1,q2,(((Below.refl _ _).alloc (Nat.le_refl _) _).alloc (by simp) _).alloc (by simp; omega) _,by simp⟩
 have HX0:=hid hx0
 have HN:=hid hN
 clear hW0 hx0 hN
 go_wp2_with (fail)
 refine (x_sfirst W0).mono ?_
 rintro e w1 ⟨rfl,hb1⟩
 have HB1 : Hid (Below W0.heap.size W0 w1):=hid hb1
 have HBW : Hid (Below w.heap.size w w1):=hid (HX0.out.2.2.2.1.trans (hb1.mono HX0.out.2.2.2.1.size))
 clear hb1
 go_wp2_with (fail)
 refine (x_fewB (HL.out.below HBW.out)).mono ?_
 rintro e w2 ⟨bb,rfl,hbf,hb2⟩
 have HB2 : Hid (Below W0.heap.size W0 w2):=hid (HB1.out.trans (hb2.mono HB1.out.size))
 have HBW2 : Hid (Below w.heap.size w w2):=hid (HBW.out.trans (hb2.mono HBW.out.size))
 clear hb2
 have hz : IsBlk w2 N #[.string lo] 9 ∧ IsBlk w2 (N + 1) #[.string hi] 9 ∧ IsBlk w2 (N + 2) #[.bool false] 4:=⟨(HB2.out.block _ (lt_of_block HX0.out.1)).trans HX0.out.1,(HB2.out.block _ (lt_of_block HX0.out.2.1)).trans HX0.out.2.1,(HB2.out.block _ (lt_of_block HX0.out.2.2.1)).trans HX0.out.2.2.1⟩
 have HZ:=hid hz
 have f0 : w2.cell? ⟨N,0,none⟩ = some (.string lo):=blk_cell hz.1 0
 have f1 : w2.cell? ⟨N + 1,0,none⟩ = some (.string hi):=blk_cell hz.2.1 0
 have f2 : w2.cell? ⟨N + 2,0,none⟩ = some (.bool false):=blk_cell hz.2.2 0
 have z2 : w2.frozen? ⟨N + 2,0,none⟩ = false:=blk_free hz.2.2 0
 have HEND : Hid (∀ tmps : Array Value,tmps[10]? = some (.pointer (some ⟨N + 2,0,none⟩)) → bodyPostM Fence.wide 0 Tryz.prog Tryz.f9 (fun e w' => e = .returned (.bool true) ∧ Below w.heap.size w w') Exit.ret { tmps:=tmps,defers:=[] } (w2.setCell ⟨N + 2,0,none⟩ (.bool true))):=hid fun tmps h10 =>
  wt_end [] tmps (by rw [HN.out]; exact Nat.le_refl _) (fun b hb => by simp at hb) List.nodup_nil (HBW2.out.setCell (p:=⟨N + 2,0,none⟩) (by rw [HN.out]; simp) _) (blk_set hz.2.2 0 _) h10
 clear hz
 cases bb with
 | false =>
   clear hbf
   go_wp2_with (fail)
   exact HEND.out _ rfl
 | true =>
   have HFEW : Hid (FewB ls):=hid (hbf rfl)
   have hm : (ls.length : Int) ≤ 40:=by have:=HFEW.out.len; omega
   clear hbf
   by_cases g3 : (1000 : Int) < (lo.size : Int)
   ·go_wp2_with (fail)
    exact HEND.out _ rfl
   by_cases g4 : (1000 : Int) < (hi.size : Int)
   ·go_wp2_with (fail)
    exact HEND.out _ rfl
   go_wp2_with (fail)
   clear g3 g4 HEND
   refine (f_new 67108864 (by omega) (by omega)).mono ?_
   rintro e w3 ⟨fb,rfl,hf,hb⟩
   have HF : Hid (Hd w w3 fb (FsS.new 67108864) 0 (New w2 w3 fun _ => False)):=hid ⟨hf,fun i e => by rcases e with e | e; exact e.elim; have:=HBW2.out.size; omega,HBW2.out.trans (hb.mono HBW2.out.size),FsOk.new0 67108864⟩
   have HB23:=hid hb
   clear hf hb f0 f1 f2 z2
   go_wp2_with (fail)
   have HZ3 : Hid (IsBlk w3 N #[.string lo] 9 ∧ IsBlk w3 (N + 1) #[.string hi] 9 ∧ IsBlk w3 (N + 2) #[.bool false] 4):=hid ⟨(HB23.out.block _ (lt_of_block HZ.out.1)).trans HZ.out.1,(HB23.out.block _ (lt_of_block HZ.out.2.1)).trans HZ.out.2.1,(HB23.out.block _ (lt_of_block HZ.out.2.2)).trans HZ.out.2.2⟩
   have hrange : Hid (size < 16 ∨ 1048576 < size → Calls Tryz.prog 24 #[.pointer (some ⟨fb,0,none⟩),.string nmDb,.agg #[.int .i64 size]] w3 fun e w' => e = .returned (.tuple #[.pointer none,.int .i64 6]) ∧ Below w.heap.size w w' ∧ Hid (IsBlk w' (N + 2) #[.bool false] 4)):=hid fun h =>
    (open_range HF.out (by decide) h).mono fun e w' ⟨h1,h2,h3⟩ => ⟨h1,h2,hid (h3 _ _ _ HZ3.out.2.2 (by decide))⟩
   by_cases h16 : size < 16
   ·refine (hrange.out (.inl h16)).mono ?_
    rintro e w4 ⟨rfl,hb4,hz4⟩
    have HB4:=hid hb4
    have f2 : w4.cell? ⟨N + 2,0,none⟩ = some (.bool false):=blk_cell hz4.out 0
    have z2 : w4.frozen? ⟨N + 2,0,none⟩ = false:=blk_free hz4.out 0
    clear hb4 hrange
    go_wp2_with (first | (go_at_call 19; refine (r_num _ _).mono ?_; rintro e w' ⟨rfl,rfl⟩))
    exact wt_end [] _ (by rw [HN.out]; exact Nat.le_refl _) (fun b hb => by simp at hb) List.nodup_nil (HB4.out.setCell (p:=⟨N + 2,0,none⟩) (by rw [HN.out]; simp) _) (blk_set hz4.out 0 _) rfl
   by_cases h20 : (1048576 : Int) < size
   ·refine (hrange.out (.inr h20)).mono ?_
    rintro e w4 ⟨rfl,hb4,hz4⟩
    have HB4:=hid hb4
    have f2 : w4.cell? ⟨N + 2,0,none⟩ = some (.bool false):=blk_cell hz4.out 0
    have z2 : w4.frozen? ⟨N + 2,0,none⟩ = false:=blk_free hz4.out 0
    clear hb4 hrange
    go_wp2_with (first | (go_at_call 19; refine (r_num _ _).mono ?_; rintro e w' ⟨rfl,rfl⟩))
    exact wt_end [] _ (by rw [HN.out]; exact Nat.le_refl _) (fun b hb => by simp at hb) List.nodup_nil (HB4.out.setCell (p:=⟨N + 2,0,none⟩) (by rw [HN.out]; simp) _) (blk_set hz4.out 0 _) rfl
   have HSZ : Hid (16 ≤ size ∧ size ≤ 1048576):=hid (by omega)
   clear hrange
   refine (open_fresh (c:=0) HF.out (by omega) (fun k x hx => by cases hx) dirS_db HSZ.out.1 HSZ.out.2 rfl rfl (by show (0 : Nat) ≤ 5; decide) (by show (0 : Int) ≤ 810000; decide)).mono ?_
   rintro e w4 ⟨G,T,lb,sb,tb,s,rfl,hsto,hall,hseq,hcalm,hroom,hkp,hlow,-,-⟩
   have HU4 : Hid (WtUp w fb size 1 1 0 sb 0 [] w4):=hid ⟨G,T,s,lb,tb,hsto,hall,hseq,hcalm,hroom⟩
   have HK4:=hid (KeepQ.pure (PS.pure _ _) hkp)
   clear hsto hall hseq hcalm hroom hkp hlow HF
   obtain ⟨w5,hw5⟩ : ∃ x,x = w4.alloc (.cells #[.slice none 0 0] 64):=⟨_,rfl⟩
   have hb5 : Below w4.heap.size w4 w5:=by rw [hw5]; exact (Below.refl _ _).alloc (Nat.le_refl _) _
   have hx5 : WtX w N w4.heap.size lo hi (.slice none 0 0) [] w5:=⟨(hb5.block _ (lt_of_block (HK4.out _ _ _ HZ3.out.1 (by decide)))).trans (HK4.out _ _ _ HZ3.out.1 (by decide)),(hb5.block _ (lt_of_block (HK4.out _ _ _ HZ3.out.2.1 (by decide)))).trans (HK4.out _ _ _ HZ3.out.2.1 (by decide)),(hb5.block _ (lt_of_block (HK4.out _ _ _ HZ3.out.2.2 (by decide)))).trans (HK4.out _ _ _ HZ3.out.2.2 (by decide)),by rw [hw5]; exact blk_new _ _,SlAt.nil,fun g hg => by simp [Value.ownBlock] at hg⟩
   have HX5:=hid hx5
   have HU5:=hid (HU4.out.below hb5)
   have HW5:=hid hw5
   have HWB : Hid (N + 3 ≤ w4.heap.size):=hid (by have:=lt_of_block (HK4.out _ _ _ HZ3.out.2.2 (by decide)); omega)
   clear hb5 hx5 hw5
   go_upto_region 12 with (first | (go_at_call 19; refine (r_num _ _).mono ?_; rintro e w' ⟨rfl,rfl⟩))
   rename World => w4
   rw [← HW5.out]
   obtain ⟨wb,hwb⟩ : ∃ b,b = w4.heap.size:=⟨_,rfl⟩
   rw [← hwb] at HX5 HWB ⊢
   clear hwb HW5 h16 h20 HU4 HK4
   go_wp2_with (fail)
   go_loopw [14,17,18] (fun sv qv iv wr => ∃ (i q sb : Nat) (pa : Option Addr) (pc : Nat) (M : Prs),i ≤ ls.length ∧ sv = .pointer (some ⟨sb,0,none⟩) ∧ qv = .int .i64 (q : Int) ∧ iv = .int .i64 (i : Int) ∧ Hid (WtUp w fb size (1 + 2 * i) (1 + 3 * i) (batsV ls i) sb q M wr ∧ WtX w N wb lo hi (.slice pa M.length pc) M wr)) (fun _ _ iv _ => ls.length - (intOf iv).toNat)
   case atStart => exact ⟨0,0,sb,none,0,[],Nat.zero_le _,rfl,rfl,rfl,hid ⟨by rw [batsV_zero]; exact HU5.out,HX5.out⟩⟩
   case round =>
    clear HU5 HX5
    obtain ⟨i,q,sb,pa,pc,M,hi',rfl,rfl,rfl,HI⟩:=hrel
    have q0 : (0 : Int) ≤ (i : Int):=by omega
    by_cases hlt : i < ls.length
    ·have q1 : (i : Int) < (ls.length : Int):=by omega
     have HLT:=hid hlt
     have HI40 : Hid (i < 40):=hid (by have:=HFEW.out.len; omega)
     have HUP:=hid HI.out.1
     have HBX:=hid HI.out.2
     clear hlt hi' HI
     go_upto_if 87 with (fail)
     go_cut [19] from 78 to 181 (fun kv wd => ∃ z : Int,kv = .int .i64 z ∧ Hid (wd = wr))
     case first =>
      by_cases hkn : i < ks.length
      ·have q2 : (i : Int) < (ks.length : Int):=by omega
       obtain ⟨z,hz⟩ : ∃ z,ks[i]? = some z:=⟨_,List.getElem?_eq_getElem hkn⟩
       obtain ⟨ak,ck,ek,hkk⟩:=HK.out
       injection ek with ek _ ek3
       subst ek ek3
       obtain ⟨g,off,rfl,d0⟩:=hkk i z hz
       have d0:=(HUP.out.low.cell (p:=⟨g,off + i,none⟩) (World.block_lt_of_cell? w _ d0)).trans d0
       clear hz hkk hkn
       go_wp2_with (fail)
       go_meet
       exact ⟨_,rfl,hid rfl⟩
      ·have q2 : ¬ (i : Int) < (ks.length : Int):=by omega
       clear hkn
       go_wp2_with (fail)
       go_meet
       exact ⟨0,rfl,hid rfl⟩
     case rest =>
      obtain ⟨z,rfl,HZW⟩:=hcut
      rename World => W1
      rw [← HZW.out] at HUP HBX
      clear HZW
      go_upto_region 19 with (fail)
      go_cut [102] from 78 to 101 (fun bv wd => bv = .bool false ∧ Hid (WtUp w fb size (2 + 2 * i) (2 + 3 * i) (batsV ls i) sb q M wd ∧ WtX w N wb lo hi (.slice pa M.length pc) M wd))
      case first =>
       by_cases hz : z = 3
       ·subst hz
        go_wp2_with (fail)
        refine (HUP.out.chk (by have:=HI40.out; omega) (by have:=HI40.out; omega) (HFEW.out.small _)).mono ?_
        rintro e w6 ⟨rfl,h6,k6⟩
        have HF : Hid (WtUp w fb size (2 + 2 * i) (2 + 3 * i) (batsV ls i) sb q M w6 ∧ WtX w N wb lo hi (.slice pa M.length pc) M w6):=hid ⟨h6.more (by omega) (by omega) (Nat.le_refl _) (by have:=HI40.out; omega),HBX.out.keep k6⟩
        clear h6 k6
        go_wp2_with (first | (go_at_call 19; refine (r_num _ _).mono ?_; rintro e w' ⟨rfl,rfl⟩))
        go_meet
        exact ⟨rfl,HF⟩
       ·have hz2 : (z == 3) = false:=by simp; exact hz
        clear hz
        go_wp2_with (fail)
        go_meet
        exact ⟨rfl,hid ⟨HUP.out.more (by omega) (by omega) (Nat.le_refl _) (by have:=HI40.out; omega),HBX.out⟩⟩
      case rest =>
       obtain ⟨rfl,hcut⟩:=hcut
       rename World => W2
       have HU2:=hid hcut.out.1
       have HX2:=hid hcut.out.2
       clear hcut HUP HBX
       go_upto_if 104 with (fail)
       go_cut [14,20,21] from 78 to 181 (fun sv _ _ wd => ∃ sb2 : Nat,sv = .pointer (some ⟨sb2,0,none⟩) ∧ Hid (WtUp w fb size (2 + 2 * i) (3 + 3 * i) (batsV ls i) sb2 q M wd ∧ WtX w N wb lo hi (.slice pa M.length pc) M wd))
       case first =>
        by_cases hz : z = 4
        ·subst hz
         go_wp2_with (fail)
         refine HU2.out.crash.mono ?_
         rintro e w6 ⟨rfl,h6,k6⟩
         have H6:=hid h6
         have HX6:=hid (HX2.out.keep k6)
         clear h6 k6
         go_wp2_with (fail)
         refine (H6.out.open_ HSZ.out.1 HSZ.out.2 (by have:=HI40.out; omega)).mono ?_
         rintro e w7 ⟨sb2,rfl,h7,k7⟩
         have HF : Hid (WtUp w fb size (2 + 2 * i) (3 + 3 * i) (batsV ls i) sb2 q M w7 ∧ WtX w N wb lo hi (.slice pa M.length pc) M w7):=hid ⟨h7.out.more (Nat.le_refl _) (by omega) (Nat.le_refl _) (by have:=HI40.out; omega),HX6.out.keep k7⟩
         clear h7 k7
         go_wp2_with (first | (go_at_call 19; refine (r_num _ _).mono ?_; rintro e w' ⟨rfl,rfl⟩))
         go_meet
         exact ⟨sb2,rfl,HF⟩
        ·have hz2 : (z == 4) = false:=by simp; exact hz
         clear hz
         go_wp2_with (fail)
         go_meet
         exact ⟨sb,rfl,hid ⟨HU2.out.more (Nat.le_refl _) (by omega) (Nat.le_refl _) (by have:=HI40.out; omega),HX2.out⟩⟩
       case rest =>
        obtain ⟨sb2,rfl,HC2⟩:=hcut
        rename World => W3
        have HU3:=hid HC2.out.1
        have HX3:=hid HC2.out.2
        clear HC2 HU2 HX2
        obtain ⟨l,hlj⟩ : ∃ l,ls[i]? = some l:=⟨_,List.getElem?_eq_getElem HLT.out⟩
        obtain ⟨g,off,cap,la,lc,hv,hc,hrd⟩:=HL.out.at_ hlj
        injection hv with hv _ hv3
        subst hv hv3
        have HLJ:=hid hlj
        have HRD:=hid hrd
        have HEA:=hid (HL.out.each l (List.mem_of_getElem? hlj))
        have HCELL : Hid (∀ W,Below w.heap.size w W → W.cell? ⟨g,off + i,none⟩ = some (.slice la l.length lc)):=hid fun W hW => (hW.cell (p:=⟨g,off + i,none⟩) (World.block_lt_of_cell? w _ hc)).trans hc
        have hc1:=HCELL.out _ HU3.out.low
        have HVN:=hid (batsV_next hlj)
        have HMR:=hid HU3.out.rise
        clear hlj hc hrd
        go_wp2_with (fail)
        refine (x_changes (HRD.out.below HU3.out.low) (by have:=HEA.out.1; omega)).mono ?_
        rintro e w6 ⟨va,vc,rfl,hn6⟩
        have HN6:=hid hn6
        have hq9 : (q : Int) ≤ 900:=by have:=HMR.out.2.2; omega
        have hq0 : (0 : Int) ≤ (q : Int):=by omega
        clear hn6 hc1
        go_wp2_with (fail)
        refine (d_encode HN6.out.sl.rd HEA.out.1 HEA.out.2 ((q : Int) + 1) (by omega)).mono ?_
        rintro e w7 ⟨bv,rfl,hf7⟩
        have HB37 : Hid (Below W3.heap.size W3 w7):=hid (HN6.out.below.trans (hf7.out.below.mono HN6.out.below.size))
        have HCH7:=hid (HN6.out.sl.below hf7.out.below)
        have HWR : Hid (∀ W,WtUp w fb size (2 + 2 * i) (3 + 3 * i) (batsV ls i) sb2 q M W → Calls Tryz.prog 25 #[.pointer (some ⟨sb2,0,none⟩),.slice la l.length lc] W fun e w' => e = .returned (.int .i64 ((encB ((q : Int) + 1) l).2 : Int)) ∧ Hid (WtUp w fb size (1 + 2 * (i + 1)) (1 + 3 * (i + 1)) (batsV ls (i + 1)) sb2 (if (encB ((q : Int) + 1) l).2 = 0 ∧ l ≠ [] then q + 1 else q) (if (encB ((q : Int) + 1) l).2 = 0 ∧ l ≠ [] then applyB M l else M) w') ∧ KeepQ W w'):=hid fun W hW => by
         refine (hW.write (by have:=HI40.out; omega) (by have:=HI40.out; omega) (HFEW.out.bat HLJ.out) HRD.out HEA.out.1).mono ?_
         rintro e w' ⟨h1,h2,h3⟩
         refine ⟨h1,hid ?_,h3⟩
         have h4:=h2.out
         rw [← HVN.out] at h4
         exact h4.more (by omega) (by omega) (Nat.le_refl _) (by have:=HI40.out; omega)
        obtain ⟨ba,bc,hbv⟩:=hf7.out.sl.shape
        subst hbv
        obtain ⟨y,hy⟩ : ∃ y,y = (encB ((q : Int) + 1) l).2:=⟨_,rfl⟩
        obtain ⟨X,hX⟩ : ∃ X,X = (encB ((q : Int) + 1) l).1:=⟨_,rfl⟩
        rw [← hy] at HWR
        rw [← hy,← hX]
        clear hf7 hy hX
        go_wp2_with (fail)
        have HU7:=hid (HU3.out.below HB37.out)
        have HX7:=hid (HX3.out.keep (KeepQ.below HB37.out))
        refine HU7.out.snapshot.mono ?_
        rintro e w8 ⟨pb,t,ver,rfl,hs8,hb8⟩
        have HU8:=hid (HU7.out.below hb8)
        have HX8:=hid (HX7.out.keep (KeepQ.below hb8))
        have HCH8:=hid (HCH7.out.below hb8)
        have HS8:=hid hs8.out
        have c16 : w8.cell? ⟨wb,0,none⟩ = some (.slice pa M.length pc):=blk_cell HX8.out.zw 0
        have hc8:=HCELL.out _ HU8.out.low
        clear hb8 hs8
        go_wp2_with (fail)
        refine (HWR.out _ HU8.out).mono ?_
        rintro e w9 ⟨rfl,h9,k9⟩
        have HU9:=hid h9.out
        have HX9:=hid (HX8.out.keep k9)
        have HS9:=hid (k9.snap HS8.out.1)
        have HCH9:=hid (k9.chs HCH8.out)
        have HB9:=hid HU9.out.low
        have hc9:=HCELL.out _ HU9.out.low
        have hle : (l.length : Int) ≤ 1048576:=by have:=HEA.out.1; omega
        have hM0 : (0 : Int) ≤ (M.length : Int):=by omega
        clear h9 k9 c16 hc8
        by_cases hcz : y = 0 ∧ l ≠ []
        ·obtain ⟨rfl,hl0⟩:=hcz
         have hlp : (0 : Int) < (l.length : Int):=by have:=List.length_pos_iff.2 hl0; omega
         rw [if_pos ⟨rfl,hl0⟩,if_pos ⟨rfl,hl0⟩] at HU9
         have c16 : w9.cell? ⟨wb,0,none⟩ = some (.slice pa M.length pc):=blk_cell HX9.out.zw 0
         clear hl0
         go_wp2_with (first | (go_at_call 19; refine (r_num _ _).mono ?_; rintro e w' ⟨rfl,rfl⟩))
         rename World => w9
         refine (d_apply HX9.out.sl HCH9.out.rd HMR.out.1 (by have:=HMR.out.2; have:=HEA.out.1; omega)).mono ?_
         rintro e w10 ⟨vb,vd,rfl,h10,h11,h12⟩
         have HU10:=hid (HU9.out.below h12)
         have HX10:=hid (HX9.out.keep (KeepQ.below h12))
         have HS10:=hid (HS9.out.below h12)
         obtain ⟨M2,hM2⟩ : ∃ M2,M2 = applyB M l:=⟨_,rfl⟩
         rw [← hM2] at h10 h11 HU10 ⊢
         have HSL:=hid h10
         have HOW : Hid (∀ g,(Value.slice vb M2.length vd).ownBlock = some g → w.heap.size ≤ g):=hid fun g hg => by
          rcases h11 g hg with e | e
          ·exact HX9.out.own g e
          ·have:=HB9.out.size; omega
         have c16 : w10.cell? ⟨wb,0,none⟩ = some (.slice pa M.length pc):=blk_cell HX10.out.zw 0
         have z16 : w10.frozen? ⟨wb,0,none⟩ = false:=blk_free HX10.out.zw 0
         clear h10 h11 h12 hM2 hc9
         go_wp2_with (fail)
         have hk : Keeps (Only wb) w10 (w10.setCell ⟨wb,0,none⟩ (.slice vb M2.length vd)):=(Keeps.refl (Only wb) w10).setCell (p:=(⟨wb,0,none⟩ : Addr)) (fun _ => rfl) _
         have hUS:=HU10.out.other HX10.out.zw (by decide) (by have:=HWB.out; have:=HN.out; omega) hk
         have hXS : WtX w N wb lo hi (.slice vb M2.length vd) M2 (w10.setCell ⟨wb,0,none⟩ (.slice vb M2.length vd)):=⟨blk_other HX10.out.z0 0 _ (by have:=HWB.out; omega),blk_other HX10.out.z1 0 _ (by have:=HWB.out; omega),blk_other HX10.out.z2 0 _ (by have:=HWB.out; omega),blk_set HX10.out.zw 0 _,HSL.out.keeps hk fun g hg e => by
          obtain ⟨cs,hcs⟩:=HSL.out.own g hg
          have e : g = wb:=e
          subst e
          exact blk_ne_type hcs HX10.out.zw (by decide) rfl,HOW.out⟩
         have hSS : Ss.SSnap (w10.setCell ⟨wb,0,none⟩ (.slice vb M2.length vd)) pb t ver:=HS10.out.keeps hk (fun e => by
          have e : pb = wb:=e
          subst e
          obtain ⟨root,hb,_⟩:=HS10.out.ex
          exact blk_ne_type hb HX10.out.zw (by decide) rfl) fun b cs hb e => by
          have e : b = wb:=e
          subst e
          exact blk_ne_type hb HX10.out.zw (by decide) rfl
         generalize w10.setCell ⟨wb,0,none⟩ (.slice vb M2.length vd) = W10 at hUS hXS hSS ⊢
         have HU11:=hid hUS
         have HX11:=hid hXS
         have HS11:=hid hSS
         clear hk hUS hXS hSS c16 z16
         refine HU11.out.seq.mono ?_
         rintro e w11 ⟨rfl,hb11⟩
         have HU12:=hid (HU11.out.below hb11)
         have HX12:=hid (HX11.out.keep (KeepQ.below hb11))
         have HS12:=hid (HS11.out.below hb11)
         have c16 : w11.cell? ⟨wb,0,none⟩ = some (.slice vb M2.length vd):=blk_cell HX12.out.zw 0
         clear hb11
         go_wp2_with (fail)
         refine (HU12.out.same HX12.out.sl.rd).mono ?_
         rintro e w12 ⟨rfl,hb12⟩
         have HU13:=hid (HU12.out.below hb12)
         have HX13:=hid (HX12.out.keep (KeepQ.below hb12))
         have HS13:=hid (HS12.out.below hb12)
         clear hb12 c16
         go_wp2_with (fail)
         refine (Ss.t_slen _ _ _ _ HS13.out).mono ?_
         rw [HS8.out.2]
         rintro e w14 ⟨rfl,rfl⟩
         go_wp2_with (fail)
         go_roundw
         case rel => exact ⟨i + 1,q + 1,sb2,vb,vd,M2,HLT.out,rfl,by go_num,by go_num,hid ⟨HU13.out,HX13.out⟩⟩
         case measure => simp [intOf]; have:=HLT.out; omega
        ·have hU:=HU9.out
         rw [if_neg hcz,if_neg hcz] at hU
         have HV9:=hid hU
         clear HU9
         clear hU
         by_cases hy0 : y = 0
         ·have hl0 : l = []:=Classical.byContradiction fun e => hcz ⟨hy0,e⟩
          have hl1 : (l.length : Int) = 0:=by rw [hl0]; rfl
          subst hy0
          clear hcz hl0 hle
          go_wp2_with (first | (go_at_call 19; refine (r_num _ _).mono ?_; rintro e w' ⟨rfl,rfl⟩))
          rename World => w9
          refine HV9.out.seq.mono ?_
          rintro e w11 ⟨rfl,hb11⟩
          have HU12:=hid (HV9.out.below hb11)
          have HX12:=hid (HX9.out.keep (KeepQ.below hb11))
          have HS12:=hid (HS9.out.below hb11)
          have c16 : w11.cell? ⟨wb,0,none⟩ = some (.slice pa M.length pc):=blk_cell HX12.out.zw 0
          clear hb11 hc9
          go_wp2_with (fail)
          refine (HU12.out.same HX12.out.sl.rd).mono ?_
          rintro e w12 ⟨rfl,hb12⟩
          have HU13:=hid (HU12.out.below hb12)
          have HX13:=hid (HX12.out.keep (KeepQ.below hb12))
          have HS13:=hid (HS12.out.below hb12)
          clear hb12 c16
          go_wp2_with (fail)
          refine (Ss.t_slen _ _ _ _ HS13.out).mono ?_
          rw [HS8.out.2]
          rintro e w14 ⟨rfl,rfl⟩
          go_wp2_with (fail)
          go_roundw
          case rel => exact ⟨i + 1,q,sb2,pa,pc,M,HLT.out,rfl,rfl,by go_num,hid ⟨HU13.out,HX13.out⟩⟩
          case measure => simp [intOf]; have:=HLT.out; omega
         ·have hy1 : ((y : Int) == 0) = false:=by simp; omega
          clear hcz hy0
          go_wp2_with (first | (go_at_call 19; refine (r_num _ _).mono ?_; rintro e w' ⟨rfl,rfl⟩))
          rename World => w9
          refine HV9.out.seq.mono ?_
          rintro e w11 ⟨rfl,hb11⟩
          have HU12:=hid (HV9.out.below hb11)
          have HX12:=hid (HX9.out.keep (KeepQ.below hb11))
          have HS12:=hid (HS9.out.below hb11)
          have c16 : w11.cell? ⟨wb,0,none⟩ = some (.slice pa M.length pc):=blk_cell HX12.out.zw 0
          clear hb11 hc9
          go_wp2_with (fail)
          refine (HU12.out.same HX12.out.sl.rd).mono ?_
          rintro e w12 ⟨rfl,hb12⟩
          have HU13:=hid (HU12.out.below hb12)
          have HX13:=hid (HX12.out.keep (KeepQ.below hb12))
          have HS13:=hid (HS12.out.below hb12)
          clear hb12 c16
          go_wp2_with (fail)
          refine (Ss.t_slen _ _ _ _ HS13.out).mono ?_
          rw [HS8.out.2]
          rintro e w14 ⟨rfl,rfl⟩
          go_wp2_with (fail)
          go_roundw
          case rel => exact ⟨i + 1,q,sb2,pa,pc,M,HLT.out,rfl,rfl,by go_num,hid ⟨HU13.out,HX13.out⟩⟩
          case measure => simp [intOf]; have:=HLT.out; omega
    ·have q1 : ¬ (i : Int) < (ls.length : Int):=by omega
     have HUP:=hid HI.out.1
     have HBX:=hid HI.out.2
     have HRISE:=hid HUP.out.rise.1
     have hM0 : (0 : Int) ≤ (M.length : Int):=by omega
     have hM1 : (M.length : Int) ≤ 450000:=by have:=HUP.out.rise.2.1; omega
     obtain ⟨K,k1,k2,k3,k4,k5⟩:=Ss.range_split lo hi M HRISE.out
     obtain ⟨n2,hn2⟩ : ∃ n,n = (Ss.rangeL lo hi M).length:=⟨_,rfl⟩
     rw [← hn2] at k1 k3
     have HN2:=hid hn2
     have HK1:=hid k1
     have HK2:=hid k2
     have HK3:=hid k3
     have HK4:=hid k4
     have HK5:=hid k5
     obtain ⟨ib,hib⟩ : ∃ b,b = wr.heap.size:=⟨_,rfl⟩
     obtain ⟨W1,hW1⟩ : ∃ x,x = wr.alloc (.cells #[.int .i64 0] 3):=⟨_,rfl⟩
     have hb1 : Below wr.heap.size wr W1:=by rw [hW1]; exact (Below.refl _ _).alloc (Nat.le_refl _) _
     have hR1 : RwI w N wb ib lo hi (.slice pa M.length pc) M 0 W1:=⟨HBX.out.keep (KeepQ.below hb1),by rw [hW1,hib]; exact blk_new _ _,HUP.out.low.trans (hb1.mono HUP.out.low.size)⟩
     obtain ⟨cc,NN,hst⟩:=HUP.out.st
     have HST:=hid (hst.below hb1)
     have HR1:=hid hR1
     have HIB : Hid (w.heap.size ≤ ib ∧ ib < W1.heap.size):=hid ⟨by rw [hib]; exact HUP.out.low.size,lt_of_block hR1.zi⟩
     have f0 : W1.cell? ⟨N,0,none⟩ = some (.string lo):=blk_cell hR1.x.z0 0
     have f1 : W1.cell? ⟨N + 1,0,none⟩ = some (.string hi):=blk_cell hR1.x.z1 0
     have HWW:=hid (And.intro hW1 hib)
     clear k1 k2 k3 k4 k5 hn2 hW1 hb1 hR1 hst hib hlt hi' HI
     go_upto_region 39 with (fail)
     rw [← HWW.out.1,← HWW.out.2]
     clear HWW
     go_wp2_with (fail)
     refine (so_Range W1 sb lo hi).mono ?_
     rintro e w6 ⟨rfl,hw6⟩
     obtain ⟨hk6,i1,i2,i3,hs6⟩:=soRange_blocks _ sb lo hi w6 hw6
     have HR6:=hid (HR1.out.ext hk6)
     have HIT:=hid (iter_soRange HRISE.out i1 i2 i3 (HST.out.below hk6))
     have HS6 : Hid (ib < w6.heap.size ∧ w.heap.size ≤ w6.heap.size):=hid (by have:=HIB.out; have:=hk6.size; omega)
     clear hw6 hk6 i1 i2 i3 hs6 f0 f1
     go_wp2_with (fail)
     refine wp_forSeq rfl egSoRange1 HIT.out (fun _ => rfl) KeepR.trans (fun W r o h => keepR_put o h) (fun pre W => ∃ j : Nat,RwI w N wb ib lo hi (.slice pa M.length pc) M (j : Int) W ∧ ((pre = [] ∧ j = 0) ∨ j = K + pre.length)) (fun _ _ _ => False) ?hI (fun _ _ _ _ h _ => h.elim) ⟨0,HR6.out,.inl ⟨rfl,rfl⟩⟩ ?a2 ?assign2 ?body2 ?done2 ?stop2
     case hI =>
      rintro s A B ⟨j,h,hj⟩ hk
      exact ⟨j,h.loop hk (by have:=HS6.out; omega),hj⟩
     case assign2 =>
      intro x W K hK
      gi_wp2
      exact hK
     case stop2 => intro c q B _ h; exact h.elim
     case body2 =>
      rintro pre x A ⟨j,hA,hj⟩ hp hsz
      have hx:=(pre_full hp).1
      have hx2:=HK4.out _ _ hx
      have hx5:=HK5.out _ _ hx
      obtain ⟨g,off,rfl,d0,d1⟩:=pr_cells hA.x.sl.rd hx2
      have hlt : K + pre.length < M.length:=(List.getElem?_eq_some_iff.1 hx2).1
      have HX2:=hid hx2
      have HX5:=hid hx5
      have HJ:=hid hj
      have HLEN : Hid ((pre ++ [x]).length = pre.length + 1):=hid (by simp)
      have HA:=hid hA
      have HSZ : Hid (w6.heap.size + 2 ≤ A.heap.size):=hid hsz
      clear hA hj hp hx hx2 hx5 d0 d1 hsz
      gi_wp2_with (fail)
      gi_loopw [] (fun wr => Hid (∃ j : Nat,RwI w N wb ib lo hi (.slice (some ⟨g,off,none⟩) M.length pc) M (j : Int) wr ∧ (j ≤ K ∨ j = K + pre.length) ∧ (pre = [] ∨ j = K + pre.length) ∧
        wr.heap[w6.heap.size]? = A.heap[w6.heap.size]? ∧ wr.heap[w6.heap.size + 1]? = A.heap[w6.heap.size + 1]? ∧ KeepR A wr)) (fun wr => M.length - numAt wr ib)
      case atStart => exact hid ⟨j,HA.out,HJ.out.elim (fun h => .inl (by omega)) (fun h => .inr h),HJ.out.elim (fun h => .inl h.1) (fun h => .inr h),rfl,rfl,KeepR.refl _⟩
      case round =>
       obtain ⟨j,hB,hj1,hj2,hr1,hr2,hr3⟩:=hrel.out
       have hjl : j < M.length:=by omega
       obtain ⟨y,hy⟩ : ∃ y,M[j]? = some y:=⟨_,List.getElem?_eq_getElem hjl⟩
       obtain ⟨g',off',e',d0,d1⟩:=pr_cells hB.x.sl.rd hy
       injection e' with e'
       injection e' with e1 e2 _
       subst e1 e2
       have f0 : wr.cell? ⟨N,0,none⟩ = some (.string lo):=blk_cell hB.x.z0 0
       have f1 : wr.cell? ⟨N + 1,0,none⟩ = some (.string hi):=blk_cell hB.x.z1 0
       have f3 : wr.cell? ⟨wb,0,none⟩ = some (.slice (some ⟨g,off,none⟩) M.length pc):=blk_cell hB.x.zw 0
       have f4 : wr.cell? ⟨ib,0,none⟩ = some (.int .i64 (j : Int)):=blk_cell hB.zi 0
       have z4 : wr.frozen? ⟨ib,0,none⟩ = false:=blk_free hB.zi 0
       have hjl' : (j : Int) < (M.length : Int):=by omega
       have hj0 : (0 : Int) ≤ (j : Int):=by omega
       have HB:=hid hB
       have HVAL:=hid (numAt_eq hB.zi)
       have HREC:=hid (And.intro hr1 (And.intro hr2 hr3))
       by_cases hjK : j < K
       ·have p1 : Op.bytesLess y.1.toList lo.toList = true:=(HK2.out _ _ hy).2 hjK
        have HJ2:=hid hj2
        clear hrel hB hy hr1 hr2 hr3 hj2 hj1 d1
        gi_wp2_with (fail)
        refine wpIn_region_still_tail (open_round _ _) 12 (by kernel_rfl) (by kernel_rfl) ?_
        simp only [List.take_succ_cons,List.take_zero,List.drop_succ_cons,List.drop_zero]
        repeat still_step
        refine wpStill_nil ?_
        gi_wp2_with (fail)
        have hpre : pre = []:=HJ2.out.resolve_right (by omega)
        have hB' : RwI w N wb ib lo hi (.slice (some ⟨g,off,none⟩) M.length pc) M ((j + 1 : Nat) : Int) (wr.setCell ⟨ib,0,none⟩ (.int .i64 ((j : Int) + 1))).drew:=(HB.out.set HIB.out.1 _).ext (Below.refl _ _).drew
        refine ⟨hid ⟨j + 1,hB',.inl (by omega),.inl hpre,?_,?_,?_⟩,?_⟩
        ·exact (Below.heap_setCell wr ⟨ib,0,none⟩ (.int .i64 ((j : Int) + 1)) w6.heap.size (by have:=HS6.out; simp; omega)).trans HREC.out.1
        ·exact (Below.heap_setCell wr ⟨ib,0,none⟩ (.int .i64 ((j : Int) + 1)) (w6.heap.size + 1) (by have:=HS6.out; simp; omega)).trans HREC.out.2.1
        ·exact HREC.out.2.2.trans (HB.out.r _)
        ·rw [HVAL.out,numAt_eq hB'.zi]
         omega
       ·have hie : j = K + pre.length:=by
         rcases hj2 with h | h
         ·rcases hj1 with h' | h'
          ·subst h; simp; omega
          ·exact h'
         ·exact h
        obtain rfl : x = y:=by have:=HX2.out; rw [← hie,hy] at this; exact (Option.some.inj this).symm
        have HIE:=hid hie
        have p1 : Op.bytesLess x.1.toList lo.toList = false:=by
         cases h : Op.bytesLess x.1.toList lo.toList with
         | false => rfl
         | true => exact absurd ((HK2.out _ _ hy).1 h) hjK
        have p2 : Op.bytesLess x.1.toList hi.toList = true:=HX5.out
        clear hrel hB hy hr1 hr2 hr3 hj2 hj1 hie hjK hlt
        gi_wp2_with (fail)
        refine wpIn_region_still_tail (open_round _ _) 12 (by kernel_rfl) (by kernel_rfl) ?_
        simp only [List.take_succ_cons,List.take_zero,List.drop_succ_cons,List.drop_zero]
        repeat still_step
        refine wpStill_nil ?_
        gi_wp2_with (fail)
        have hB' : RwI w N wb ib lo hi (.slice (some ⟨g,off,none⟩) M.length pc) M ((j + 1 : Nat) : Int) (wr.setCell ⟨ib,0,none⟩ (.int .i64 ((j : Int) + 1))).drew:=(HB.out.set HIB.out.1 _).ext (Below.refl _ _).drew
        refine ⟨?_,?_,?_,j + 1,hB',.inr ?_⟩
        ·exact (Below.heap_setCell wr ⟨ib,0,none⟩ (.int .i64 ((j : Int) + 1)) w6.heap.size (by have:=HS6.out; simp; omega)).trans HREC.out.1
        ·exact (Below.heap_setCell wr ⟨ib,0,none⟩ (.int .i64 ((j : Int) + 1)) (w6.heap.size + 1) (by have:=HS6.out; simp; omega)).trans HREC.out.2.1
        ·exact HREC.out.2.2.trans (HB.out.r _)
        ·rw [HLEN.out,HIE.out]; omega
     case done2 =>
      rintro A ⟨j,hA,hjx⟩ hd2
      rw [← HN2.out] at hjx
      have HA:=hid hA
      have HJ : Hid ((j ≤ K ∨ j = K + n2) ∧ (n2 = 0 ∨ j = K + n2)):=hid (by
       rcases hjx with ⟨h1,h2⟩ | h
       ·have h3:=HN2.out; rw [h1] at h3; simp at h3; omega
       ·omega)
      have HD:=hid hd2
      clear hA hjx hd2
      go_wp2_with fail
      go_loopw [] (fun wr => Hid (∃ j : Nat,RwI w N wb ib lo hi (.slice pa M.length pc) M (j : Int) wr ∧ j ≤ M.length ∧ ((j ≤ K ∨ j = K + n2) ∧ (n2 = 0 ∨ j = K + n2)) ∧ wr.heap[w6.heap.size]? = some (.deferred (some []))))
        (fun wr => M.length - numAt wr ib)
      case atStart => exact hid ⟨j,HA.out,by have:=HK1.out; have:=HJ.out; omega,HJ.out,HD.out⟩
      case round =>
       obtain ⟨j,hB,hjl0,hj1,hr2⟩:=hrel.out
       have f0 : wr.cell? ⟨N,0,none⟩ = some (.string lo):=blk_cell hB.x.z0 0
       have f1 : wr.cell? ⟨N + 1,0,none⟩ = some (.string hi):=blk_cell hB.x.z1 0
       have f2 : wr.cell? ⟨N + 2,0,none⟩ = some (.bool false):=blk_cell hB.x.z2 0
       have z2 : wr.frozen? ⟨N + 2,0,none⟩ = false:=blk_free hB.x.z2 0
       have f3 : wr.cell? ⟨wb,0,none⟩ = some (.slice pa M.length pc):=blk_cell hB.x.zw 0
       have f4 : wr.cell? ⟨ib,0,none⟩ = some (.int .i64 (j : Int)):=blk_cell hB.zi 0
       have z4 : wr.frozen? ⟨ib,0,none⟩ = false:=blk_free hB.zi 0
       have HB:=hid hB
       have HJ1:=hid hj1
       have HMK:=hid hr2
       have HVAL:=hid (numAt_eq hB.zi)
       have hj0 : (0 : Int) ≤ (j : Int):=by omega
       by_cases hjl : j < M.length
       ·obtain ⟨y,hy⟩ : ∃ y,M[j]? = some y:=⟨_,List.getElem?_eq_getElem hjl⟩
        obtain ⟨g,off,rfl,d0,d1⟩:=pr_cells hB.x.sl.rd hy
        have hjl' : (j : Int) < (M.length : Int):=by omega
        by_cases hjK : j < K
        ·have p1 : Op.bytesLess y.1.toList lo.toList = true:=(HK2.out _ _ hy).2 hjK
         have HK0 : Hid (j + 1 ≤ M.length ∧ j + 1 ≤ K):=hid (by omega)
         clear hrel hB hy d1 hr2 hj1 f2 z2 hjl0 hjl hjK
         go_wp2
         go_quiet (fail)
         go_wp2
         have hB' : RwI w N wb ib lo hi (.slice (some ⟨g,off,none⟩) M.length pc) M ((j + 1 : Nat) : Int) ((wr.drewN nq).setCell ⟨ib,0,none⟩ (.int .i64 ((j : Int) + 1))):=(HB.out.ext (below_drewN _ _ _)).set HIB.out.1 _
         have hW0 : w6.heap.size < wr.heap.size:=lt_of_block HMK.out
         refine ⟨hid ⟨j + 1,hB',HK0.out.1,by have:=HJ1.out; have:=HK0.out; omega,?_⟩,?_⟩
         ·exact (Below.heap_setCell (wr.drewN nq) ⟨ib,0,none⟩ (.int .i64 ((j : Int) + 1)) w6.heap.size (by have:=HS6.out; simp; omega)).trans HMK.out
         ·rw [HVAL.out,numAt_eq hB'.zi]
          have:=HK0.out
          omega
        ·have p1 : Op.bytesLess y.1.toList lo.toList = false:=by
          cases h : Op.bytesLess y.1.toList lo.toList with
          | false => rfl
          | true => exact absurd ((HK2.out _ _ hy).1 h) hjK
         have p2 : Op.bytesLess y.1.toList hi.toList = false:=HK3.out _ _ hy (by omega)
         have hjl3 : ¬ ((M.length : Int) ≤ (j : Int)):=by omega
         have hjl4 : decide (M.length ≤ j) = false:=decide_eq_false (by omega)
         have hjl5 : decide (j < M.length) = true:=decide_eq_true (by omega)
         clear hrel hB hy d1 hr2 hj1 z4 hjl0 hjl hjK
         go_wp2
         go_quiet (fail)
         have HB4:=hid (HB.out.ext (below_drewN wr.heap.size wr nq))
         have HR4 : Hid ((wr.drewN nq).heap[w6.heap.size]? = some (.deferred (some []))):=HMK
         have d0 : (wr.drewN nq).cell? ⟨g,off + j * 2,none⟩ = some (.string y.1):=d0
         clear HB HMK HVAL f0 f1 f2 z2 f3 f4
         generalize wr.drewN nq = w7 at *
         have f1 : w7.cell? ⟨N + 1,0,none⟩ = some (.string hi):=blk_cell HB4.out.x.z1 0
         have f2 : w7.cell? ⟨N + 2,0,none⟩ = some (.bool false):=blk_cell HB4.out.x.z2 0
         have z2 : w7.frozen? ⟨N + 2,0,none⟩ = false:=blk_free HB4.out.x.z2 0
         have f3 : w7.cell? ⟨wb,0,none⟩ = some (.slice (some ⟨g,off,none⟩) M.length pc):=blk_cell HB4.out.x.zw 0
         have f4 : w7.cell? ⟨ib,0,none⟩ = some (.int .i64 (j : Int)):=blk_cell HB4.out.zi 0
         go_wp2
         refine wp_region_still_tail 13 (by kernel_rfl) (by kernel_rfl) ?_
         simp only [List.take_succ_cons,List.take_zero,List.drop_succ_cons,List.drop_zero]
         repeat ((with_reducible refine wpStill_step ?_); intro K hK; go_simp; (with_reducible refine hK _ ?_); clear hK K)
         refine wpStill_nil ?_
         go_wp2_with (fail)
         exact wt_end [w6.heap.size] _ (by rw [HN.out]; exact Nat.le_refl _) (fun b hb => by
          rw [List.mem_singleton] at hb
          subst hb
          have h1:=lt_of_block HR6.out.x.zw
          have h2:=HWB.out
          exact ⟨(Below.heap_setCell w7 ⟨N + 2,0,none⟩ (.bool true) w6.heap.size (by simp; omega)).trans HR4.out,by omega⟩) (by simp) (HB4.out.low.setCell (p:=⟨N + 2,0,none⟩) (by rw [HN.out]; simp) _).drew (blk_set HB4.out.x.z2 0 _) rfl
       ·have hjl' : ¬ ((j : Int) < (M.length : Int)):=by omega
        have hjl3 : (M.length : Int) ≤ (j : Int):=by omega
        have hjl4 : decide (M.length ≤ j) = true:=decide_eq_true (by omega)
        have hjl5 : decide (j < M.length) = false:=decide_eq_false (by omega)
        clear hrel hB hr2 hj1 z4 hjl0 hjl
        go_wp2
        go_quiet (fail)
        have HB4:=hid (HB.out.ext (below_drewN wr.heap.size wr nq))
        have HR4 : Hid ((wr.drewN nq).heap[w6.heap.size]? = some (.deferred (some []))):=HMK
        clear HB HMK HVAL f0 f1 f2 z2 f3 f4
        generalize wr.drewN nq = w7 at *
        have f2 : w7.cell? ⟨N + 2,0,none⟩ = some (.bool false):=blk_cell HB4.out.x.z2 0
        have z2 : w7.frozen? ⟨N + 2,0,none⟩ = false:=blk_free HB4.out.x.z2 0
        have f3 : w7.cell? ⟨wb,0,none⟩ = some (.slice pa M.length pc):=blk_cell HB4.out.x.zw 0
        have f4 : w7.cell? ⟨ib,0,none⟩ = some (.int .i64 (j : Int)):=blk_cell HB4.out.zi 0
        go_wp2
        refine wp_region_still_tail 13 (by kernel_rfl) (by kernel_rfl) ?_
        simp only [List.take_succ_cons,List.take_zero,List.drop_succ_cons,List.drop_zero]
        repeat ((with_reducible refine wpStill_step ?_); intro K hK; go_simp; (with_reducible refine hK _ ?_); clear hK K)
        refine wpStill_nil ?_
        go_wp2_with (fail)
        exact wt_end [w6.heap.size] _ (by rw [HN.out]; exact Nat.le_refl _) (fun b hb => by
         rw [List.mem_singleton] at hb
         subst hb
         have h1:=lt_of_block HR6.out.x.zw
         have h2:=HWB.out
         exact ⟨(Below.heap_setCell w7 ⟨N + 2,0,none⟩ (.bool true) w6.heap.size (by simp; omega)).trans HR4.out,by omega⟩) (by simp) (HB4.out.low.setCell (p:=⟨N + 2,0,none⟩) (by rw [HN.out]; simp) _).drew (blk_set HB4.out.x.z2 0 _) rfl
end
end Go.Proofs.YtagdchgkjjpacaaGreat
