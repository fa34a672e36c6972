/- The walk of package store's image: a batch is flushed. -/
import Derived.Test.YtagdchgkjjpacaaGreatr27
import Derived.Test.YtagdchgkjjpacaaGreatr12
import Derived.Maps.RangeWalk
set_option maxRecDepth 100000
open Go.Lib (hid)
set_option linter.unusedSimpArgs false
set_option linter.unusedVariables false
set_option linter.unusedSectionVars false
namespace Go.Proofs.YtagdchgkjjpacaaGreat
open Go.RowKit Go.Shelf
structure ImB (W : World) (pb lb ob rb sb : Nat) (lv ov : Value) (room : Int) : Prop where
 p : IsBlk W pb #[.pointer (some ⟨sb,0,none⟩)] 49
 l : IsBlk W lb #[lv] 22
 o : IsBlk W ob #[ov] 23
 r : IsBlk W rb #[.int .i64 room] 3
theorem SlAt.ne {α : Type} {ek : ElKind α} {T U : TypeId} {w : World} {v : Value} {xs : List α} (h : SlAt ek T w v xs) {b : Nat} {cs : Array Value} (hb : IsBlk w b cs U) (hn : T ≠ U) : ∀ g,v.ownBlock = some g → g ≠ b:=fun g hg => by
 obtain ⟨cur,hc⟩:=h.own g hg
 exact blk_ne_type hc hb hn
theorem max_nat (q : Nat) : max (q : Int) 1 = ((max q 1 : Nat) : Int):=by omega
section
variable {W : World} {sb pb lb ob rb : Nat} {c : StC} {q : Nat} {lv ov : Value} {room : Int} {cur : List Chg} {out B : List UInt8}
structure FlAt (W : World) (pb lb ob rb sb : Nat) (ov : Value) (out B : List UInt8) (ov' : Value) (W' : World) : Prop where
 box : ImB W' pb lb ob rb sb (.slice none 0 0) ov' 1048566
 sl : SlAt byteKind 5 W' ov' (out ++ frameOf B)
 own : ∀ g,ov'.ownBlock = some g → ov.ownBlock = some g ∨ W.heap.size ≤ g
 keeps : Keeps (fun i => i = lb ∨ i = ob ∨ i = rb ∨ ov.ownBlock = some i) W W'
set_option maxHeartbeats 4000000 in
theorem st_flush (hst : StIn W sb c) (hq : c.seq = (q : Int)) (hq2 : q < 9223372036854775808) (hB : ImB W pb lb ob rb sb lv ov room) (hcur : SlAt chgKind 42 W lv cur) (hcl : cur.length ≤ 1000000) (hout : SlAt byteKind 5 W ov out) (henc : encB ((max q 1 : Nat) : Int) cur = (B,0)) (hBl : B.length ≤ 10000000) (hlen : out.length ≤ 1000000000) :
 Calls Tryz.prog 134 #[.pointer (some ⟨pb,0,none⟩),.pointer (some ⟨lb,0,none⟩),.pointer (some ⟨ob,0,none⟩),.pointer (some ⟨rb,0,none⟩)] W fun e W' => (∃ v,e = .returned v) ∧ ∃ ov',Hid (FlAt W pb lb ob rb sb ov out B ov' W'):=by
 obtain ⟨la,lc,rfl⟩:=hcur.shape
 obtain ⟨oa,oc,rfl⟩:=hout.shape
 have p0 : W.cell? ⟨pb,0,none⟩ = some (.pointer (some ⟨sb,0,none⟩)):=blk_cell hB.p 0
 have s0 : W.cell? ⟨sb,12,none⟩ = some (.int .i64 (q : Int)):=by rw [← hq]; exact blk_cell hst 12
 have l0 : W.cell? ⟨lb,0,none⟩ = some (.slice la cur.length lc):=blk_cell hB.l 0
 have o0 : W.cell? ⟨ob,0,none⟩ = some (.slice oa out.length oc):=blk_cell hB.o 0
 have HST:=hid hst
 have HBX:=hid hB
 have HOUT:=hid hout
 have HLEN:=hid (And.intro hBl hlen)
 have HMX:=hid (max_nat q)
 have HNE : Hid (pb ≠ lb ∧ pb ≠ ob ∧ pb ≠ rb ∧ lb ≠ ob ∧ lb ≠ rb ∧ ob ≠ rb):=hid ⟨blk_ne_type hB.p hB.l (by decide),blk_ne_type hB.p hB.o (by decide),blk_ne_type hB.p hB.r (by decide),blk_ne_type hB.l hB.o (by decide),blk_ne_type hB.l hB.r (by decide),blk_ne_type hB.o hB.r (by decide)⟩
 have HOWN : Hid (∀ b cs U,IsBlk W b cs U → U ≠ 5 → ∀ g,(Value.slice oa out.length oc).ownBlock = some g → g ≠ b):=hid fun b cs U hb hU => hout.ne hb (fun e => hU e.symm)
 have HEN : Hid (∀ V,Below W.heap.size W V → Calls Tryz.prog 12 #[.int .i64 (max (q : Int) 1),.slice la cur.length lc] V fun e w' => ∃ ba bc,e = .returned (.tuple #[.slice ba B.length bc,.int .i64 0]) ∧ Hid (FreshAt V w' (.slice ba B.length bc) B) ∧ Hid (Below W.heap.size W w')):=hid fun V hV => by
  have h1:=st_encode (hcur.rd.below hV) (by omega) ((max q 1 : Nat) : Int) (by omega)
  rw [henc,← HMX.out] at h1
  refine h1.mono ?_
  rintro e w' ⟨bv,rfl,hf⟩
  obtain ⟨ba,bc,rfl⟩:=hf.out.sl.shape
  exact ⟨ba,bc,rfl,hf,hid (hV.trans (hf.out.below.mono hV.size))⟩
 have hqI : (q : Int) ≤ 9223372036854775807:=by omega
 clear hst hB hcur hout henc hBl hlen hq hq2 hcl
 go_enter Tryz.func134,Tryz.ntmps134
 go_upto_region 0 with (fail)
 clear o0
 go_region_held3 (fun w' => w'.cell? ⟨pb,0,none⟩ = some (.pointer (some ⟨sb,0,none⟩)) ∧ w'.cell? ⟨sb,12,none⟩ = some (.int .i64 (q : Int)) ∧ w'.cell? ⟨lb,0,none⟩ = some (.slice la cur.length lc))
   (first
     | go_keep
     | exact ⟨blk_cell ((HB1.out.block _ (lt_of_block HBX.out.p)).trans HBX.out.p) 0,(HB1.out.cell (p:=⟨sb,12,none⟩) (lt_of_block HST.out)).trans s0,blk_cell ((HB1.out.block _ (lt_of_block HBX.out.l)).trans HBX.out.l) 0⟩)
   (first
     | (go_at_call 12; (with_reducible refine (HEN.out _ ?_).mono ?_); exact (Below.refl _ _).drew; rintro e w1 ⟨ba,bc,rfl,HF,HB1⟩))
 have HI1 : Hid (ImB w1 pb lb ob rb sb (.slice la cur.length lc) (.slice oa out.length oc) room):=hid ⟨(HB1.out.block _ (lt_of_block HBX.out.p)).trans HBX.out.p,(HB1.out.block _ (lt_of_block HBX.out.l)).trans HBX.out.l,(HB1.out.block _ (lt_of_block HBX.out.o)).trans HBX.out.o,(HB1.out.block _ (lt_of_block HBX.out.r)).trans HBX.out.r⟩
 clear p0 s0 l0 HEN
 go_upto_region 1 with (fail)
 have hT0 : (fun X : World => X.cell? ⟨ob,0,none⟩ = some (.slice oa out.length oc)) w1.drew:=blk_cell HI1.out.o 0
 refine wp_region_B (T:=fun X : World => X.cell? ⟨ob,0,none⟩ = some (.slice oa out.length oc)) (B:=fun i => i != 4) (by kernel_rfl) ?_
 have HBD : Hid (Below w1.heap.size w1 w1.drew):=hid (Below.refl _ _).drew
 have HFD : Hid (RdAt byteKind w1.drew (.slice ba B.length bc) B):=hid (HF.out.sl.rd.below HBD.out)
 generalize w1.drew = V at hT0 HBD HFD ⊢
 refine wpAnyB_take (i:=1) (v:=?mv1) rfl (by kernel_rfl) (by kernel_rfl) (by kernel_rfl) (fun _ _ _ h => h) (Or.inl ⟨by kernel_rfl,?my1⟩) ?ms1
 case my1 => (intro w; go_simp) <;> with_reducible rfl
 try go_frame
 refine wpAnyB_load (i:=0) (v:=?mv0) rfl (by kernel_rfl) (by kernel_rfl) (by kernel_rfl) (by kernel_rfl) (fun _ _ _ h => h) (Or.inl ⟨by kernel_rfl,?my0⟩) (by assumption) ?ms0
 case my0 => (intro w hSw; have hSw2 : w.cell? ⟨ob,0,none⟩ = some (.slice oa out.length oc):=hSw; go_simp) <;> with_reducible rfl
 try go_frame
 have HC:=hid (w_frame HFD.out (by have:=HLEN.out.1; omega))
 clear hT0
 refine wpAnyB_ready (rs:=[2]) (by kernel_rfl) (by simp) ?_
 refine AllReadyB.cons (o:=⟨some 18,.call ⟨.value (.func 85),#[.tmp 17],#[23]⟩,23,"store.go:244",#[⟨1,.data⟩],none⟩) rfl (fun K hK => ?_) AllReadyB.nil
 go_simp
 go_at_call 85
 refine HC.out.mono ?_
 rintro e V2 ⟨fv,rfl,hf2⟩
 obtain ⟨fa,fc,rfl⟩:=hf2.sl.shape
 have HB2 : Hid (Below W.heap.size W V2):=hid ((HB1.out.trans (HBD.out.mono HB1.out.size)).trans (hf2.below.mono (by have:=HB1.out.size; have:=HBD.out.size; omega)))
 have HI2 : Hid (ImB V2 pb lb ob rb sb (.slice la cur.length lc) (.slice oa out.length oc) room):=hid ⟨(HB2.out.block _ (lt_of_block HBX.out.p)).trans HBX.out.p,(HB2.out.block _ (lt_of_block HBX.out.l)).trans HBX.out.l,(HB2.out.block _ (lt_of_block HBX.out.o)).trans HBX.out.o,(HB2.out.block _ (lt_of_block HBX.out.r)).trans HBX.out.r⟩
 obtain ⟨v3,V3,hap,hsl3,hk3,hown3,-⟩:=append_bytes (HOUT.out.below HB2.out) hf2.sl.rd (by rw [frameOf_len]; have:=HLEN.out; omega) 23
 obtain ⟨va,vc,rfl⟩:=hsl3.shape
 obtain ⟨n3,hn3⟩ : ∃ n3,n3 = (out ++ frameOf B).length:=⟨_,rfl⟩
 rw [← hn3] at hap hsl3 hown3
 have HNW : Hid (∀ b cs U,IsBlk W b cs U → U ≠ 5 → ¬ (Value.slice oa out.length oc).ownBlock = some b):=hid fun b cs U hb hU e => HOWN.out b cs U hb hU b e rfl
 have HI3 : Hid (ImB V3 pb lb ob rb sb (.slice la cur.length lc) (.slice oa out.length oc) room):=hid ⟨hk3.obj HI2.out.p (HNW.out _ _ _ HBX.out.p (by decide)),hk3.obj HI2.out.l (HNW.out _ _ _ HBX.out.l (by decide)),hk3.obj HI2.out.o (HNW.out _ _ _ HBX.out.o (by decide)),hk3.obj HI2.out.r (HNW.out _ _ _ HBX.out.r (by decide))⟩
 have HK3 : Hid (Keeps (fun i => i = lb ∨ i = ob ∨ i = rb ∨ (Value.slice oa out.length oc).ownBlock = some i) W V3):=hid (((Keeps.of_below HB2.out).mono fun _ _ e => e.elim).trans' (hk3.mono fun _ _ e => .inr (.inr (.inr e))))
 have HSL3:=hid hsl3
 have HOW3 : Hid (∀ g,(Value.slice va n3 vc).ownBlock = some g → (Value.slice oa out.length oc).ownBlock = some g ∨ W.heap.size ≤ g):=hid fun g hg => by
  rcases hown3 g hg with e | e
  ·exact .inl e
  ·have:=HB2.out.size; exact .inr (by omega)
 refine hK.out _ _ (fun _ _ => blk_cell HI2.out.o 0) ?_
 clear hK K hsl3 hk3 hown3 hf2 hn3
 try go_frame
 refine wpAnyB_ready (rs:=[3]) (by kernel_rfl) (by simp) ?_
 refine AllReadyB.cons (o:=⟨some 19,.call ⟨.builtin .append,#[.tmp 16,.tmp 18],#[23,23]⟩,23,"store.go:244",#[⟨0,.data⟩,⟨2,.data⟩,⟨2,.chain⟩],none⟩) rfl (fun K hK => ?_) AllReadyB.nil
 refine step_append_run rfl (.tmp 16) (.tmp 18) 23 rfl _ _ rfl rfl _ _ hap ?_
 refine hK.out _ _ (fun _ _ => blk_cell HI3.out.o 0) ?_
 clear hK K
 try go_frame
 clear hap
 have oz : V3.frozen? ⟨ob,0,none⟩ = false:=blk_free HI3.out.o 0
 have o0 : V3.cell? ⟨ob,0,none⟩ = some (.slice oa out.length oc):=blk_cell HI3.out.o 0
 refine wpAnyB_ready (rs:=[4]) (by kernel_rfl) (by simp) ?_
 refine AllReadyB.cons (o:=⟨none,.store 23 (.tmp 2) (.tmp 19),0,"store.go:244",#[⟨3,.data⟩,⟨3,.chain⟩,⟨0,.phase⟩,⟨1,.phase⟩,⟨2,.phase⟩,⟨3,.phase⟩],none⟩) rfl (fun K hK => ?_) AllReadyB.nil
 go_simp
 refine hK.out _ _ (fun h => by simp at h) ?_
 clear hK K
 try go_frame
 refine wpAnyB_done (by kernel_rfl) ?_ _
 obtain ⟨V4,hV4⟩ : ∃ x,x = V3.setCell ⟨ob,0,none⟩ (.slice va n3 vc):=⟨_,rfl⟩
 have hk4 : Keeps (Only ob) V3 V4:=by rw [hV4]; exact (Keeps.refl (Only ob) V3).setCell (p:=⟨ob,0,none⟩) (fun _ => rfl) _
 have ho4 : IsBlk V4 ob #[.slice va n3 vc] 23:=by rw [hV4]; exact blk_set HI3.out.o 0 _
 have hl4 : IsBlk V4 lb #[.slice la cur.length lc] 22:=hk4.obj HI3.out.l (fun e => by have e : lb = ob:=e; have:=HNE.out; omega)
 have hr4 : IsBlk V4 rb #[.int .i64 room] 3:=hk4.obj HI3.out.r (fun e => by have e : rb = ob:=e; have:=HNE.out; omega)
 have hp4 : IsBlk V4 pb #[.pointer (some ⟨sb,0,none⟩)] 49:=hk4.obj HI3.out.p (fun e => by have e : pb = ob:=e; have:=HNE.out; omega)
 rw [← hV4]
 have l4 : V4.cell? ⟨lb,0,none⟩ = some (.slice la cur.length lc):=blk_cell hl4 0
 have lz : V4.frozen? ⟨lb,0,none⟩ = false:=blk_free hl4 0
 have hk5 : Keeps (Only lb) V4 (V4.setCell ⟨lb,0,none⟩ (.slice none 0 0)):=(Keeps.refl (Only lb) V4).setCell (p:=⟨lb,0,none⟩) (fun _ => rfl) _
 have hr5 : IsBlk (V4.setCell ⟨lb,0,none⟩ (.slice none 0 0)) rb #[.int .i64 room] 3:=hk5.obj hr4 (fun e => by have e : rb = lb:=e; have:=HNE.out; omega)
 have r4 : (V4.setCell ⟨lb,0,none⟩ (.slice none 0 0)).cell? ⟨rb,0,none⟩ = some (.int .i64 room):=blk_cell hr5 0
 have rz : (V4.setCell ⟨lb,0,none⟩ (.slice none 0 0)).frozen? ⟨rb,0,none⟩ = false:=blk_free hr5 0
 have HFIN : Hid (FlAt W pb lb ob rb sb (.slice oa out.length oc) out B (.slice va n3 vc) ((V4.setCell ⟨lb,0,none⟩ (.slice none 0 0)).setCell ⟨rb,0,none⟩ (.int .i64 1048566))):=hid (by
  have hl5 : IsBlk (V4.setCell ⟨lb,0,none⟩ (.slice none 0 0)) lb #[.slice none 0 0] 22:=blk_set hl4 0 _
  have ho5:=hk5.obj ho4 (fun e => by have e : ob = lb:=e; have:=HNE.out; omega)
  have hp5:=hk5.obj hp4 (fun e => by have e : pb = lb:=e; have:=HNE.out; omega)
  have hk6 : Keeps (Only rb) (V4.setCell ⟨lb,0,none⟩ (.slice none 0 0)) ((V4.setCell ⟨lb,0,none⟩ (.slice none 0 0)).setCell ⟨rb,0,none⟩ (.int .i64 1048566)):=(Keeps.refl (Only rb) _).setCell (p:=⟨rb,0,none⟩) (fun _ => rfl) _
  have hs4:=HSL3.out.keeps hk4 (fun g hg e => HSL3.out.ne HI3.out.o (by decide) g hg e)
  have hs5:=hs4.keeps hk5 (fun g hg e => hs4.ne hl4 (by decide) g hg e)
  have hs6:=hs5.keeps hk6 (fun g hg e => hs5.ne hr5 (by decide) g hg e)
  exact ⟨⟨hk6.obj hp5 (fun e => by have e : pb = rb:=e; have:=HNE.out; omega),hk6.obj hl5 (fun e => by have e : lb = rb:=e; have:=HNE.out; omega),hk6.obj ho5 (fun e => by have e : ob = rb:=e; have:=HNE.out; omega),blk_set hr5 0 _⟩,hs6,HOW3.out,
    ((HK3.out.trans' (hk4.mono fun _ _ e => .inr (.inl e))).trans' (hk5.mono fun _ _ e => .inl e)).trans' (hk6.mono fun _ _ e => .inr (.inr (.inl e)))⟩)
 clear hk4 ho4 hl4 hr4 hp4 hV4 oz o0 hk5 hr5
 go_wp2_with (fail)
 go_end0
 exact ⟨⟨_,rfl⟩,_,HFIN⟩
end
theorem egSTAll1 : ∀ args w,(callFunc 166 args).run Tryz.prog w = .ok (.enter 166 args) w:=enters_of Tryz.func166 (by kernel_rfl) rfl
theorem iter_stall {w : World} {bb tb : Nat} {t : Tr ByteArray ByteArray} {ver : Int} (hb : IsBlk w bb #[.pointer (some ⟨tb,0,none⟩)] 110) (hs : Ss.STab w tb t ver) :
 IterC Tryz.prog 166 #[.pointer (some ⟨bb,0,none⟩)] Ss.encKV Ss.KeepW t.ino w :=
 fun l J Jx W hW hg hr h0 => Ss.q_tall l J Jx ⟨hg,hr⟩ bb tb W ((hW.block _ (lt_of_block hb)).trans hb) (hs.below hW) h0
theorem keepS_put {W : World} {l : Nat} {r : Loop} (o : Obj) (h : W.heap[l]? = some (.loop r)) : Ss.KeepW W (W.putObj l o):=by
 intro T _ b cs hb
 have hne : b ≠ l:=by
  rintro rfl
  have:=h.symm.trans hb
  simp at this
 exact (World.putObj_heap_other hne).trans hb
theorem keepS_keeps {S : Nat → Prop} {A B : World} (h : Keeps S A B) (hS : ∀ T,T ∈ [188,9,79,150,110] → ∀ b cs,IsBlk A b cs T → ¬ S b) : Ss.KeepW A B :=
 fun T hT => KeepT.of_keeps h (hS T hT)
def ImS (lb ob rb : Nat) (lv ov : Value) (i : Nat) : Prop:=i = lb ∨ i = ob ∨ i = rb ∨ ov.ownBlock = some i ∨ lv.ownBlock = some i
def OwnOk (w : World) (B0 : Nat) (v : Value) : Prop:=∀ g,v.ownBlock = some g → w.heap.size ≤ g ∧ g ≠ B0 ∧ g ≠ B0 + 1
abbrev imOut (q : Nat) (done : List (List Chg)) : List UInt8:=frameOf (lowN 8 q) ++ (done.map (batB (max q 1))).flatMap frameOf
structure ImI (w : World) (B0 : Nat) (sb pb lb ob rb fx q : Nat) (done : List (List Chg)) (cur : List Chg) (lv ov : Value) (room : Nat) (A : World) : Prop where
 box : ImB A pb lb ob rb sb lv ov (room : Int)
 fbx : IsBlk A fx #[.func (.func 134) #[] #[.pointer (some ⟨pb,0,none⟩),.pointer (some ⟨lb,0,none⟩),.pointer (some ⟨ob,0,none⟩),.pointer (some ⟨rb,0,none⟩)]] 1
 slc : SlAt chgKind 42 A lv cur
 slo : SlAt byteKind 5 A ov (imOut q done)
 lo : w.heap.size ≤ lb ∧ w.heap.size ≤ ob ∧ w.heap.size ≤ rb ∧ lb < B0 ∧ ob < B0 ∧ rb < B0
 ownL : OwnOk w B0 lv
 ownO : OwnOk w B0 ov
 few : cur.length ≤ 500
 rm : room ≤ 1048566
 below : Below w.heap.size w A
section
variable {w A A' : World} {B0 sb pb lb ob rb fx q room : Nat} {done : List (List Chg)} {cur : List Chg} {lv ov ov' : Value} {B : List UInt8}
theorem ImI.next (h : ImI w B0 sb pb lb ob rb fx q done cur lv ov room A) (k : Below A.heap.size A A') : ImI w B0 sb pb lb ob rb fx q done cur lv ov room A' :=
 ⟨⟨(k.block _ (lt_of_block h.box.p)).trans h.box.p,(k.block _ (lt_of_block h.box.l)).trans h.box.l,(k.block _ (lt_of_block h.box.o)).trans h.box.o,(k.block _ (lt_of_block h.box.r)).trans h.box.r⟩,(k.block _ (lt_of_block h.fbx)).trans h.fbx,h.slc.below k,h.slo.below k,h.lo,h.ownL,h.ownO,h.few,h.rm,h.below.trans (k.mono h.below.size)⟩
theorem ImI.loop (h : ImI w B0 sb pb lb ob rb fx q done cur lv ov room A) {l : Nat} (k : Keeps (LoopAt l A) A A') (hl : w.heap.size ≤ l) : ImI w B0 sb pb lb ob rb fx q done cur lv ov room A' :=
 ⟨⟨k.obj h.box.p (loopAt_not h.box.p),k.obj h.box.l (loopAt_not h.box.l),k.obj h.box.o (loopAt_not h.box.o),k.obj h.box.r (loopAt_not h.box.r)⟩,k.obj h.fbx (loopAt_not h.fbx),h.slc.keeps k (fun g hg => by obtain ⟨cs,hc⟩:=h.slc.own g hg; exact loopAt_not hc),h.slo.keeps k (fun g hg => by obtain ⟨cs,hc⟩:=h.slo.own g hg; exact loopAt_not hc),h.lo,h.ownL,h.ownO,h.few,h.rm,
   below_keeps h.below k (fun i e => by have:=e.1; omega) h.below.size⟩
theorem ImI.low (h : ImI w B0 sb pb lb ob rb fx q done cur lv ov room A) : ∀ i,ImS lb ob rb lv ov i → w.heap.size ≤ i:=by
 rintro i (e | e | e | e | e)
 ·have:=h.lo; omega
 ·have:=h.lo; omega
 ·have:=h.lo; omega
 ·exact (h.ownO i e).1
 ·exact (h.ownL i e).1
theorem ImI.typ (h : ImI w B0 sb pb lb ob rb fx q done cur lv ov room A) : ∀ i,ImS lb ob rb lv ov i → ∃ cs U,IsBlk A i cs U ∧ U ∈ [22,23,3,5,42]:=by
 rintro i (rfl | rfl | rfl | e | e)
 ·exact ⟨_,_,h.box.l,by simp⟩
 ·exact ⟨_,_,h.box.o,by simp⟩
 ·exact ⟨_,_,h.box.r,by simp⟩
 ·obtain ⟨cs,hc⟩:=h.slo.own i e
  exact ⟨_,_,hc,by simp⟩
 ·obtain ⟨cs,hc⟩:=h.slc.own i e
  exact ⟨_,_,hc,by simp⟩
theorem ImI.not (h : ImI w B0 sb pb lb ob rb fx q done cur lv ov room A) {b : Nat} {cs : Array Value} {U : TypeId} (hb : IsBlk A b cs U) (hU : U ∉ [22,23,3,5,42]) : ¬ ImS lb ob rb lv ov b:=fun e => by
 obtain ⟨ds,T,hd,hT⟩:=h.typ b e
 have : T = U:=by
  by_cases e : T = U
  ·exact e
  ·exact absurd rfl (blk_ne_type hd hb e)
 rw [this] at hT
 exact hU hT
theorem ImI.keepW (h : ImI w B0 sb pb lb ob rb fx q done cur lv ov room A) (k : Keeps (ImS lb ob rb lv ov) A A') : Ss.KeepW A A' :=
 keepS_keeps k fun T hT b cs hb => h.not hb (by
  simp only [List.mem_cons,List.not_mem_nil,or_false] at hT
  rcases hT with rfl | rfl | rfl | rfl | rfl <;> decide)
theorem ImI.loops (h : ImI w B0 sb pb lb ob rb fx q done cur lv ov room A) (k : Keeps (ImS lb ob rb lv ov) A A') (hz : B0 + 2 ≤ A.heap.size) : A'.heap[B0]? = A.heap[B0]? ∧ A'.heap[B0 + 1]? = A.heap[B0 + 1]?:=by
 have h1 : ¬ ImS lb ob rb lv ov B0:=by
  rintro (e | e | e | e | e)
  ·have:=h.lo; omega
  ·have:=h.lo; omega
  ·have:=h.lo; omega
  ·exact (h.ownO _ e).2.1 rfl
  ·exact (h.ownL _ e).2.1 rfl
 have h2 : ¬ ImS lb ob rb lv ov (B0 + 1):=by
  rintro (e | e | e | e | e)
  ·have:=h.lo; omega
  ·have:=h.lo; omega
  ·have:=h.lo; omega
  ·exact (h.ownO _ e).2.2 rfl
  ·exact (h.ownL _ e).2.2 rfl
 exact ⟨k.block _ (by omega) h1,k.block _ (by omega) h2⟩
theorem imOut_snoc (q : Nat) (done : List (List Chg)) (cur : List Chg) : imOut q done ++ frameOf (batB (max q 1) cur) = imOut q (done ++ [cur]):=by
 unfold imOut
 rw [List.map_append,List.flatMap_append,List.append_assoc]
 simp
theorem ImI.flush (h : ImI w B0 sb pb lb ob rb fx q done cur lv ov room A) (f : FlAt A pb lb ob rb sb ov (imOut q done) (batB (max q 1) cur) ov' A') (hz : B0 + 2 ≤ A.heap.size) :
 ImI w B0 sb pb lb ob rb fx q (done ++ [cur]) [] (.slice none 0 0) ov' 1048566 A' ∧ Keeps (ImS lb ob rb lv ov) A A' ∧ (∀ i,ImS lb ob rb (.slice none 0 0) ov' i → i < A.heap.size → ImS lb ob rb lv ov i):=by
 have hk : Keeps (ImS lb ob rb lv ov) A A':=f.keeps.mono fun i _ e => by
  rcases e with e | e | e | e
  ·exact .inl e
  ·exact .inr (.inl e)
  ·exact .inr (.inr (.inl e))
  ·exact .inr (.inr (.inr (.inl e)))
 have hB:=h.below.size
 refine ⟨⟨f.box,hk.obj h.fbx (h.not h.fbx (by decide)),SlAt.nil,by rw [← imOut_snoc]; exact f.sl,h.lo,fun g hg => by simp [Value.ownBlock] at hg,fun g hg => ?_,by simp,Nat.le_refl _,below_keeps h.below hk h.low hB⟩,hk,?_⟩
 ·rcases f.own g hg with e | e
  ·exact h.ownO g e
  ·exact ⟨by omega,by omega,by omega⟩
 ·rintro i (e | e | e | e | e) hi
  ·exact .inl e
  ·exact .inr (.inl e)
  ·exact .inr (.inr (.inl e))
  ·rcases f.own i e with e | e
   ·exact .inr (.inr (.inr (.inl e)))
   ·omega
  ·simp [Value.ownBlock] at e
theorem ImI.push (h : ImI w B0 sb pb lb ob rb fx q done cur lv ov room A) (x : Chg) (hc : cur.length < 500) (hz : B0 + 2 ≤ A.heap.size) :
 ∃ (va : Option Addr) (n vc : Nat) (V : World),(Builtin.append_ #[22,22] 22 #[lv,.slice (some ⟨A.heap.size,0,none⟩) 1 1]).run Tryz.prog (A.alloc (.cells #[.string x.key,.string x.val,.bool x.drop] 42)) = .ok (.slice va n vc) V ∧
   V.frozen? ⟨lb,0,none⟩ = false ∧ V.cell? ⟨lb,0,none⟩ = some lv ∧ ImI w B0 sb pb lb ob rb fx q done (cur ++ [x]) (.slice va n vc) ov room (V.setCell ⟨lb,0,none⟩ (.slice va n vc)) ∧ Keeps (ImS lb ob rb lv ov) A (V.setCell ⟨lb,0,none⟩ (.slice va n vc)) ∧
   (∀ i,ImS lb ob rb (.slice va n vc) ov i → i < A.heap.size → ImS lb ob rb lv ov i):=by
 obtain ⟨A1,hA1⟩ : ∃ y,y = A.alloc (.cells #[.string x.key,.string x.val,.bool x.drop] 42):=⟨_,rfl⟩
 have hb1 : Below A.heap.size A A1:=by rw [hA1]; exact (Below.refl _ _).alloc (Nat.le_refl _) _
 obtain ⟨v',V,hap,hsl,hk,hown⟩:=append_chg (h.slc.below hb1) (by rw [hA1]; exact rd_one (ek:=chgKind) A x _ rfl 42) (by simp only [List.length_cons,List.length_nil]; omega) 22
 obtain ⟨va,vc,rfl⟩:=hsl.shape
 obtain ⟨n,hn⟩ : ∃ n,n = (cur ++ [x]).length:=⟨_,rfl⟩
 rw [← hn] at hap hsl hown
 rw [← hA1]
 have h1:=h.next hb1
 have hkA : Keeps (fun k => lv.ownBlock = some k) A V:=((Keeps.of_below hb1).mono fun _ _ e => e.elim).trans' hk
 have nt : ∀ {b cs U},IsBlk A b cs U → U ≠ 42 → ¬ lv.ownBlock = some b:=fun hb hU e => h.slc.ne hb (fun e2 => hU e2.symm) _ e rfl
 have hp:=hkA.obj h.box.p (nt h.box.p (by decide))
 have hl:=hkA.obj h.box.l (nt h.box.l (by decide))
 have ho:=hkA.obj h.box.o (nt h.box.o (by decide))
 have hr:=hkA.obj h.box.r (nt h.box.r (by decide))
 have hf:=hkA.obj h.fbx (nt h.fbx (by decide))
 have hout:=h.slo.keeps hkA (fun g hg e => by
  obtain ⟨cs,hc⟩:=h.slo.own g hg
  exact nt hc (by decide) e)
 have k2 : Keeps (Only lb) V (V.setCell ⟨lb,0,none⟩ (.slice va n vc)):=(Keeps.refl (Only lb) V).setCell (p:=⟨lb,0,none⟩) (fun _ => rfl) _
 have kk : Keeps (ImS lb ob rb lv ov) A (V.setCell ⟨lb,0,none⟩ (.slice va n vc)):=(hkA.mono fun i _ e => (.inr (.inr (.inr (.inr e))) : ImS lb ob rb lv ov i)).trans' (k2.mono fun i _ e => (.inl e : ImS lb ob rb lv ov i))
 have hB:=h.below.size
 have ne : ∀ {b cs U},IsBlk V b cs U → U ≠ 22 → ¬ Only lb b:=fun hb hU e => by
  have e : _ = lb:=e
  subst e
  exact blk_ne_type hb hl hU rfl
 refine ⟨va,n,vc,V,hap,blk_free hl 0,blk_cell hl 0,⟨⟨k2.obj hp (ne hp (by decide)),blk_set hl 0 _,k2.obj ho (ne ho (by decide)),k2.obj hr (ne hr (by decide))⟩,k2.obj hf (ne hf (by decide)),?_,?_,h.lo,fun g hg => ?_,h.ownO,by rw [List.length_append,List.length_singleton]; omega,h.rm,below_keeps h.below kk h.low hB⟩,kk,?_⟩
 ·exact hsl.keeps k2 (fun g hg e => by
   obtain ⟨cs,hc⟩:=hsl.own g hg
   exact ne hc (by decide) e)
 ·exact hout.keeps k2 (fun g hg e => by
   obtain ⟨cs,hc⟩:=hout.own g hg
   exact ne hc (by decide) e)
 ·rcases hown g hg with e | e
  ·exact h.ownL g e
  ·have:=hb1.size
   exact ⟨by omega,by omega,by omega⟩
 ·rintro i (e | e | e | e | e) hi
  ·exact .inl e
  ·exact .inr (.inl e)
  ·exact .inr (.inr (.inl e))
  ·exact .inr (.inr (.inr (.inl e)))
  ·rcases hown i e with e | e
   ·exact .inr (.inr (.inr (.inr e)))
   ·have:=hb1.size; omega
theorem ImI.setRoom (h : ImI w B0 sb pb lb ob rb fx q done cur lv ov room A) (room' : Nat) (hr : room' ≤ 1048566) :
 ImI w B0 sb pb lb ob rb fx q done cur lv ov room' (A.setCell ⟨rb,0,none⟩ (.int .i64 (room' : Int))) ∧ Keeps (ImS lb ob rb lv ov) A (A.setCell ⟨rb,0,none⟩ (.int .i64 (room' : Int))):=by
 have k2 : Keeps (Only rb) A (A.setCell ⟨rb,0,none⟩ (.int .i64 (room' : Int))):=(Keeps.refl (Only rb) A).setCell (p:=⟨rb,0,none⟩) (fun _ => rfl) _
 have kk : Keeps (ImS lb ob rb lv ov) A (A.setCell ⟨rb,0,none⟩ (.int .i64 (room' : Int))):=k2.mono fun i _ e => (.inr (.inr (.inl e)) : ImS lb ob rb lv ov i)
 have ne : ∀ {b cs U},IsBlk A b cs U → U ≠ 3 → ¬ Only rb b:=fun hb hU e => by
  have e : _ = rb:=e
  subst e
  exact blk_ne_type hb h.box.r hU rfl
 refine ⟨⟨⟨k2.obj h.box.p (ne h.box.p (by decide)),k2.obj h.box.l (ne h.box.l (by decide)),k2.obj h.box.o (ne h.box.o (by decide)),blk_set h.box.r 0 _⟩,k2.obj h.fbx (ne h.fbx (by decide)),?_,?_,h.lo,h.ownL,h.ownO,h.few,hr,below_keeps h.below kk h.low h.below.size⟩,kk⟩
 ·exact h.slc.keeps k2 (fun g hg e => by
   obtain ⟨cs,hc⟩:=h.slc.own g hg
   exact ne hc (by decide) e)
 ·exact h.slo.keeps k2 (fun g hg e => by
   obtain ⟨cs,hc⟩:=h.slo.own g hg
   exact ne hc (by decide) e)
end
def ImE (m : Prs) (done : List (List Chg)) (cur : List Chg) (room k : Nat) : Prop:=grpB 1048566 [] (m.map wrC) = done ++ grpB room cur ((m.drop k).map wrC)
section
variable {m : Prs} {done : List (List Chg)} {cur : List Chg} {room k : Nat} {x : ByteArray × ByteArray}
theorem ImE.flush (h : ImE m done cur room k) (hx : m[k]? = some x) (hc : cur.length = 500 ∨ room < (chgB (wrC x)).length) : ImE m (done ++ [cur]) [wrC x] (1048566 - (chgB (wrC x)).length) (k + 1) ∧ cur ∈ grpB 1048566 [] (m.map wrC):=by
 have hd : m.drop k = x :: m.drop (k + 1):=by
  rw [List.drop_eq_getElem_cons (List.getElem?_eq_some_iff.1 hx).1,(List.getElem?_eq_some_iff.1 hx).2]
 unfold ImE at h ⊢
 rw [hd,List.map_cons] at h
 rw [show grpB room cur (wrC x :: (m.drop (k + 1)).map wrC) = cur :: grpB (1048566 - (chgB (wrC x)).length) [wrC x] ((m.drop (k + 1)).map wrC) from if_pos hc] at h
 rw [h]
 exact ⟨by simp,by simp⟩
theorem ImE.keep (h : ImE m done cur room k) (hx : m[k]? = some x) (hc : ¬ (cur.length = 500 ∨ room < (chgB (wrC x)).length)) : ImE m done (cur ++ [wrC x]) (room - (chgB (wrC x)).length) (k + 1):=by
 have hd : m.drop k = x :: m.drop (k + 1):=by
  rw [List.drop_eq_getElem_cons (List.getElem?_eq_some_iff.1 hx).1,(List.getElem?_eq_some_iff.1 hx).2]
 unfold ImE at h ⊢
 rw [hd,List.map_cons] at h
 rw [show grpB room cur (wrC x :: (m.drop (k + 1)).map wrC) = grpB (room - (chgB (wrC x)).length) (cur ++ [wrC x]) ((m.drop (k + 1)).map wrC) from if_neg hc] at h
 exact h
theorem ImE.last (h : ImE m done cur room m.length) : grpB 1048566 [] (m.map wrC) = done ++ (if cur = [] then [] else [cur]):=by
 unfold ImE at h
 rw [List.drop_length] at h
 exact h
theorem grp_enc (hm : PrsOk m) (q : Nat) (hq : q < 9223372036854775808) {g : List Chg} (hg : g ∈ grpB 1048566 [] (m.map wrC)) : encB ((max q 1 : Nat) : Int) g = (batB (max q 1) g,0) ∧ (batB (max q 1) g).length ≤ 1048576:=by
 obtain ⟨h1,h2,h3,h4⟩:=grp_ok hm hg
 have hb : (batB (max q 1) g).length ≤ 1048576:=by rw [batB_len]; omega
 unfold encB
 rw [if_neg (by omega),if_neg (by rw [h1]; decide),Int.toNat_natCast,if_neg (by omega)]
 exact ⟨rfl,hb⟩
theorem imOut_le (q : Nat) {gs : List (List Chg)} (h : grpB 1048566 [] (m.map wrC) = done ++ gs) : (imOut q done).length + 8 ≤ (imgB q m).length:=by
 unfold imgB imgRecs imOut
 rw [h]
 simp only [List.flatMap_cons,List.map_append,List.flatMap_append,List.length_append,List.append_assoc]
 have e : (frameOf ([] : List UInt8)).length = 8:=rfl
 simp only [List.flatMap_nil,List.append_nil]
 omega
theorem imOut_all (q : Nat) (h : grpB 1048566 [] (m.map wrC) = done) : imOut q done ++ frameOf [] = imgB q m:=by
 unfold imgB imgRecs imOut
 rw [h]
 simp [List.flatMap_append]
end
end Go.Proofs.YtagdchgkjjpacaaGreat
