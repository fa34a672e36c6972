/- The walk of package store's DecodeBatch: what reads. -/
import Derived.Test.YtagdchgkjjpacaaGreatr14
import Derived.Maps.RangeWalk
set_option maxRecDepth 100000
open Go.Lib (hid)
set_option linter.unusedSimpArgs false
set_option linter.unusedVariables false
set_option linter.unusedSectionVars false
namespace Go.Proofs.YtagdchgkjjpacaaGreat
open Go.RowKit Go.Shelf
theorem infoChg : (Tryz.prog.info? 42).map (fun i => (i.zero,i.size,i.bytes)) = some (some (.agg #[.string ⟨#[]⟩,.string ⟨#[]⟩,.bool false]),3,40):=by kernel_rfl
theorem append_chg {w : World} {v u : Value} {xs ys : List Chg} (hv : SlAt chgKind 42 w v xs) (hu : RdAt chgKind w u ys) (hn : xs.length + ys.length ≤ 1000000) (ty : TypeId) :
 ∃ v' w',(Builtin.append_ #[22,22] ty #[v,u]).run Tryz.prog w = .ok v' w' ∧ SlAt chgKind 42 w' v' (xs ++ ys) ∧ Keeps (fun k => v.ownBlock = some k) w w' ∧ (∀ k,v'.ownBlock = some k → v.ownBlock = some k ∨ w.heap.size ≤ k):=by
 obtain ⟨i,hi,hz,hs,hb⟩:=info_parts infoChg
 obtain ⟨v',w',h1,h2,h3,h4,_⟩:=run_append_sl (ek:=chgKind) (P:=Tryz.prog) 22 ty i _ 40 Tryz.underlying22 hi hz hs hb rfl hv hu (by unfold maxLen; omega) (by omega)
 exact ⟨v',w',h1,h2,h3,h4⟩
theorem types_apart2 {w : World} {b c : Nat} {cs ds : Array Value} {T U : TypeId} (h1 : IsBlk w b cs T) (h2 : IsBlk w c ds U) (hT : T ≠ U) : b ≠ c:=blk_ne_type h1 h2 hT
theorem rd_one {α : Type} {ek : ElKind α} (w : World) (x : α) (cs : Array Value) (hc : cs = (ek.enc x).toArray) (T : TypeId) : RdAt ek (w.alloc (.cells cs T)) (.slice (some ⟨w.heap.size,0,none⟩) 1 1) [x]:=by
 refine ⟨_,_,rfl,fun j y hy => ?_⟩
 obtain ⟨rfl,rfl⟩ : j = 0 ∧ y = x:=by
  cases j with
  | zero => simp at hy; exact ⟨rfl,hy.symm⟩
  | succ j => simp at hy
 refine ⟨_,_,rfl,fun i hi => ?_⟩
 rw [show 0 + 0 * ek.size + i = i from by omega,blk_cell (blk_new w _),hc,List.getElem?_toArray]
structure DecI (W : World) (B rb pb qb lb : Nat) (Y : List UInt8) (n : Nat) (sq : Int) (i : Nat) (wr : World) : Prop where
 ex : ∃ li rest a c lv,(takeChgs n Y = (takeChgs (n - i) rest).map fun p => (li ++ p.1,p.2)) ∧ SRd wr rb B a c rest ∧ IsBlk wr lb #[lv] 22 ∧ SlAt chgKind 42 wr lv li ∧ li.length = i ∧ (∀ g,lv.ownBlock = some g → W.heap.size ≤ g)
 pbk : IsBlk wr pb #[.pointer (some ⟨rb,0,none⟩)] 93
 qbk : IsBlk wr qb #[.int .i64 sq] 3
 keeps : Keeps (fun k => k = rb ∨ k = qb ∨ k = lb) W wr
def decT (ys : List UInt8) : Option (List Chg × List UInt8):=if ys.length < 10 then none else takeChgs (numOf ((ys.drop 8).take 2)) ((ys.drop 8).drop 2)
def DecPost (W : World) (B rb pb qb lb : Nat) (ys : List UInt8) (e : Ending) (w' : World) : Prop :=
 Keeps (fun k => k = rb ∨ k = qb ∨ k = lb) W w' ∧ (((∃ v,e = .returned v) ∧ ∃ l q a c lv,decT ys = some (l,q) ∧ SRd w' rb B a c q ∧ IsBlk w' pb #[.pointer (some ⟨rb,0,none⟩)] 93 ∧ IsBlk w' qb #[.int .i64 (wrap64 (numOf (ys.take 8) : Int))] 3 ∧ IsBlk w' lb #[lv] 22 ∧ SlAt chgKind 42 w' lv l ∧ (∀ g,lv.ownBlock = some g → W.heap.size ≤ g) ∧ l.length ≤ 65535) ∨ (decT ys = none ∧ e = spoiltE))
section
variable {W : World} {B rb pb qb lb : Nat} {a : Option Addr} {cap : Nat} {ys : List UInt8}
set_option maxHeartbeats 8000000 in
theorem st_decode1 (h : SRd W rb B a cap ys) (hB : B ≤ W.heap.size) (hp : IsBlk W pb #[.pointer (some ⟨rb,0,none⟩)] 93) (hq : IsBlk W qb #[.int .i64 0] 3) (hl : IsBlk W lb #[.slice none 0 0] 22) (hBq : B ≤ qb ∧ B ≤ lb ∧ B ≤ rb) :
 Calls Tryz.prog 53 #[.pointer (some ⟨pb,0,none⟩),.pointer (some ⟨qb,0,none⟩),.pointer (some ⟨lb,0,none⟩)] W (DecPost W B rb pb qb lb ys):=by
 have H:=hid h
 have HP:=hid hp
 have HQ:=hid hq
 have HL:=hid hl
 have HBB:=hid (And.intro hB hBq)
 have HNE : Hid (rb ≠ pb ∧ rb ≠ qb ∧ rb ≠ lb ∧ qb ≠ pb ∧ qb ≠ lb ∧ lb ≠ pb):=hid ⟨types_apart2 h.blk hp (by decide),types_apart2 h.blk hq (by decide),types_apart2 h.blk hl (by decide),types_apart2 hq hp (by decide),types_apart2 hq hl (by decide),types_apart2 hl hp (by decide)⟩
 have p0 : W.cell? ⟨pb,0,none⟩ = some (.pointer (some ⟨rb,0,none⟩)):=blk_cell hp 0
 clear h hp hq hl hB hBq
 by_cases h8 : ys.length < 8
 ·have HNO : Hid (decT ys = none):=hid (by unfold decT; rw [if_pos (by omega)])
  go_enter Tryz.func53,Tryz.ntmps53
  go_wp2_with (fail)
  refine (st_take_bad H.out 8 (by right; omega)).mono ?_
  rintro e w1 ⟨rfl,rfl⟩
  refine st_leave rfl ?_
  exact ⟨Keeps.refl _ _,.inr ⟨HNO.out,rfl⟩⟩
 go_enter Tryz.func53,Tryz.ntmps53
 go_wp2_with (fail)
 refine (st_take H.out 8 (by omega)).mono ?_
 rintro e w1 ⟨a1,c1,rfl,a2,c2,HT⟩
 have H1 : Hid (SRd w1 rb B a2 c2 (ys.drop 8)):=hid HT.out.2.1
 have HSV:=hid (st_value (w:=w1) HT.out.1 (by rw [List.length_take]; omega))
 have HK1 : Hid (Keeps (Only rb) W w1):=hid HT.out.2.2
 clear HT p0
 go_wp2_with (fail)
 refine HSV.out.mono ?_
 rintro e w2 ⟨rfl,rfl⟩
 obtain ⟨sq,hsq⟩ : ∃ x : Int,x = wrap64 (numOf (ys.take 8) : Int):=⟨_,rfl⟩
 have HSQ:=hid hsq
 rw [← hsq]
 have hq1 : IsBlk w1 qb #[.int .i64 0] 3:=HK1.out.obj HQ.out (fun e => by have e : qb = rb:=e; have:=HNE.out; omega)
 have q0 : w1.cell? ⟨qb,0,none⟩ = some (.int .i64 0):=blk_cell hq1 0
 have qz : w1.frozen? ⟨qb,0,none⟩ = false:=blk_free hq1 0
 have hk2 : Keeps (Only qb) w1 (w1.setCell ⟨qb,0,none⟩ (.int .i64 sq)):=(Keeps.refl (Only qb) w1).setCell (p:=⟨qb,0,none⟩) (fun _ => rfl) _
 have hp2 : IsBlk (w1.setCell ⟨qb,0,none⟩ (.int .i64 sq)) pb #[.pointer (some ⟨rb,0,none⟩)] 93:=hk2.obj (HK1.out.obj HP.out (fun e => by have e : pb = rb:=e; have:=HNE.out; omega)) (fun e => by have e : pb = qb:=e; have:=HNE.out; omega)
 have p0 : (w1.setCell ⟨qb,0,none⟩ (.int .i64 sq)).cell? ⟨pb,0,none⟩ = some (.pointer (some ⟨rb,0,none⟩)):=blk_cell hp2 0
 have H2 : Hid (SRd (w1.setCell ⟨qb,0,none⟩ (.int .i64 sq)) rb B a2 c2 (ys.drop 8)):=hid (H1.out.keeps hk2 (fun e => by have e : rb = qb:=e; have:=HNE.out; omega) (fun g off e h0 he => by
  have he : g = qb:=he
  have h1:=H1.out.lo h0 _ e
  have h2:=HBB.out
  simp only at h1
  omega))
 have HI2 : Hid (IsBlk (w1.setCell ⟨qb,0,none⟩ (.int .i64 sq)) pb #[.pointer (some ⟨rb,0,none⟩)] 93 ∧ IsBlk (w1.setCell ⟨qb,0,none⟩ (.int .i64 sq)) qb #[.int .i64 sq] 3 ∧ IsBlk (w1.setCell ⟨qb,0,none⟩ (.int .i64 sq)) lb #[.slice none 0 0] 22 ∧ Keeps (fun k => k = rb ∨ k = qb ∨ k = lb) W (w1.setCell ⟨qb,0,none⟩ (.int .i64 sq))):=hid
   ⟨hp2,blk_set hq1 0 (.int .i64 sq),hk2.obj (HK1.out.obj HL.out (fun e => by have e : lb = rb:=e; have:=HNE.out; omega)) (fun e => by have e : lb = qb:=e; have:=HNE.out; omega),
     (HK1.out.mono fun _ _ e => .inl e).trans' (hk2.mono fun _ _ e => .inr (.inl e))⟩
 clear hsq hq1 hk2 hp2 H1 HSV
 go_upto_region 1 with (fail)
 generalize w1.setCell ⟨qb,0,none⟩ (.int .i64 sq) = w2 at p0 H2 HI2 ⊢
 clear q0 qz
 by_cases h10 : ys.length < 10
 ·have HNO : Hid (decT ys = none):=hid (by unfold decT; rw [if_pos h10])
  go_wp2_with (fail)
  refine (st_take_bad H2.out 2 (by right; rw [List.length_drop]; omega)).mono ?_
  rintro e w3 ⟨rfl,rfl⟩
  refine st_leave rfl ?_
  exact ⟨HI2.out.2.2.2,.inr ⟨HNO.out,rfl⟩⟩
 have HDT : Hid (decT ys = takeChgs (numOf ((ys.drop 8).take 2)) ((ys.drop 8).drop 2)):=hid (by unfold decT; rw [if_neg h10])
 go_wp2_with (fail)
 refine (st_take H2.out 2 (by rw [List.length_drop]; omega)).mono ?_
 rintro e w3 ⟨a3,c3,rfl,a4,c4,HT3⟩
 have H3 : Hid (SRd w3 rb B a4 c4 ((ys.drop 8).drop 2)):=hid HT3.out.2.1
 have HSV:=hid (st_value (w:=w3) HT3.out.1 (by rw [List.length_take]; omega))
 obtain ⟨n,hn⟩ : ∃ n,n = numOf ((ys.drop 8).take 2):=⟨_,rfl⟩
 have hn2 : n < 65536:=by
  have h1:=numOf_lt ((ys.drop 8).take 2)
  have h2 : ((ys.drop 8).take 2).length = 2:=by rw [List.length_take,List.length_drop]; omega
  rw [h2] at h1
  omega
 obtain ⟨Y,hY⟩ : ∃ Y,Y = (ys.drop 8).drop 2:=⟨_,rfl⟩
 rw [← hn,IntWalk.wrap64_in (n : Int) (by omega)] at HSV
 rw [← hn,← hY] at HDT
 rw [← hY] at H3
 have HI3 : Hid (DecI W B rb pb qb lb Y n sq 0 w3):=hid (by
  obtain ⟨i1,i2,i3,i4⟩:=HI2.out
  have hk:=HT3.out.2.2
  refine ⟨⟨[],Y,a4,c4,.slice none 0 0,?_,H3.out,hk.obj i3 (fun e => by have e : lb = rb:=e; have:=HNE.out; omega),SlAt.nil,rfl,fun g hg => by simp [Value.ownBlock] at hg⟩,hk.obj i1 (fun e => by have e : pb = rb:=e; have:=HNE.out; omega),hk.obj i2 (fun e => by have e : qb = rb:=e; have:=HNE.out; omega),i4.trans' (hk.mono fun _ _ e => .inl e)⟩
  rw [Nat.sub_zero]
  cases takeChgs n Y <;> rfl)
 have hnI : (n : Int) ≤ 65535:=by omega
 clear hn hn2 hY HT3 p0 H2 HI2 h8 h10 H3
 go_wp2_with (fail)
 refine HSV.out.mono ?_
 rintro e w4 ⟨rfl,rfl⟩
 go_wp2_with (fail)
 go_loopw [9] (fun iv wr => ∃ i : Nat,i ≤ n ∧ iv = .int .i64 (i : Int) ∧ Hid (DecI W B rb pb qb lb Y n sq i wr)) (fun iv _ => n - (intOf iv).toNat)
 case atStart => exact ⟨0,Nat.zero_le _,rfl,HI3⟩
 case round =>
  obtain ⟨i,hi,rfl,HI⟩:=hrel
  by_cases hlt : i < n
  ·have q1 : (0 : Int) ≤ (i : Int):=by omega
   have q2 : (i : Int) < (n : Int):=by omega
   obtain ⟨li,rest,ra,rc,lv,htk,hsr,hlb,hsl,hil,hown⟩:=HI.out.ex
   have HLI:=hid (And.intro htk (And.intro hsl (And.intro hil hown)))
   have HLB:=hid hlb
   have HSR:=hid (hsr.below (Below.refl _ _).drew)
   have HLT:=hid hlt
   have HMI:=hid hi
   have HTK : Hid (takeChgs (n - i) rest = match takeChg rest with
    | none => none
    | some (c,r) => match takeChgs (n - (i + 1)) r with
      | none => none
      | some (l,q) => some (c :: l,q)):=hid (by rw [show n - i = (n - (i + 1)) + 1 by omega]; rfl)
   clear htk hsr hsl hil hown hlt hi hlb
   go_upto_region 3 with (fail)
   have hT0 : (fun X : World => X.cell? ⟨lb,0,none⟩ = some lv ∧ X.cell? ⟨pb,0,none⟩ = some (.pointer (some ⟨rb,0,none⟩))) wr.drew:=⟨blk_cell HLB.out 0,blk_cell HI.out.pbk 0⟩
   refine wp_region_B (T:=fun X : World => X.cell? ⟨lb,0,none⟩ = some lv ∧ X.cell? ⟨pb,0,none⟩ = some (.pointer (some ⟨rb,0,none⟩))) (B:=fun i => i != 5) (by kernel_rfl) ?_
   have HVK : Hid (Below wr.heap.size wr wr.drew):=hid (Below.refl _ _).drew
   generalize wr.drew = V at hT0 HVK HSR ⊢
   refine wpAnyB_load (i:=0) (v:=?mv0) rfl (by kernel_rfl) (by kernel_rfl) (by kernel_rfl) (by kernel_rfl) (fun _ _ _ h => h) (Or.inl ⟨by kernel_rfl,?my0⟩) (by assumption) ?ms0
   case my0 => (intro w hSw; obtain ⟨u0,u1⟩:=hSw; go_simp) <;> with_reducible rfl
   try go_frame
   refine wpAnyB_load (i:=1) (v:=?mv1) rfl (by kernel_rfl) (by kernel_rfl) (by kernel_rfl) (by kernel_rfl) (fun _ _ _ h => h) (Or.inl ⟨by kernel_rfl,?my1⟩) (by assumption) ?ms1
   case my1 => (intro w hSw; obtain ⟨u0,u1⟩:=hSw; go_simp) <;> with_reducible rfl
   try go_frame
   have HC:=hid (st_change HSR.out (by have h1:=HBB.out.1; have h2:=HI.out.keeps.size; have h3:=HVK.out.size; omega))
   clear hT0
   refine wpAnyB_ready (rs:=[2]) (by kernel_rfl) (by simp) ?_
   refine AllReadyB.cons (o:=⟨some 13,.call ⟨.value (.func 56),#[.tmp 12],#[93]⟩,42,"batch.go:147",#[⟨1,.data⟩],none⟩) rfl (fun K hK => ?_) AllReadyB.nil
   go_simp
   go_at_call 56
   refine HC.out.mono ?_
   rintro e V2 ⟨hk2,⟨cc,r2,ho,rfl,a5,c5,hs5⟩ | ⟨ho,rfl⟩⟩
   ·have HK2 : Hid (Keeps (Only rb) wr V2):=hid (((Keeps.of_below HVK.out).mono fun _ _ e => e.elim).trans' hk2)
    have HS5:=hid hs5
    have HLB2 : Hid (IsBlk V2 lb #[lv] 22):=hid (HK2.out.obj HLB.out (fun e => by have e : lb = rb:=e; have:=HNE.out; omega))
    have HPB2 : Hid (IsBlk V2 pb #[.pointer (some ⟨rb,0,none⟩)] 93):=hid (HK2.out.obj HI.out.pbk (fun e => by have e : pb = rb:=e; have:=HNE.out; omega))
    have HQB2 : Hid (IsBlk V2 qb #[.int .i64 sq] 3):=hid (HK2.out.obj HI.out.qbk (fun e => by have e : qb = rb:=e; have:=HNE.out; omega))
    have HRB : Hid (rb < W.heap.size ∧ lb < W.heap.size ∧ pb < W.heap.size ∧ qb < W.heap.size):=hid ⟨lt_of_block H.out.blk,lt_of_block HL.out,lt_of_block HP.out,lt_of_block HQ.out⟩
    have HSL2 : Hid (SlAt chgKind 42 V2 lv li):=hid (HLI.out.2.1.keeps HK2.out (fun g hg e => by have e : g = rb:=e; have:=HLI.out.2.2.2 g hg; have:=HRB.out; omega))
    have HZ2 : Hid (W.heap.size ≤ V2.heap.size):=hid (by have h1:=HI.out.keeps.size; have h2:=HK2.out.size; omega)
    have HTN : Hid (takeChgs n Y = (takeChgs (n - (i + 1)) r2).map fun p => ((li ++ [cc]) ++ p.1,p.2)):=hid (by
     rw [HLI.out.1,HTK.out,ho]
     simp only
     cases takeChgs (n - (i + 1)) r2 with
     | none => rfl
     | some p => obtain ⟨l,q⟩:=p; simp)
    refine hK.out _ _ (fun _ _ => ⟨blk_cell HLB2.out 0,blk_cell HPB2.out 0⟩) ?_
    clear hK K ho hk2 hs5 HC HTK HLB
    try go_frame
    refine wpAnyB_ready (rs:=[3]) (by kernel_rfl) (by simp) ?_
    refine AllReadyB.cons (o:=⟨some 14,.buildSlice 22 1 #[(0,.tmp 13)],22,"batch.go:147",#[⟨2,.data⟩],none⟩) rfl (fun K hK => ?_) AllReadyB.nil
    go_simp
    obtain ⟨V3,hV3⟩ : ∃ x,x = V2.alloc (.cells #[.string cc.key,.string cc.val,.bool cc.drop] 42):=⟨_,rfl⟩
    have hb3 : Below V2.heap.size V2 V3:=by rw [hV3]; exact (Below.refl _ _).alloc (Nat.le_refl _) _
    obtain ⟨v',V4,hap,hsl4,hk4,hown4⟩:=append_chg (HSL2.out.below hb3) (by rw [hV3]; exact rd_one (ek:=chgKind) V2 cc _ rfl 42) (by have h1:=HLI.out.2.2.1; have h2:=HLT.out; simp only [List.length_cons,List.length_nil]; omega) 22
    obtain ⟨va,vc,hv'⟩:=hsl4.shape
    subst hv'
    rw [← hV3]
    have HB3:=hid hb3
    have HK4 : Hid (Keeps (fun k => lv.ownBlock = some k) V2 V4):=hid (((Keeps.of_below hb3).mono fun _ _ e => e.elim).trans' hk4)
    have HO4 : Hid (∀ g,(Value.slice va (li ++ [cc]).length vc).ownBlock = some g → W.heap.size ≤ g):=hid fun g hg => by
     rcases hown4 g hg with e | e
     ·exact HLI.out.2.2.2 g e
     ·have h1:=HB3.out.size; have h2:=HZ2.out; omega
    have HSL4:=hid hsl4
    have HOUT : Hid (∀ k,k < W.heap.size → ¬ lv.ownBlock = some k):=hid fun k hk e => by have:=HLI.out.2.2.2 k e; omega
    have HLB4 : Hid (IsBlk V4 lb #[lv] 22):=hid (HK4.out.obj HLB2.out (HOUT.out lb HRB.out.2.1))
    have HPB4 : Hid (IsBlk V4 pb #[.pointer (some ⟨rb,0,none⟩)] 93):=hid (HK4.out.obj HPB2.out (HOUT.out pb HRB.out.2.2.1))
    have HQB4 : Hid (IsBlk V4 qb #[.int .i64 sq] 3):=hid (HK4.out.obj HQB2.out (HOUT.out qb HRB.out.2.2.2))
    have HS4 : Hid (SRd V4 rb B a5 c5 r2):=hid (HS5.out.keeps HK4.out (HOUT.out rb HRB.out.1) (fun g off e h0 he => by
     have h1:=HS5.out.lo h0 _ e
     have h2:=HBB.out
     have h3:=HLI.out.2.2.2 g he
     simp only at h1
     omega))
    have HKW : Hid (Keeps (fun k => k = rb ∨ k = qb ∨ k = lb) W V4):=hid ((HI.out.keeps.trans' (HK2.out.mono fun _ _ e => .inl e)).trans HK4.out fun k hk e => absurd e (HOUT.out k hk))
    refine hK.out _ _ (fun _ _ => ⟨blk_cell ((HB3.out.block _ (lt_of_block HLB2.out)).trans HLB2.out) 0,blk_cell ((HB3.out.block _ (lt_of_block HPB2.out)).trans HPB2.out) 0⟩) ?_
    clear hK K hV3 hb3 hsl4 hk4 hown4
    try go_frame
    refine wpAnyB_ready (rs:=[4]) (by kernel_rfl) (by simp) ?_
    refine AllReadyB.cons (o:=⟨some 15,.call ⟨.builtin .append,#[.tmp 11,.tmp 14],#[22,22]⟩,22,"batch.go:147",#[⟨0,.data⟩,⟨3,.data⟩,⟨2,.chain⟩],none⟩) rfl (fun K hK => ?_) AllReadyB.nil
    refine step_append_run rfl (.tmp 11) (.tmp 14) 22 rfl _ _ rfl rfl _ _ hap ?_
    refine hK.out _ _ (fun _ _ => ⟨blk_cell HLB4.out 0,blk_cell HPB4.out 0⟩) ?_
    clear hK K hap
    try go_frame
    have lz : V4.frozen? ⟨lb,0,none⟩ = false:=blk_free HLB4.out 0
    have l0 : V4.cell? ⟨lb,0,none⟩ = some lv:=blk_cell HLB4.out 0
    refine wpAnyB_ready (rs:=[5]) (by kernel_rfl) (by simp) ?_
    refine AllReadyB.cons (o:=⟨none,.store 22 (.tmp 2) (.tmp 15),0,"batch.go:147",#[⟨4,.data⟩,⟨4,.chain⟩,⟨0,.phase⟩,⟨1,.phase⟩,⟨2,.phase⟩,⟨3,.phase⟩,⟨4,.phase⟩],none⟩) rfl (fun K hK => ?_) AllReadyB.nil
    go_simp
    have HFIN : Hid (DecI W B rb pb qb lb Y n sq (i + 1) (V4.setCell ⟨lb,0,none⟩ (.slice va (li ++ [cc]).length vc))):=hid (by
     have hk : Keeps (Only lb) V4 (V4.setCell ⟨lb,0,none⟩ (.slice va (li ++ [cc]).length vc)):=(Keeps.refl (Only lb) V4).setCell (p:=⟨lb,0,none⟩) (fun _ => rfl) _
     refine ⟨⟨li ++ [cc],r2,a5,c5,.slice va (li ++ [cc]).length vc,HTN.out,HS4.out.keeps hk (fun e => by have e : rb = lb:=e; have:=HNE.out; omega) (fun g off e h0 he => by
      have h1:=HS4.out.lo h0 _ e
      have h2:=HBB.out
      have he : g = lb:=he
      simp only at h1
      omega),blk_set HLB4.out 0 (.slice va (li ++ [cc]).length vc),HSL4.out.keeps hk (fun g hg e => by
       have e : g = lb:=e
       have h1:=HO4.out g hg
       have h2:=HRB.out
       omega),by rw [List.length_append,HLI.out.2.2.1]; rfl,HO4.out⟩,hk.obj HPB4.out (fun e => by have e : pb = lb:=e; have:=HNE.out; omega),hk.obj HQB4.out (fun e => by have e : qb = lb:=e; have:=HNE.out; omega),HKW.out.trans' (hk.mono fun _ _ e => .inr (.inr e))⟩)
    rw [List.length_append,List.length_singleton] at HFIN
    refine hK.out _ _ (fun h => by simp at h) ?_
    clear hK K
    try go_frame
    refine wpAnyB_done (by kernel_rfl) ?_ _
    clear lz l0
    go_wp2_with (fail)
    go_roundw
    case rel => exact ⟨i + 1,HLT.out,by go_num,HFIN⟩
    case measure => have:=HLT.out; simp [intOf]; omega
   ·have HK2 : Hid (Keeps (Only rb) wr V2):=hid (((Keeps.of_below HVK.out).mono fun _ _ e => e.elim).trans' hk2)
    have HNO : Hid (decT ys = none):=hid (by rw [HDT.out,HLI.out.1,HTK.out,ho]; rfl)
    refine st_leave (P:=Tryz.prog) (fn:=Tryz.f53) (R:=DecPost W B rb pb qb lb ys) rfl ?_
    exact ⟨HI.out.keeps.trans' (HK2.out.mono fun _ _ e => .inl e),.inr ⟨HNO.out,rfl⟩⟩
  ·have q2 : ¬ (i : Int) < (n : Int):=by omega
   clear hlt
   go_wp2_with (fail)
   have HFN : Hid (DecPost W B rb pb qb lb ys (.returned (.tuple #[])) wr):=hid (by
    obtain ⟨li,rest,ra,rc,lv,htk,hsr,hlb,hsl,hil,hown⟩:=HI.out.ex
    obtain rfl : i = n:=by omega
    refine ⟨HI.out.keeps,.inl ⟨⟨_,rfl⟩,li,rest,ra,rc,lv,?_,hsr,HI.out.pbk,by rw [← HSQ.out]; exact HI.out.qbk,hlb,hsl,hown,by omega⟩⟩
    rw [HDT.out,htk,Nat.sub_self]
    simp [takeChgs])
   exact bodyPost_end (v:=.tuple #[]) (by simp [results,Tryz.results53]) rfl HFN.out
end
end Go.Proofs.YtagdchgkjjpacaaGreat
