/- The walk of package store's EncodeBatch. -/
import Derived.Test.YtagdchgkjjpacaaGreatr08
import Derived.Test.YtagdchgkjjpacaaGreatr06
import Derived.Sort.Walk0
import Derived.Maps.RangeWalk
set_option maxRecDepth 100000
open Go.Lib (hid)
set_option linter.unusedSimpArgs false
set_option linter.unusedVariables false
set_option linter.unusedSectionVars false
namespace Go.Proofs.YtagdchgkjjpacaaGreat
open Go.RowKit Go.Shelf
theorem GrowAt.str {w w1 : World} {v v1 : Value} {zs : List UInt8} (h : GrowAt w v w1 v1 zs) (s : ByteArray) (hz : zs.length + s.size ≤ 100000000) (ty : TypeId) :
 ∃ v' w',(Builtin.append_ #[23,9] ty #[v1,.string s]).run Tryz.prog w1 = .ok v' w' ∧ GrowAt w v w' v' (zs ++ tx s):=by
 obtain ⟨v',w',hr,hs,hk,ho⟩:=append_str h.sl s (by omega) ty
 exact ⟨v',w',hr,h.trans ⟨hs,hk,ho⟩⟩
theorem two_bytes (w : World) (x y : UInt8) : RdAt byteKind (w.alloc (.cells #[.int .u8 (x.toNat : Int),.int .u8 (y.toNat : Int)] 5)) (.slice (some ⟨w.heap.size,0,none⟩) 2 2) [x,y]:=by
 refine ⟨_,2,rfl,fun j z hz => ⟨w.heap.size,0,rfl,fun i hi => ?_⟩⟩
 have hi0 : i = 0:=by have : i < 1:=hi; omega
 subst hi0
 match j,hz with
 | 0,hz =>
   simp only [List.getElem?_cons_zero,Option.some.injEq] at hz
   subst hz
   exact blk_cell (cs:=#[.int .u8 (x.toNat : Int),.int .u8 (y.toNat : Int)]) (heap_alloc_new w _) 0
 | 1,hz =>
   simp only [List.getElem?_cons_succ,List.getElem?_cons_zero,Option.some.injEq] at hz
   subst hz
   exact blk_cell (cs:=#[.int .u8 (x.toNat : Int),.int .u8 (y.toNat : Int)]) (heap_alloc_new w _) 1
theorem GrowAt.two {w w1 : World} {v v1 : Value} {zs : List UInt8} (h : GrowAt w v w1 v1 zs) (hz : zs.length ≤ 100000000) (x y : UInt8) (ty : TypeId) :
 ∃ v' w',(Builtin.append_ #[23,23] ty #[v1,.slice (some ⟨w1.heap.size,0,none⟩) 2 2]).run Tryz.prog (w1.alloc (.cells #[.int .u8 (x.toNat : Int),.int .u8 (y.toNat : Int)] 5)) = .ok v' w' ∧ GrowAt w v w' v' (zs ++ [x,y]):=by
 have hb : Below w1.heap.size w1 (w1.alloc (.cells #[.int .u8 (x.toNat : Int),.int .u8 (y.toNat : Int)] 5)):=(Below.refl _ _).alloc (Nat.le_refl _) _
 obtain ⟨v',w',hr,hs,hk,ho,_⟩:=append_bytes (h.below hb).sl (two_bytes w1 x y) (by simp only [List.length_cons,List.length_nil]; omega) ty
 exact ⟨v',w',hr,(h.below hb).trans ⟨hs,hk,ho⟩⟩
theorem chg_bound {l : List Chg} (h : chkB l = 0) (j : Nat) : ((l.take j).flatMap chgB).length ≤ 33000000:=by
 obtain ⟨h1,h2⟩:=chkB_ok h
 have h3 : ∀ l : List Chg,(∀ c ∈ l,1 ≤ c.key.size ∧ c.key.size ≤ 200 ∧ (c.drop = false → c.val.size ≤ 65536)) → (l.flatMap chgB).length ≤ 66000 * l.length:=by
  intro l
  induction l with
  | nil => intro _; simp
  | cons c l ih =>
    intro hl
    have h1:=hl c (by simp)
    have h2:=ih fun c hc => hl c (by simp [hc])
    rw [List.flatMap_cons,List.length_append,chgB_len,List.length_cons]
    split
    ·omega
    ·rename_i hd; have:=h1.2.2 (by simpa using hd); omega
 have h4:=h3 (l.take j) (fun c hc => h2 c (List.mem_of_mem_take hc))
 have h5 : (l.take j).length ≤ 500:=by rw [List.length_take]; omega
 omega
theorem batB_take (s : Nat) (l : List Chg) : batB s l = lowN 8 s ++ lowN 2 l.length ++ (l.take l.length).flatMap chgB:=by unfold batB; rw [List.take_length,List.append_assoc]
section
variable {w : World}
set_option maxHeartbeats 8000000 in
theorem st_encode {v : Value} {l : List Chg} (h : RdAt chgKind w v l) (hl : l.length ≤ 1000000000) (seq : Int) (hs : seq ≤ 9223372036854775807) :
 Calls Tryz.prog 12 #[.int .i64 seq,v] w fun e w' => ∃ bv,e = .returned (.tuple #[bv,.int .i64 ((encB seq l).2 : Int)]) ∧ Hid (FreshAt w w' bv (encB seq l).1):=by
 have HR:=hid h
 have HL:=hid hl
 obtain ⟨a,cap,rfl,-⟩:=h
 have hlI : (l.length : Int) ≤ 1000000000:=by omega
 have HF0 : Hid (FreshAt w w (.slice none 0 0) []):=hid ⟨SlAt.nil,fun k hk => by simp [Value.ownBlock] at hk,Below.refl _ _⟩
 by_cases h1 : seq < 1
 ·have t0 : decide (seq < 1) = true:=by simp; omega
  have HE : Hid (encB seq l = ([],10)):=hid (by unfold encB; rw [if_pos h1])
  go_enter Tryz.func12,Tryz.ntmps12
  go_wp2_with (fail)
  exact bodyPost_ret (results_tmp2 rfl _ _ _) rfl ⟨_,by rw [HE.out]; rfl,by rw [HE.out]; exact HF0⟩
 have t0 : decide (seq < 1) = false:=by simp; omega
 have HC:=hid (st_check (w:=w) HR.out HL.out)
 by_cases h2 : chkB l ≠ 0
 ·have HE : Hid (encB seq l = ([],chkB l)):=hid (by unfold encB; rw [if_neg h1,if_pos h2])
  obtain ⟨er,her⟩ : ∃ x : Int,x = (chkB l : Int):=⟨_,rfl⟩
  have t1 : (er != 0) = true:=by simp; omega
  rw [← her] at HC
  have HER:=hid her
  clear h2 her
  go_enter Tryz.func12,Tryz.ntmps12
  go_wp2_with (fail)
  refine HC.out.mono ?_
  rintro e w1 ⟨rfl,hb1⟩
  have HF1 : Hid (FreshAt w w1 (.slice none 0 0) []):=hid (HF0.out.read hb1)
  clear hb1
  go_wp2_with (fail)
  exact bodyPost_ret (results_tmp2 rfl _ _ _) rfl ⟨_,by rw [HE.out,HER.out]; rfl,by rw [HE.out]; exact HF1⟩
 have hc0 : chkB l = 0:=by omega
 have HC0:=hid hc0
 obtain ⟨N,rfl⟩ : ∃ N : Nat,seq = (N : Int):=⟨seq.toNat,by omega⟩
 have HN : Hid (N < 9223372036854775808):=hid (by omega)
 have HE : Hid (encB (N : Int) l = if 1048576 < (batB N l).length then ([],8) else (batB N l,0)):=hid (by unfold encB; rw [if_neg h1,if_neg h2,Int.toNat_natCast])
 have hl5 : (l.length : Int) ≤ 500:=by have:=(chkB_ok hc0).1; omega
 rw [hc0] at HC
 clear h2 hc0 h1
 go_enter Tryz.func12,Tryz.ntmps12
 go_wp2_with (fail)
 refine HC.out.mono ?_
 rintro e w1 ⟨rfl,hb1⟩
 have HF1 : Hid (FreshAt w w1 (.slice none 0 0) []):=hid (HF0.out.read hb1)
 clear hb1 HC
 go_wp2_with (fail)
 refine (st_number HF1.out.sl (by simp) N HN.out 8 (by decide)).mono ?_
 rintro e w2 ⟨v2,rfl,hg2⟩
 have HF2 : Hid (FreshAt w w2 v2 (lowN 8 N)):=hid (HF1.out.grow hg2)
 clear hg2 HF1
 go_wp2_with (fail)
 refine (st_number HF2.out.sl (by rw [lowN_len]; omega) l.length (by have:=HL.out; omega) 2 (by decide)).mono ?_
 rintro e w3 ⟨v3,rfl,hg3⟩
 have HF3 : Hid (FreshAt w w3 v3 (lowN 8 N ++ lowN 2 l.length)):=hid (HF2.out.grow hg3)
 clear hg3 HF2
 go_wp2_with (fail)
 go_loopw [7,25] (fun bv iv wr => ∃ i : Nat,i ≤ l.length ∧ iv = .int .i64 (i : Int) ∧ Hid (FreshAt w wr bv (lowN 8 N ++ lowN 2 l.length ++ (l.take i).flatMap chgB))) (fun _ iv _ => l.length - (intOf iv).toNat)
 case atStart => exact ⟨0,Nat.zero_le _,rfl,by simpa using HF3⟩
 case round =>
  obtain ⟨i,hi,rfl,HF⟩:=hrel
  by_cases hlt : i < l.length
  ·have q1 : (0 : Int) ≤ (i : Int):=by omega
   have q2 : (i : Int) < (l.length : Int):=by omega
   obtain ⟨c,hc⟩ : ∃ c,l[i]? = some c:=⟨_,List.getElem?_eq_getElem hlt⟩
   obtain ⟨g,off,rfl,d0,d1,d2⟩:=chg_cells (HR.out.below HF.out.below) hc
   have HLT:=hid hlt
   have HTK : Hid ((l.take (i + 1)).flatMap chgB = (l.take i).flatMap chgB ++ chgB c):=hid (by rw [List.take_add_one,hc]; simp)
   have HOK:=hid ((chkB_ok HC0.out).2 c (List.mem_of_getElem? hc))
   have HBD:=hid (chg_bound HC0.out i)
   have HBE:=hid (chg_bound HC0.out (i + 1))
   obtain ⟨k,u,dr⟩:=c
   simp only at d0 d1 d2
   clear hc hlt hi
   go_upto_region 10 with (fail)
   obtain ⟨W1,hW1⟩ : ∃ x,x = wr.alloc (.cells #[.string k,.string u,.bool dr] 42):=⟨_,rfl⟩
   rw [← hW1]
   have hb1 : Below wr.heap.size wr W1:=by rw [hW1]; exact (Below.refl _ _).alloc (Nat.le_refl _) _
   have hx1 : IsBlk W1 wr.heap.size #[.string k,.string u,.bool dr] 42:=by rw [hW1]; exact blk_new _ _
   obtain ⟨xb,hxb⟩ : ∃ x,x = wr.heap.size:=⟨_,rfl⟩
   rw [← hxb]
   rw [← hxb] at hx1
   have HXB:=hid hxb
   have HX1:=hid hx1
   have HF1:=hid (HF.out.read hb1)
   have HOUT : Hid (¬ u7.ownBlock = some xb):=hid fun hg => by
    obtain ⟨cur,hcur⟩:=HF.out.sl.own _ hg
    have:=lt_of_block hcur
    omega
   obtain ⟨Z,hZ⟩ : ∃ Z,Z = lowN 8 N ++ lowN 2 l.length ++ (l.take i).flatMap chgB:=⟨_,rfl⟩
   rw [← hZ] at HF1
   have HZ:=hid hZ
   have HZL : Hid (Z.length ≤ 33000010):=hid (by rw [hZ,List.length_append,List.length_append,lowN_len,lowN_len]; have:=HBD.out; omega)
   have HG1 : Hid (GrowAt W1 u7 W1 u7 Z):=hid (GrowAt.refl HF1.out.sl)
   have HX1:=hid hx1
   have x0 : W1.cell? ⟨xb,0,none⟩ = some (.string k):=blk_cell hx1 0
   have x2 : W1.cell? ⟨xb,2,none⟩ = some (.bool dr):=blk_cell hx1 2
   have ks : (k.size : Int) ≤ 200:=by have:=HOK.out.2.1; simp only at this; omega
   have HKS : Hid (k.size ≤ 200):=hid (by omega)
   clear hW1 hb1 hx1 hxb d0 d1 d2 HF hZ
   cases dr with
   | true =>
     obtain ⟨v4,w4,hrun4,hg4⟩:=HG1.out.two (by have:=HZL.out; omega) (2 : UInt8) (UInt8.ofNat k.size) 23
     rw [show ((((2 : UInt8).toNat : Nat)) : Int) = 2 from rfl,show (((UInt8.ofNat k.size).toNat : Nat) : Int) = (k.size : Int) from by rw [UInt8.toNat_ofNat']; omega] at hrun4
     have hx4:=hg4.keeps.obj HX1.out HOUT.out
     have y0 : w4.cell? ⟨xb,0,none⟩ = some (.string k):=blk_cell hx4 0
     obtain ⟨v5,w5,hrun5,hg5⟩:=hg4.str k (by rw [List.length_append]; simp only [List.length_cons,List.length_nil]; have:=HZL.out; have:=HKS.out; omega) 23
     have hx5:=hg5.keeps.obj HX1.out HOUT.out
     have y2 : w5.cell? ⟨xb,2,none⟩ = some (.bool true):=blk_cell hx5 2
     have HX5:=hid hx5
     have HG5:=hid hg5
     clear hg4 hg5 hx4 hx5
     have HNX : Hid (Z ++ [(2 : UInt8),UInt8.ofNat k.size] ++ tx k = lowN 8 N ++ lowN 2 l.length ++ (l.take (i + 1)).flatMap chgB):=hid (by
      rw [HZ.out,HTK.out]
      simp [chgB])
     go_wp2_with (first | (at_builtin; refine wpList_append_run rfl (.tmp 31) (.tmp 37) 23 rfl _ _ rfl rfl _ _ hrun4 ?_) | (at_builtin; refine wpList_append_run2 rfl (.tmp 39) (.tmp 41) 23 9 rfl _ _ rfl rfl _ _ hrun5 ?_))
     go_roundw
     case rel => exact ⟨i + 1,HLT.out,by go_num,hid (by rw [← HNX.out]; exact HF1.out.grow HG5.out)⟩
     case measure => have:=HLT.out; simp [intOf]; omega
   | false =>
     obtain ⟨v4,w4,hrun4,hg4⟩:=HG1.out.two (by have:=HZL.out; omega) (1 : UInt8) (UInt8.ofNat k.size) 23
     rw [show ((((1 : UInt8).toNat : Nat)) : Int) = 1 from rfl,show (((UInt8.ofNat k.size).toNat : Nat) : Int) = (k.size : Int) from by rw [UInt8.toNat_ofNat']; omega] at hrun4
     have hx4:=hg4.keeps.obj HX1.out HOUT.out
     have y0 : w4.cell? ⟨xb,0,none⟩ = some (.string k):=blk_cell hx4 0
     obtain ⟨v5,w5,hrun5,hg5⟩:=hg4.str k (by rw [List.length_append]; simp only [List.length_cons,List.length_nil]; have:=HZL.out; have:=HKS.out; omega) 23
     have hx5:=hg5.keeps.obj HX1.out HOUT.out
     have y2 : w5.cell? ⟨xb,2,none⟩ = some (.bool false):=blk_cell hx5 2
     have HX5:=hid hx5
     have HG5:=hid hg5
     clear hg4 hg5 hx4 hx5
     have hu1 : u.size ≤ 65536:=HOK.out.2.2 rfl
     have us : (u.size : Int) ≤ 65536:=by omega
     have HUS:=hid hu1
     clear hu1
     go_upto_region 16 with (first | (at_builtin; refine wpList_append_run rfl (.tmp 31) (.tmp 37) 23 rfl _ _ rfl rfl _ _ hrun4 ?_) | (at_builtin; refine wpList_append_run2 rfl (.tmp 39) (.tmp 41) 23 9 rfl _ _ rfl rfl _ _ hrun5 ?_))
     clear x0 x2 y0 y2 hrun4 hrun5
     have hT0 : (fun W : World => W.cell? ⟨xb,1,none⟩ = some (.string u)) w5.drew:=blk_cell HX5.out 1
     refine wp_region_B (T:=fun W : World => W.cell? ⟨xb,1,none⟩ = some (.string u)) (B:=fun _ => true) (by kernel_rfl) ?_
     have HG6 : Hid (GrowAt W1 u7 w5.drew v5 (Z ++ [(1 : UInt8),UInt8.ofNat k.size] ++ tx k)):=hid (HG5.out.below (Below.refl _ _).drew)
     generalize w5.drew = V at hT0 HG6 ⊢
     refine wpAnyB_take (i:=0) (v:=?mv0) rfl (by kernel_rfl) (by kernel_rfl) (by kernel_rfl) (fun _ _ _ h => h) (Or.inl ⟨by kernel_rfl,?my0⟩) ?ms0
     case my0 => (intro w; go_simp) <;> with_reducible rfl
     try go_frame
     refine wpAnyB_take (i:=1) (v:=?mv1) rfl (by kernel_rfl) (by kernel_rfl) (by kernel_rfl) (fun _ _ _ h => h) (Or.inl ⟨by kernel_rfl,?my1⟩) ?ms1
     case my1 => (intro w; go_simp) <;> with_reducible rfl
     try go_frame
     refine wpAnyB_load (i:=2) (v:=?mv2) rfl (by kernel_rfl) (by kernel_rfl) (by kernel_rfl) (by kernel_rfl) (fun _ _ _ h => h) (Or.inl ⟨by kernel_rfl,?my2⟩) (by assumption) ?ms2
     case my2 => (intro w hSw; have hSw2:=hSw; go_simp) <;> with_reducible rfl
     try go_frame
     refine wpAnyB_take (i:=3) (v:=?mv3) rfl (by kernel_rfl) (by kernel_rfl) (by kernel_rfl) (fun _ _ _ h => h) (Or.inl ⟨by kernel_rfl,?my3⟩) ?ms3
     case my3 => (intro w; go_simp) <;> with_reducible rfl
     try go_frame
     refine wpAnyB_take (i:=5) (v:=?mv5) rfl (by kernel_rfl) (by kernel_rfl) (by kernel_rfl) (fun _ _ _ h => h) (Or.inl ⟨by kernel_rfl,?my5⟩) ?ms5
     case my5 => (intro w; go_simp) <;> with_reducible rfl
     try go_frame
     refine wpAnyB_load (i:=6) (v:=?mv6) rfl (by kernel_rfl) (by kernel_rfl) (by kernel_rfl) (by kernel_rfl) (fun _ _ _ h => h) (Or.inl ⟨by kernel_rfl,?my6⟩) (by assumption) ?ms6
     case my6 => (intro w hSw; have hSw2:=hSw; go_simp) <;> with_reducible rfl
     try go_frame
     have HNB:=hid (st_number HG6.out.sl (by rw [List.length_append,List.length_append]; simp only [List.length_cons,List.length_nil]; have:=HZL.out; have:=HKS.out; have e : (tx k).length = k.size:=rfl; omega) u.size (by have:=HUS.out; omega) 4 (by decide))
     refine wpAnyB_ready (rs:=[4]) (by kernel_rfl) (by simp) ?_
     refine AllReadyB.cons (o:=⟨some 50,.call ⟨.value (.func 48),#[.tmp 46,.tmp 49,.const (.int .i64 4)],#[23,3,3]⟩,23,"batch.go:86",#[⟨0,.data⟩,⟨3,.data⟩],none⟩) rfl (fun K hK => ?_) AllReadyB.nil
     go_simp
     go_at_call 48
     refine HNB.out.mono ?_
     rintro e V2 ⟨v6,rfl,hg6⟩
     have HG7 : Hid (GrowAt W1 u7 V2 v6 (Z ++ [(1 : UInt8),UInt8.ofNat k.size] ++ tx k ++ lowN 4 u.size)):=hid (HG6.out.trans hg6)
     clear hg6 hT0
     refine hK.out _ _ (fun _ _ => blk_cell (HG7.out.keeps.obj HX1.out HOUT.out) 1) ?_
     clear hK K
     try go_frame
     obtain ⟨v7,w7,hrun7,hg7⟩:=HG7.out.str u (by rw [List.length_append,List.length_append,List.length_append,lowN_len]; simp only [List.length_cons,List.length_nil]; have:=HZL.out; have:=HKS.out; have:=HUS.out; have e : (tx k).length = k.size:=rfl; omega) 23
     have HG8:=hid hg7
     clear hg7
     refine wpAnyB_ready (rs:=[7]) (by kernel_rfl) (by simp) ?_
     refine AllReadyB.cons (o:=⟨some 53,.call ⟨.builtin .append,#[.tmp 50,.tmp 52],#[23,9]⟩,23,"batch.go:86",#[⟨4,.data⟩,⟨6,.data⟩,⟨4,.chain⟩],none⟩) rfl (fun K hK => ?_) AllReadyB.nil
     refine step_append_run2 rfl (.tmp 50) (.tmp 52) 23 9 rfl _ _ rfl rfl _ _ hrun7 ?_
     refine hK.out _ _ (fun _ _ => blk_cell (HG8.out.keeps.obj HX1.out HOUT.out) 1) ?_
     clear hK K
     try go_frame
     refine wpAnyB_take (i:=8) (v:=?mv8) rfl (by kernel_rfl) (by kernel_rfl) (by kernel_rfl) (fun _ _ _ h => h) (Or.inl ⟨by kernel_rfl,?my8⟩) ?ms8
     case my8 => (intro w; go_simp) <;> with_reducible rfl
     try go_frame
     refine wpAnyB_done (by kernel_rfl) ?_ _
     have HNX : Hid (Z ++ [(1 : UInt8),UInt8.ofNat k.size] ++ tx k ++ lowN 4 u.size ++ tx u = lowN 8 N ++ lowN 2 l.length ++ (l.take (i + 1)).flatMap chgB):=hid (by
      rw [HZ.out,HTK.out]
      simp [chgB])
     clear hrun7
     go_wp2_with (fail)
     go_roundw
     case rel => exact ⟨i + 1,HLT.out,by go_num,hid (by rw [← HNX.out]; exact HF1.out.grow HG8.out)⟩
     case measure => have:=HLT.out; simp [intOf]; omega
  ·have q2 : ¬ (i : Int) < (l.length : Int):=by omega
   obtain rfl : i = l.length:=by omega
   obtain ⟨BB,hBB⟩ : ∃ x,x = batB N l:=⟨_,rfl⟩
   have HF2 : Hid (FreshAt w wr u7 BB):=hid (by rw [hBB,batB_take]; exact HF.out)
   have HE2 : Hid (encB (N : Int) l = if 1048576 < BB.length then ([],8) else (BB,0)):=hid (by rw [HE.out,hBB])
   have hbl : (BB.length : Int) ≤ 40000000:=by
    have:=chg_bound HC0.out l.length
    rw [hBB,batB_take,List.length_append,List.length_append,lowN_len,lowN_len]
    omega
   obtain ⟨ba,bc,hbv⟩:=HF2.out.sl.shape
   subst hbv
   clear hBB HF HE hlt hi
   by_cases hbig : 1048576 < BB.length
   ·have t5 : (1048576 : Int) < (BB.length : Int):=by omega
    have t6 : decide ((1048576 : Int) < (BB.length : Int)) = true:=by simp; omega
    have HF3 : Hid (FreshAt w wr (.slice none 0 0) []):=hid ⟨SlAt.nil,fun k hk => by simp [Value.ownBlock] at hk,HF2.out.below⟩
    have HE3 : Hid (encB (N : Int) l = ([],8)):=hid (by rw [HE2.out,if_pos hbig])
    clear hbig
    go_wp2_with (fail)
    exact bodyPost_ret (results_tmp2 rfl _ _ _) rfl ⟨_,by rw [HE3.out]; rfl,by rw [HE3.out]; exact HF3⟩
   ·have t5 : ¬ (1048576 : Int) < (BB.length : Int):=by omega
    have t6 : decide ((1048576 : Int) < (BB.length : Int)) = false:=by simp; omega
    have HE3 : Hid (encB (N : Int) l = (BB,0)):=hid (by rw [HE2.out,if_neg hbig])
    clear hbig
    go_wp2_with (fail)
    exact bodyPost_ret (results_tmp2 rfl _ _ _) rfl ⟨_,by rw [HE3.out]; rfl,by rw [HE3.out]; exact HF2⟩
end
open Go.RowKit Go.Shelf Go.Sort
theorem mapBlock_heap (w : World) (g : Nat) (f : Array Value → Array Value) {cs : Array Value} {T : TypeId} (h : IsBlk w g cs T) : IsBlk (mapBlock w g f) g (f cs) T:=by
 show (w.heap.modify g (onCells f))[g]? = _
 rw [Array.getElem?_modify,if_pos rfl]
 have : w.heap[g]? = some (.cells cs T (0,0)):=h
 rw [this]; rfl
theorem keeps_mapBlock (w : World) (g : Nat) (f : Array Value → Array Value) : Keeps (fun k => some g = some k) w (mapBlock w g f) :=
 ⟨rfl,rfl,rfl,by simp [mapBlock],fun k _ hn => by
  show (w.heap.modify g (onCells f))[k]? = _
  rw [Array.getElem?_modify,if_neg (fun e => hn (by rw [e]))]⟩
theorem keeps_grow {S : Nat → Prop} (w : World) (os : Array Obj) : Keeps S w (grow w os) :=
 ⟨rfl,rfl,rfl,by simp [grow],fun k hk _ => by
  show (w.heap ++ os)[k]? = _
  rw [Array.getElem?_append_left hk]⟩
theorem keeps_ahead {S : Nat → Prop} (w : World) (n : Nat) : Keeps S w (Sort.ahead w n):=⟨rfl,rfl,rfl,Nat.le_refl _,fun _ _ _ => rfl⟩
theorem text_flat (L : List ByteArray) : L.flatMap textKind.enc = L.map Value.string:=by
 induction L with
 | nil => rfl
 | cons x xs ih => simp only [List.flatMap_cons,List.map_cons,ih]; rfl
theorem put_texts {w : World} {g off cap k : Nat} {cur : Array Value} (hb : IsBlk w g cur 9) (hc : k ≤ cap) (hm : cap ≤ maxLen) (hs : off + cap * textKind.size ≤ cur.size) (M : List (List UInt8)) (hM : M.length = k) (n : Nat) (os : Array Obj) :
 SlAt textKind 9 (grow (putRow encStr (Sort.ahead w n) g off M.toArray) os) (.slice (some ⟨g,off,none⟩) k cap) (M.map fun x => (⟨x.toArray⟩ : ByteArray)) ∧ Keeps (fun i => (Value.slice (some ⟨g,off,none⟩) k cap).ownBlock = some i) w (grow (putRow encStr (Sort.ahead w n) g off M.toArray) os):=by
 have hl : (M.map (fun x => (⟨x.toArray⟩ : ByteArray))).length = k:=by rw [List.length_map,hM]
 have hb1 : IsBlk (Sort.ahead w n) g cur 9:=hb
 have hb2 : IsBlk (putRow encStr (Sort.ahead w n) g off M.toArray) g (putCells encStr off M.toArray cur) 9:=mapBlock_heap (Sort.ahead w n) g _ hb1
 have hb3:=(keeps_grow (S:=fun _ => False) (putRow encStr (Sort.ahead w n) g off M.toArray) os).obj hb2 (fun e => e.elim)
 have e1 : ∀ j : Nat,j * textKind.size = j:=fun j => Nat.mul_one j
 refine ⟨.inr ⟨g,off,cap,_,by rw [hl],hb3,by rw [hl]; exact hc,hm,?_,?_⟩,?_⟩
 ·simp only [putCells,Array.size_mapIdx]; exact hs
 ·intro i hi
  rw [text_flat]
  rw [e1] at hi hs
  rw [hl] at hi
  have hsz : off + i < cur.size:=by omega
  simp only [putCells]
  rw [Array.getElem?_mapIdx,Array.getElem?_eq_getElem hsz,Option.map_some]
  rw [if_pos (by simp only [List.size_toArray]; omega)]
  rw [Nat.add_sub_cancel_left,getElem!_pos _ i (by simp only [List.size_toArray]; omega)]
  rw [List.map_map,List.getElem?_map,List.getElem?_eq_getElem (by omega),Option.map_some,List.getElem_toArray]
  rfl
 ·exact ((keeps_ahead w n).trans' (keeps_mapBlock (Sort.ahead w n) g _)).trans' (keeps_grow _ os)
theorem f_sort {w : World} {v : Value} {L : List ByteArray} (h : SlAt textKind 9 w v L) (hn : L.length < 4611686018427387904) :
 Calls Tryz.prog 88 #[v] w fun e w' => e = .returned (.tuple #[]) ∧ ∃ L',L'.Perm L ∧ L'.Pairwise (fun a b => slt b a = false) ∧ SlAt textKind 9 w' v L' ∧ Keeps (fun k => v.ownBlock = some k) w w':=by
 rcases h with ⟨rfl,rfl⟩ | ⟨g,off,cap,cur,rfl,hb,hc,hm,hs,hr⟩
 ·refine (Tryz.slices_Sort_string_none none 0 w).mono ?_
  rintro e w' ⟨rfl,rfl⟩
  exact ⟨rfl,[],List.Perm.nil,List.Pairwise.nil,SlAt.nil,Keeps.refl _ _⟩
 ·have hcur : ∀ i,i < L.length → cur[off + i]? = (L.map Value.string)[i]?:=by
   intro i hi
   have:=hr i (by show i < L.length * 1; omega)
   rw [this,text_flat]
  have hH : Holds encStr w g off (L.map fun x => x.data.toList).toArray:=by
   intro j hj
   simp only [List.size_toArray,List.length_map] at hj
   refine ⟨?_,?_⟩
   ·rw [blk_cell hb,hcur j hj]
    rw [getElem!_pos _ j (by simpa using hj)]
    simp [hj]
   ·exact blk_free hb _
  have hblk:=lt_of_block hb
  have:=Tryz.slices_Sort_string g off cap (L.map fun x => x.data.toList) w hH hblk (by simpa using hn)
  rw [List.length_map] at this
  refine this.mono ?_
  rintro e w' ⟨rfl,n,os,rfl⟩
  have hperm:=List.mergeSort_perm (L.map fun x => x.data.toList) (fun x y => decide (x ≤ y))
  have hpair : (List.mergeSort (L.map fun x => x.data.toList) (fun x y => decide (x ≤ y))).Pairwise (fun a b => decide (a ≤ b) = true):=List.pairwise_mergeSort (fun a b c h k => by
   simp only [decide_eq_true_eq] at *; exact List.le_trans h k) (fun a b => by
   simp only [Bool.or_eq_true,decide_eq_true_eq]; exact List.le_total a b) _
  generalize List.mergeSort (L.map fun x => x.data.toList) (fun x y => decide (x ≤ y)) = M at hperm hpair ⊢
  have hlen : M.length = L.length:=by rw [hperm.length_eq,List.length_map]
  refine ⟨rfl,M.map (fun x => ⟨x.toArray⟩),?_,?_,(put_texts hb hc hm hs M hlen n os).1,(put_texts hb hc hm hs M hlen n os).2⟩
  ·refine (hperm.map (fun x => (⟨x.toArray⟩ : ByteArray))).trans ?_
   rw [List.map_map]
   have : ((fun x => (⟨x.toArray⟩ : ByteArray)) ∘ fun x : ByteArray => x.data.toList) = id:=by funext x; simp
   rw [this,List.map_id]
  ·rw [List.pairwise_map]
   refine hpair.imp ?_
   intro a b hab
   simp only [decide_eq_true_eq] at hab
   unfold slt
   rw [Lib.toList_data,Lib.toList_data,bytesLess_eq]
   simpa using hab
def namesL {V : Type} (front : ByteArray) (m : List (ByteArray × V)) : List ByteArray:=(m.filter fun x => Lib.hasPrefix x.1.data.toList front.data.toList).map (·.1)
theorem infoStr : (Tryz.prog.info? 9).map (fun i => (i.zero,i.size,i.bytes)) = some (some (.string ⟨#[]⟩),1,16):=by kernel_rfl
theorem append_texts {w : World} {v u : Value} {xs ys : List ByteArray} (hv : SlAt textKind 9 w v xs) (hu : RdAt textKind w u ys) (hn : xs.length + ys.length ≤ 1000000000) (ty : TypeId) :
 ∃ v' w',(Builtin.append_ #[56,56] ty #[v,u]).run Tryz.prog w = .ok v' w' ∧ SlAt textKind 9 w' v' (xs ++ ys) ∧ Keeps (fun k => v.ownBlock = some k) w w' ∧
   (∀ k,v'.ownBlock = some k → v.ownBlock = some k ∨ w.heap.size ≤ k) ∧ (v' = .slice none 0 0 ↔ v = .slice none 0 0 ∧ ys = []):=by
 obtain ⟨i0,hi,hz0,hz1,hz2⟩:=info_parts infoStr
 exact run_append_sl (ek:=textKind) 56 ty i0 _ 16 Tryz.underlying56 hi hz0 hz1 hz2 rfl hv hu (by unfold maxLen; omega) (by omega)
structure NmI (w : World) (mb : Nat) (rs : List (ByteArray × Pl)) (front : ByteArray) (s : Value) (left : List (ByteArray × Pl)) (wr : World) : Prop where
 ex : ∃ done,(done ++ left).Perm rs ∧ SlAt textKind 9 wr s (namesL front done) ∧ done.length ≤ rs.length
 rng : RangeAt strKind evP wr mb w.heap.size rs left
 new : ∀ k,s.ownBlock = some k → w.heap.size < k
 below : Below w.heap.size w wr
theorem sorted_unique : ∀ {a b : List ByteArray},a.Perm b → a.Pairwise (fun x y => slt y x = false) → b.Pairwise (fun x y => slt y x = false) → a = b:=by
 intro a b hp ha hb
 refine hp.eq_of_pairwise (le:=fun x y => slt y x = false) ?_ ha hb
 intro x y _ _ h1 h2
 exact slt_ord.eq _ _ h2 h1
theorem namesL_rise {V : Type} {m : List (ByteArray × V)} (h : Rise slt m) (front : ByteArray) : (namesL front m).Pairwise (fun x y => slt y x = false):=by
 unfold namesL
 rw [List.pairwise_map]
 exact (List.Pairwise.filter _ h).imp (fun h => slt_ord.asymm h)
theorem namesL_perm {V : Type} {m m' : List (ByteArray × V)} (h : m.Perm m') (front : ByteArray) : (namesL front m).Perm (namesL front m'):=(h.filter _).map _
theorem namesL_app {V : Type} (m m' : List (ByteArray × V)) (front : ByteArray) : namesL front (m ++ m') = namesL front m ++ namesL front m':=by unfold namesL; rw [List.filter_append,List.map_append]
theorem namesL_map {V W : Type} (f : V → W) (m : List (ByteArray × V)) (front : ByteArray) : namesL front (m.map fun x => (x.1,f x.2)) = namesL front m:=by
 unfold namesL
 rw [List.filter_map,List.map_map]
 rfl
section
variable {w : World} {fb mb : Nat} {F : FsS} {S : Nat → Prop} {rs : List (ByteArray × Pl)}
structure TextsAt (w w' : World) (v : Value) (L : List ByteArray) : Prop where
 sl : SlAt textKind 9 w' v L
 new : ∀ k,v.ownBlock = some k → w.heap.size ≤ k
 below : Below w.heap.size w w'
set_option maxHeartbeats 600000 in
theorem f_names (h : FsAt w fb F S mb rs) (hl : rs.length ≤ 1000000) (front : ByteArray) :
 Calls Tryz.prog 27 #[.pointer (some ⟨fb,0,none⟩),.string front] w fun e w' => ∃ v,e = .returned v ∧ TextsAt w w' v (namesL front F.files):=by
 have c2 : w.cell? ⟨fb,2,none⟩ = some (.map (some mb)):=blk_cell h.blk 2
 obtain ⟨W1,hrange,hR,hk1,hz1⟩:=h.map.range (P:=Tryz.prog) (t:=100) Tryz.underlying100
 have H:=hid h
 have HL:=hid hl
 have HI : Hid (NmI w mb rs front (.slice none 0 0) rs W1):=hid ⟨⟨[],by simp,SlAt.nil,by simp⟩,hR,fun k e => by simp [Value.ownBlock] at e,hk1⟩
 clear h hR hk1 hz1 hl
 go_enter Tryz.func27,Tryz.ntmps27
 go_wp2_with (fail)
 go_loopg [5] (rs.length + 1) (fun g s wr => ∃ left : List (ByteArray × Pl),g = left.length + 1 ∧ Hid (NmI w mb rs front s left wr))
 case atStart => exact ⟨rs,rfl,HI⟩
 case round =>
  obtain ⟨left,rfl,HN⟩:=hrel
  rcases HN.out.rng.next (P:=Tryz.prog) 0 with ⟨rfl,hrun⟩ | ⟨x,rest,w1,hp,hrun,hR,hk,hz,hent⟩
  ·have HS : Hid (∃ done,done.Perm rs ∧ SlAt textKind 9 wr u5 (namesL front done) ∧ done.length ≤ rs.length):=hid (by
    obtain ⟨done,h1,h2,h3⟩:=HN.out.ex
    exact ⟨done,by simpa using h1,h2,h3⟩)
   go_wp2_with (fail)
   obtain ⟨done,h1,h2,h3⟩:=HS.out
   have hlen : (namesL front done).length ≤ 1000000:=by
    unfold namesL
    rw [List.length_map]
    exact Nat.le_trans (List.length_filter_le _ _) (Nat.le_trans h3 HL.out)
   refine (f_sort h2 (by omega)).mono ?_
   rintro e w2 ⟨rfl,L',hp,hs,hsl,hk2⟩
   have HE : Hid (TextsAt w w2 u5 (namesL front F.files)):=by
    have e : L' = namesL front F.files:=by
     rw [H.out.files]
     refine (sorted_unique (hp.trans (namesL_perm h1 front)) hs (namesL_rise H.out.map.rise front)).trans ?_
     exact (namesL_map (fun q : Pl => q.fl) rs front).symm
    rw [e] at hsl
    exact hid ⟨hsl,fun k hk => Nat.le_of_lt (HN.out.new k hk),below_keeps HN.out.below hk2 (fun i e => Nat.le_of_lt (HN.out.new i e)) HN.out.below.size⟩
   clear h1 h2 h3 hlen hp hs hsl hk2
   go_wp2_with (fail)
   go_ret
   exact ⟨_,rfl,HE.out⟩
  ·have hent' : (Instr.entry (.pointer (some ⟨w.heap.size,0,none⟩))).run Tryz.prog w1 = .ok (.tuple #[.string x.1,evP x.2]) w1:=hent
   have hrun' : (Instr.next (.pointer (some ⟨w.heap.size,0,none⟩)) false 0).run Tryz.prog wr = .ok (.tuple #[.bool true,.string x.1,evP x.2]) w1:=hrun
   have hlen : left.length = rest.length + 1:=by rw [hp.length_eq]; rfl
   have hk' : Keeps (fun i => i = w.heap.size) wr w1:=hk
   have hbw : Below w.heap.size w w1:=below_keeps HN.out.below hk (fun i e => by omega) HN.out.below.size
   have hsl : ∃ done,(done ++ x :: rest).Perm rs ∧ SlAt textKind 9 w1 u5 (namesL front done) ∧ done.length + 1 ≤ rs.length:=by
    obtain ⟨done,h1,h2,h3⟩:=HN.out.ex
    refine ⟨done,(List.Perm.append_left done hp.symm).trans h1,h2.keeps hk (fun g hg e => ?_),?_⟩
    ·have:=HN.out.new g hg; omega
    ·have:=((List.Perm.append_left done hp.symm).trans h1).length_eq
     simp only [List.length_append,List.length_cons] at this; omega
   have HX:=hid (And.intro hR (And.intro hbw hsl))
   have HNEW:=hid HN.out.new
   have HPR:=Tryz.strings_HasPrefix x.1 front w1
   clear hent hrun hk hk' hR hbw hsl hp hz
   cases hpre : Lib.hasPrefix x.1.data.toList front.data.toList with
   | false =>
     rw [hpre] at HPR
     have HI2 : Hid (NmI w mb rs front u5 rest w1):=hid (by
      obtain ⟨h1,h2,done,h3,h4,h5⟩:=HX.out
      exact ⟨⟨done ++ [x],by simpa using h3,by rw [namesL_app]; unfold namesL at h4 ⊢; simpa [hpre] using h4,by simpa using h5⟩,h1,HNEW.out,h2⟩)
     have HPR:=hid HPR
     clear hpre
     go_wp2_with (fail)
     refine HPR.out.mono ?_
     rintro e w2 ⟨rfl,rfl⟩
     go_wp2_with (fail)
     go_roundg (rest.length + 1)
     case measure => omega
     case rel => exact ⟨rest,rfl,HI2⟩
   | true =>
     rw [hpre] at HPR
     have hu : RdAt textKind (w1.alloc (.cells #[.string x.1] 9)) (.slice (some ⟨w1.heap.size,0,none⟩) 1 1) [x.1]:=by
      refine ⟨_,1,rfl,fun j y hy => ⟨w1.heap.size,0,rfl,fun i hi => ?_⟩⟩
      match j,hy with
      | 0,hy =>
        simp only [List.getElem?_cons_zero,Option.some.injEq] at hy
        subst hy
        have hi0 : i = 0:=by have : i < 1:=hi; omega
        subst hi0
        exact blk_cell (cs:=#[.string x.1]) (heap_alloc_new w1 _) 0
     have hal : Below w1.heap.size w1 (w1.alloc (.cells #[.string x.1] 9)):=(Below.refl _ _).alloc (Nat.le_refl _) _
     have HI2 : Hid (∃ v' w',(Builtin.append_ #[56,56] 56 #[u5,.slice (some ⟨w1.heap.size,0,none⟩) 1 1]).run Tryz.prog (w1.alloc (.cells #[.string x.1] 9)) = .ok v' w' ∧ NmI w mb rs front v' rest w'):=hid (by
      obtain ⟨h1,h2,done,h3,h4,h5⟩:=HX.out
      have h4':=h4.below hal
      have hle : (namesL front done).length ≤ 1000000:=by
       unfold namesL
       rw [List.length_map]
       exact Nat.le_trans (List.length_filter_le _ _) (by have:=HL.out; omega)
      obtain ⟨v',w',hrun,hs,hk,ho,_⟩:=append_texts h4' hu (by simp only [List.length_cons,List.length_nil]; omega) 56
      refine ⟨v',w',hrun,⟨done ++ [x],by simpa using h3,by rw [namesL_app]; unfold namesL at hs ⊢; simpa [hpre] using hs,by simpa using h5⟩,?_,?_,?_⟩
      ·refine (h1.below hal).keeps hk ?_ ?_
       ·intro e
        have:=HNEW.out _ e
        have:=H.out.lt _ H.out.smb
        omega
       ·intro e
        have:=HNEW.out _ e
        omega
      ·intro k e
       rcases ho k e with e | e
       ·exact HNEW.out k e
       ·have:=hal.size
        have:=h1.lt
        have : w1.heap.size < (w1.alloc (.cells #[.string x.1] 9)).heap.size:=by simp
        omega
      ·exact below_keeps (h2.trans (hal.mono h2.size)) hk (fun i e => Nat.le_of_lt (HNEW.out i e)) (Nat.le_trans h2.size hal.size))
     obtain ⟨v',w2,hap,hN2⟩:=HI2.out
     have HN2:=hid hN2
     have HPR:=hid HPR
     clear hpre hu hal hN2 HI2
     go_wp2_with (fail)
     refine HPR.out.mono ?_
     rintro e w3 ⟨rfl,rfl⟩
     go_wp2_with (at_builtin; refine wpList_append_run rfl (.tmp 19) (.tmp 21) 56 rfl _ _ rfl rfl _ _ hap ?_)
     go_roundg (rest.length + 1)
     case measure => omega
     case rel => exact ⟨rest,rfl,HN2⟩
end
end Go.Proofs.YtagdchgkjjpacaaGreat
