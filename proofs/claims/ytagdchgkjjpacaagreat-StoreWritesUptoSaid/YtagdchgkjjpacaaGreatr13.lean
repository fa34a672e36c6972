/- The iterator over frames. -/
import Derived.Test.YtagdchgkjjpacaaGreatr12
import Derived.Test.YtagdchgkjjpacaaGreatr09
set_option maxRecDepth 100000
open Go.Lib (hid)
namespace Go.Proofs.YtagdchgkjjpacaaGreat
open Go.RowKit Go.Shelf
attribute [local go_sem] Oper.semAt_some
theorem RdAt.block {α : Type} {ek : ElKind α} {w w' : World} {v : Value} {xs : List α} (h : RdAt ek w v xs) (hb : ∀ g,v.ownBlock = some g → g < w.heap.size → w'.heap[g]? = w.heap[g]?) : RdAt ek w' v xs:=by
 obtain ⟨a,cap,rfl,hr⟩:=h
 refine ⟨a,cap,rfl,fun j x hx => ?_⟩
 obtain ⟨g,off,rfl,hc⟩:=hr j x hx
 refine ⟨g,off,rfl,fun i hi => ?_⟩
 have h0 : ∃ u,w.cell? ⟨g,off + j * ek.size + i,none⟩ = some u:=by
  rw [hc i hi,List.getElem?_eq_getElem (by rw [ek.len]; exact hi)]; exact ⟨_,rfl⟩
 obtain ⟨u,hu⟩:=h0
 exact (World.cell?_of_block (w:=w) (a:=⟨g,off + j * ek.size + i,none⟩) (hb g rfl (World.block_lt_of_cell? w _ hu))).trans (hc i hi)
structure FrI where
 at_ : Nat
 p : List UInt8
 s : SlV
abbrev encFr (x : FrI) : Array Value:=#[.int .i64 (x.at_ : Int),x.s.val]
def frI (g off cap k : Nat) (p : List UInt8) : FrI:=⟨k + 8 + p.length,p,⟨if cap = k + 8 then some ⟨g,off,none⟩ else some ⟨g,off + (k + 8),none⟩,p.length,cap - (k + 8)⟩⟩
def frL (g off cap : Nat) : Nat → List (List UInt8) → List FrI
 | _,[] => []
 | k,p :: ps => frI g off cap k p :: frL g off cap (k + 8 + p.length) ps
def KpF (n0 bb : Nat) (W W' : World) : Prop:=W.heap.size ≤ W'.heap.size ∧ ∀ k,(k < n0 ∨ k = bb) → k < W.heap.size → W'.heap[k]? = W.heap[k]?
theorem KpF.trans {n0 bb : Nat} {A B C : World} (h : KpF n0 bb A B) (k : KpF n0 bb B C) : KpF n0 bb A C :=
 ⟨Nat.le_trans h.1 k.1,fun i hi hl => (k.2 i hi (Nat.lt_of_lt_of_le hl h.1)).trans (h.2 i hi hl)⟩
theorem KpF.of_below {n0 bb : Nat} {A B : World} (h : Below A.heap.size A B) : KpF n0 bb A B:=⟨h.size,fun k _ hl => h.block k hl⟩
structure FrW (n0 bb : Nat) (w0 : World) (a : Option Addr) (cap : Nat) (ys : List UInt8) (wr : World) : Prop where
 box : IsBlk wr bb #[.slice a ys.length cap] 23
 bytes : RdAt byteKind wr (.slice a ys.length cap) ys
 own : ∀ g,(Value.slice a ys.length cap).ownBlock = some g → ys ≠ [] → g < n0
theorem FrW.keep {n0 bb : Nat} {w0 w1 w2 : World} {a : Option Addr} {cap : Nat} {ys : List UInt8} (h : FrW n0 bb w0 a cap ys w1) (k : KpF n0 bb w1 w2) : FrW n0 bb w0 a cap ys w2:=by
 refine ⟨(k.2 bb (.inr rfl) (lt_of_block h.box)).trans h.box,?_,h.own⟩
 by_cases hy : ys = []
 ·obtain ⟨a',c',e,_⟩:=h.bytes
  subst hy
  exact ⟨a',c',e,fun j x hx => by simp at hx⟩
 ·exact h.bytes.block fun g hg hl => k.2 g (.inl (h.own g hg hy)) hl
theorem RdAt.tail {w : World} {g off len cap q : Nat} {ys : List UInt8} (h : RdAt byteKind w (.slice (some ⟨g,off,none⟩) len cap) ys) (hq : q ≤ ys.length) (a' : Option Addr) (cap' : Nat) (ha : q < ys.length → a' = some ⟨g,off + q,none⟩) :
 RdAt byteKind w (.slice a' (ys.length - q) cap') (ys.drop q):=by
 have:=h.sub (q:=q) (m:=ys.length - q) (by omega) a' cap' (fun h => ha (by omega))
 rwa [List.take_of_length_le (by rw [List.length_drop]; omega)] at this
theorem wd (n : Nat) : Fence.wide.depth.isSome = true → 1 ≤ n:=fun h => by simp [Fence.wide] at h
theorem wfn (f : FuncId) : Fence.wide.fn f:=trivial
theorem no_callee (F : Fence) : (∀ f : FuncId,(none : Option FuncId) = some f → F.fn f) = True:=by simp
attribute [local go_sem] no_callee
section
variable (l : Nat) (J Jx : List FrI → World → Prop)
set_option maxHeartbeats 4000000 in
theorem q_frames {n0 bb g off cap : Nat} {a : Option Addr} {ys : List UInt8} {W : World} (hn : ys.length ≤ 70000000) (hcap : ys.length ≤ cap) (hcm : cap ≤ 9223372036854775807) (ha : ys ≠ [] → a = some ⟨g,off,none⟩)
 (hW : FrW n0 bb W a cap ys W) (hg : ∀ ys A B,J ys A → Below A.heap.size A B → J ys B)
 (hr : ∀ pre x A,J pre A → pre ++ [x] <+: frL g off cap 0 (scanOf ys) → YieldAt Fence.wide 0 Tryz.prog l (encFr x) A fun e B =>
   (e = .returned (.bool true) ∧ J (pre ++ [x]) B ∧ KpF n0 bb A B) ∨ (e = .returned (.bool false) ∧ Jx (pre ++ [x]) B ∧ KpF n0 bb A B))
 (h0 : J [] W) : Calls Tryz.prog 197 (#[.func (.yield l) #[] #[]] ++ #[.pointer (some ⟨bb,0,none⟩)]) W fun e B => (∃ v,e = .returned v) ∧ (J (frL g off cap 0 (scanOf ys)) B ∨ ∃ q,q <+: frL g off cap 0 (scanOf ys) ∧ Jx q B):=by
 show Calls Tryz.prog 197 #[.func (.yield l) #[] #[],.pointer (some ⟨bb,0,none⟩)] W _
 have HN:=hid hn
 have HCAP:=hid hcap
 have hn2 : (ys.length : Int) ≤ 70000000:=by omega
 have hc2 : (ys.length : Int) ≤ (cap : Int):=by omega
 have hc3 : (cap : Int) ≤ 9223372036854775807:=by omega
 have HG:=hid hg
 have HY:=hid hr
 have HA:=hid ha
 have HW:=hid hW
 have HJ0:=hid h0
 clear hn hcap hcm hg hr ha hW h0
 go_enter Tryz.func197,Tryz.ntmps197
 go_wp2_with (fail)
 go_loopw [3] (fun i wr => ∃ (k : Nat) (pre : List FrI) (rest : List (List UInt8)),i = .int .i64 (k : Int) ∧ Hid (pre ++ frL g off cap k rest = frL g off cap 0 (scanOf ys) ∧ scanOf (ys.drop k) = rest ∧ k ≤ ys.length) ∧ Hid (J pre wr) ∧ Hid (FrW n0 bb W a cap ys wr)) (fun i _ => ys.length - (intOf i).toNat)
 case atStart => exact ⟨0,[],scanOf ys,rfl,hid ⟨rfl,rfl,Nat.zero_le _⟩,HJ0,HW⟩
 case round =>
  obtain ⟨k,pre,rest,rfl,HI,HJ,HF⟩:=hrel
  have hle:=HI.out.2.2
  have h0 : (0 : Int) ≤ (k : Int):=by omega
  have h1 : (k : Int) ≤ (ys.length : Int):=by omega
  have hbox : wr.cell? ⟨bb,0,none⟩ = some (.slice a ys.length cap):=blk_cell HF.out.box 0
  have HEND : Hid (headOf (ys.drop k) = none → J (frL g off cap 0 (scanOf ys)) wr):=hid (fun hh => by
   have e:=HI.out.1
   have e2:=HI.out.2.1
   rw [scanOf_none hh] at e2
   subst e2
   simp only [frL,List.append_nil] at e
   rw [← e]; exact HJ.out)
  by_cases h8 : k + 8 ≤ ys.length
  ·have h2 : (k : Int) + 8 ≤ (ys.length : Int):=by omega
   obtain rfl:=HA.out (by rintro rfl; simp at h8)
   have h3 : ¬ cap = k:=by have:=HCAP.out; omega
   go_wp2_with (fail)
   refine (w_value (HF.out.bytes.tail (q:=k) (by omega) _ _ (fun _ => rfl)) (by rw [List.length_drop]; omega) (by rw [List.length_drop]; have:=HN.out; omega)).mono ?_
   rintro e w' ⟨rfl,rfl⟩
   obtain ⟨m,hm⟩ : ∃ m,m = numOf ((ys.drop k).take 4):=⟨_,rfl⟩
   have hmlt : (m : Int) < 4294967296:=by have:=numOf_four (xs:=(ys.drop k).take 4) (by rw [List.length_take]; omega); omega
   rw [← hm]
   have HM:=hid hm
   clear hm
   by_cases hbig : (1048576 : Int) < (m : Int)
   ·have HD : Hid (J (frL g off cap 0 (scanOf ys)) wr):=hid (HEND.out (by unfold headOf; rw [← HM.out,if_neg (by rw [List.length_drop]; omega),if_pos (by omega)]))
    go_wp2_with (fail)
    refine bodyPost_ret (results_none rfl _ _ _) rfl ?_
    exact ⟨⟨_,rfl⟩,.inl HD.out⟩
   by_cases hlong : (ys.length : Int) - (k : Int) - 8 < (m : Int)
   ·have HD : Hid (J (frL g off cap 0 (scanOf ys)) wr):=hid (HEND.out (by unfold headOf; rw [← HM.out,if_neg (by rw [List.length_drop]; omega),if_pos (by rw [List.length_drop]; omega)]))
    go_wp2_with (fail)
    refine bodyPost_ret (results_none rfl _ _ _) rfl ?_
    exact ⟨⟨_,rfl⟩,.inl HD.out⟩
   have h4 : ¬ cap = k + 4:=by have:=HCAP.out; omega
   have h5 : (k : Int) + 8 + m ≤ (ys.length : Int):=by omega
   have h5n : k + 8 + m ≤ ys.length:=by omega
   obtain ⟨p,hp⟩ : ∃ p,p = (ys.drop (k + 8)).take m:=⟨_,rfl⟩
   have hpl : p.length = m:=by rw [hp,List.length_take,List.length_drop]; omega
   have HSUB : Hid (∀ W a' c,Below wr.heap.size wr W → (m ≠ 0 → a' = some ⟨g,off + (k + 8),none⟩) → RdAt byteKind W (.slice a' m c) p):=hid fun W a' c hW ha => by rw [hp]; exact (HF.out.bytes.sub (by omega) a' c ha).below hW
   obtain ⟨q,hq⟩ : ∃ q,q = sumOf p:=⟨_,rfl⟩
   obtain ⟨r,hr⟩ : ∃ r,r = numOf ((ys.drop (k + 4)).take 4):=⟨_,rfl⟩
   have HSQ : Hid (∀ a' c n,(m ≠ 0 → a' = some ⟨g,off + (k + 8),none⟩) → Calls Tryz.prog 139 #[.slice a' m c] (wr.drewN n) fun e w' => e = .returned (.int .u32 (q : Int)) ∧ ∃ k,w' = wr.drewN k):=hid fun a' c n ha => by
    rw [hq]
    exact (w_sum (HSUB.out _ a' c (below_drewN _ _ n) ha) (by have:=HN.out; omega)).mono fun _ _ ⟨he,hw⟩ => ⟨he,n,hw.symm⟩
   have HNQ : Hid (∀ c n,Calls Tryz.prog 198 #[.slice (some ⟨g,off + (k + 4),none⟩) (ys.length - (k + 4)) c] (wr.drewN n) fun e w' => e = .returned (.int .i64 (r : Int)) ∧ ∃ k,w' = wr.drewN k):=hid fun c n => by
    rw [hr]
    exact (w_value ((HF.out.bytes.tail (q:=k + 4) (by omega) _ c (fun _ => rfl)).below (below_drewN _ _ n)) (by rw [List.length_drop]; omega) (by rw [List.length_drop]; have:=HN.out; omega)).mono fun _ _ ⟨he,hw⟩ => ⟨he,n,hw.symm⟩
   have HQ1 : Hid (IntKind.i64.wrap (q : Int) = (q : Int)):=hid (IntWalk.i64_in _ (by have:=sumOf_lt p; omega))
   have HQ:=hid hq
   have HR:=hid hr
   have HP:=hid hp
   have HPL:=hid hpl
   clear hp hpl hmlt hq hr
   have e1 : k + 8 + m - (k + 8) = m:=by omega
   have HE1:=hid e1
   have HX : Hid (IntKind.i64.wrap ((k : Int) + 4) = (k : Int) + 4 ∧ ((k : Int) + 4).toNat = k + 4):=hid ⟨IntWalk.i64_in _ (by omega),by omega⟩
   clear e1
   by_cases hqr : q = r
   ·have hh : headOf (ys.drop k) = some p:=headOf_some.2 ⟨by rw [List.length_drop]; have:=HPL.out; omega,by have:=HPL.out; omega,by rw [← HM.out,HPL.out],by rw [HPL.out,List.drop_drop]; exact HP.out,by rw [List.drop_drop,← HQ.out,hqr]; exact HR.out⟩
    obtain ⟨rest2,hrest⟩ : ∃ rest2,rest = p :: rest2 ∧ scanOf (ys.drop (k + 8 + m)) = rest2:=⟨_,by rw [← HI.out.2.1,scanOf_some hh,List.drop_drop,HPL.out,Nat.add_assoc],rfl⟩
    have HNX : Hid (pre ++ [frI g off cap k p] ++ frL g off cap (k + 8 + m) rest2 = frL g off cap 0 (scanOf ys) ∧ scanOf (ys.drop (k + 8 + m)) = rest2 ∧ k + 8 + m ≤ ys.length):=hid ⟨by rw [← HI.out.1,hrest.1,← HPL.out]; simp [frL],hrest.2,h5n⟩
    have hqr2 : ((q : Int) != (r : Int)) = false:=by rw [hqr]; simp
    clear hqr hh hrest
    by_cases hc8 : cap = k + 8
    ·have hm0 : Hid (m = 0):=hid (by have:=HCAP.out; omega)
     have HC8:=hid hc8
     go_wp2_with (fail)
     rw [HE1.out]
     obtain ⟨x1,x3⟩:=HX.out
     have x5:=HQ1.out
     go_quiet ((first | (go_at_call 139; exact HSQ.out _ _ _ (fun h => absurd hm0.out h)) | (go_at_call 198; exact HNQ.out _ _)))
     clear x1 x3 x5
     go_upto_region 7 with (fail)
     simp only [Nat.sub_self]
     have he : encFr (frI g off cap k p) = #[.int .i64 ((k : Int) + (8 + (m : Int))),.slice (some ⟨g,off,none⟩) m 0]:=by simp [frI,HPL.out,HC8.out]; omega
     obtain ⟨fn,tmps,assign,body,hy,hR⟩:=HY.out pre (frI g off cap k p) (wr.drewN nq) (HG.out _ _ _ HJ.out (below_drewN _ _ _)) ⟨_,HNX.out.1⟩
     rw [he] at hy
     have HR2:=hid hR
     clear he hR
     refine (wpIn_wide (n:=1)).1 ?_
     gi_wp2_with (first | (with_reducible refine ⟨fun f _ => wfn f,?_⟩) | (with_reducible refine ⟨wfn _,wd _,?_⟩) | (with_reducible refine ⟨wd _,?_⟩) | (with_reducible refine ⟨wfn _,?_⟩))
     refine HR2.out.mono ?_
     rintro e W2 (⟨rfl,hJ2,hk2⟩ | ⟨rfl,hx2,hk2⟩)
     ·have HJ2:=hid hJ2
      have HF2:=hid ((HF.out.keep (KpF.of_below (below_drewN _ _ _))).keep hk2)
      clear hJ2 hk2
      gi_wp2_with (first | (with_reducible refine ⟨fun f _ => wfn f,?_⟩) | (with_reducible refine ⟨wfn _,wd _,?_⟩) | (with_reducible refine ⟨wd _,?_⟩) | (with_reducible refine ⟨wfn _,?_⟩))
      go_wp2_with (fail)
      go_roundw
      case rel => exact ⟨k + 8 + m,pre ++ [frI g off cap k p],rest2,by congr 1; omega,HNX,HJ2,HF2⟩
      case measure => simp [intOf]; omega
     ·have HX2:=hid hx2
      clear hx2 hk2
      gi_wp2_with (first | (with_reducible refine ⟨fun f _ => wfn f,?_⟩) | (with_reducible refine ⟨wfn _,wd _,?_⟩) | (with_reducible refine ⟨wd _,?_⟩) | (with_reducible refine ⟨wfn _,?_⟩))
      go_wp2_with (fail)
      refine bodyPost_ret (results_none rfl _ _ _) rfl ?_
      exact ⟨⟨_,rfl⟩,.inr ⟨_,⟨_,HNX.out.1⟩,HX2.out⟩⟩
    ·go_wp2_with (fail)
     rw [HE1.out]
     obtain ⟨x1,x3⟩:=HX.out
     have x5:=HQ1.out
     go_quiet ((first | (go_at_call 139; exact HSQ.out _ _ _ (fun _ => rfl)) | (go_at_call 198; exact HNQ.out _ _)))
     clear x1 x3 x5
     go_upto_region 7 with (fail)
     have he : encFr (frI g off cap k p) = #[.int .i64 ((k : Int) + (8 + (m : Int))),.slice (some ⟨g,off + (k + 8),none⟩) m (cap - (k + 8))]:=by simp [frI,HPL.out,hc8]; omega
     obtain ⟨fn,tmps,assign,body,hy,hR⟩:=HY.out pre (frI g off cap k p) (wr.drewN nq) (HG.out _ _ _ HJ.out (below_drewN _ _ _)) ⟨_,HNX.out.1⟩
     rw [he] at hy
     have HR2:=hid hR
     clear he hR
     refine (wpIn_wide (n:=1)).1 ?_
     gi_wp2_with (first | (with_reducible refine ⟨fun f _ => wfn f,?_⟩) | (with_reducible refine ⟨wfn _,wd _,?_⟩) | (with_reducible refine ⟨wd _,?_⟩) | (with_reducible refine ⟨wfn _,?_⟩))
     refine HR2.out.mono ?_
     rintro e W2 (⟨rfl,hJ2,hk2⟩ | ⟨rfl,hx2,hk2⟩)
     ·have HJ2:=hid hJ2
      have HF2:=hid ((HF.out.keep (KpF.of_below (below_drewN _ _ _))).keep hk2)
      clear hJ2 hk2
      gi_wp2_with (first | (with_reducible refine ⟨fun f _ => wfn f,?_⟩) | (with_reducible refine ⟨wfn _,wd _,?_⟩) | (with_reducible refine ⟨wd _,?_⟩) | (with_reducible refine ⟨wfn _,?_⟩))
      go_wp2_with (fail)
      go_roundw
      case rel => exact ⟨k + 8 + m,pre ++ [frI g off cap k p],rest2,by congr 1; omega,HNX,HJ2,HF2⟩
      case measure => simp [intOf]; omega
     ·have HX2:=hid hx2
      clear hx2 hk2
      gi_wp2_with (first | (with_reducible refine ⟨fun f _ => wfn f,?_⟩) | (with_reducible refine ⟨wfn _,wd _,?_⟩) | (with_reducible refine ⟨wd _,?_⟩) | (with_reducible refine ⟨wfn _,?_⟩))
      go_wp2_with (fail)
      refine bodyPost_ret (results_none rfl _ _ _) rfl ?_
      exact ⟨⟨_,rfl⟩,.inr ⟨_,⟨_,HNX.out.1⟩,HX2.out⟩⟩
   ·have HD : Hid (J (frL g off cap 0 (scanOf ys)) wr):=hid (HEND.out (by
     cases hh : headOf (ys.drop k) with
     | none => rfl
     | some p2 =>
       obtain ⟨_,_,g3,g4,g5⟩:=headOf_some.1 hh
       rw [← HM.out] at g3
       rw [← g3,List.drop_drop,← HP.out] at g4
       subst g4
       rw [List.drop_drop,← HR.out,← HQ.out] at g5
       exact absurd g5 hqr))
    have hqr2 : ((q : Int) != (r : Int)) = true:=by rw [bne_iff_ne]; omega
    clear hqr
    by_cases hc8 : cap = k + 8
    ·have hm0 : Hid (m = 0):=hid (by have:=HCAP.out; omega)
     go_wp2_with (fail)
     rw [HE1.out]
     obtain ⟨x1,x3⟩:=HX.out
     have x5:=HQ1.out
     go_quiet ((first | (go_at_call 139; exact HSQ.out _ _ _ (fun h => absurd hm0.out h)) | (go_at_call 198; exact HNQ.out _ _)))
     clear x1 x3 x5
     go_wp2_with (fail)
     refine bodyPost_ret (results_none rfl _ _ _) rfl ?_
     exact ⟨⟨_,rfl⟩,.inl (HG.out _ _ _ HD.out (below_drewN _ _ _))⟩
    ·go_wp2_with (fail)
     rw [HE1.out]
     obtain ⟨x1,x3⟩:=HX.out
     have x5:=HQ1.out
     go_quiet ((first | (go_at_call 139; exact HSQ.out _ _ _ (fun _ => rfl)) | (go_at_call 198; exact HNQ.out _ _)))
     clear x1 x3 x5
     go_wp2_with (fail)
     refine bodyPost_ret (results_none rfl _ _ _) rfl ?_
     exact ⟨⟨_,rfl⟩,.inl (HG.out _ _ _ HD.out (below_drewN _ _ _))⟩
  ·have h2 : ¬ ((8 : Int) ≤ (ys.length : Int) - (k : Int)):=by omega
   have HD : Hid (J (frL g off cap 0 (scanOf ys)) wr):=hid (HEND.out (by unfold headOf; rw [if_pos (by rw [List.length_drop]; omega)]))
   go_wp2_with (fail)
   go_end0
   exact ⟨⟨_,rfl⟩,.inl HD.out⟩
end
theorem iter_frames {n0 bb g off cap : Nat} {a : Option Addr} {ys : List UInt8} {W : World} (hn : ys.length ≤ 70000000) (hcap : ys.length ≤ cap) (hcm : cap ≤ 9223372036854775807) (ha : ys ≠ [] → a = some ⟨g,off,none⟩) (hW : FrW n0 bb W a cap ys W) :
 IterC Tryz.prog 197 #[.pointer (some ⟨bb,0,none⟩)] encFr (KpF n0 bb) (frL g off cap 0 (scanOf ys)) W :=
 fun l J Jx W' hW' hg hr h0 => q_frames l J Jx hn hcap hcm ha (by
  have h:=hW.keep (n0:=n0) (bb:=bb) (KpF.of_below hW')
  exact ⟨h.box,h.bytes,h.own⟩) hg hr h0
end Go.Proofs.YtagdchgkjjpacaaGreat
set_option linter.unusedSimpArgs false
set_option linter.unusedVariables false
set_option linter.unusedSectionVars false
namespace Go.Proofs.YtagdchgkjjpacaaGreat
open Go.RowKit Go.Shelf
def spoiltC (r : Bool) : List PanicEntry:=[{ v:=.iface 153 (.agg #[]),recovered:=r }]
def spoiltE : Ending:=.panicked (spoiltC false)
structure SRd (w : World) (rb B : Nat) (a : Option Addr) (cap : Nat) (ys : List UInt8) : Prop where
 blk : IsBlk w rb #[.slice a ys.length cap] 95
 rd : RdAt byteKind w (.slice a ys.length cap) ys
 out : ∀ b,a = some b → b.spot = none ∧ b.block ≠ rb
 room : ys.length ≤ cap ∧ cap ≤ 9223372036854775807
 sm : ys.length ≤ 1000000000
 lo : ys ≠ [] → ∀ b,a = some b → b.block < B
section
variable {w w' : World} {rb B : Nat} {a : Option Addr} {cap : Nat} {ys : List UInt8}
theorem st_leave {P : Program} {fn : Func} {R : Ending → World → Prop} {chain : List PanicEntry} {a : Act} {w : World} (hd : a.defers = []) (h : R (.panicked chain) w) : bodyPost P fn R (.panic chain) a w:=⟨hd,h⟩
theorem SRd.below (h : SRd w rb B a cap ys) (hb : Below w.heap.size w w') : SRd w' rb B a cap ys:=⟨(hb.block _ (lt_of_block h.blk)).trans h.blk,h.rd.below hb,h.out,h.room,h.sm,h.lo⟩
theorem RdAt.out {v : Value} (h : RdAt byteKind w v ys) {S : Nat → Prop} (hk : Keeps S w w') (hn : ∀ a len cap g off,v = .slice a len cap → a = some ⟨g,off,none⟩ → ys ≠ [] → ¬ S g) : RdAt byteKind w' v ys:=by
 obtain ⟨a,cap,rfl,hr⟩:=h
 refine ⟨a,cap,rfl,fun j x hx => ?_⟩
 obtain ⟨g,off,e,hc⟩:=hr j x hx
 refine ⟨g,off,e,fun i hi => ?_⟩
 have h1:=hc i hi
 have hlt:=World.block_lt_of_cell? _ _ (show w.cell? ⟨g,off + j * byteKind.size + i,none⟩ = some _ from by
  rw [h1]
  have hi0 : i = 0:=by have : i < 1:=hi; omega
  subst hi0
  rfl)
 rw [← h1]
 have hb:=hk.block g hlt (hn a _ cap g off rfl e (fun h => by rw [h] at hx; cases hx))
 unfold World.cell?
 simp only
 rw [hb]
theorem SRd.keeps (h : SRd w rb B a cap ys) {S : Nat → Prop} (hk : Keeps S w w') (h1 : ¬ S rb) (h2 : ∀ g off,a = some ⟨g,off,none⟩ → ys ≠ [] → ¬ S g) : SRd w' rb B a cap ys :=
 ⟨hk.obj h.blk h1,h.rd.out hk fun a' _ _ g off e e2 => h2 g off (by injection e with e _ _; rw [e]; exact e2),h.out,h.room,h.sm,h.lo⟩
theorem SRd.took {g off : Nat} (h : SRd w rb B (some ⟨g,off,none⟩) cap ys) {n : Nat} (hn : n ≤ ys.length) {c1 m : Nat} {a2 : Option Addr} {c2 : Nat} (hm : m = ys.length - n) (ha : n < ys.length → a2 = some ⟨g,off + n,none⟩) (hb : ∀ b,a2 = some b → b.spot = none ∧ b.block = g) (hc : c2 = cap - n) :
 RdAt byteKind (w.setCell ⟨rb,0,none⟩ (.slice a2 m c2)) (.slice (some ⟨g,off,none⟩) n c1) (ys.take n) ∧ SRd (w.setCell ⟨rb,0,none⟩ (.slice a2 m c2)) rb B a2 c2 (ys.drop n) ∧ Keeps (Only rb) w (w.setCell ⟨rb,0,none⟩ (.slice a2 m c2)):=by
 have hk : Keeps (Only rb) w (w.setCell ⟨rb,0,none⟩ (.slice a2 m c2)):=(Keeps.refl (Only rb) w).setCell (p:=⟨rb,0,none⟩) (fun _ => rfl) _
 have hg : g ≠ rb:=(h.out _ rfl).2
 have hl : (ys.drop n).length = m:=by rw [List.length_drop,hm]
 refine ⟨?_,⟨?_,?_,fun b hb2 => ⟨(hb b hb2).1,by rw [(hb b hb2).2]; exact hg⟩,by rw [hl,hc]; have:=h.room; omega,by rw [hl]; have:=h.sm; omega,fun h0 b hb2 => ?_⟩,hk⟩
 ·have h1:=h.rd.sub (q:=0) (m:=n) (by omega) (some ⟨g,off,none⟩) c1 (fun _ => by rw [Nat.add_zero])
  rw [List.drop_zero] at h1
  exact h1.out hk fun a' _ _ g' off' e e2 _ => by
   injection e with e _ _
   rw [← e] at e2
   cases e2
   exact hg
 ·have:=blk_set h.blk 0 (.slice a2 m c2)
  rw [hl]
  exact this
 ·have h1:=h.rd.tail hn a2 c2 ha
  rw [← hm] at h1
  rw [hl]
  exact h1.out hk fun a' _ _ g' off' e e2 _ => by
   injection e with e _ _
   rw [← e] at e2
   have:=(hb _ e2).2
   rw [← this] at hg
   exact hg
 ·rw [(hb b hb2).2]
  exact h.lo (fun e => h0 (by rw [e]; simp)) _ rfl
set_option maxHeartbeats 4000000 in
theorem st_take (h : SRd w rb B a cap ys) (n : Nat) (hn : n ≤ ys.length) :
 Calls Tryz.prog 55 #[.pointer (some ⟨rb,0,none⟩),.int .i64 (n : Int)] w fun e w' => ∃ a1 c1,e = .returned (.slice a1 n c1) ∧ ∃ a2 c2,Hid (RdAt byteKind w' (.slice a1 n c1) (ys.take n) ∧ SRd w' rb B a2 c2 (ys.drop n) ∧ Keeps (Only rb) w w'):=by
 have H:=hid h
 have HN:=hid hn
 have r0 : w.cell? ⟨rb,0,none⟩ = some (.slice a ys.length cap):=blk_cell h.blk 0
 have rz : w.frozen? ⟨rb,0,none⟩ = false:=blk_free h.blk 0
 have hl1 : (ys.length : Int) ≤ 1000000000:=by have:=h.sm; omega
 have hn0 : ¬ (n : Int) < 0:=by omega
 have hn1 : ¬ (ys.length : Int) < (n : Int):=by omega
 have hn2 : (0 : Int) ≤ (n : Int):=by omega
 have hn3 : (n : Int) ≤ (ys.length : Int):=by omega
 have hc1 : (ys.length : Int) ≤ (cap : Int):=by have:=h.room; omega
 have hc2 : (cap : Int) ≤ 9223372036854775807:=by have:=h.room; omega
 have hc3 : (n : Int) ≤ (cap : Int):=by omega
 have hout:=h.out
 have HO:=hid hout
 clear h hn hout
 cases a with
 | none =>
   have hy : ys = []:=by
    cases ys with
    | nil => rfl
    | cons x xs =>
      obtain ⟨_,_,e,hr⟩:=H.out.rd
      injection e with e _ _
      obtain ⟨g,off,e2,-⟩:=hr 0 x rfl
      rw [← e] at e2; cases e2
   subst hy
   obtain rfl : n = 0:=by have:=HN.out; simp at this; exact this
   go_enter Tryz.func55,Tryz.ntmps55
   go_wp2_with (fail)
   go_ret
   refine ⟨none,cap,rfl,none,cap,hid ⟨⟨none,cap,rfl,fun j x hx => by simp at hx⟩,⟨?_,⟨none,cap,rfl,fun j x hx => by simp at hx⟩,(fun b hb => by cases hb),H.out.room,H.out.sm,fun h => absurd rfl h⟩,(Keeps.refl (Only rb) w).setCell (p:=⟨rb,0,none⟩) (fun _ => rfl) _⟩⟩
   exact blk_set H.out.blk 0 (.slice none 0 cap)
 | some b =>
   obtain ⟨g,off,sp⟩:=b
   obtain rfl : sp = none:=(HO.out _ rfl).1
   have hg : g ≠ rb:=(HO.out _ rfl).2
   go_enter Tryz.func55,Tryz.ntmps55
   go_wp2_with (fail)
   ·go_ret
    refine ⟨_,_,rfl,_,_,hid (H.out.took HN.out rfl (fun h => ?_) (fun b hb => ?_) ?_)⟩
    ·exfalso; have:=H.out.room; omega
    ·cases hb; exact ⟨rfl,rfl⟩
    ·omega
   ·go_ret
    refine ⟨_,_,rfl,_,_,hid (H.out.took HN.out rfl (fun h => rfl) (fun b hb => by cases hb; exact ⟨rfl,rfl⟩) rfl)⟩
set_option maxHeartbeats 4000000 in
theorem st_take_bad (h : SRd w rb B a cap ys) (n : Int) (hn : n < 0 ∨ (ys.length : Int) < n) :
 Calls Tryz.prog 55 #[.pointer (some ⟨rb,0,none⟩),.int .i64 n] w fun e w' => e = spoiltE ∧ w = w':=by
 have r0 : w.cell? ⟨rb,0,none⟩ = some (.slice a ys.length cap):=blk_cell h.blk 0
 have hl1 : (ys.length : Int) ≤ 1000000000:=by have:=h.sm; omega
 clear h
 by_cases h0 : n < 0
 ·have t0 : decide (n < 0) = true:=by simp [h0]
  clear hn
  go_enter Tryz.func55,Tryz.ntmps55
  go_wp2_with (fail)
  refine st_leave rfl ?_
  exact ⟨rfl,rfl⟩
 ·have t0 : decide (n < 0) = false:=by simp; omega
  have t1 : (ys.length : Int) < n:=by omega
  have t2 : decide ((ys.length : Int) < n) = true:=by simp; omega
  clear hn
  go_enter Tryz.func55,Tryz.ntmps55
  go_wp2_with (fail)
  refine st_leave rfl ?_
  exact ⟨rfl,rfl⟩
end
end Go.Proofs.YtagdchgkjjpacaaGreat
