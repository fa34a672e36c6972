/- The walk of the document's Apply: what a batch makes of pairs. -/
import Derived.Test.YtagdchgkjjpacaaGreatr39
import Derived.Test.YtagdchgkjjpacaaGreatr18
set_option maxRecDepth 100000
open Go.Lib (hid)
set_option linter.unusedSimpArgs false
set_option linter.unusedVariables false
set_option linter.unusedSectionVars false
namespace Go.Proofs.YtagdchgkjjpacaaGreat
open Go.RowKit Go.Shelf
def prKind : ElKind (ByteArray × ByteArray):=⟨fun c => [.string c.1,.string c.2],2,fun _ => rfl,by decide,fun c u hu => by
 simp only [List.mem_cons,List.not_mem_nil,or_false] at hu
 rcases hu with rfl | rfl <;> rfl⟩
theorem pr_cells {w : World} {a : Option Addr} {n cap : Nat} {xs : Prs} (h : RdAt prKind w (.slice a n cap) xs) {i : Nat} {c : ByteArray × ByteArray} (hc : xs[i]? = some c) :
 ∃ g off,a = some ⟨g,off,none⟩ ∧ w.cell? ⟨g,off + i * 2,none⟩ = some (.string c.1) ∧ w.cell? ⟨g,off + i * 2 + 1,none⟩ = some (.string c.2):=by
 obtain ⟨a',cap',e,hh⟩:=h
 injection e with e1 _ _
 subst e1
 obtain ⟨g,off,ea,hc⟩:=hh i c hc
 exact ⟨g,off,ea,hc 0 (by decide),hc 1 (by decide)⟩
theorem infoPair : (Tryz.prog.info? 85).map (fun i => (i.zero,i.size,i.bytes)) = some (some (.agg #[.string ⟨#[]⟩,.string ⟨#[]⟩]),2,32):=by kernel_rfl
theorem append_pair {w : World} {v u : Value} {xs ys : Prs} (hv : SlAt prKind 85 w v xs) (hu : RdAt prKind w u ys) (hn : xs.length + ys.length ≤ 3000000) (ty : TypeId) :
 ∃ v' w',(Builtin.append_ #[64,64] ty #[v,u]).run Tryz.prog w = .ok v' w' ∧ SlAt prKind 85 w' v' (xs ++ ys) ∧ Keeps (fun k => v.ownBlock = some k) w w' ∧ (∀ k,v'.ownBlock = some k → v.ownBlock = some k ∨ w.heap.size ≤ k):=by
 obtain ⟨i,hi,hz,hs,hb⟩:=info_parts infoPair
 obtain ⟨v',w',h1,h2,h3,h4,_⟩:=run_append_sl (ek:=prKind) (P:=Tryz.prog) 64 ty i _ 32 Tryz.underlying64 hi hz hs hb rfl hv hu (by unfold maxLen; omega) (by omega)
 exact ⟨v',w',h1,h2,h3,h4⟩
theorem NewSl.pair {w w1 W : World} {v : Value} {l : Prs} (h : NewSl prKind 85 w w1 v l) (hl : l.length ≤ 2500000) (c : ByteArray × ByteArray) (hW : W = w1.alloc (.cells #[.string c.1,.string c.2] 85) ∨ W = (w1.alloc (.cells #[.string c.1,.string c.2] 85)).drew) (L : Prs) (hL : L = l ++ [c]) :
 ∃ va vc V,(Builtin.append_ #[64,64] 64 #[v,.slice (some ⟨w1.heap.size,0,none⟩) 1 1]).run Tryz.prog W = .ok (.slice va L.length vc) V ∧ NewSl prKind 85 w V (.slice va L.length vc) L:=by
 have hb0 : Below w1.heap.size w1 (w1.alloc (.cells #[.string c.1,.string c.2] 85)):=(Below.refl _ _).alloc (Nat.le_refl _) _
 have hrd : RdAt prKind W (.slice (some ⟨w1.heap.size,0,none⟩) 1 1) [c]:=by
  have h1:=rd_one (ek:=prKind) w1 c #[.string c.1,.string c.2] rfl 85
  rcases hW with e | e
  ·rw [e]; exact h1
  ·rw [e]; exact h1.below (Below.refl _ _).drew
 have hb1 : Below w1.heap.size w1 W:=by
  rcases hW with e | e
  ·rw [e]; exact hb0
  ·rw [e]; exact hb0.drew
 obtain ⟨v',V,hap,hsl,hk,hown⟩:=append_pair (h.sl.below hb1) hrd (by simp only [List.length_cons,List.length_nil]; omega) 64
 rw [← hL] at hsl
 obtain ⟨va,vc,e⟩:=hsl.shape
 subst e
 refine ⟨va,vc,V,hap,hsl,fun g hg => ?_,below_keeps (h.below.trans (hb1.mono h.below.size)) hk (fun i e => h.new i e) (by have:=h.below.size; have:=hb1.size; omega)⟩
 rcases hown g hg with e | e
 ·exact h.new g e
 ·have:=h.below.size; have:=hb1.size; omega
def doneI (m : Prs) (c : Chg) (k : Nat) : Bool:=c.drop || (m.take k).any fun x => slt c.key x.1
def outI (m : Prs) (c : Chg) (k : Nat) : Prs :=
 if c.drop then (m.take k).filter (fun x => slt x.1 c.key || slt c.key x.1)
 else if doneI m c k then (m.take k).filter (fun x => slt x.1 c.key) ++ (c.key,c.val) :: (m.take k).filter (fun x => slt c.key x.1)
 else (m.take k).filter (fun x => slt x.1 c.key)
section
variable {m : Prs} {c : Chg} {k : Nat} {x : ByteArray × ByteArray}
theorem doneI_zero (m : Prs) (c : Chg) : doneI m c 0 = c.drop:=by unfold doneI; simp
theorem outI_zero (m : Prs) (c : Chg) : outI m c 0 = []:=by
 unfold outI doneI
 cases c.drop <;> simp
theorem doneI_next (hx : m[k]? = some x) : doneI m c (k + 1) = (doneI m c k || slt c.key x.1):=by
 unfold doneI
 rw [List.take_add_one,hx]
 simp [List.any_append,Bool.or_assoc]
theorem doneI_end : doneI m c m.length = (c.drop || m.any fun x => slt c.key x.1):=by unfold doneI; rw [List.take_length]
theorem outI_eq (hx : m[k]? = some x) (h1 : slt x.1 c.key = false) (h2 : slt c.key x.1 = false) : outI m c (k + 1) = outI m c k ∧ doneI m c (k + 1) = doneI m c k:=by
 have hd : doneI m c (k + 1) = doneI m c k:=by rw [doneI_next hx,h2,Bool.or_false]
 refine ⟨?_,hd⟩
 unfold outI
 rw [hd,List.take_add_one,hx]
 simp [List.filter_append,h1,h2]
theorem no_gt (hr : Rise slt m) (hx : m[k]? = some x) (h1 : slt x.1 c.key = true) : (m.take k).any (fun y => slt c.key y.1) = false:=by
 rw [List.any_eq_false]
 intro y hy h2
 obtain ⟨j,hj⟩:=List.getElem?_of_mem hy
 have hjk : j < k:=by
  have:=(List.getElem?_eq_some_iff.1 hj).1
  rw [List.length_take] at this; omega
 rw [List.getElem?_take_of_lt hjk] at hj
 have hjl:=(List.getElem?_eq_some_iff.1 hj)
 have hxl:=(List.getElem?_eq_some_iff.1 hx)
 have h3:=List.pairwise_iff_getElem.1 hr j k hjl.1 hxl.1 hjk
 rw [hjl.2,hxl.2] at h3
 have h4:=slt_ord.tr _ _ _ (slt_ord.tr _ _ _ h2 h3) h1
 rw [slt_ord.irr] at h4
 cases h4
theorem outI_lt (hr : Rise slt m) (hx : m[k]? = some x) (h1 : slt x.1 c.key = true) : outI m c (k + 1) = outI m c k ++ [x] ∧ doneI m c (k + 1) = doneI m c k:=by
 have h2 : slt c.key x.1 = false:=slt_ord.asymm h1
 have hd : doneI m c (k + 1) = doneI m c k:=by rw [doneI_next hx,h2,Bool.or_false]
 refine ⟨?_,hd⟩
 have hn:=no_gt hr hx h1
 have hdd : doneI m c k = c.drop:=by unfold doneI; rw [hn,Bool.or_false]
 unfold outI
 rw [hd,hdd,List.take_add_one,hx]
 cases hdr : c.drop with
 | true => simp [List.filter_append,h1]
 | false => simp [List.filter_append,h1]
theorem outI_gt (hx : m[k]? = some x) (h2 : slt c.key x.1 = true) : outI m c (k + 1) = (if doneI m c k then outI m c k else outI m c k ++ [(c.key,c.val)]) ++ [x] ∧ doneI m c (k + 1) = true:=by
 have h1 : slt x.1 c.key = false:=slt_ord.asymm h2
 have hd : doneI m c (k + 1) = true:=by rw [doneI_next hx,h2,Bool.or_true]
 refine ⟨?_,hd⟩
 have e : (some x).toList = [x]:=rfl
 unfold outI
 rw [hd,List.take_add_one,hx,e]
 cases hdr : c.drop with
 | true =>
   have hdk : doneI m c k = true:=by unfold doneI; rw [hdr,Bool.true_or]
   rw [hdk]
   simp [List.filter_append,h2]
 | false =>
   cases hdk : doneI m c k with
   | true => simp [List.filter_append,h1,h2]
   | false =>
     have hg : (m.take k).filter (fun x => slt c.key x.1) = []:=by
      rw [List.filter_eq_nil_iff]
      unfold doneI at hdk
      rw [hdr,Bool.false_or,List.any_eq_false] at hdk
      intro y hy
      exact hdk y hy
     simp [List.filter_append,h1,h2,hg]
theorem outI_end : (if doneI m c m.length then outI m c m.length else outI m c m.length ++ [(c.key,c.val)]) = applyC m c:=by
 unfold applyC putL dropL outI
 rw [List.take_length]
 cases hdr : c.drop with
 | true =>
   have hdk : doneI m c m.length = true:=by unfold doneI; rw [hdr,Bool.true_or]
   rw [hdk]; simp
 | false =>
   cases hdk : doneI m c m.length with
   | true => simp
   | false =>
     have hg : m.filter (fun x => slt c.key x.1) = []:=by
      rw [List.filter_eq_nil_iff]
      rw [doneI_end,hdr,Bool.false_or,List.any_eq_false] at hdk
      intro y hy
      exact hdk y hy
     simp [hg]
theorem len_le_two (k : ByteArray) : ∀ m : Prs,(m.filter (fun x => slt x.1 k)).length + (m.filter (fun x => slt k x.1)).length ≤ m.length
 | [] => Nat.le_refl _
 | p :: m => by
   have h:=len_le_two k m
   cases h1 : slt p.1 k with
   | true =>
     have h2 : slt k p.1 = false:=slt_ord.asymm h1
     simp [List.filter_cons,h1,h2]; omega
   | false =>
     cases h2 : slt k p.1 with
     | true => simp [List.filter_cons,h1,h2]; omega
     | false => simp [List.filter_cons,h1,h2]; omega
theorem outI_len (m : Prs) (c : Chg) (k : Nat) : (outI m c k).length ≤ m.length + 1:=by
 have h0 : (m.take k).length ≤ m.length:=by rw [List.length_take]; omega
 unfold outI
 split
 ·exact Nat.le_succ_of_le (Nat.le_trans (List.length_filter_le _ _) h0)
 ·split
  ·have h1:=len_le_two c.key (m.take k)
   rw [List.length_append,List.length_cons]
   omega
  ·exact Nat.le_succ_of_le (Nat.le_trans (List.length_filter_le _ _) h0)
end
theorem applyC_len (M : Prs) (c : Chg) : (applyC M c).length ≤ M.length + 1:=by
 unfold applyC putL dropL
 have h1:=len_le_two c.key M
 cases c.drop with
 | true => exact Nat.le_succ_of_le (List.length_filter_le _ _)
 | false =>
   simp only [Bool.false_eq_true,if_false,List.length_append,List.length_cons]
   omega
section
variable {w : World}
set_option maxHeartbeats 16000000 in
theorem d_apply {v u : Value} {m : Prs} {l : List Chg} (hp : SlAt prKind 85 w v m) (hu : RdAt chgKind w u l) (hr : Rise slt m) (hn : m.length + l.length ≤ 2000000) :
 Calls Tryz.prog 33 #[v,u] w fun e w' => ∃ va vc,e = .returned (.slice va (applyB m l).length vc) ∧ SlAt prKind 85 w' (.slice va (applyB m l).length vc) (applyB m l) ∧ (∀ g,(Value.slice va (applyB m l).length vc).ownBlock = some g → v.ownBlock = some g ∨ w.heap.size ≤ g) ∧ Below w.heap.size w w':=by
 obtain ⟨a0,c0,rfl⟩:=hp.shape
 have HU:=hid hu
 obtain ⟨a1,c1,rfl,-⟩:=hu
 have HN0:=hid hn
 have hlI : (l.length : Int) ≤ 2000000:=by omega
 have HS0 : Hid (SlAt prKind 85 w (.slice a0 m.length c0) m ∧ Rise slt m):=hid ⟨hp,hr⟩
 clear hp hr hn
 go_enter Tryz.func33,Tryz.ntmps33
 go_wp2_with (fail)
 go_loopw [0,5] (fun pv iv wr => ∃ (i : Nat) (pa : Option Addr) (pc : Nat) (M : Prs),i ≤ l.length ∧ iv = .int .i64 (i : Int) ∧ pv = .slice pa M.length pc ∧ Hid (M = applyB m (l.take i)) ∧ Hid (Below w.heap.size w wr) ∧
   Hid (SlAt prKind 85 wr (.slice pa M.length pc) M ∧ (∀ g,(Value.slice pa M.length pc).ownBlock = some g → (Value.slice a0 m.length c0).ownBlock = some g ∨ w.heap.size ≤ g) ∧ Rise slt M ∧ M.length ≤ m.length + i)) (fun _ iv _ => l.length - (intOf iv).toNat)
 case atStart => exact ⟨0,a0,c0,m,Nat.zero_le _,rfl,rfl,hid rfl,hid (Below.refl _ _),hid ⟨HS0.out.1,fun g hg => .inl hg,HS0.out.2,Nat.le_refl _⟩⟩
 case round =>
  obtain ⟨i,pa,pc,M,hi,rfl,rfl,HM,HB,HS⟩:=hrel
  have q1 : (0 : Int) ≤ (i : Int):=by omega
  by_cases hlt : i < l.length
  ·have q2 : (i : Int) < (l.length : Int):=by omega
   obtain ⟨c,hc⟩ : ∃ c,l[i]? = some c:=⟨_,List.getElem?_eq_getElem hlt⟩
   obtain ⟨g,off,ea,d0,d1,d2⟩:=chg_cells HU.out hc
   subst ea
   have HLT:=hid hlt
   have HNXM : Hid (applyC M c = applyB m (l.take (i + 1))):=hid (by rw [List.take_add_one,hc,HM.out]; unfold applyB; rw [List.foldl_append]; rfl)
   have HCELL : Hid (∀ W,Below w.heap.size w W → W.cell? ⟨g,off + i * 3,none⟩ = some (.string c.key) ∧ W.cell? ⟨g,off + i * 3 + 1,none⟩ = some (.string c.val) ∧ W.cell? ⟨g,off + i * 3 + 2,none⟩ = some (.bool c.drop)):=hid fun W hW =>
    ⟨(hW.cell (p:=⟨g,off + i * 3,none⟩) (World.block_lt_of_cell? w _ d0)).trans d0,(hW.cell (p:=⟨g,off + i * 3 + 1,none⟩) (World.block_lt_of_cell? w _ d1)).trans d1,(hW.cell (p:=⟨g,off + i * 3 + 2,none⟩) (World.block_lt_of_cell? w _ d2)).trans d2⟩
   clear d0 d1 d2 hc hlt hi
   obtain ⟨e0,e1,e2⟩:=HCELL.out _ HB.out
   have hML : (M.length : Int) ≤ 2000000:=by have:=HS.out.2.2.2; have:=HN0.out; have:=HLT.out; omega
   have HMLN : Hid (M.length ≤ 2000000):=hid (by omega)
   go_wp2_with (fail)
   clear e0 e1 e2
   go_loopw [6,7,8] (fun ov dv kv wr2 => ∃ (k : Nat) (oa : Option Addr) (oc : Nat) (O : Prs) (d : Bool),k ≤ M.length ∧ kv = .int .i64 (k : Int) ∧ ov = .slice oa O.length oc ∧ dv = .bool d ∧ Hid (O = outI M c k) ∧ Hid (d = doneI M c k) ∧ Hid (NewSl prKind 85 wr wr2 (.slice oa O.length oc) O)) (fun _ _ kv _ => M.length - (intOf kv).toNat)
   case atStart => exact ⟨0,none,0,[],c.drop,Nat.zero_le _,rfl,rfl,rfl,hid (outI_zero M c).symm,hid (doneI_zero M c).symm,hid (NewSl.nil wr)⟩
   case round =>
    obtain ⟨k,oa,oc,O,d,hk,rfl,rfl,rfl,HO,HD,HN⟩:=hrel
    rename World => wr2
    have k0 : (0 : Int) ≤ (k : Int):=by omega
    have HOL : Hid (O.length ≤ 2500000):=hid (by rw [HO.out]; have:=outI_len M c k; have:=HMLN.out; omega)
    by_cases hkl : k < M.length
    ·have k1 : (k : Int) < (M.length : Int):=by omega
     obtain ⟨x,hx⟩ : ∃ x,M[k]? = some x:=⟨_,List.getElem?_eq_getElem hkl⟩
     obtain ⟨g2,off2,eb,c0',c1'⟩:=pr_cells HS.out.1.rd hx
     subst eb
     have HX : Hid (∀ W,Below wr.heap.size wr W → W.cell? ⟨g2,off2 + k * 2,none⟩ = some (.string x.1) ∧ W.cell? ⟨g2,off2 + k * 2 + 1,none⟩ = some (.string x.2)):=hid fun W hW =>
      ⟨(hW.cell (p:=⟨g2,off2 + k * 2,none⟩) (World.block_lt_of_cell? wr _ c0')).trans c0',(hW.cell (p:=⟨g2,off2 + k * 2 + 1,none⟩) (World.block_lt_of_cell? wr _ c1')).trans c1'⟩
     have HK:=hid hkl
     have HMX:=hid hx
     clear c0' c1' hx hkl hk
     obtain ⟨p0,p1⟩:=HX.out _ HN.out.below
     obtain ⟨d0,d1,d2⟩:=HCELL.out _ (HB.out.trans (HN.out.below.mono HB.out.size))
     cases h1 : slt x.1 c.key with
     | true =>
       have h2 : slt c.key x.1 = false:=slt_ord.asymm h1
       have s1 : Op.bytesLess x.1.toList c.key.toList = true:=h1
       have s2 : Op.bytesLess c.key.toList x.1.toList = false:=h2
       have s3 : (x.1.toList == c.key.toList) = false:=beq_eq_false_iff_ne.2 fun e => by rw [str_inj e,slt_ord.irr] at h1; cases h1
       obtain ⟨OO,hOO⟩ : ∃ OO,OO = outI M c (k + 1):=⟨_,rfl⟩
       have HOO : Hid (OO = O ++ [x] ∧ True):=hid ⟨by rw [hOO,(outI_lt HS.out.2.2.1 HMX.out h1).1,HO.out],trivial⟩
       have HOO2 : Hid (OO = outI M c (k + 1)) ∧ Hid (d = doneI M c (k + 1)):=⟨hid hOO,hid (by rw [(outI_lt HS.out.2.2.1 HMX.out h1).2,HD.out])⟩
       clear hOO h1 h2
       cases d with
       | true =>
         go_wp2_with (fail)
         go_quiet (fail)
         have hb0 : Below wr2.heap.size wr2 (wr2.drewN nq):=below_drewN _ _ _
         generalize wr2.drewN nq = V0 at hb0 ⊢
         have hv0 : Below wr.heap.size wr V0:=HN.out.below.trans (hb0.mono HN.out.below.size)
         clear p0 p1 d0 d1 d2
         obtain ⟨p0,p1⟩:=HX.out _ hv0
         obtain ⟨d0,d1,d2⟩:=HCELL.out _ (HB.out.trans (hv0.mono HB.out.size))
         have HB0:=hid hb0
         clear hb0 hv0
         go_wp2_with (fail)
         go_quiet (fail)
         have hb1 : Below wr2.heap.size wr2 (V0.drewN nq):=HB0.out.trans (below_drewN _ _ _)
         generalize V0.drewN nq = V1 at hb1 ⊢
         clear p0 p1 d0 d1 d2
         have hv1 : Below wr.heap.size wr V1:=HN.out.below.trans (hb1.mono HN.out.below.size)
         obtain ⟨p0,p1⟩:=HX.out _ hv1
         obtain ⟨va,vc,V2,hrun,hn2⟩:=(HN.out.read hb1).pair HOL.out x (.inl rfl) OO HOO.out.1
         have HN2:=hid hn2
         clear hb1 hv1 hn2
         go_wp2_with (at_builtin; refine wpList_append_run rfl (.tmp 66) (.tmp 71) 64 rfl _ _ rfl rfl _ _ hrun ?_)
         go_roundw
         case rel => exact ⟨k + 1,va,vc,OO,_,HK.out,by go_num,rfl,rfl,HOO2.1,HOO2.2,HN2⟩
         case measure => simp [intOf]; have:=HK.out; omega
       | false =>
         go_wp2_with (fail)
         go_quiet (fail)
         have hb0 : Below wr2.heap.size wr2 (wr2.drewN nq):=below_drewN _ _ _
         generalize wr2.drewN nq = V0 at hb0 ⊢
         have hv0 : Below wr.heap.size wr V0:=HN.out.below.trans (hb0.mono HN.out.below.size)
         clear p0 p1 d0 d1 d2
         obtain ⟨p0,p1⟩:=HX.out _ hv0
         obtain ⟨d0,d1,d2⟩:=HCELL.out _ (HB.out.trans (hv0.mono HB.out.size))
         have HB0:=hid hb0
         clear hb0 hv0
         go_wp2_with (fail)
         go_quiet (fail)
         have hb1 : Below wr2.heap.size wr2 (V0.drewN nq):=HB0.out.trans (below_drewN _ _ _)
         generalize V0.drewN nq = V1 at hb1 ⊢
         clear p0 p1 d0 d1 d2
         have hv1 : Below wr.heap.size wr V1:=HN.out.below.trans (hb1.mono HN.out.below.size)
         obtain ⟨p0,p1⟩:=HX.out _ hv1
         obtain ⟨va,vc,V2,hrun,hn2⟩:=(HN.out.read hb1).pair HOL.out x (.inl rfl) OO HOO.out.1
         have HN2:=hid hn2
         clear hb1 hv1 hn2
         go_wp2_with (at_builtin; refine wpList_append_run rfl (.tmp 66) (.tmp 71) 64 rfl _ _ rfl rfl _ _ hrun ?_)
         go_roundw
         case rel => exact ⟨k + 1,va,vc,OO,_,HK.out,by go_num,rfl,rfl,HOO2.1,HOO2.2,HN2⟩
         case measure => simp [intOf]; have:=HK.out; omega
     | false =>
       cases h2 : slt c.key x.1 with
       | true =>
         have s1 : Op.bytesLess x.1.toList c.key.toList = false:=h1
         have s2 : Op.bytesLess c.key.toList x.1.toList = true:=h2
         have s3 : (x.1.toList == c.key.toList) = false:=beq_eq_false_iff_ne.2 fun e => by rw [str_inj e,slt_ord.irr] at h2; cases h2
         obtain ⟨OO,hOO⟩ : ∃ OO,OO = outI M c (k + 1):=⟨_,rfl⟩
         have hg:=outI_gt HMX.out h2
         cases d with
         | true =>
           have HOO : Hid (OO = O ++ [x] ∧ True):=hid ⟨by rw [hOO,hg.1,if_pos HD.out.symm,HO.out],trivial⟩
           have HOO2 : Hid (OO = outI M c (k + 1)) ∧ Hid (true = doneI M c (k + 1)):=⟨hid hOO,hid hg.2.symm⟩
           clear hOO h1 h2 hg
           go_wp2_with (fail)
           go_quiet (fail)
           have hb0 : Below wr2.heap.size wr2 (wr2.drewN nq):=below_drewN _ _ _
           generalize wr2.drewN nq = V0 at hb0 ⊢
           have hv0 : Below wr.heap.size wr V0:=HN.out.below.trans (hb0.mono HN.out.below.size)
           clear p0 p1 d0 d1 d2
           obtain ⟨p0,p1⟩:=HX.out _ hv0
           obtain ⟨d0,d1,d2⟩:=HCELL.out _ (HB.out.trans (hv0.mono HB.out.size))
           have HB0:=hid hb0
           clear hb0 hv0
           go_wp2_with (fail)
           go_quiet (fail)
           have hb1 : Below wr2.heap.size wr2 (V0.drewN nq):=HB0.out.trans (below_drewN _ _ _)
           generalize V0.drewN nq = V1 at hb1 ⊢
           clear p0 p1 d0 d1 d2
           have hv1 : Below wr.heap.size wr V1:=HN.out.below.trans (hb1.mono HN.out.below.size)
           obtain ⟨p0,p1⟩:=HX.out _ hv1
           obtain ⟨va,vc,V2,hrun,hn2⟩:=(HN.out.read hb1).pair HOL.out x (.inl rfl) OO HOO.out.1
           have HN2:=hid hn2
           clear hb1 hv1 hn2
           go_wp2_with (at_builtin; refine wpList_append_run rfl (.tmp 66) (.tmp 71) 64 rfl _ _ rfl rfl _ _ hrun ?_)
           go_roundw
           case rel => exact ⟨k + 1,va,vc,OO,_,HK.out,by go_num,rfl,rfl,HOO2.1,HOO2.2,HN2⟩
           case measure => simp [intOf]; have:=HK.out; omega
         | false =>
           have HOO : Hid (OO = O ++ [(c.key,c.val)] ++ [x] ∧ True):=hid ⟨by rw [hOO,hg.1,if_neg (by rw [← HD.out]; simp),HO.out],trivial⟩
           have HOO2 : Hid (OO = outI M c (k + 1)) ∧ Hid (true = doneI M c (k + 1)):=⟨hid hOO,hid hg.2.symm⟩
           clear hOO h1 h2 hg
           go_wp2_with (fail)
           go_quiet (fail)
           have hb0 : Below wr2.heap.size wr2 (wr2.drewN nq):=below_drewN _ _ _
           generalize wr2.drewN nq = V0 at hb0 ⊢
           have hv0 : Below wr.heap.size wr V0:=HN.out.below.trans (hb0.mono HN.out.below.size)
           clear p0 p1 d0 d1 d2
           obtain ⟨p0,p1⟩:=HX.out _ hv0
           obtain ⟨d0,d1,d2⟩:=HCELL.out _ (HB.out.trans (hv0.mono HB.out.size))
           have HB0:=hid hb0
           clear hb0 hv0
           go_wp2_with (fail)
           go_quiet (fail)
           have hb1 : Below wr2.heap.size wr2 (V0.drewN nq):=HB0.out.trans (below_drewN _ _ _)
           generalize V0.drewN nq = V1 at hb1 ⊢
           clear p0 p1 d0 d1 d2
           have hv1 : Below wr.heap.size wr V1:=HN.out.below.trans (hb1.mono HN.out.below.size)
           obtain ⟨d0,d1,d2⟩:=HCELL.out _ (HB.out.trans (hv1.mono HB.out.size))
           obtain ⟨O1,hO1⟩ : ∃ O1,O1 = O ++ [(c.key,c.val)]:=⟨_,rfl⟩
           obtain ⟨va,vc,V2,hrun,hn2⟩:=(HN.out.read hb1).pair HOL.out (c.key,c.val) (.inr rfl) O1 hO1
           have HN2:=hid hn2
           have HO1 : Hid (OO = O1 ++ [x] ∧ O1.length ≤ 2500000):=hid ⟨by rw [hO1]; exact HOO.out.1,by rw [hO1,List.length_append]; simp only [List.length_singleton]; have:=outI_len M c k; rw [← HO.out] at this; have:=HMLN.out; omega⟩
           obtain ⟨p0,p1⟩:=HX.out _ hn2.below
           obtain ⟨vb,vd,V3,hrun2,hn3⟩:=hn2.pair HO1.out.2 x (.inl rfl) OO HO1.out.1
           have HN3:=hid hn3
           clear hb1 hv1 hn2 hn3 hO1
           go_wp2_with (fail)
           go_region_law ((refine step_append_run (by rfl) (.tmp 52) (.tmp 64) 64 (by rfl) _ _ (by rfl) (by rfl) _ _ hrun ?_))
           all_goals
            go_wp2_with (at_builtin; refine wpList_append_run rfl (.tmp 66) (.tmp 71) 64 rfl _ _ rfl rfl _ _ hrun2 ?_)
            go_roundw
            case rel => exact ⟨k + 1,vb,vd,OO,_,HK.out,by go_num,rfl,rfl,HOO2.1,HOO2.2,HN3⟩
            case measure => simp [intOf]; have:=HK.out; omega
       | false =>
         have s3 : (x.1.toList == c.key.toList) = true:=by rw [slt_ord.eq _ _ h1 h2]; simp
         have HO2 : Hid (O = outI M c (k + 1)):=hid (by rw [(outI_eq HMX.out h1 h2).1,HO.out])
         have HD2 : Hid (d = doneI M c (k + 1)):=hid (by rw [(outI_eq HMX.out h1 h2).2,HD.out])
         clear h1 h2
         go_wp2_with (fail)
         go_quiet (fail)
         go_wp2_with (fail)
         go_roundw
         case rel => exact ⟨k + 1,oa,oc,O,d,HK.out,by go_num,rfl,rfl,HO2,HD2,hid (HN.out.read (below_drewN _ _ _))⟩
         case measure => simp [intOf]; have:=HK.out; omega
    ·have k1 : ¬ (k : Int) < (M.length : Int):=by omega
     obtain rfl : k = M.length:=by omega
     obtain ⟨d0,d1,d2⟩:=HCELL.out _ (HB.out.trans (HN.out.below.mono HB.out.size))
     obtain ⟨M2,hM2⟩ : ∃ M2,M2 = applyC M c:=⟨_,rfl⟩
     have hend:=outI_end (m:=M) (c:=c)
     rw [← hM2] at hend
     have HR2 : Hid (Rise slt M2):=hid (by rw [hM2]; exact rise_applyC HS.out.2.2.1 c)
     have HL2 : Hid (M2.length ≤ m.length + (i + 1)):=hid (by
      have h1:=HS.out.2.2.2
      have h2:=applyC_len M c
      rw [← hM2] at h2
      omega)
     have HE2 : Hid (M2 = applyB m (l.take (i + 1))):=hid (by rw [hM2]; exact HNXM.out)
     clear hM2
     cases d with
     | true =>
       rw [if_pos HD.out.symm,← HO.out] at hend
       subst hend
       go_wp2_with (fail)
       go_roundw
       case rel => exact ⟨i + 1,oa,oc,O,HLT.out,by go_num,rfl,HE2,hid (HB.out.trans (HN.out.below.mono HB.out.size)),hid ⟨HN.out.sl,fun g hg => .inr (Nat.le_trans HB.out.size (HN.out.new g hg)),HR2.out,HL2.out⟩⟩
       case measure => simp [intOf]; have:=HLT.out; omega
     | false =>
       rw [if_neg (by rw [← HD.out]; simp),← HO.out] at hend
       obtain ⟨va,vc,V2,hrun,hn2⟩:=HN.out.pair HOL.out (c.key,c.val) (.inr rfl) M2 hend.symm
       have HN2:=hid hn2
       clear hn2 hend
       go_wp2_with (fail)
       go_region_law ((refine step_append_run (by rfl) (.tmp 75) (.tmp 87) 64 (by rfl) _ _ (by rfl) (by rfl) _ _ hrun ?_))
       all_goals
        go_wp2_with (fail)
        go_roundw
        case rel => exact ⟨i + 1,va,vc,M2,HLT.out,by go_num,rfl,HE2,hid (HB.out.trans (HN2.out.below.mono HB.out.size)),hid ⟨HN2.out.sl,fun g hg => .inr (Nat.le_trans HB.out.size (HN2.out.new g hg)),HR2.out,HL2.out⟩⟩
        case measure => simp [intOf]; have:=HLT.out; omega
  ·have q2 : ¬ (i : Int) < (l.length : Int):=by omega
   obtain rfl : i = l.length:=by omega
   have HE : Hid (M = applyB m l):=hid (by have:=HM.out; rwa [List.take_length] at this)
   go_wp2_with (fail)
   go_ret
   rw [← HE.out]
   exact ⟨_,_,rfl,HS.out.1,HS.out.2.1,HB.out⟩
end
end Go.Proofs.YtagdchgkjjpacaaGreat
