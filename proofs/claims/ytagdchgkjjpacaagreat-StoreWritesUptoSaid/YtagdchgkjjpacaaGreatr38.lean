/- The walks of package store's All and Range: what they hand back. -/
import Derived.Test.YtagdchgkjjpacaaGreatr35
import Derived.Test.YtagdchgkjjpacaaGreatr09
import Derived.BigQuiet
set_option maxRecDepth 100000
open Go.Lib (hid)
set_option linter.unusedSimpArgs false
set_option linter.unusedVariables false
set_option linter.unusedSectionVars false
namespace Go.Proofs.YtagdchgkjjpacaaGreat
open Go.RowKit Go.Shelf
theorem so_All (w : World) (sb : Nat) : Calls Tryz.prog 94 #[.pointer (some ⟨sb,0,none⟩)] w fun e w' =>
 e = .returned (.func (.func 146) #[] #[.pointer (some ⟨w.heap.size,0,none⟩)]) ∧ w' = w.alloc (.cells #[.pointer (some ⟨sb,0,none⟩)] 49):=by
 go_enter Tryz.func94,Tryz.ntmps94
 go_wp2_with (fail)
 go_ret
 exact ⟨rfl,rfl⟩
theorem so_Range (w : World) (sb : Nat) (a b : ByteArray) : Calls Tryz.prog 44 #[.pointer (some ⟨sb,0,none⟩),.string a,.string b] w fun e w' =>
 e = .returned (.func (.func 98) #[] #[.pointer (some ⟨w.heap.size,0,none⟩),.pointer (some ⟨w.heap.size + 1,0,none⟩),.pointer (some ⟨w.heap.size + 1 + 1,0,none⟩)]) ∧ w' = ((w.alloc (.cells #[.pointer (some ⟨sb,0,none⟩)] 49)).alloc (.cells #[.string a] 9)).alloc (.cells #[.string b] 9):=by
 go_enter Tryz.func44,Tryz.ntmps44
 go_wp2_with (fail)
 go_ret
 exact ⟨rfl,rfl⟩
section
variable (l : Nat) (J Jx : List (ByteArray × ByteArray) → World → Prop) {sb : Nat} {c : StC} {m : Prs} {n : Nat}
set_option maxHeartbeats 2000000 in
theorem q_soAll (H : Ss.SeqIn l J Jx m) (bb : Nat) (W : World) (hb : IsBlk W bb #[.pointer (some ⟨sb,0,none⟩)] 49) (hs : StB W sb c m n) (h0 : J [] W) :
 Calls Tryz.prog 146 #[.func (.yield l) #[] #[],.pointer (some ⟨bb,0,none⟩)] W (Ss.SeqPost J Jx m):=by
 have c0 : W.cell? ⟨bb,0,none⟩ = some (.pointer (some ⟨sb,0,none⟩)):=blk_cell hb 0
 have HS:=hid (so_snapshot hs)
 have H0:=hid h0
 have HH:=hid H
 have eg:=enters_of Tryz.func178 (P:=Tryz.prog) (by kernel_rfl) rfl
 clear H hb hs h0
 go_enter Tryz.func146,Tryz.ntmps146
 go_wp2_with (fail)
 refine HS.out.mono ?_
 rintro e W1 ⟨pb,t,ver,rfl,hs1,hi,_,hk1⟩
 have HS1:=hid hs1
 have HK1:=hid hk1
 have HI:=hid hi
 clear hs1 hk1 hi
 go_wp2_with (fail)
 refine (Ss.q_sAll W1 pb).mono ?_
 rintro e W2 ⟨rfl,rfl⟩
 have hA : Below W1.heap.size W1 (W1.alloc (.cells #[.pointer (some ⟨pb,0,none⟩)] 79)):=(Below.refl _ _).alloc (Nat.le_refl _) _
 have HQ:=hid (Ss.q_sall l J Jx (t:=t) (by rw [HI.out]; exact HH.out) W1.heap.size pb _ (blk_new W1 _) (HS1.out.below hA) (HH.out.grow _ _ _ (HH.out.grow _ _ _ H0.out HK1.out) hA))
 clear hA c0
 go_wp2_with (fail)
 refine HQ.out.mono ?_
 rintro e W3 ⟨⟨v,rfl⟩,h3⟩
 rw [HI.out] at h3
 have H3:=hid h3
 clear h3
 go_wp2
 go_end0
 exact ⟨⟨_,rfl⟩,H3.out⟩
end
set_option maxHeartbeats 2000000 in
theorem d_low (w : World) (n : Nat) (hn : n < 9223372036854775808) (s : Nat) (hs : s ≤ 8) (z : Int) (hz : z = (s : Int)) :
 Calls Tryz.prog 50 #[.int .i64 (n : Int),.int .i64 z] w fun e w' => ∃ v',e = .returned v' ∧ FreshAt w w' v' (lowN s n):=by
 have HV:=hid (GrowAt.refl (SlAt.nil (ek:=byteKind) (e:=5) (w:=w)))
 have HZ:=hid (And.intro hz hs)
 have hz8 : z ≤ 8:=by omega
 clear hz hs
 go_enter Tryz.func50,Tryz.ntmps50
 go_wp2_with (fail)
 go_loopw [0,5,6] (fun c b i wr => ∃ (j m : Nat) (zs : List UInt8) (y : Int),y = z - (j : Int) ∧ j ≤ s ∧ i = .int .i64 y ∧ c = .int .i64 (m : Int) ∧ m < 9223372036854775808 ∧ Hid (zs ++ lowN j m = lowN s n) ∧ Hid (GrowAt w (.slice none 0 0) wr b zs)) (fun _ _ i _ => 8 - (intOf i).toNat)
 case atStart => exact ⟨s,n,[],0,by have:=HZ.out.1; omega,Nat.le_refl _,rfl,rfl,hn,hid rfl,HV⟩
 case round =>
  obtain ⟨j,m,zs,y,hy,hj,rfl,rfl,hm,HE,HG⟩:=hrel
  cases j with
  | zero =>
    have hy1 : ¬ y < z:=by omega
    clear hy
    go_wp2_with (fail)
    go_ret
    refine ⟨_,rfl,GrowAt.new ?_⟩
    rw [← HE.out]
    simpa [lowN] using HG.out
  | succ j =>
    obtain ⟨v',w',hrun,hg⟩:=grow_one HG.out (by have h1:=congrArg List.length HE.out; have:=HZ.out.2; rw [List.length_append,lowN_len,lowN_len] at h1; omega) (UInt8.ofNat m) 23
    rw [byteOf] at hrun
    have HG':=hid hg
    have hj1 : y < z:=by omega
    have hj0 : 0 ≤ y:=by have:=HZ.out.1; omega
    have hm1 : (0 : Int) ≤ (m : Int):=by omega
    have HM:=hid (And.intro hm (And.intro hy hj))
    clear hg hm hy hj
    go_wp2_with (at_builtin; refine wpList_append_run rfl (.tmp 12) (.tmp 15) 23 rfl _ _ rfl rfl _ _ hrun ?_)
    go_roundw
    case rel => exact ⟨j,m / 256,zs ++ [UInt8.ofNat m],y + 1,by have:=HM.out; omega,by have:=HM.out; omega,by go_num,by rw [IntWalk.wrap64_in _ (by have:=HM.out; omega)]; rfl,by have:=HM.out; omega,hid (by rw [List.append_assoc]; exact HE.out),HG'⟩
    case measure => simp [intOf]; omega
structure BatsAt (W : World) (v : Value) (ls : List (List Chg)) : Prop where
 ex : ∃ ss : List SlV,RdAt slKind W v ss ∧ ss.length = ls.length ∧ ∀ (j : Nat) (s : SlV) (l : List Chg),ss[j]? = some s → ls[j]? = some l → s.len = l.length ∧ RdAt chgKind W s.val l
 few : ls.length ≤ 1048576
 each : ∀ l ∈ ls,l.length ≤ 1048576 ∧ ∀ c ∈ l,c.key.size ≤ 1048576 ∧ c.val.size ≤ 1048576
theorem BatsAt.shape {W : World} {v : Value} {ls : List (List Chg)} (h : BatsAt W v ls) : ∃ a cap,v = .slice a ls.length cap:=by
 obtain ⟨ss,⟨a,cap,e,_⟩,h2,_⟩:=h.ex
 exact ⟨a,cap,by rw [e,h2]⟩
theorem BatsAt.below {W W' : World} {v : Value} {ls : List (List Chg)} (h : BatsAt W v ls) (hb : Below W.heap.size W W') : BatsAt W' v ls:=by
 obtain ⟨ss,h1,h2,h3⟩:=h.ex
 exact ⟨⟨ss,h1.below hb,h2,fun j s l hs hl => ⟨(h3 j s l hs hl).1,(h3 j s l hs hl).2.below hb⟩⟩,h.few,h.each⟩
theorem BatsAt.at_ {W : World} {v : Value} {ls : List (List Chg)} (h : BatsAt W v ls) {j : Nat} {l : List Chg} (hj : ls[j]? = some l) :
 ∃ g off cap a c,v = .slice (some ⟨g,off,none⟩) ls.length cap ∧ W.cell? ⟨g,off + j,none⟩ = some (.slice a l.length c) ∧ RdAt chgKind W (.slice a l.length c) l:=by
 obtain ⟨ss,⟨a0,cap,rfl,hr⟩,h2,h3⟩:=h.ex
 obtain ⟨s,hs⟩ : ∃ s,ss[j]? = some s:=⟨_,List.getElem?_eq_getElem (by rw [h2]; exact (List.getElem?_eq_some_iff.1 hj).1)⟩
 obtain ⟨g,off,rfl,hc⟩:=hr j s hs
 obtain ⟨e1,hrd⟩:=h3 j s l hs hj
 have:=hc 0 (by decide)
 have e2 : off + j * slKind.size + 0 = off + j:=by show off + j * 1 + 0 = _; omega
 rw [e2] at this
 refine ⟨g,off,cap,s.a,s.cap,by rw [h2],?_,?_⟩
 ·rw [← e1]; simpa [slKind] using this
 ·rw [← e1]; exact hrd
def chgW (c : Chg) : Nat:=min c.key.size 20000 + min c.val.size 80000
def batW (l : List Chg) : Nat:=(l.map chgW).sum
def batsW (ls : List (List Chg)) : Nat:=(ls.map batW).sum
structure FewB (ls : List (List Chg)) : Prop where
 len : ls.length ≤ 40
 each : ∀ l ∈ ls,l.length ≤ 600
 sum : batsW ls ≤ 80000
theorem sum_take {α : Type} (f : α → Nat) (l : List α) {i : Nat} {x : α} (h : l[i]? = some x) : ((l.take (i + 1)).map f).sum = ((l.take i).map f).sum + f x:=by
 rw [List.take_add_one,h]; simp
def BFewPost (ls : List (List Chg)) (w : World) (e : Ending) (w' : World) : Prop:=∃ b : Bool,e = .returned (.bool b) ∧ (b = true → FewB ls) ∧ Below w.heap.size w w'
set_option maxHeartbeats 4000000 in
theorem x_fewB {w : World} {v : Value} {ls : List (List Chg)} (h : BatsAt w v ls) : Calls Tryz.prog 11 #[v] w (BFewPost ls w):=by
 obtain ⟨a0,cap0,rfl⟩:=h.shape
 have HR:=hid h
 have hm : (ls.length : Int) ≤ 1048576:=by have:=h.few; omega
 clear h
 go_enter Tryz.func11,Tryz.ntmps11
 go_wp2
 go_loopw [3,4] (fun n i wr => ∃ (j m : Nat),j ≤ ls.length ∧ j ≤ 41 ∧ i = .int .i64 (j : Int) ∧ n = .int .i64 (m : Int) ∧ m ≤ 160000 ∧ Hid ((∀ l ∈ ls.take j,l.length ≤ 600) ∧ (batsW (ls.take j) ≤ m ∨ m = 160000)) ∧ Hid (Below w.heap.size w wr)) (fun _ i _ => ls.length - (intOf i).toNat)
 case atStart => exact ⟨0,0,Nat.zero_le _,by omega,rfl,rfl,by omega,hid ⟨fun l hl => by simp at hl,.inl (by simp [batsW])⟩,hid (Below.refl _ _)⟩
 case round =>
  obtain ⟨j,m,hj,hj2,rfl,rfl,hm1,HI,HB⟩:=hrel
  have hm0 : (0 : Int) ≤ (m : Int):=by omega
  have hm2 : (m : Int) ≤ 160000:=by omega
  have hj0 : (0 : Int) ≤ (j : Int):=by omega
  by_cases hlt : j < ls.length
  ·have k2 : (j : Int) < (ls.length : Int):=by omega
   by_cases hlt2 : j ≤ 40
   ·obtain ⟨l,hl⟩ : ∃ l,ls[j]? = some l:=⟨_,List.getElem?_eq_getElem hlt⟩
    obtain ⟨g,off,cap,a,c,hv,hc,hrd⟩:=(HR.out.below HB.out).at_ hl
    injection hv with hv _ _
    subst hv
    have HRD:=hid hrd
    have HL:=hid hl
    have HEA:=hid (HR.out.each l (List.mem_of_getElem? hl))
    have z3 : (l.length : Int) ≤ 1048576:=by have:=HEA.out.1; omega
    have k3 : (j : Int) ≤ 40:=by omega
    have HM1:=hid (And.intro hm1 (And.intro hj hlt))
    have HCC : Hid (∀ W,Below wr.heap.size wr W → W.cell? ⟨g,off + j,none⟩ = some (.slice a l.length c)):=hid fun W hW => (hW.cell (p:=⟨g,off + j,none⟩) (World.block_lt_of_cell? wr _ hc)).trans hc
    clear hrd hl hm1 hj hlt hj2 hlt2
    go_wp2
    go_loopw [3,5] (fun n kv wr2 => ∃ (k m2 : Nat),k ≤ l.length ∧ k ≤ 601 ∧ kv = .int .i64 (k : Int) ∧ n = .int .i64 (m2 : Int) ∧ m2 ≤ 160000 ∧ Hid (batsW (ls.take j) + ((l.take k).map chgW).sum ≤ m2 ∨ m2 = 160000) ∧ Hid (Below w.heap.size w wr2) ∧ Hid (Below wr.heap.size wr wr2)) (fun _ kv _ => l.length - (intOf kv).toNat)
    case atStart => exact ⟨0,m,Nat.zero_le _,by omega,rfl,rfl,HM1.out.1,hid (by have:=HI.out.2; simpa using this),HB,hid (Below.refl _ _)⟩
    case round =>
     obtain ⟨k,m2,hk,hk2,rfl,rfl,hm3,HK,HB2,HBW⟩:=hrel
     have hm4 : (0 : Int) ≤ (m2 : Int):=by omega
     have hm5 : (m2 : Int) ≤ 160000:=by omega
     have hk0 : (0 : Int) ≤ (k : Int):=by omega
     have hc2:=HCC.out _ HBW.out
     by_cases hlt3 : k < l.length
     ·have k5 : (k : Int) < (l.length : Int):=by omega
      by_cases hlt4 : k ≤ 600
      ·have k6 : (k : Int) ≤ 600:=by omega
       obtain ⟨x,hx⟩ : ∃ x,l[k]? = some x:=⟨_,List.getElem?_eq_getElem hlt3⟩
       obtain ⟨g2,off2,ea,d0,d1,d2⟩:=chg_cells (HRD.out.below HBW.out) hx
       subst ea
       have hks : (x.key.size : Int) ≤ 1048576:=by have:=(HEA.out.2 x (List.mem_of_getElem? hx)).1; omega
       have hvs : (x.val.size : Int) ≤ 1048576:=by have:=(HEA.out.2 x (List.mem_of_getElem? hx)).2; omega
       have HX:=hid hx
       have HKK:=hid (And.intro hlt3 hlt4)
       have HW:=hid hm3
       have HSUM:=hid (sum_take chgW l hx)
       obtain ⟨p1,hp1⟩ : ∃ y : Nat,y = min x.key.size 20000:=⟨_,rfl⟩
       obtain ⟨p2,hp2⟩ : ∃ y : Nat,y = min x.val.size 80000:=⟨_,rfl⟩
       obtain ⟨p3,hp3⟩ : ∃ y : Nat,y = min (m2 + p1 + p2) 160000:=⟨_,rfl⟩
       have y1 : min (x.key.size : Int) 20000 = (p1 : Int):=by omega
       have y2 : min (x.val.size : Int) 80000 = (p2 : Int):=by omega
       have y3 : min ((m2 : Int) + (p1 : Int) + (p2 : Int)) 160000 = (p3 : Int):=by omega
       have b1 : p1 ≤ 20000:=by rw [hp1]; exact Nat.min_le_right _ _
       have b2 : p2 ≤ 80000:=by rw [hp2]; exact Nat.min_le_right _ _
       have b3 : p3 ≤ 160000:=by rw [hp3]; exact Nat.min_le_right _ _
       have HP:=hid (And.intro hp1 (And.intro hp2 hp3))
       clear hp1 hp2 hp3
       have y4 : IntKind.i64.wrap ((m2 : Int) + (p1 : Int)) = (m2 : Int) + (p1 : Int):=IntWalk.i64_in _ (by omega)
       have y5 : IntKind.i64.wrap ((m2 : Int) + (p1 : Int) + (p2 : Int)) = (m2 : Int) + (p1 : Int) + (p2 : Int):=IntWalk.i64_in _ (by omega)
       have HB3:=hid b3
       clear hk hk2 hm3 hx hlt3 hlt4 hm4 hm5 b1 b2 b3
       go_wp2_with (fail)
       go_quiet (fail)
       have HNX : Hid (batsW (ls.take j) + ((l.take (k + 1)).map chgW).sum ≤ p3 ∨ p3 = 160000):=hid (by
        have h1:=HSUM.out
        have h2 : chgW x = p1 + p2:=by unfold chgW; rw [HP.out.1,HP.out.2.1]
        have h3:=HP.out.2.2
        have h4:=HK.out
        have h5:=HW.out
        clear y1 y2 y3 HP
        rcases h4 with h4 | h4 <;> omega)
       clear y1 y2 y3
       go_wp2_with (fail)
       go_roundw
       case rel => exact ⟨k + 1,p3,HKK.out.1,by have:=HKK.out.2; omega,by go_num,rfl,HB3.out,HNX,hid (HB2.out.trans (below_drewN _ _ _)),hid (HBW.out.trans (below_drewN _ _ _))⟩
       case measure => simp [intOf]; have:=HKK.out.1; omega
      ·have k6 : ¬ (k : Int) ≤ 600:=by omega
       have k7 : (600 : Int) < (l.length : Int):=by omega
       clear hlt3 hlt4
       go_wp2_with (fail)
       go_ret
       exact ⟨_,rfl,fun h => by simp at h,HB2.out⟩
     ·have k5 : ¬ (k : Int) < (l.length : Int):=by omega
      have hke : k = l.length:=by omega
      have HSUM:=hid (sum_take batW ls HL.out)
      by_cases k8 : 600 < l.length
      ·have k7 : (600 : Int) < (l.length : Int):=by omega
       clear hk hk2 hlt3 hke hm3 k8 HSUM
       go_wp2_with (fail)
       go_ret
       exact ⟨_,rfl,fun h => by simp at h,HB2.out⟩
      have k7 : ¬ (600 : Int) < (l.length : Int):=by omega
      have HNX : Hid ((∀ l ∈ ls.take (j + 1),l.length ≤ 600) ∧ (batsW (ls.take (j + 1)) ≤ m2 ∨ m2 = 160000)):=hid (by
       refine ⟨fun y hy => ?_,?_⟩
       ·rw [List.take_add_one,HL.out] at hy
        rcases List.mem_append.1 hy with e | e
        ·exact HI.out.1 y e
        ·rw [show y = l by simpa using e]; omega
       ·have h1:=HK.out
        rw [hke,List.take_length] at h1
        have h2 : batsW (ls.take (j + 1)) = batsW (ls.take j) + batW l:=HSUM.out
        rw [h2]
        exact h1)
      have HJ:=hid hm3
      clear hk hk2 hlt3 hke hm3
      go_wp2_with (fail)
      exact ⟨⟨_,_,_,⟨j + 1,by have:=HM1.out; omega,by omega,rfl,m2,rfl,HJ.out,HNX⟩,rfl,rfl,by go_num⟩,by simp [intOf]; omega⟩
   ·have k3 : ¬ ((j : Int) ≤ 40):=by omega
    have hgt : ¬ ((ls.length : Int) ≤ 40):=by omega
    go_wp2
    go_ret
    exact ⟨_,rfl,fun h => by simp at h,HB.out⟩
  ·have k2 : ¬ (j : Int) < (ls.length : Int):=by omega
   have hje : j = ls.length:=by omega
   have HF : Hid (ls.length ≤ 40 → m ≤ 80000 → FewB ls):=hid fun h1 h2 => by
    have h3:=HI.out
    rw [hje,List.take_length] at h3
    exact ⟨h1,h3.1,by rcases h3.2 with e | e <;> omega⟩
   go_wp2
   all_goals (go_ret; exact ⟨_,rfl,fun h => HF.out (by first | omega | (simp at h; try omega)) (by first | omega | (simp at h; try omega)),HB.out⟩)
end Go.Proofs.YtagdchgkjjpacaaGreat
