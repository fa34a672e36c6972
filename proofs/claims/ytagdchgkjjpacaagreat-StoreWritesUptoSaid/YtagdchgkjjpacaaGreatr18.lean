/- The walk over a tree, at values of another type (printed by mk_tab.py). -/
import Derived.Test.YtagdchgkjjpacaaGreatr17
import Derived.Test.YtagdchgkjjpacaaGreatr12
import Derived.RangeFuncNested
import Derived.RangeFuncBound
import Derived.RangeFuncCalls
import Derived.RangeFuncLeaves
import Derived.RangeFuncWrites
import Derived.Shelf.Abstract
import Derived.OwnWalkIn
import Derived.TacticsInMore
import Derived.LoopNIn
import Derived.LoopIn
import Derived.BigRegionIn
import Derived.BigQuiet
import Derived.Test.YtagdchgkjjpacaaGreatr03
set_option maxRecDepth 100000
open Go.Lib (hid)
namespace Go.Proofs.YtagdchgkjjpacaaGreat
open Go.RowKit Go.RwLone Go.Shelf
theorem no_calleeS (F : Fence) : (∀ f : FuncId,(none : Option FuncId) = some f → F.fn f) = True:=by simp
theorem wdS (n : Nat) : Fence.wide.depth.isSome = true → 1 ≤ n:=fun h => by simp [Fence.wide] at h
theorem wfnS (f : FuncId) : Fence.wide.fn f:=trivial
section
variable {K V : Type}
def walkL (wi : K → Int) : Tr K V → List (K × V)
 | .leaf => []
 | .node k v l r => (if 0 ≤ wi k then walkL wi l else []) ++ ((if wi k = 0 then [(k,v)] else []) ++ (if 0 < wi k then [] else walkL wi r))
theorem walkL_node (wi : K → Int) (k : K) (v : V) (l r : Tr K V) : walkL wi (.node k v l r) = (if 0 ≤ wi k then walkL wi l else []) ++ ((if wi k = 0 then [(k,v)] else []) ++ (if 0 < wi k then [] else walkL wi r)):=rfl
theorem walkL_all (t : Tr K V) : walkL (fun _ => 0) t = t.ino:=by
 induction t with
 | leaf => rfl
 | node k v l r hl hr => simp [walkL,Tr.ino,hl,hr]
end
theorem below_drewN' (W : World) (n : Nat) : Below W.heap.size W (W.drewN n):=⟨rfl,rfl,rfl,Nat.le_refl _,fun _ _ => rfl⟩
attribute [local go_sem] Oper.semAt_some
attribute [local go_sem] no_calleeS
namespace Ss
def KeepW (W W' : World) : Prop:=∀ T : TypeId,T ∈ [188,9,79,150,110] → KeepT T W W'
theorem KeepW.refl (W : World) : KeepW W W:=fun T _ => KeepT.refl T W
theorem KeepW.trans {A B C : World} (h : KeepW A B) (k : KeepW B C) : KeepW A C:=fun T hT => (h T hT).trans (k T hT)
theorem KeepW.node {A B : World} (h : KeepW A B) : KeepT 188 A B:=h 188 (by simp)
theorem KeepW.psnap {A B : World} (h : KeepW A B) : KeepT 79 A B:=h 79 (by simp)
theorem KeepW.snap {A B : World} (h : KeepW A B) : KeepT 150 A B:=h 150 (by simp)
abbrev encKV (x : ByteArray × ByteArray) : Array Value:=#[.string x.1,.string x.2]
def WalkPost (J Jx : List (ByteArray × ByteArray) → World → Prop) (pre xs : List (ByteArray × ByteArray)) (W : World) (e : Ending) (W' : World) : Prop :=
 (e = .returned (.bool true) ∧ J (pre ++ xs) W' ∧ KeepW W W') ∨ (e = .returned (.bool false) ∧ KeepW W W' ∧ ∃ q,q <+: xs ∧ Jx (pre ++ q) W')
section
variable (l : Nat) (J Jx : List (ByteArray × ByteArray) → World → Prop) (gW : Nat) (cap : Array Value) (wi : ByteArray → Int) (G : World → Prop)
set_option maxHeartbeats 4000000 in
theorem s_walk_lo (k : ByteArray) (v : ByteArray) (b : Nat) (pl pr : Option Addr) (h t : Value) (W : World) (hb : IsBlk W b #[.string k,.string v,.pointer pl,.pointer pr,h,t] 188) (hG : G W)
 (eg : ∀ args w,(callFunc gW args).run Tryz.prog w = .ok (.enter gW args) w)
 (HW : Hid (∀ W,G W → Calls Tryz.prog gW (#[.string k] ++ cap) W fun e W' => e = .returned (.int .i64 (-1)) ∧ W = W'))
 (pre xs : List (ByteArray × ByteArray))
 (IHR : Hid (∀ nq,Calls Tryz.prog 150 #[.pointer pr,.func (.func gW) #[] cap,.func (.yield l) #[] #[]] (W.drewN nq) (WalkPost J Jx pre xs W))) :
 Calls Tryz.prog 150 #[.pointer (some ⟨b,0,none⟩),.func (.func gW) #[] cap,.func (.yield l) #[] #[]] W (WalkPost J Jx pre xs W):=by
 have c0 : W.cell? ⟨b,0,none⟩ = some (.string k):=blk_cell hb 0
 have c3 : W.cell? ⟨b,3,none⟩ = some (.pointer pr):=blk_cell hb 3
 have HG:=hid hG
 clear hb hG
 go_enter Tryz.func150,Tryz.ntmps150
 go_wp2_with fail
 refine (HW.out _ HG.out).mono ?_
 rintro e W' ⟨rfl,rfl⟩
 go_wp2_with fail
 go_quiet (fail)
 go_wp2_with fail
 refine (IHR.out _).mono ?_
 rintro e W1 (⟨rfl,h1⟩ | ⟨rfl,h1⟩)
 ·have H1:=hid h1
  clear h1
  go_wp2
  go_ret
  exact .inl ⟨rfl,H1.out⟩
 ·have H1:=hid h1
  clear h1
  go_wp2
  go_ret
  exact .inr ⟨rfl,H1.out⟩
set_option maxHeartbeats 4000000 in
theorem s_walk_hi (k : ByteArray) (v : ByteArray) (b : Nat) (pl pr : Option Addr) (h t : Value) (W : World) (hb : IsBlk W b #[.string k,.string v,.pointer pl,.pointer pr,h,t] 188) (hG : G W)
 (eg : ∀ args w,(callFunc gW args).run Tryz.prog w = .ok (.enter gW args) w)
 (HW : Hid (∀ W,G W → Calls Tryz.prog gW (#[.string k] ++ cap) W fun e W' => e = .returned (.int .i64 1) ∧ W = W'))
 (pre xs : List (ByteArray × ByteArray)) (hj : ∀ (ys : List (ByteArray × ByteArray)) W (n : Nat),J ys W → J ys (W.drewN n))
 (IHL : Hid (Calls Tryz.prog 150 #[.pointer pl,.func (.func gW) #[] cap,.func (.yield l) #[] #[]] W (WalkPost J Jx pre xs W))) :
 Calls Tryz.prog 150 #[.pointer (some ⟨b,0,none⟩),.func (.func gW) #[] cap,.func (.yield l) #[] #[]] W (WalkPost J Jx pre xs W):=by
 have c0 : W.cell? ⟨b,0,none⟩ = some (.string k):=blk_cell hb 0
 have c2 : W.cell? ⟨b,2,none⟩ = some (.pointer pl):=blk_cell hb 2
 have HG:=hid hG
 have HJ:=hid hj
 clear hb hG hj
 go_enter Tryz.func150,Tryz.ntmps150
 go_wp2_with fail
 refine (HW.out _ HG.out).mono ?_
 rintro e W' ⟨rfl,rfl⟩
 go_wp2_with fail
 refine IHL.out.mono ?_
 rintro e W1 (⟨rfl,h1⟩ | ⟨rfl,h1⟩)
 ·have H1:=hid h1
  clear h1
  go_wp2_with fail
  go_quiet (fail)
  go_wp2
  go_ret
  exact .inl ⟨rfl,HJ.out _ _ _ H1.out.1,H1.out.2⟩
 ·have H1:=hid h1
  clear h1
  go_wp2
  go_ret
  exact .inr ⟨rfl,H1.out⟩
set_option maxHeartbeats 4000000 in
theorem s_walk_at (k : ByteArray) (v : ByteArray) (b : Nat) (pl pr : Option Addr) (h t : Value) (W : World) (hb : IsBlk W b #[.string k,.string v,.pointer pl,.pointer pr,h,t] 188) (hG : G W)
 (eg : ∀ args w,(callFunc gW args).run Tryz.prog w = .ok (.enter gW args) w)
 (HW : Hid (∀ W,G W → Calls Tryz.prog gW (#[.string k] ++ cap) W fun e W' => e = .returned (.int .i64 0) ∧ W = W'))
 (pre xs ys : List (ByteArray × ByteArray)) (hj : ∀ (ys : List (ByteArray × ByteArray)) W (n : Nat),J ys W → J ys (W.drewN n))
 (IHL : Hid (Calls Tryz.prog 150 #[.pointer pl,.func (.func gW) #[] cap,.func (.yield l) #[] #[]] W (WalkPost J Jx pre xs W)))
 (HY : Hid (∀ W1,KeepW W W1 → J (pre ++ xs) W1 → YieldAt Fence.wide 0 Tryz.prog l (encKV (k,v)) W1 fun e W' =>
   (e = .returned (.bool true) ∧ J (pre ++ xs ++ [(k,v)]) W' ∧ KeepW W1 W') ∨ (e = .returned (.bool false) ∧ Jx (pre ++ xs ++ [(k,v)]) W' ∧ KeepW W1 W')))
 (IHR : Hid (∀ W1,KeepW W W1 → J (pre ++ xs ++ [(k,v)]) W1 → Calls Tryz.prog 150 #[.pointer pr,.func (.func gW) #[] cap,.func (.yield l) #[] #[]] W1 (WalkPost J Jx (pre ++ xs ++ [(k,v)]) ys W1))) :
 Calls Tryz.prog 150 #[.pointer (some ⟨b,0,none⟩),.func (.func gW) #[] cap,.func (.yield l) #[] #[]] W (WalkPost J Jx pre (xs ++ (k,v) :: ys) W):=by
 have c0 : W.cell? ⟨b,0,none⟩ = some (.string k):=blk_cell hb 0
 have c2 : W.cell? ⟨b,2,none⟩ = some (.pointer pl):=blk_cell hb 2
 have HG:=hid hG
 have HJ:=hid hj
 have HB:=hid hb
 clear hb hG hj
 go_enter Tryz.func150,Tryz.ntmps150
 go_wp2_with fail
 refine (HW.out _ HG.out).mono ?_
 rintro e W' ⟨rfl,rfl⟩
 go_wp2_with fail
 refine IHL.out.mono ?_
 rintro e W1 (⟨rfl,h1⟩ | ⟨rfl,h1⟩)
 ·have hb1:=h1.2.node b _ HB.out
  have c01 : W1.cell? ⟨b,0,none⟩ = some (.string k):=blk_cell hb1 0
  have c11 : W1.cell? ⟨b,1,none⟩ = some (.string v):=blk_cell hb1 1
  have H1:=hid h1
  clear h1 hb1 c0 c2
  go_wp2_with fail
  have hK0 : KeepW W (W1.drewN 1):=fun T hT => H1.out.2 T hT
  obtain ⟨fn,tmps,assign,body,hy,hR⟩:=HY.out (W1.drewN 1) hK0 (HJ.out _ _ _ H1.out.1)
  refine (wpIn_wide (n:=1)).1 ?_
  refine wpIn_region_still_tail (open_wide _) 12 (by kernel_rfl) (by kernel_rfl) ?_
  simp only [List.take_succ_cons,List.take_zero,List.drop_succ_cons,List.drop_zero]
  repeat still_step
  refine wpStill_nil ?_
  have hy2 : (Instr.yield l #[.string k,.string v]).run Tryz.prog W1.drew = .ok (.round l fn tmps assign body) W1.drew:=hy
  have HR:=hid hR
  clear hR hy
  gi_wp2_with (first | (with_reducible refine ⟨fun f _ => wfnS f,?_⟩) | (with_reducible refine ⟨wfnS _,wdS _,?_⟩) | (with_reducible refine ⟨wdS _,?_⟩) | (with_reducible refine ⟨wfnS _,?_⟩))
  refine HR.out.mono ?_
  rintro e W2 (⟨rfl,hJ2,hk2⟩ | ⟨rfl,hx2,hk2⟩)
  ·have hK2 : KeepW W W2:=hK0.trans hk2
   have c32 : W2.cell? ⟨b,3,none⟩ = some (.pointer pr):=blk_cell (hK2.node b _ HB.out) 3
   have HP:=hid (IHR.out W2 hK2 hJ2)
   have HK2:=hid hK2
   clear hK0 hk2 hJ2 hK2 c01 c11
   gi_wp2_with (first | (with_reducible refine ⟨fun f _ => wfnS f,?_⟩) | (with_reducible refine ⟨wfnS _,wdS _,?_⟩) | (with_reducible refine ⟨wdS _,?_⟩) | (with_reducible refine ⟨wfnS _,?_⟩))
   go_wp2_with fail
   refine HP.out.mono ?_
   rintro e W3 (⟨rfl,h3⟩ | ⟨rfl,h3⟩)
   ·have H3:=hid h3
    clear h3
    go_wp2
    go_ret
    exact .inl ⟨rfl,by have:=H3.out.1; simpa [List.append_assoc] using this,HK2.out.trans H3.out.2⟩
   ·have H3:=hid h3
    clear h3
    go_wp2
    go_ret
    obtain ⟨hk3,q,hq,hx⟩:=H3.out
    obtain ⟨r,hr⟩:=hq
    exact .inr ⟨rfl,HK2.out.trans hk3,xs ++ (k,v) :: q,⟨r,by simp [← hr]⟩,by simpa [List.append_assoc] using hx⟩
  ·have HX:=hid hx2
   have HK2:=hid (hK0.trans hk2)
   clear hx2 hK0 hk2
   gi_wp2_with (first | (with_reducible refine ⟨fun f _ => wfnS f,?_⟩) | (with_reducible refine ⟨wfnS _,wdS _,?_⟩) | (with_reducible refine ⟨wdS _,?_⟩) | (with_reducible refine ⟨wfnS _,?_⟩))
   go_wp2
   go_ret
   exact .inr ⟨rfl,HK2.out,xs ++ [(k,v)],⟨ys,by simp⟩,by simpa [List.append_assoc] using HX.out⟩
 ·have H1:=hid h1
  clear h1
  go_wp2
  go_ret
  obtain ⟨hk1,q,hq,hx⟩:=H1.out
  exact .inr ⟨rfl,hk1,q,hq.trans (List.prefix_append _ _),hx⟩
theorem keepW_drewN (W : World) (n : Nat) : KeepW W (W.drewN n):=fun _ _ _ _ h => h
theorem s_walk (hj : ∀ (ys : List (ByteArray × ByteArray)) W (n : Nat),J ys W → J ys (W.drewN n)) (HG : ∀ W W',KeepW W W' → G W → G W') (hwi : ∀ k,wi k = -1 ∨ wi k = 0 ∨ wi k = 1)
 (eg : ∀ args w,(callFunc gW args).run Tryz.prog w = .ok (.enter gW args) w)
 (HW : ∀ k W,G W → Calls Tryz.prog gW (#[.string k] ++ cap) W fun e W' => e = .returned (.int .i64 (wi k)) ∧ W = W')
 (all : List (ByteArray × ByteArray)) (hY : ∀ pre x W,J pre W → pre ++ [x] <+: all → YieldAt Fence.wide 0 Tryz.prog l (encKV x) W fun e W' =>
   (e = .returned (.bool true) ∧ J (pre ++ [x]) W' ∧ KeepW W W') ∨ (e = .returned (.bool false) ∧ Jx (pre ++ [x]) W' ∧ KeepW W W')) (T : Tr ByteArray ByteArray) :
 ∀ (p : Option Addr) (pre : List (ByteArray × ByteArray)) (W : World),STree W T p → G W → J pre W → pre ++ walkL wi T <+: all →
   Calls Tryz.prog 150 #[.pointer p,.func (.func gW) #[] cap,.func (.yield l) #[] #[]] W (WalkPost J Jx pre (walkL wi T) W):=by
 induction T with
 | leaf =>
   intro p pre W ht hG hJ _
   obtain rfl : p = none:=ht
   have HJ:=hid hJ
   clear hY HW HG hj hJ hG
   go_enter Tryz.func150,Tryz.ntmps150
   go_wp2_with fail
   go_ret
   exact .inl ⟨rfl,by simpa [walkL] using HJ.out,KeepW.refl _⟩
 | node k v tl tr ihl ihr =>
   intro p pre W ht hG hJ hN
   obtain ⟨b,pl,pr,rfl,hb,hl,hr⟩:=ht
   rcases hwi k with hk | hk | hk
   ·have e1 : walkL wi (.node k v tl tr) = walkL wi tr:=by simp [walkL,hk]
    rw [e1] at hN ⊢
    refine s_walk_lo l J Jx gW cap G k v b pl pr _ _ W hb hG eg (hid (fun W hG => by rw [← hk]; exact HW k W hG)) pre _ (hid (fun nq => ?_))
    have h:=ihr pr pre (W.drewN nq) (hr.keepT (keepW_drewN W nq).node) (HG _ _ (keepW_drewN W nq) hG) (hj _ _ _ hJ) hN
    exact h
   ·have e1 : walkL wi (.node k v tl tr) = walkL wi tl ++ (k,v) :: walkL wi tr:=by simp [walkL,hk]
    rw [e1] at hN ⊢
    have hN1 : pre ++ walkL wi tl ++ [(k,v)] ++ walkL wi tr <+: all:=by simpa [List.append_assoc] using hN
    have hN2 : pre ++ walkL wi tl ++ [(k,v)] <+: all:=(List.prefix_append _ _).trans hN1
    have hN3 : pre ++ walkL wi tl <+: all:=(List.prefix_append _ _).trans hN2
    refine s_walk_at l J Jx gW cap G k v b pl pr _ _ W hb hG eg (hid (fun W hG => by rw [← hk]; exact HW k W hG)) pre _ _ hj (hid (ihl pl pre W hl hG hJ hN3))
      (hid (fun W1 _ hJ1 => hY _ (k,v) W1 hJ1 hN2))
      (hid (fun W1 hk1 hJ1 => ihr pr _ W1 (hr.keepT hk1.node) (HG _ _ hk1 hG) hJ1 hN1))
   ·have e1 : walkL wi (.node k v tl tr) = walkL wi tl:=by simp [walkL,hk]
    rw [e1] at hN ⊢
    exact s_walk_hi l J Jx gW cap G k v b pl pr _ _ W hb hG eg (hid (fun W hG => by rw [← hk]; exact HW k W hG)) pre _ hj (hid (ihl pl pre W hl hG hJ hN))
end
theorem s_all (k : ByteArray) (W : World) : Calls Tryz.prog 179 (#[.string k] ++ #[]) W fun e W' => e = .returned (.int .i64 0) ∧ W = W':=by
 show Calls Tryz.prog 179 #[.string k] W _
 go_enter Tryz.func179,Tryz.ntmps179
 go_wp2
 go_ret
 exact ⟨rfl,rfl⟩
theorem WalkPost.seq {J Jx : List (ByteArray × ByteArray) → World → Prop} {xs : List (ByteArray × ByteArray)} {W : World} {e : Ending} {W' : World} (h : WalkPost J Jx [] xs W e W') :
 (∃ v,e = .returned v) ∧ KeepW W W' ∧ (J xs W' ∨ ∃ q,q <+: xs ∧ Jx q W'):=by
 rcases h with ⟨rfl,h,hk⟩ | ⟨rfl,hk,q,hq,hx⟩
 ·exact ⟨⟨_,rfl⟩,hk,.inl (by simpa using h)⟩
 ·exact ⟨⟨_,rfl⟩,hk,.inr ⟨q,hq,by simpa using hx⟩⟩
def SeqPost (J Jx : List (ByteArray × ByteArray) → World → Prop) (xs : List (ByteArray × ByteArray)) (e : Ending) (W' : World) : Prop :=
 (∃ v,e = .returned v) ∧ (J xs W' ∨ ∃ q,q <+: xs ∧ Jx q W')
section
variable (l : Nat) (J Jx : List (ByteArray × ByteArray) → World → Prop)
structure SeqIn (xs : List (ByteArray × ByteArray)) : Prop where
 grow : ∀ ys W W',J ys W → Below W.heap.size W W' → J ys W'
 round : ∀ pre x W,J pre W → pre ++ [x] <+: xs → YieldAt Fence.wide 0 Tryz.prog l (encKV x) W fun e W' =>
  (e = .returned (.bool true) ∧ J (pre ++ [x]) W' ∧ KeepW W W') ∨ (e = .returned (.bool false) ∧ Jx (pre ++ [x]) W' ∧ KeepW W W')
theorem eg_all : ∀ args w,(callFunc 179 args).run Tryz.prog w = .ok (.enter 179 args) w:=enters_of Tryz.func179 (by kernel_rfl) rfl
theorem q_walk_all {t : Tr ByteArray ByteArray} (H : SeqIn l J Jx t.ino) (p : Option Addr) (W : World) (ht : STree W t p) (h0 : J [] W) :
 Calls Tryz.prog 150 #[.pointer p,.func (.func 179) #[] #[],.func (.yield l) #[] #[]] W (WalkPost J Jx [] t.ino W):=by
 have:=s_walk l J Jx 179 #[] (fun _ => 0) (fun _ => True) (fun ys W n h => H.grow ys W _ h (below_drewN' W n)) (fun _ _ _ h => h) (fun _ => .inr (.inl rfl)) eg_all
   (fun k W _ => s_all k W) _ H.round t p [] W ht trivial h0 (by rw [walkL_all]; simp)
 rwa [walkL_all] at this
set_option maxHeartbeats 2000000 in
theorem q_sall {t : Tr ByteArray ByteArray} {ver : Int} (H : SeqIn l J Jx t.ino) (bs sb : Nat) (W : World) (hb : IsBlk W bs #[.pointer (some ⟨sb,0,none⟩)] 79) (hs : SSnap W sb t ver) (h0 : J [] W) :
 Calls Tryz.prog 178 #[.func (.yield l) #[] #[],.pointer (some ⟨bs,0,none⟩)] W (SeqPost J Jx t.ino):=by
 obtain ⟨root,hsb,ht⟩:=hs.ex
 have c0 : W.cell? ⟨bs,0,none⟩ = some (.pointer (some ⟨sb,0,none⟩)):=blk_cell hb 0
 have c1 : W.cell? ⟨sb,0,none⟩ = some (.pointer root):=blk_cell hsb 0
 have HW:=hid (q_walk_all l J Jx H root W ht h0)
 clear H hb hs hsb ht h0
 go_enter Tryz.func178,Tryz.ntmps178
 go_wp2_with fail
 refine HW.out.mono ?_
 intro e W1 h1
 obtain ⟨⟨v,rfl⟩,_,h2⟩:=h1.seq
 have H2:=hid h2
 clear h1 h2
 go_wp2
 go_end0
 exact ⟨⟨_,rfl⟩,H2.out⟩
end
theorem q_sAll (w : World) (sb : Nat) : Calls Tryz.prog 147 #[.pointer (some ⟨sb,0,none⟩)] w fun e w' =>
 e = .returned (.func (.func 178) #[] #[.pointer (some ⟨w.heap.size,0,none⟩)]) ∧ w' = w.alloc (.cells #[.pointer (some ⟨sb,0,none⟩)] 79):=by
 go_enter Tryz.func147,Tryz.ntmps147
 go_wp2
 go_ret
 exact ⟨rfl,rfl⟩
theorem q_tAll (w : World) (tb : Nat) : Calls Tryz.prog 135 #[.pointer (some ⟨tb,0,none⟩)] w fun e w' =>
 e = .returned (.func (.func 166) #[] #[.pointer (some ⟨w.heap.size,0,none⟩)]) ∧ w' = w.alloc (.cells #[.pointer (some ⟨tb,0,none⟩)] 110):=by
 go_enter Tryz.func135,Tryz.ntmps135
 go_wp2
 go_ret
 exact ⟨rfl,rfl⟩
section
variable (l : Nat) (J Jx : List (ByteArray × ByteArray) → World → Prop)
set_option maxHeartbeats 2000000 in
theorem q_tall {t : Tr ByteArray ByteArray} {ver : Int} (H : SeqIn l J Jx t.ino) (bb tb : Nat) (W : World) (hb : IsBlk W bb #[.pointer (some ⟨tb,0,none⟩)] 110) (hs : STab W tb t ver) (h0 : J [] W) :
 Calls Tryz.prog 166 #[.func (.yield l) #[] #[],.pointer (some ⟨bb,0,none⟩)] W (SeqPost J Jx t.ino):=by
 have c0 : W.cell? ⟨bb,0,none⟩ = some (.pointer (some ⟨tb,0,none⟩)):=blk_cell hb 0
 have HS:=hid (t_snapshot W tb t ver hs)
 have H0:=hid h0
 have HH:=hid H
 have eg:=enters_of Tryz.func178 (P:=Tryz.prog) (by kernel_rfl) rfl
 clear H hb hs h0
 go_enter Tryz.func166,Tryz.ntmps166
 go_wp2_with fail
 refine HS.out.mono ?_
 rintro e W1 ⟨sb,rfl,hs1,_,hk1⟩
 have HS1:=hid hs1
 have HK1:=hid hk1
 clear hs1 hk1
 go_wp2_with fail
 refine (q_sAll W1 sb).mono ?_
 rintro e W2 ⟨rfl,rfl⟩
 have hA : Below W1.heap.size W1 (W1.alloc (.cells #[.pointer (some ⟨sb,0,none⟩)] 79)):=(Below.refl _ _).alloc (Nat.le_refl _) _
 have HQ:=hid (q_sall l J Jx HH.out W1.heap.size sb _ (blk_new W1 _) (HS1.out.below hA) (HH.out.grow _ _ _ (HH.out.grow _ _ _ H0.out HK1.out) hA))
 clear hA c0
 go_wp2_with fail
 refine HQ.out.mono ?_
 rintro e W3 ⟨⟨v,rfl⟩,h3⟩
 have H3:=hid h3
 clear h3
 go_wp2
 go_end0
 exact ⟨⟨_,rfl⟩,H3.out⟩
end
end Ss
end Go.Proofs.YtagdchgkjjpacaaGreat
set_option linter.unusedSimpArgs false
set_option linter.unusedVariables false
namespace Go.Proofs.YtagdchgkjjpacaaGreat
abbrev Prs:=List (ByteArray × ByteArray)
def applyC (m : Prs) (c : Chg) : Prs:=if c.drop then dropL slt m c.key else putL slt m c.key c.val
def applyB (m : Prs) (l : List Chg) : Prs:=l.foldl applyC m
theorem applyC_norm (m : Prs) (c : Chg) : applyC m c.norm = applyC m c:=by
 obtain ⟨k,v,d⟩:=c
 cases d <;> rfl
theorem applyB_norm : ∀ (l : List Chg) (m : Prs),applyB m (l.map Chg.norm) = applyB m l
 | [],_ => rfl
 | c :: l,m => by
   show applyB (applyC m c.norm) (l.map Chg.norm) = applyB (applyC m c) l
   rw [applyC_norm,applyB_norm l]
theorem applyB_append (m : Prs) (a b : List Chg) : applyB m (a ++ b) = applyB (applyB m a) b:=by unfold applyB; rw [List.foldl_append]
theorem rise_applyC {m : Prs} (h : Rise slt m) (c : Chg) : Rise slt (applyC m c):=by
 unfold applyC
 split
 ·exact rise_dropL h _
 ·exact rise_putL slt_ord h _ _
abbrev wrC (p : ByteArray × ByteArray) : Chg:=⟨p.1,p.2,false⟩
def grpB : Nat → List Chg → List Chg → List (List Chg)
 | _,cur,[] => if cur = [] then [] else [cur]
 | room,cur,x :: r => if cur.length = 500 ∨ room < (chgB x).length then cur :: grpB (1048566 - (chgB x).length) [x] r else grpB (room - (chgB x).length) (cur ++ [x]) r
def imgRecs (seq : Nat) (m : Prs) : List (List UInt8):=lowN 8 seq :: ((grpB 1048566 [] (m.map wrC)).map (batB (max seq 1)) ++ [[]])
def imgB (seq : Nat) (m : Prs) : List UInt8:=(imgRecs seq m).flatMap frameOf
def PrsOk (m : Prs) : Prop:=Rise slt m ∧ ∀ p ∈ m,1 ≤ p.1.size ∧ p.1.size ≤ 200 ∧ p.2.size ≤ 65536
theorem PrsOk.nil : PrsOk []:=⟨List.Pairwise.nil,fun p hp => by simp at hp⟩
theorem PrsOk.applyC {m : Prs} (h : PrsOk m) {c : Chg} (hc : 1 ≤ c.key.size ∧ c.key.size ≤ 200 ∧ (c.drop = false → c.val.size ≤ 65536)) : PrsOk (applyC m c):=by
 refine ⟨rise_applyC h.1 c,fun p hp => ?_⟩
 unfold YtagdchgkjjpacaaGreat.applyC at hp
 cases hd : c.drop with
 | true => rw [hd,if_pos rfl] at hp; exact h.2 p (List.mem_filter.1 hp).1
 | false =>
   rw [hd,if_neg (by decide)] at hp
   unfold putL at hp
   rcases List.mem_append.1 hp with h1 | h1
   ·exact h.2 p (List.mem_filter.1 h1).1
   ·rcases List.mem_cons.1 h1 with rfl | h2
    ·exact ⟨hc.1,hc.2.1,hc.2.2 hd⟩
    ·exact h.2 p (List.mem_filter.1 h2).1
theorem PrsOk.applyB : ∀ (l : List Chg) {m : Prs},PrsOk m → (∀ c ∈ l,1 ≤ c.key.size ∧ c.key.size ≤ 200 ∧ (c.drop = false → c.val.size ≤ 65536)) → PrsOk (YtagdchgkjjpacaaGreat.applyB m l)
 | [],_,h,_ => h
 | c :: l,m,h,hc => PrsOk.applyB l (m:=YtagdchgkjjpacaaGreat.applyC m c) (h.applyC (hc c (by simp))) (fun c hc' => hc c (by simp [hc']))
theorem grp_flat : ∀ (l : List Chg) (room : Nat) (cur : List Chg),(grpB room cur l).flatten = cur ++ l
 | [],room,cur => by
   unfold grpB
   by_cases h : cur = []
   ·rw [if_pos h,h]; rfl
   ·rw [if_neg h]; simp
 | x :: l,room,cur => by
   unfold grpB
   split
   ·rw [List.flatten_cons,grp_flat l]; simp
   ·rw [grp_flat l]; simp
theorem grp_small : ∀ (l : List Chg) (room : Nat) (cur : List Chg),cur.length ≤ 500 → (cur.flatMap chgB).length + room ≤ 1048566 → (∀ x ∈ l,(chgB x).length ≤ 70000) →
 (cur = [] → room = 1048566) → ∀ g ∈ grpB room cur l,g ≠ [] ∧ g.length ≤ 500 ∧ (g.flatMap chgB).length ≤ 1048566
 | [],room,cur,h1,h2,_,_,g,hg => by
   unfold grpB at hg
   by_cases h : cur = []
   ·rw [if_pos h] at hg; simp at hg
   ·rw [if_neg h] at hg
    obtain rfl:=List.mem_singleton.1 hg
    exact ⟨h,h1,by omega⟩
 | x :: l,room,cur,h1,h2,h3,h4,g,hg => by
   have hx:=h3 x (by simp)
   unfold grpB at hg
   by_cases hc : cur.length = 500 ∨ room < (chgB x).length
   ·rw [if_pos hc] at hg
    rcases List.mem_cons.1 hg with rfl | hg
    ·refine ⟨fun e => ?_,h1,by omega⟩
     have e1:=h4 e
     rw [e] at hc
     simp at hc
     omega
    ·exact grp_small l _ [x] (by simp) (by simp; omega) (fun y hy => h3 y (by simp [hy])) (fun e => by cases e) g hg
   ·rw [if_neg hc] at hg
    exact grp_small l _ (cur ++ [x]) (by simp; omega) (by rw [List.flatMap_append,List.length_append,List.flatMap_singleton]; omega) (fun y hy => h3 y (by simp [hy])) (fun e => by simp at e) g hg
theorem putL_end {a : Prs} {k v : ByteArray} (h : ∀ x ∈ a,slt x.1 k = true) : putL slt a k v = a ++ [(k,v)]:=by
 unfold putL
 rw [filt_all h,filt_none (fun x hx => slt_ord.asymm (h x hx))]
theorem apply_rise : ∀ (m a : Prs),Rise slt (a ++ m) → applyB a (m.map wrC) = a ++ m
 | [],a,_ => by simp [applyB]
 | p :: m,a,h => by
   show applyB (applyC a (wrC p)) (m.map wrC) = _
   have h1 : applyC a (wrC p) = a ++ [p]:=by
    unfold applyC
    rw [if_neg (show ¬ (false = true) by decide)]
    exact putL_end fun x hx => (List.pairwise_append.1 h).2.2 x hx p (by simp)
   rw [h1,apply_rise m (a ++ [p]) (by simpa using h)]
   simp
theorem chk_rise : ∀ (m : Prs) (seen : List ByteArray),(∀ p ∈ m,1 ≤ p.1.size ∧ p.1.size ≤ 200 ∧ p.2.size ≤ 65536) → Rise slt m → (∀ k ∈ seen,∀ p ∈ m,slt k p.1 = true) → chkFrom seen (m.map wrC) = 0
 | [],_,_,_,_ => rfl
 | p :: m,seen,h1,h2,h3 => by
   have hp:=h1 p (by simp)
   simp only [List.map_cons,chkFrom]
   rw [if_neg (by omega),if_neg (by rintro ⟨-,h⟩; have : 65536 < p.2.size:=h; omega),if_neg]
   ·refine chk_rise m _ (fun q hq => h1 q (by simp [hq])) (List.pairwise_cons.1 h2).2 fun k hk q hq => ?_
    rcases List.mem_cons.1 hk with rfl | hk
    ·exact (List.pairwise_cons.1 h2).1 q hq
    ·exact h3 k hk q (by simp [hq])
   ·intro e
    obtain ⟨k,hk,hd⟩:=List.any_eq_true.1 e
    have h4:=h3 k hk p (by simp)
    have h5 : k = p.1:=by
     have:=congrArg st (of_decide_eq_true hd)
     rwa [st_tx,st_tx] at this
    rw [h5,slt_ord.irr] at h4
    cases h4
theorem rise_sub {m a b c : Prs} (h : Rise slt m) (e : m = a ++ (b ++ c)) : Rise slt b:=by
 rw [e] at h
 exact (List.pairwise_append.1 (List.pairwise_append.1 h).2.1).1
theorem flat_mem {α : Type} {gs : List (List α)} {g : List α} (h : g ∈ gs) : ∃ a c,gs.flatten = a ++ (g ++ c):=by
 obtain ⟨s,t,rfl⟩:=List.append_of_mem h
 exact ⟨s.flatten,t.flatten,by simp⟩
theorem chgB_wr {p : ByteArray × ByteArray} (h : p.1.size ≤ 200 ∧ p.2.size ≤ 65536) : (chgB (wrC p)).length ≤ 70000:=by
 rw [chgB_len]
 simp
 omega
theorem grp_ok {m : Prs} (h : PrsOk m) {g : List Chg} (hg : g ∈ grpB 1048566 [] (m.map wrC)) : chkB g = 0 ∧ (g.flatMap chgB).length ≤ 1048566 ∧ g ≠ [] ∧ g.map Chg.norm = g:=by
 have h1:=grp_small (m.map wrC) 1048566 [] (by simp) (by simp) (fun x hx => by
  obtain ⟨p,hp,rfl⟩:=List.mem_map.1 hx
  have:=h.2 p hp
  exact chgB_wr ⟨this.2.1,this.2.2⟩) (fun _ => rfl) g hg
 obtain ⟨a,c,e⟩:=flat_mem hg
 rw [grp_flat,List.nil_append] at e
 obtain ⟨m1,m2,em,e1,e2⟩:=List.map_eq_append_iff.1 e
 obtain ⟨m3,m4,em2,e3,e4⟩:=List.map_eq_append_iff.1 e2
 subst e3
 have hr : Rise slt m3:=rise_sub h.1 (by rw [em,em2])
 refine ⟨?_,h1.2.2,h1.1,?_⟩
 ·unfold chkB
  rw [if_neg (by have:=h1.2.1; omega)]
  exact chk_rise m3 [] (fun p hp => h.2 p (by rw [em,em2]; simp [hp])) hr (fun k hk => by simp at hk)
 ·rw [List.map_map]
  exact List.map_congr_left fun p _ => rfl
def doAll : List (List UInt8) → Prs → Option Prs
 | [],m => some m
 | p :: r,m => match decB p with
   | none => none
   | some (_,l) => doAll r (applyB m l)
theorem doAll_bats {s : Nat} (h1 : 1 ≤ s) (h2 : s < 9223372036854775808) : ∀ (gs : List (List Chg)) (m : Prs),(∀ g ∈ gs,chkB g = 0 ∧ (g.flatMap chgB).length ≤ 1048566 ∧ g.map Chg.norm = g) → doAll (gs.map (batB s)) m = some (applyB m gs.flatten)
 | [],m,_ => rfl
 | g :: gs,m,h => by
   have hg:=h g (by simp)
   simp only [List.map_cons,doAll]
   rw [decB_batB h1 h2 hg.1 (by rw [batB_len]; omega),hg.2.2]
   simp only
   rw [doAll_bats h1 h2 gs _ (fun g' hg' => h g' (by simp [hg'])),List.flatten_cons,applyB_append]
def loadB (b : List UInt8) : Option (Nat × Prs) :=
 if endOf (scanOf b) ≠ b.length ∨ (scanOf b).length < 2 then none else match scanOf b with
  | [] => none
  | r :: rs => if r.length ≠ 8 ∨ 9223372036854775808 ≤ numOf r then none else match doAll rs.dropLast [] with
    | none => none
    | some m => if b = imgB (numOf r) m then some (numOf r,m) else none
theorem img_recs_small {s : Nat} {m : Prs} (h : PrsOk m) : ∀ p ∈ imgRecs s m,p.length ≤ 1048576:=by
 intro p hp
 unfold imgRecs at hp
 rcases List.mem_cons.1 hp with rfl | hp
 ·rw [lowN_len]; omega
 ·rcases List.mem_append.1 hp with hp | hp
  ·obtain ⟨g,hg,rfl⟩:=List.mem_map.1 hp
   have:=(grp_ok h hg).2.1
   rw [batB_len]; omega
  ·obtain rfl:=List.mem_singleton.1 hp
   simp
theorem loadB_img {s : Nat} {m : Prs} (h : PrsOk m) (h2 : s < 9223372036854775808) : loadB (imgB s m) = some (s,m):=by
 have hs : scanOf (imgB s m) = imgRecs s m:=by
  have:=scan_frames (imgRecs s m) [] (img_recs_small h)
  rw [List.append_nil] at this
  unfold imgB
  rw [this,scanOf_none (b:=[]) (by rfl),List.append_nil]
 have he : endOf (imgRecs s m) = (imgB s m).length:=(endOf_frames _).symm
 have hn : numOf (lowN 8 s) = s:=numOf_lowN 8 _ (by omega)
 unfold loadB
 rw [hs,he]
 unfold imgRecs
 rw [if_neg (by simp)]
 simp only
 rw [if_neg (by rw [lowN_len,hn]; omega),List.dropLast_concat,doAll_bats (by omega) (by omega) _ _ (fun g hg => by have:=grp_ok h hg; exact ⟨this.1,this.2.1,this.2.2.2⟩),grp_flat,List.nil_append,apply_rise m [] h.1,List.nil_append]
 simp only
 rw [hn,if_pos rfl]
end Go.Proofs.YtagdchgkjjpacaaGreat
