/- The walk over a tree, at values of five cells (began as mk_tab.py's print). -/
import Derived.Test.YtkbdofbjfcajbaaGreatE2
import Derived.Test.YtkbdofbjfcajbaaGreatForSeq
import Derived.RangeFuncNested
import Derived.RangeFuncBound
import Derived.RangeFuncCalls
import Derived.RangeFuncLeaves
import Derived.RangeFuncWrites
import Derived.Shelf.Abstract
import Derived.OwnWalkIn
import Derived.TacticsInMore
import Derived.LoopNIn
import Derived.LoopIn
import Derived.BigRegionIn
import Derived.Test.YtkbdofbjfcajbaaGreatStillIn
namespace Go.Proofs.YtkbdofbjfcajbaaGreat
open Go.RowKit Go.RwLone Go.Shelf
theorem room_of_none {F : Fence} (hd : F.depth = none) (k : Nat) : F.room k := fun d h => by rw [hd] at h; cases h
/-- Where no depth is asked the figures are all one. -/
theorem roundIn_any {F : Fence} (hd : F.depth = none) {m m' : Nat} {P : Program} {l : Nat} {f : FuncId} {tmps : Array Value} {assign body : Code} {w : World} {R : Ending → World → Prop}
    (h : RoundIn F m P l f tmps assign body w R) : RoundIn F m' P l f tmps assign body w R := ⟨h.1, fun c cs _ => h.2 c cs (room_of_none hd _)⟩
theorem yieldAt_any {F : Fence} (hd : F.depth = none) {m : Nat} (m' : Nat) {P : Program} {l : Nat} {args : Array Value} {W : World} {R : Ending → World → Prop} (h : YieldAt F m P l args W R) : YieldAt F m' P l args W R := by
  obtain ⟨fn, tmps, assign, body, hy, hR⟩ := h
  exact ⟨fn, tmps, assign, body, hy, roundIn_any hd hR⟩
theorem no_callee (F : Fence) : (∀ f : FuncId, (none : Option FuncId) = some f → F.fn f) = True := by simp
theorem wd (n : Nat) : Fence.wide.depth.isSome = true → 1 ≤ n := fun h => by simp [Fence.wide] at h
theorem wfn (f : FuncId) : Fence.wide.fn f := trivial
section
variable {K V : Type}
/-- What a walk over a tree comes to, by what 'within' says of keys. -/
def walkL (wi : K → Int) : Tr K V → List (K × V)
  | .leaf => []
  | .node k v l r => (if 0 ≤ wi k then walkL wi l else []) ++ ((if wi k = 0 then [(k, v)] else []) ++ (if 0 < wi k then [] else walkL wi r))
theorem walkL_node (wi : K → Int) (k : K) (v : V) (l r : Tr K V) : walkL wi (.node k v l r) = (if 0 ≤ wi k then walkL wi l else []) ++ ((if wi k = 0 then [(k, v)] else []) ++ (if 0 < wi k then [] else walkL wi r)) := rfl
theorem walkL_all (t : Tr K V) : walkL (fun _ => 0) t = t.ino := by
  induction t with
  | leaf => rfl
  | node k v l r hl hr => simp [walkL, Tr.ino, hl, hr]
end
theorem below_drewN' (W : World) (n : Nat) : Below W.heap.size W (W.drewN n) := ⟨rfl, rfl, rfl, Nat.le_refl _, fun _ _ => rfl⟩
attribute [local go_sem] Oper.semAt_some
attribute [local go_sem] no_callee
namespace Ev
/-- What a round keeps: the nodes, and boxes of strings. -/
def KeepW (W W' : World) : Prop := ∀ T : TypeId, T ∈ [143, 9, 112, 135, 56] → KeepT T W W'
theorem KeepW.refl (W : World) : KeepW W W := fun T _ => KeepT.refl T W
theorem KeepW.trans {A B C : World} (h : KeepW A B) (k : KeepW B C) : KeepW A C := fun T hT => (h T hT).trans (k T hT)
theorem KeepW.below {A B : World} (h : Below A.heap.size A B) : KeepW A B := fun _ _ => KeepT.of_keeps (Keeps.of_below h) (fun _ _ _ h => h)
theorem KeepW.node {A B : World} (h : KeepW A B) : KeepT 143 A B := h 143 (by simp)
theorem KeepW.psnap {A B : World} (h : KeepW A B) : KeepT 112 A B := h 112 (by simp)
theorem KeepW.snap {A B : World} (h : KeepW A B) : KeepT 135 A B := h 135 (by simp)
theorem KeepW.ptab {A B : World} (h : KeepW A B) : KeepT 56 A B := h 56 (by simp)
abbrev encKV (x : ByteArray × Ev) : Array Value := #[.string x.1, .agg #[.string x.2.key, .string x.2.acct, .string x.2.mtr, .int .i64 x.2.qty, .int .i64 x.2.at_]]
/-- What a walk hands back: all has come; or a round has said 'no more'. -/
def WalkPost (J Jx : List (ByteArray × Ev) → World → Prop) (pre xs : List (ByteArray × Ev)) (W : World) (e : Ending) (W' : World) : Prop :=
  (e = .returned (.bool true) ∧ J (pre ++ xs) W' ∧ KeepW W W') ∨ (e = .returned (.bool false) ∧ KeepW W W' ∧ ∃ q, q <+: xs ∧ Jx (pre ++ q) W')
section
variable (l : Nat) (J Jx : List (ByteArray × Ev) → World → Prop) (gW : Nat) (cap : Array Value) (wi : ByteArray → Int) (G : World → Prop)
set_option maxRecDepth 100000 in
set_option maxHeartbeats 4000000 in
/-- A node whose key is within: the left child, the pair, the right child. -/
theorem s_walk_at (k : ByteArray) (v : Ev) (b : Nat) (pl pr : Option Addr) (h t : Value) (W : World) (hb : IsBlk W b #[.string k, .string v.key, .string v.acct, .string v.mtr, .int .i64 v.qty, .int .i64 v.at_, .pointer pl, .pointer pr, h, t] 143) (hG : G W)
    (eg : ∀ args w, (callFunc gW args).run Tryz.prog w = .ok (.enter gW args) w)
    (HW : Hid (∀ W, G W → Calls Tryz.prog gW (#[.string k] ++ cap) W fun e W' => e = .returned (.int .i64 0) ∧ W = W'))
    (pre xs ys : List (ByteArray × Ev)) (hj : ∀ (ys : List (ByteArray × Ev)) W (n : Nat), J ys W → J ys (W.drewN n))
    (IHL : Hid (Calls Tryz.prog 96 #[.pointer pl, .func (.func gW) #[] cap, .func (.yield l) #[] #[]] W (WalkPost J Jx pre xs W)))
    (HY : Hid (∀ W1, KeepW W W1 → J (pre ++ xs) W1 → YieldAt Fence.wide 0 Tryz.prog l (encKV (k, v)) W1 fun e W' =>
      (e = .returned (.bool true) ∧ J (pre ++ xs ++ [(k, v)]) W' ∧ KeepW W1 W') ∨ (e = .returned (.bool false) ∧ Jx (pre ++ xs ++ [(k, v)]) W' ∧ KeepW W1 W')))
    (IHR : Hid (∀ W1, KeepW W W1 → J (pre ++ xs ++ [(k, v)]) W1 → Calls Tryz.prog 96 #[.pointer pr, .func (.func gW) #[] cap, .func (.yield l) #[] #[]] W1 (WalkPost J Jx (pre ++ xs ++ [(k, v)]) ys W1))) :
    Calls Tryz.prog 96 #[.pointer (some ⟨b, 0, none⟩), .func (.func gW) #[] cap, .func (.yield l) #[] #[]] W (WalkPost J Jx pre (xs ++ (k, v) :: ys) W) := by
  have c0 : W.cell? ⟨b, 0, none⟩ = some (.string k) := blk_cell hb 0
  have c2 : W.cell? ⟨b, 6, none⟩ = some (.pointer pl) := blk_cell hb 6
  have HG := Lib.hid hG
  have HJ := Lib.hid hj
  have HB := Lib.hid hb
  clear hb hG hj
  go_enter Tryz.func96, Tryz.ntmps96
  go_wp2_with fail
  refine (HW.out _ HG.out).mono ?_
  rintro e W' ⟨rfl, rfl⟩
  go_wp2_with fail
  refine IHL.out.mono ?_
  rintro e W1 (⟨rfl, h1⟩ | ⟨rfl, h1⟩)
  · have hb1 := h1.2.node b _ HB.out
    have c01 : W1.cell? ⟨b, 0, none⟩ = some (.string k) := blk_cell hb1 0
    have c11x : W1.cell? ⟨b, 1, none⟩ = some (.string v.key) := blk_cell hb1 1
    have c11y : W1.cell? ⟨b, 2, none⟩ = some (.string v.acct) := blk_cell hb1 2
    have c11z : W1.cell? ⟨b, 3, none⟩ = some (.string v.mtr) := blk_cell hb1 3
    have c11u : W1.cell? ⟨b, 4, none⟩ = some (.int .i64 v.qty) := blk_cell hb1 4
    have c11v : W1.cell? ⟨b, 5, none⟩ = some (.int .i64 v.at_) := blk_cell hb1 5
    have H1 := Lib.hid h1
    clear h1 hb1 c0 c2
    go_wp2_with fail
    have hK0 : KeepW W (W1.drewN 1) := fun T hT => H1.out.2 T hT
    obtain ⟨fn, tmps, assign, body, hy, hR⟩ := HY.out (W1.drewN 1) hK0 (HJ.out _ _ _ H1.out.1)
    refine (wpIn_wide (n := 1)).1 ?_
    refine wpIn_region_still_tail (open_wide _) 12 (by kernel_rfl) (by kernel_rfl) ?_
    simp only [List.take_succ_cons, List.take_zero, List.drop_succ_cons, List.drop_zero]
    repeat still_step
    refine wpStill_nil ?_
    have hy2 : (Instr.yield l #[.string k, .agg #[.string v.key, .string v.acct, .string v.mtr, .int .i64 v.qty, .int .i64 v.at_]]).run Tryz.prog W1.drew = .ok (.round l fn tmps assign body) W1.drew := hy
    have HR := Lib.hid hR
    clear hR hy
    gi_wp2_with (first | (with_reducible refine ⟨fun f _ => wfn f, ?_⟩) | (with_reducible refine ⟨wfn _, wd _, ?_⟩) | (with_reducible refine ⟨wd _, ?_⟩) | (with_reducible refine ⟨wfn _, ?_⟩))
    refine HR.out.mono ?_
    rintro e W2 (⟨rfl, hJ2, hk2⟩ | ⟨rfl, hx2, hk2⟩)
    · have hK2 : KeepW W W2 := hK0.trans hk2
      have c32 : W2.cell? ⟨b, 7, none⟩ = some (.pointer pr) := blk_cell (hK2.node b _ HB.out) 7
      have HP := Lib.hid (IHR.out W2 hK2 hJ2)
      have HK2 := Lib.hid hK2
      clear hK0 hk2 hJ2 hK2 c01 c11x c11y c11z c11u c11v
      gi_wp2_with (first | (with_reducible refine ⟨fun f _ => wfn f, ?_⟩) | (with_reducible refine ⟨wfn _, wd _, ?_⟩) | (with_reducible refine ⟨wd _, ?_⟩) | (with_reducible refine ⟨wfn _, ?_⟩))
      go_wp2_with fail
      refine HP.out.mono ?_
      rintro e W3 (⟨rfl, h3⟩ | ⟨rfl, h3⟩)
      · have H3 := Lib.hid h3
        clear h3
        go_wp2
        go_ret
        exact .inl ⟨rfl, by have := H3.out.1; simpa [List.append_assoc] using this, HK2.out.trans H3.out.2⟩
      · have H3 := Lib.hid h3
        clear h3
        go_wp2
        go_ret
        obtain ⟨hk3, q, hq, hx⟩ := H3.out
        obtain ⟨r, hr⟩ := hq
        exact .inr ⟨rfl, HK2.out.trans hk3, xs ++ (k, v) :: q, ⟨r, by simp [← hr]⟩, by simpa [List.append_assoc] using hx⟩
    · have HX := Lib.hid hx2
      have HK2 := Lib.hid (hK0.trans hk2)
      clear hx2 hK0 hk2
      gi_wp2_with (first | (with_reducible refine ⟨fun f _ => wfn f, ?_⟩) | (with_reducible refine ⟨wfn _, wd _, ?_⟩) | (with_reducible refine ⟨wd _, ?_⟩) | (with_reducible refine ⟨wfn _, ?_⟩))
      go_wp2
      go_ret
      exact .inr ⟨rfl, HK2.out, xs ++ [(k, v)], ⟨ys, by simp⟩, by simpa [List.append_assoc] using HX.out⟩
  · have H1 := Lib.hid h1
    clear h1
    go_wp2
    go_ret
    obtain ⟨hk1, q, hq, hx⟩ := H1.out
    exact .inr ⟨rfl, hk1, q, hq.trans (List.prefix_append _ _), hx⟩
theorem keepW_drewN (W : World) (n : Nat) : KeepW W (W.drewN n) := fun _ _ _ _ h => h
theorem s_walk (hj : ∀ (ys : List (ByteArray × Ev)) W (n : Nat), J ys W → J ys (W.drewN n)) (HG : ∀ W W', KeepW W W' → G W → G W') (hwi : ∀ k, wi k = 0)
    (eg : ∀ args w, (callFunc gW args).run Tryz.prog w = .ok (.enter gW args) w)
    (HW : ∀ k W, G W → Calls Tryz.prog gW (#[.string k] ++ cap) W fun e W' => e = .returned (.int .i64 (wi k)) ∧ W = W')
    (all : List (ByteArray × Ev)) (hY : ∀ pre x W, J pre W → pre ++ [x] <+: all → YieldAt Fence.wide 0 Tryz.prog l (encKV x) W fun e W' =>
      (e = .returned (.bool true) ∧ J (pre ++ [x]) W' ∧ KeepW W W') ∨ (e = .returned (.bool false) ∧ Jx (pre ++ [x]) W' ∧ KeepW W W')) (T : Tr ByteArray Ev) :
    ∀ (p : Option Addr) (pre : List (ByteArray × Ev)) (W : World), STree W T p → G W → J pre W → pre ++ walkL wi T <+: all →
      Calls Tryz.prog 96 #[.pointer p, .func (.func gW) #[] cap, .func (.yield l) #[] #[]] W (WalkPost J Jx pre (walkL wi T) W) := by
  induction T with
  | leaf =>
    intro p pre W ht hG hJ _
    obtain rfl : p = none := ht
    have HJ := Lib.hid hJ
    clear hY HW HG hj hJ hG
    go_enter Tryz.func96, Tryz.ntmps96
    go_wp2_with fail
    go_ret
    exact .inl ⟨rfl, by simpa [walkL] using HJ.out, KeepW.refl _⟩
  | node k v tl tr ihl ihr =>
    intro p pre W ht hG hJ hN
    obtain ⟨b, pl, pr, rfl, hb, hl, hr⟩ := ht
    have hk := hwi k
    have e1 : walkL wi (.node k v tl tr) = walkL wi tl ++ (k, v) :: walkL wi tr := by simp [walkL, hk]
    rw [e1] at hN ⊢
    have hN1 : pre ++ walkL wi tl ++ [(k, v)] ++ walkL wi tr <+: all := by simpa [List.append_assoc] using hN
    have hN2 : pre ++ walkL wi tl ++ [(k, v)] <+: all := (List.prefix_append _ _).trans hN1
    have hN3 : pre ++ walkL wi tl <+: all := (List.prefix_append _ _).trans hN2
    refine s_walk_at l J Jx gW cap G k v b pl pr _ _ W hb hG eg (Lib.hid (fun W hG => by rw [← hk]; exact HW k W hG)) pre _ _ hj (Lib.hid (ihl pl pre W hl hG hJ hN3))
      (Lib.hid (fun W1 _ hJ1 => hY _ (k, v) W1 hJ1 hN2))
      (Lib.hid (fun W1 hk1 hJ1 => ihr pr _ W1 (hr.keepT hk1.node) (HG _ _ hk1 hG) hJ1 hN1))
end
/-- All keys are within. -/
theorem s_all (k : ByteArray) (W : World) : Calls Tryz.prog 97 (#[.string k] ++ #[]) W fun e W' => e = .returned (.int .i64 0) ∧ W = W' := by
  show Calls Tryz.prog 97 #[.string k] W _
  go_enter Tryz.func97, Tryz.ntmps97
  go_wp2
  go_ret
  exact ⟨rfl, rfl⟩
theorem WalkPost.seq {J Jx : List (ByteArray × Ev) → World → Prop} {xs : List (ByteArray × Ev)} {W : World} {e : Ending} {W' : World} (h : WalkPost J Jx [] xs W e W') :
    (∃ v, e = .returned v) ∧ KeepW W W' ∧ (J xs W' ∨ ∃ q, q <+: xs ∧ Jx q W') := by
  rcases h with ⟨rfl, h, hk⟩ | ⟨rfl, hk, q, hq, hx⟩
  · exact ⟨⟨_, rfl⟩, hk, .inl (by simpa using h)⟩
  · exact ⟨⟨_, rfl⟩, hk, .inr ⟨q, hq, by simpa using hx⟩⟩
/-- What an iterator owes: all has come; or a round has said 'no more'. -/
def SeqPost (J Jx : List (ByteArray × Ev) → World → Prop) (xs : List (ByteArray × Ev)) (e : Ending) (W' : World) : Prop :=
  (∃ v, e = .returned v) ∧ (J xs W' ∨ ∃ q, q <+: xs ∧ Jx q W')
section
variable (l : Nat) (J Jx : List (ByteArray × Ev) → World → Prop)
/-- What it is given: new blocks and draws turn nothing; each round goes on, or says 'no more'. -/
structure SeqIn (xs : List (ByteArray × Ev)) : Prop where
  grow : ∀ ys W W', J ys W → Below W.heap.size W W' → J ys W'
  round : ∀ pre x W, J pre W → pre ++ [x] <+: xs → YieldAt Fence.wide 0 Tryz.prog l (encKV x) W fun e W' =>
      (e = .returned (.bool true) ∧ J (pre ++ [x]) W' ∧ KeepW W W') ∨ (e = .returned (.bool false) ∧ Jx (pre ++ [x]) W' ∧ KeepW W W')
theorem eg_all : ∀ args w, (callFunc 97 args).run Tryz.prog w = .ok (.enter 97 args) w := enters_of Tryz.func97 (by kernel_rfl) rfl
theorem q_walk_all {t : Tr ByteArray Ev} (H : SeqIn l J Jx t.ino) (p : Option Addr) (W : World) (ht : STree W t p) (h0 : J [] W) :
    Calls Tryz.prog 96 #[.pointer p, .func (.func 97) #[] #[], .func (.yield l) #[] #[]] W (WalkPost J Jx [] t.ino W) := by
  have := s_walk l J Jx 97 #[] (fun _ => 0) (fun _ => True) (fun ys W n h => H.grow ys W _ h (below_drewN' W n)) (fun _ _ _ h => h) (fun _ => rfl) eg_all
    (fun k W _ => s_all k W) _ H.round t p [] W ht trivial h0 (by rw [walkL_all]; simp)
  rwa [walkL_all] at this
set_option maxRecDepth 100000 in
set_option maxHeartbeats 2000000 in
/-- The snapshot's All, gone over. -/
theorem q_sall {t : Tr ByteArray Ev} {ver : Int} (H : SeqIn l J Jx t.ino) (bs sb : Nat) (W : World) (hb : IsBlk W bs #[.pointer (some ⟨sb, 0, none⟩)] 112) (hs : SSnap W sb t ver) (h0 : J [] W) :
    Calls Tryz.prog 95 #[.func (.yield l) #[] #[], .pointer (some ⟨bs, 0, none⟩)] W (SeqPost J Jx t.ino) := by
  obtain ⟨root, hsb, ht⟩ := hs.ex
  have c0 : W.cell? ⟨bs, 0, none⟩ = some (.pointer (some ⟨sb, 0, none⟩)) := blk_cell hb 0
  have c1 : W.cell? ⟨sb, 0, none⟩ = some (.pointer root) := blk_cell hsb 0
  have HW := Lib.hid (q_walk_all l J Jx H root W ht h0)
  clear H hb hs hsb ht h0
  go_enter Tryz.func95, Tryz.ntmps95
  go_wp2_with fail
  refine HW.out.mono ?_
  intro e W1 h1
  obtain ⟨⟨v, rfl⟩, _, h2⟩ := h1.seq
  have H2 := Lib.hid h2
  clear h1 h2
  go_wp2
  go_end0
  exact ⟨⟨_, rfl⟩, H2.out⟩
end
theorem q_sAll (w : World) (sb : Nat) : Calls Tryz.prog 63 #[.pointer (some ⟨sb, 0, none⟩)] w fun e w' =>
    e = .returned (.func (.func 95) #[] #[.pointer (some ⟨w.heap.size, 0, none⟩)]) ∧ w' = w.alloc (.cells #[.pointer (some ⟨sb, 0, none⟩)] 112) := by
  go_enter Tryz.func63, Tryz.ntmps63
  go_wp2
  go_ret
  exact ⟨rfl, rfl⟩
theorem q_tAll (w : World) (tb : Nat) : Calls Tryz.prog 31 #[.pointer (some ⟨tb, 0, none⟩)] w fun e w' =>
    e = .returned (.func (.func 62) #[] #[.pointer (some ⟨w.heap.size, 0, none⟩)]) ∧ w' = w.alloc (.cells #[.pointer (some ⟨tb, 0, none⟩)] 56) := by
  go_enter Tryz.func31, Tryz.ntmps31
  go_wp2
  go_ret
  exact ⟨rfl, rfl⟩
section
variable (l : Nat) (J Jx : List (ByteArray × Ev) → World → Prop)
set_option maxRecDepth 100000 in
set_option maxHeartbeats 2000000 in
/-- The table's All, gone over: a snapshot is taken, and gone over. -/
theorem q_tall {t : Tr ByteArray Ev} {ver : Int} (H : SeqIn l J Jx t.ino) (bb tb : Nat) (W : World) (hb : IsBlk W bb #[.pointer (some ⟨tb, 0, none⟩)] 56) (hs : STab W tb t ver) (h0 : J [] W) :
    Calls Tryz.prog 62 #[.func (.yield l) #[] #[], .pointer (some ⟨bb, 0, none⟩)] W (SeqPost J Jx t.ino) := by
  have c0 : W.cell? ⟨bb, 0, none⟩ = some (.pointer (some ⟨tb, 0, none⟩)) := blk_cell hb 0
  have HS := Lib.hid (t_snapshot W tb t ver hs)
  have H0 := Lib.hid h0
  have HH := Lib.hid H
  have eg := enters_of Tryz.func95 (P := Tryz.prog) (by kernel_rfl) rfl
  clear H hb hs h0
  go_enter Tryz.func62, Tryz.ntmps62
  go_wp2_with fail
  refine HS.out.mono ?_
  rintro e W1 ⟨sb, rfl, hs1, _, hk1⟩
  have HS1 := Lib.hid hs1
  have HK1 := Lib.hid hk1
  clear hs1 hk1
  go_wp2_with fail
  refine (q_sAll W1 sb).mono ?_
  rintro e W2 ⟨rfl, rfl⟩
  have hA : Below W1.heap.size W1 (W1.alloc (.cells #[.pointer (some ⟨sb, 0, none⟩)] 112)) := (Below.refl _ _).alloc (Nat.le_refl _) _
  have HQ := Lib.hid (q_sall l J Jx HH.out W1.heap.size sb _ (blk_new W1 _) (HS1.out.below hA) (HH.out.grow _ _ _ (HH.out.grow _ _ _ H0.out HK1.out) hA))
  clear hA c0
  go_wp2_with fail
  refine HQ.out.mono ?_
  rintro e W3 ⟨⟨v, rfl⟩, h3⟩
  have H3 := Lib.hid h3
  clear h3
  go_wp2
  go_end0
  exact ⟨⟨_, rfl⟩, H3.out⟩
end
end Ev
end Go.Proofs.YtkbdofbjfcajbaaGreat
