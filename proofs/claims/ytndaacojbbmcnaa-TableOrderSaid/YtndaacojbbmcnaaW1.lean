/- The walk over a tree that hands each pair to a loop's body: what comes, in order. -/
import Derived.Test.YtndaacojbbmcnaaT6
import Derived.RangeFuncNested
import Derived.RangeFuncBound
import Derived.RangeFuncCalls
import Derived.RangeFuncLeaves
import Derived.RangeFuncWrites
import Derived.Shelf.Abstract
import Derived.OwnWalkIn
import Derived.TacticsInMore
import Derived.LoopNIn
import Derived.LoopIn
import Derived.BigRegionIn
import Derived.Test.YtndaacojbbmcnaaStillIn
namespace Go.Proofs.Ytndaacojbbmcnaa
open Go.RowKit Go.RwLone Go.Shelf
attribute [local go_sem] Oper.semAt_some

theorem room_of_none {F : Fence} (hd : F.depth = none) (k : Nat) : F.room k := fun d h => by rw [hd] at h; cases h
/-- Where no depth is asked the figures are all one. -/
theorem roundIn_any {F : Fence} (hd : F.depth = none) {m m' : Nat} {P : Program} {l : Nat} {f : FuncId} {tmps : Array Value} {assign body : Code} {w : World} {R : Ending → World → Prop}
    (h : RoundIn F m P l f tmps assign body w R) : RoundIn F m' P l f tmps assign body w R := ⟨h.1, fun c cs _ => h.2 c cs (room_of_none hd _)⟩
theorem yieldAt_any {F : Fence} (hd : F.depth = none) {m : Nat} (m' : Nat) {P : Program} {l : Nat} {args : Array Value} {W : World} {R : Ending → World → Prop} (h : YieldAt F m P l args W R) : YieldAt F m' P l args W R := by
  obtain ⟨fn, tmps, assign, body, hy, hR⟩ := h
  exact ⟨fn, tmps, assign, body, hy, roundIn_any hd hR⟩

theorem no_callee (F : Fence) : (∀ f : FuncId, (none : Option FuncId) = some f → F.fn f) = True := by simp
attribute [local go_sem] no_callee

theorem wd (n : Nat) : Fence.wide.depth.isSome = true → 1 ≤ n := fun h => by simp [Fence.wide] at h

theorem wfn (f : FuncId) : Fence.wide.fn f := trivial

/-- What a round keeps: the nodes, and boxes of strings. -/
def KeepW (W W' : World) : Prop := ∀ T : TypeId, T ∈ [111, 9, 51, 94, 25] → KeepT T W W'
theorem KeepW.refl (W : World) : KeepW W W := fun T _ => KeepT.refl T W
theorem KeepW.trans {A B C : World} (h : KeepW A B) (k : KeepW B C) : KeepW A C := fun T hT => (h T hT).trans (k T hT)
theorem KeepW.below {A B : World} (h : Below A.heap.size A B) : KeepW A B := fun _ _ => KeepT.of_keeps (Keeps.of_below h) (fun _ _ _ h => h)
theorem KeepW.node {A B : World} (h : KeepW A B) : KeepT 111 A B := h 111 (by simp)
theorem KeepW.str {A B : World} (h : KeepW A B) : KeepT 9 A B := h 9 (by simp)
theorem KeepW.psnap {A B : World} (h : KeepW A B) : KeepT 51 A B := h 51 (by simp)
theorem KeepW.snap {A B : World} (h : KeepW A B) : KeepT 94 A B := h 94 (by simp)
theorem KeepW.ptab {A B : World} (h : KeepW A B) : KeepT 25 A B := h 25 (by simp)

section
variable {K V : Type}
/-- What a walk over a tree comes to, by what 'within' says of keys. -/
def walkL (wi : K → Int) : Tr K V → List (K × V)
  | .leaf => []
  | .node k v l r => (if 0 ≤ wi k then walkL wi l else []) ++ ((if wi k = 0 then [(k, v)] else []) ++ (if 0 < wi k then [] else walkL wi r))
end

abbrev encKV (x : ByteArray × Int) : Array Value := #[.string x.1, .int .i64 x.2]

/-- What a walk hands back: all has come; or a round has said 'no more'. -/
def WalkPost (J Jx : List (ByteArray × Int) → World → Prop) (pre xs : List (ByteArray × Int)) (W : World) (e : Ending) (W' : World) : Prop :=
  (e = .returned (.bool true) ∧ J (pre ++ xs) W' ∧ KeepW W W') ∨ (e = .returned (.bool false) ∧ KeepW W W' ∧ ∃ q, q <+: xs ∧ Jx (pre ++ q) W')

section
variable (l : Nat) (J Jx : List (ByteArray × Int) → World → Prop) (gW : Nat) (cap : Array Value) (wi : ByteArray → Int) (G : World → Prop)

set_option maxRecDepth 100000 in
set_option maxHeartbeats 4000000 in
/-- A node whose key is below: the right child alone. -/
theorem s_walk_lo (k : ByteArray) (v : Int) (b : Nat) (pl pr : Option Addr) (h t : Value) (W : World) (hb : IsBlk W b #[.string k, .int .i64 v, .pointer pl, .pointer pr, h, t] 111) (hG : G W)
    (eg : ∀ args w, (callFunc gW args).run Try.prog w = .ok (.enter gW args) w)
    (HW : Hid (∀ W, G W → Calls Try.prog gW (#[.string k] ++ cap) W fun e W' => e = .returned (.int .i64 (-1)) ∧ W = W'))
    (pre xs : List (ByteArray × Int))
    (IHR : Hid (∀ nq, Calls Try.prog 50 #[.pointer pr, .func (.func gW) #[] cap, .func (.yield l) #[] #[]] (W.drewN nq) (WalkPost J Jx pre xs W))) :
    Calls Try.prog 50 #[.pointer (some ⟨b, 0, none⟩), .func (.func gW) #[] cap, .func (.yield l) #[] #[]] W (WalkPost J Jx pre xs W) := by
  have c0 : W.cell? ⟨b, 0, none⟩ = some (.string k) := blk_cell hb 0
  have c3 : W.cell? ⟨b, 3, none⟩ = some (.pointer pr) := blk_cell hb 3
  have HG := Lib.hid hG
  clear hb hG
  go_enter Try.func50, Try.ntmps50
  go_wp2_with fail
  refine (HW.out _ HG.out).mono ?_
  rintro e W' ⟨rfl, rfl⟩
  go_wp2_with fail
  go_quiet (fail)
  go_wp2_with fail
  refine (IHR.out _).mono ?_
  rintro e W1 (⟨rfl, h1⟩ | ⟨rfl, h1⟩)
  · have H1 := Lib.hid h1
    clear h1
    go_wp2
    go_ret
    exact .inl ⟨rfl, H1.out⟩
  · have H1 := Lib.hid h1
    clear h1
    go_wp2
    go_ret
    exact .inr ⟨rfl, H1.out⟩

set_option maxRecDepth 100000 in
set_option maxHeartbeats 4000000 in
/-- A node whose key is above: the left child alone. -/
theorem s_walk_hi (k : ByteArray) (v : Int) (b : Nat) (pl pr : Option Addr) (h t : Value) (W : World) (hb : IsBlk W b #[.string k, .int .i64 v, .pointer pl, .pointer pr, h, t] 111) (hG : G W)
    (eg : ∀ args w, (callFunc gW args).run Try.prog w = .ok (.enter gW args) w)
    (HW : Hid (∀ W, G W → Calls Try.prog gW (#[.string k] ++ cap) W fun e W' => e = .returned (.int .i64 1) ∧ W = W'))
    (pre xs : List (ByteArray × Int)) (hj : ∀ (ys : List (ByteArray × Int)) W (n : Nat), J ys W → J ys (W.drewN n))
    (IHL : Hid (Calls Try.prog 50 #[.pointer pl, .func (.func gW) #[] cap, .func (.yield l) #[] #[]] W (WalkPost J Jx pre xs W))) :
    Calls Try.prog 50 #[.pointer (some ⟨b, 0, none⟩), .func (.func gW) #[] cap, .func (.yield l) #[] #[]] W (WalkPost J Jx pre xs W) := by
  have c0 : W.cell? ⟨b, 0, none⟩ = some (.string k) := blk_cell hb 0
  have c2 : W.cell? ⟨b, 2, none⟩ = some (.pointer pl) := blk_cell hb 2
  have HG := Lib.hid hG
  have HJ := Lib.hid hj
  clear hb hG hj
  go_enter Try.func50, Try.ntmps50
  go_wp2_with fail
  refine (HW.out _ HG.out).mono ?_
  rintro e W' ⟨rfl, rfl⟩
  go_wp2_with fail
  refine IHL.out.mono ?_
  rintro e W1 (⟨rfl, h1⟩ | ⟨rfl, h1⟩)
  · have H1 := Lib.hid h1
    clear h1
    go_wp2_with fail
    go_quiet (fail)
    go_wp2
    go_ret
    exact .inl ⟨rfl, HJ.out _ _ _ H1.out.1, H1.out.2⟩
  · have H1 := Lib.hid h1
    clear h1
    go_wp2
    go_ret
    exact .inr ⟨rfl, H1.out⟩

set_option maxRecDepth 100000 in
set_option maxHeartbeats 4000000 in
/-- A node whose key is within: the left child, the pair, the right child. -/
theorem s_walk_at (k : ByteArray) (v : Int) (b : Nat) (pl pr : Option Addr) (h t : Value) (W : World) (hb : IsBlk W b #[.string k, .int .i64 v, .pointer pl, .pointer pr, h, t] 111) (hG : G W)
    (eg : ∀ args w, (callFunc gW args).run Try.prog w = .ok (.enter gW args) w)
    (HW : Hid (∀ W, G W → Calls Try.prog gW (#[.string k] ++ cap) W fun e W' => e = .returned (.int .i64 0) ∧ W = W'))
    (pre xs ys : List (ByteArray × Int)) (hj : ∀ (ys : List (ByteArray × Int)) W (n : Nat), J ys W → J ys (W.drewN n))
    (IHL : Hid (Calls Try.prog 50 #[.pointer pl, .func (.func gW) #[] cap, .func (.yield l) #[] #[]] W (WalkPost J Jx pre xs W)))
    (HY : Hid (∀ W1, KeepW W W1 → J (pre ++ xs) W1 → YieldAt Fence.wide 0 Try.prog l (encKV (k, v)) W1 fun e W' =>
      (e = .returned (.bool true) ∧ J (pre ++ xs ++ [(k, v)]) W' ∧ KeepW W1 W') ∨ (e = .returned (.bool false) ∧ Jx (pre ++ xs ++ [(k, v)]) W' ∧ KeepW W1 W')))
    (IHR : Hid (∀ W1, KeepW W W1 → J (pre ++ xs ++ [(k, v)]) W1 → Calls Try.prog 50 #[.pointer pr, .func (.func gW) #[] cap, .func (.yield l) #[] #[]] W1 (WalkPost J Jx (pre ++ xs ++ [(k, v)]) ys W1))) :
    Calls Try.prog 50 #[.pointer (some ⟨b, 0, none⟩), .func (.func gW) #[] cap, .func (.yield l) #[] #[]] W (WalkPost J Jx pre (xs ++ (k, v) :: ys) W) := by
  have c0 : W.cell? ⟨b, 0, none⟩ = some (.string k) := blk_cell hb 0
  have c2 : W.cell? ⟨b, 2, none⟩ = some (.pointer pl) := blk_cell hb 2
  have HG := Lib.hid hG
  have HJ := Lib.hid hj
  have HB := Lib.hid hb
  clear hb hG hj
  go_enter Try.func50, Try.ntmps50
  go_wp2_with fail
  refine (HW.out _ HG.out).mono ?_
  rintro e W' ⟨rfl, rfl⟩
  go_wp2_with fail
  refine IHL.out.mono ?_
  rintro e W1 (⟨rfl, h1⟩ | ⟨rfl, h1⟩)
  · have hb1 := h1.2.node b _ HB.out
    have c01 : W1.cell? ⟨b, 0, none⟩ = some (.string k) := blk_cell hb1 0
    have c11 : W1.cell? ⟨b, 1, none⟩ = some (.int .i64 v) := blk_cell hb1 1
    have H1 := Lib.hid h1
    clear h1 hb1 c0 c2
    go_wp2_with fail
    have hK0 : KeepW W (W1.drewN 1) := fun T hT => H1.out.2 T hT
    obtain ⟨fn, tmps, assign, body, hy, hR⟩ := HY.out (W1.drewN 1) hK0 (HJ.out _ _ _ H1.out.1)
    refine (wpIn_wide (n := 1)).1 ?_
    refine wpIn_region_still_tail (open_wide _) 12 (by kernel_rfl) (by kernel_rfl) ?_
    simp only [List.take_succ_cons, List.take_zero, List.drop_succ_cons, List.drop_zero]
    repeat still_step
    refine wpStill_nil ?_
    have hy2 : (Instr.yield l #[.string k, .int .i64 v]).run Try.prog W1.drew = .ok (.round l fn tmps assign body) W1.drew := hy
    have HR := Lib.hid hR
    clear hR hy
    gi_wp2_with (first | (with_reducible refine ⟨fun f _ => wfn f, ?_⟩) | (with_reducible refine ⟨wfn _, wd _, ?_⟩) | (with_reducible refine ⟨wd _, ?_⟩) | (with_reducible refine ⟨wfn _, ?_⟩))
    refine HR.out.mono ?_
    rintro e W2 (⟨rfl, hJ2, hk2⟩ | ⟨rfl, hx2, hk2⟩)
    · have hK2 : KeepW W W2 := hK0.trans hk2
      have c32 : W2.cell? ⟨b, 3, none⟩ = some (.pointer pr) := blk_cell (hK2.node b _ HB.out) 3
      have HP := Lib.hid (IHR.out W2 hK2 hJ2)
      have HK2 := Lib.hid hK2
      clear hK0 hk2 hJ2 hK2 c01 c11
      gi_wp2_with (first | (with_reducible refine ⟨fun f _ => wfn f, ?_⟩) | (with_reducible refine ⟨wfn _, wd _, ?_⟩) | (with_reducible refine ⟨wd _, ?_⟩) | (with_reducible refine ⟨wfn _, ?_⟩))
      go_wp2_with fail
      refine HP.out.mono ?_
      rintro e W3 (⟨rfl, h3⟩ | ⟨rfl, h3⟩)
      · have H3 := Lib.hid h3
        clear h3
        go_wp2
        go_ret
        exact .inl ⟨rfl, by have := H3.out.1; simpa [List.append_assoc] using this, HK2.out.trans H3.out.2⟩
      · have H3 := Lib.hid h3
        clear h3
        go_wp2
        go_ret
        obtain ⟨hk3, q, hq, hx⟩ := H3.out
        obtain ⟨r, hr⟩ := hq
        exact .inr ⟨rfl, HK2.out.trans hk3, xs ++ (k, v) :: q, ⟨r, by simp [← hr]⟩, by simpa [List.append_assoc] using hx⟩
    · have HX := Lib.hid hx2
      have HK2 := Lib.hid (hK0.trans hk2)
      clear hx2 hK0 hk2
      gi_wp2_with (first | (with_reducible refine ⟨fun f _ => wfn f, ?_⟩) | (with_reducible refine ⟨wfn _, wd _, ?_⟩) | (with_reducible refine ⟨wd _, ?_⟩) | (with_reducible refine ⟨wfn _, ?_⟩))
      go_wp2
      go_ret
      exact .inr ⟨rfl, HK2.out, xs ++ [(k, v)], ⟨ys, by simp⟩, by simpa [List.append_assoc] using HX.out⟩
  · have H1 := Lib.hid h1
    clear h1
    go_wp2
    go_ret
    obtain ⟨hk1, q, hq, hx⟩ := H1.out
    exact .inr ⟨rfl, hk1, q, hq.trans (List.prefix_append _ _), hx⟩

theorem keepW_drewN (W : World) (n : Nat) : KeepW W (W.drewN n) := fun _ _ _ _ h => h

theorem s_walk (hj : ∀ (ys : List (ByteArray × Int)) W (n : Nat), J ys W → J ys (W.drewN n)) (HG : ∀ W W', KeepW W W' → G W → G W') (hwi : ∀ k, wi k = -1 ∨ wi k = 0 ∨ wi k = 1)
    (eg : ∀ args w, (callFunc gW args).run Try.prog w = .ok (.enter gW args) w)
    (HW : ∀ k W, G W → Calls Try.prog gW (#[.string k] ++ cap) W fun e W' => e = .returned (.int .i64 (wi k)) ∧ W = W')
    (all : List (ByteArray × Int)) (hY : ∀ pre x W, J pre W → pre ++ [x] <+: all → YieldAt Fence.wide 0 Try.prog l (encKV x) W fun e W' =>
      (e = .returned (.bool true) ∧ J (pre ++ [x]) W' ∧ KeepW W W') ∨ (e = .returned (.bool false) ∧ Jx (pre ++ [x]) W' ∧ KeepW W W')) (T : Tr ByteArray Int) :
    ∀ (p : Option Addr) (pre : List (ByteArray × Int)) (W : World), STree W T p → G W → J pre W → pre ++ walkL wi T <+: all →
      Calls Try.prog 50 #[.pointer p, .func (.func gW) #[] cap, .func (.yield l) #[] #[]] W (WalkPost J Jx pre (walkL wi T) W) := by
  induction T with
  | leaf =>
    intro p pre W ht hG hJ _
    obtain rfl : p = none := ht
    have HJ := Lib.hid hJ
    clear hY HW HG hj hJ hG
    go_enter Try.func50, Try.ntmps50
    go_wp2_with fail
    go_ret
    exact .inl ⟨rfl, by simpa [walkL] using HJ.out, KeepW.refl _⟩
  | node k v tl tr ihl ihr =>
    intro p pre W ht hG hJ hN
    obtain ⟨b, pl, pr, rfl, hb, hl, hr⟩ := ht
    rcases hwi k with hk | hk | hk
    · have e1 : walkL wi (.node k v tl tr) = walkL wi tr := by simp [walkL, hk]
      rw [e1] at hN ⊢
      refine s_walk_lo l J Jx gW cap G k v b pl pr _ _ W hb hG eg (Lib.hid (fun W hG => by rw [← hk]; exact HW k W hG)) pre _ (Lib.hid (fun nq => ?_))
      have h := ihr pr pre (W.drewN nq) (hr.keepT (keepW_drewN W nq).node) (HG _ _ (keepW_drewN W nq) hG) (hj _ _ _ hJ) hN
      exact h
    · have e1 : walkL wi (.node k v tl tr) = walkL wi tl ++ (k, v) :: walkL wi tr := by simp [walkL, hk]
      rw [e1] at hN ⊢
      have hN1 : pre ++ walkL wi tl ++ [(k, v)] ++ walkL wi tr <+: all := by simpa [List.append_assoc] using hN
      have hN2 : pre ++ walkL wi tl ++ [(k, v)] <+: all := (List.prefix_append _ _).trans hN1
      have hN3 : pre ++ walkL wi tl <+: all := (List.prefix_append _ _).trans hN2
      refine s_walk_at l J Jx gW cap G k v b pl pr _ _ W hb hG eg (Lib.hid (fun W hG => by rw [← hk]; exact HW k W hG)) pre _ _ hj (Lib.hid (ihl pl pre W hl hG hJ hN3))
        (Lib.hid (fun W1 _ hJ1 => hY _ (k, v) W1 hJ1 hN2))
        (Lib.hid (fun W1 hk1 hJ1 => ihr pr _ W1 (hr.keepT hk1.node) (HG _ _ hk1 hG) hJ1 hN1))
    · have e1 : walkL wi (.node k v tl tr) = walkL wi tl := by simp [walkL, hk]
      rw [e1] at hN ⊢
      exact s_walk_hi l J Jx gW cap G k v b pl pr _ _ W hb hG eg (Lib.hid (fun W hG => by rw [← hk]; exact HW k W hG)) pre _ hj (Lib.hid (ihl pl pre W hl hG hJ hN))
end

/-- All keys are within. -/
theorem s_all (k : ByteArray) (W : World) : Calls Try.prog 51 (#[.string k] ++ #[]) W fun e W' => e = .returned (.int .i64 0) ∧ W = W' := by
  show Calls Try.prog 51 #[.string k] W _
  go_enter Try.func51, Try.ntmps51
  go_wp2
  go_ret
  exact ⟨rfl, rfl⟩
/-- Below, within, above. -/
def btw (lo hi k : ByteArray) : Int := if slt k lo then -1 else if slt k hi then 0 else 1
theorem btw_in (lo hi k : ByteArray) : btw lo hi k = -1 ∨ btw lo hi k = 0 ∨ btw lo hi k = 1 := by
  unfold btw; split
  · exact .inl rfl
  · split
    · exact .inr (.inl rfl)
    · exact .inr (.inr rfl)
theorem s_btw (lo hi k : ByteArray) (bl bh : Nat) (W : World) (h1 : IsBlk W bl #[.string lo] 9) (h2 : IsBlk W bh #[.string hi] 9) :
    Calls Try.prog 82 (#[.string k] ++ #[.pointer (some ⟨bl, 0, none⟩), .pointer (some ⟨bh, 0, none⟩)]) W fun e W' => e = .returned (.int .i64 (btw lo hi k)) ∧ W = W' := by
  show Calls Try.prog 82 #[.string k, .pointer (some ⟨bl, 0, none⟩), .pointer (some ⟨bh, 0, none⟩)] W _
  have c1 : W.cell? ⟨bl, 0, none⟩ = some (.string lo) := blk_cell h1 0
  have c2 : W.cell? ⟨bh, 0, none⟩ = some (.string hi) := blk_cell h2 0
  clear h1 h2
  cases h : slt k lo with
  | true =>
    have e1 : Hid (btw lo hi k = -1) := Lib.hid (by simp [btw, h])
    have q1 : Op.bytesLess k.toList lo.toList = true := h
    clear h
    go_enter Try.func82, Try.ntmps82
    go_wp2
    go_ret
    exact ⟨by rw [e1.out]; rfl, rfl⟩
  | false =>
    have q1 : Op.bytesLess k.toList lo.toList = false := h
    cases h' : slt k hi with
    | true =>
      have e1 : Hid (btw lo hi k = 0) := Lib.hid (by simp [btw, h, h'])
      have q2 : Op.bytesLess k.toList hi.toList = true := h'
      clear h h'
      go_enter Try.func82, Try.ntmps82
      go_wp2
      go_ret
      exact ⟨by rw [e1.out]; rfl, rfl⟩
    | false =>
      have e1 : Hid (btw lo hi k = 1) := Lib.hid (by simp [btw, h, h'])
      have q2 : Op.bytesLess k.toList hi.toList = false := h'
      clear h h'
      go_enter Try.func82, Try.ntmps82
      go_wp2
      go_ret
      exact ⟨by rw [e1.out]; rfl, rfl⟩
end Go.Proofs.Ytndaacojbbmcnaa
