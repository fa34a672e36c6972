/- The iterator over frames. -/
import Derived.Test.YthbfkjmpaifblaaWg
import Derived.Test.YthbfkjmpaifblaaForSeq
namespace Go.Proofs.Ythbfkjmpaifblaa
open Go.RowKit Go.Shelf
attribute [local go_sem] Oper.semAt_some

theorem RdAt.block {α : Type} {ek : ElKind α} {w w' : World} {v : Value} {xs : List α} (h : RdAt ek w v xs) (hb : ∀ g, v.ownBlock = some g → g < w.heap.size → w'.heap[g]? = w.heap[g]?) : RdAt ek w' v xs := by
  obtain ⟨a, cap, rfl, hr⟩ := h
  refine ⟨a, cap, rfl, fun j x hx => ?_⟩
  obtain ⟨g, off, rfl, hc⟩ := hr j x hx
  refine ⟨g, off, rfl, fun i hi => ?_⟩
  have h0 : ∃ u, w.cell? ⟨g, off + j * ek.size + i, none⟩ = some u := by
    rw [hc i hi, List.getElem?_eq_getElem (by rw [ek.len]; exact hi)]; exact ⟨_, rfl⟩
  obtain ⟨u, hu⟩ := h0
  exact (World.cell?_of_block (w := w) (a := ⟨g, off + j * ek.size + i, none⟩) (hb g rfl (World.block_lt_of_cell? w _ hu))).trans (hc i hi)
/-- One frame: the place behind it, its record, where the record lies. -/
structure FrI where
  at_ : Nat
  p : List UInt8
  s : SlV
abbrev encFr (x : FrI) : Array Value := #[.int .i64 (x.at_ : Int), x.s.val]
def frI (g off cap k : Nat) (p : List UInt8) : FrI := ⟨k + 8 + p.length, p, ⟨if cap = k + 8 then some ⟨g, off, none⟩ else some ⟨g, off + (k + 8), none⟩, p.length, cap - (k + 8)⟩⟩
def frL (g off cap : Nat) : Nat → List (List UInt8) → List FrI
  | _, [] => []
  | k, p :: ps => frI g off cap k p :: frL g off cap (k + 8 + p.length) ps
/-- What a round keeps: all below a place, and the iterator's own box. -/
def KpF (n0 bb : Nat) (W W' : World) : Prop := W.heap.size ≤ W'.heap.size ∧ ∀ k, (k < n0 ∨ k = bb) → k < W.heap.size → W'.heap[k]? = W.heap[k]?
theorem KpF.trans {n0 bb : Nat} {A B C : World} (h : KpF n0 bb A B) (k : KpF n0 bb B C) : KpF n0 bb A C :=
  ⟨Nat.le_trans h.1 k.1, fun i hi hl => (k.2 i hi (Nat.lt_of_lt_of_le hl h.1)).trans (h.2 i hi hl)⟩
theorem KpF.of_below {n0 bb : Nat} {A B : World} (h : Below A.heap.size A B) : KpF n0 bb A B := ⟨h.size, fun k _ hl => h.block k hl⟩
/-- What the iterator reads. -/
structure FrW (n0 bb : Nat) (w0 : World) (a : Option Addr) (cap : Nat) (ys : List UInt8) (wr : World) : Prop where
  box : IsBlk wr bb #[.slice a ys.length cap] 22
  bytes : RdAt byteKind wr (.slice a ys.length cap) ys
  own : ∀ g, (Value.slice a ys.length cap).ownBlock = some g → ys ≠ [] → g < n0
theorem FrW.keep {n0 bb : Nat} {w0 w1 w2 : World} {a : Option Addr} {cap : Nat} {ys : List UInt8} (h : FrW n0 bb w0 a cap ys w1) (k : KpF n0 bb w1 w2) : FrW n0 bb w0 a cap ys w2 := by
  refine ⟨(k.2 bb (.inr rfl) (lt_of_block h.box)).trans h.box, ?_, h.own⟩
  by_cases hy : ys = []
  · obtain ⟨a', c', e, _⟩ := h.bytes
    subst hy
    exact ⟨a', c', e, fun j x hx => by simp at hx⟩
  · exact h.bytes.block fun g hg hl => k.2 g (.inl (h.own g hg hy)) hl
theorem RdAt.tail {w : World} {g off len cap q : Nat} {ys : List UInt8} (h : RdAt byteKind w (.slice (some ⟨g, off, none⟩) len cap) ys) (hq : q ≤ ys.length) (a' : Option Addr) (cap' : Nat) (ha : q < ys.length → a' = some ⟨g, off + q, none⟩) :
    RdAt byteKind w (.slice a' (ys.length - q) cap') (ys.drop q) := by
  have := h.sub (q := q) (m := ys.length - q) (by omega) a' cap' (fun h => ha (by omega))
  rwa [List.take_of_length_le (by rw [List.length_drop]; omega)] at this
theorem wd (n : Nat) : Fence.wide.depth.isSome = true → 1 ≤ n := fun h => by simp [Fence.wide] at h
theorem wfn (f : FuncId) : Fence.wide.fn f := trivial
theorem no_callee (F : Fence) : (∀ f : FuncId, (none : Option FuncId) = some f → F.fn f) = True := by simp
attribute [local go_sem] no_callee
section
variable (l : Nat) (J Jx : List FrI → World → Prop)
set_option maxRecDepth 100000 in
set_option maxHeartbeats 4000000 in
theorem q_frames {n0 bb g off cap : Nat} {a : Option Addr} {ys : List UInt8} {W : World} (hn : ys.length ≤ 70000000) (hcap : ys.length ≤ cap) (hcm : cap ≤ 9223372036854775807) (ha : ys ≠ [] → a = some ⟨g, off, none⟩)
    (hW : FrW n0 bb W a cap ys W) (hg : ∀ ys A B, J ys A → Below A.heap.size A B → J ys B)
    (hr : ∀ pre x A, J pre A → pre ++ [x] <+: frL g off cap 0 (scanOf ys) → YieldAt Fence.wide 0 Try.prog l (encFr x) A fun e B =>
      (e = .returned (.bool true) ∧ J (pre ++ [x]) B ∧ KpF n0 bb A B) ∨ (e = .returned (.bool false) ∧ Jx (pre ++ [x]) B ∧ KpF n0 bb A B))
    (h0 : J [] W) : Calls Try.prog 72 (#[.func (.yield l) #[] #[]] ++ #[.pointer (some ⟨bb, 0, none⟩)]) W fun e B => (∃ v, e = .returned v) ∧ (J (frL g off cap 0 (scanOf ys)) B ∨ ∃ q, q <+: frL g off cap 0 (scanOf ys) ∧ Jx q B) := by
  show Calls Try.prog 72 #[.func (.yield l) #[] #[], .pointer (some ⟨bb, 0, none⟩)] W _
  have HN := Lib.hid hn
  have HCAP := Lib.hid hcap
  have hn2 : (ys.length : Int) ≤ 70000000 := by omega
  have hc2 : (ys.length : Int) ≤ (cap : Int) := by omega
  have hc3 : (cap : Int) ≤ 9223372036854775807 := by omega
  have HG := Lib.hid hg
  have HY := Lib.hid hr
  have HA := Lib.hid ha
  have HW := Lib.hid hW
  have HJ0 := Lib.hid h0
  clear hn hcap hcm hg hr ha hW h0
  go_enter Try.func72, Try.ntmps72
  go_wp2_with (fail)
  go_loopw [3] (fun i wr => ∃ (k : Nat) (pre : List FrI) (rest : List (List UInt8)), i = .int .i64 (k : Int) ∧ Hid (pre ++ frL g off cap k rest = frL g off cap 0 (scanOf ys) ∧ scanOf (ys.drop k) = rest ∧ k ≤ ys.length) ∧ Hid (J pre wr) ∧ Hid (FrW n0 bb W a cap ys wr)) (fun i _ => ys.length - (intOf i).toNat)
  case atStart => exact ⟨0, [], scanOf ys, rfl, Lib.hid ⟨rfl, rfl, Nat.zero_le _⟩, HJ0, HW⟩
  case round =>
    obtain ⟨k, pre, rest, rfl, HI, HJ, HF⟩ := hrel
    have hle := HI.out.2.2
    have h0 : (0 : Int) ≤ (k : Int) := by omega
    have h1 : (k : Int) ≤ (ys.length : Int) := by omega
    have hbox : wr.cell? ⟨bb, 0, none⟩ = some (.slice a ys.length cap) := blk_cell HF.out.box 0
    have HEND : Hid (headOf (ys.drop k) = none → J (frL g off cap 0 (scanOf ys)) wr) := Lib.hid (fun hh => by
      have e := HI.out.1
      have e2 := HI.out.2.1
      rw [scanOf_none hh] at e2
      subst e2
      simp only [frL, List.append_nil] at e
      rw [← e]; exact HJ.out)
    by_cases h8 : k + 8 ≤ ys.length
    · have h2 : (k : Int) + 8 ≤ (ys.length : Int) := by omega
      obtain rfl := HA.out (by rintro rfl; simp at h8)
      have h3 : ¬ cap = k := by have := HCAP.out; omega
      go_wp2_with (fail)
      refine (w_value (HF.out.bytes.tail (q := k) (by omega) _ _ (fun _ => rfl)) (by rw [List.length_drop]; omega) (by rw [List.length_drop]; have := HN.out; omega)).mono ?_
      rintro e w' ⟨rfl, rfl⟩
      obtain ⟨m, hm⟩ : ∃ m, m = numOf ((ys.drop k).take 4) := ⟨_, rfl⟩
      have hmlt : (m : Int) < 4294967296 := by have := numOf_four (xs := (ys.drop k).take 4) (by rw [List.length_take]; omega); omega
      rw [← hm]
      have HM := Lib.hid hm
      clear hm
      by_cases hbig : (1048576 : Int) < (m : Int)
      · have HD : Hid (J (frL g off cap 0 (scanOf ys)) wr) := Lib.hid (HEND.out (by unfold headOf; rw [← HM.out, if_neg (by rw [List.length_drop]; omega), if_pos (by omega)]))
        go_wp2_with (fail)
        refine bodyPost_ret (results_none rfl _ _ _) rfl ?_
        exact ⟨⟨_, rfl⟩, .inl HD.out⟩
      by_cases hlong : (ys.length : Int) - (k : Int) - 8 < (m : Int)
      · have HD : Hid (J (frL g off cap 0 (scanOf ys)) wr) := Lib.hid (HEND.out (by unfold headOf; rw [← HM.out, if_neg (by rw [List.length_drop]; omega), if_pos (by rw [List.length_drop]; omega)]))
        go_wp2_with (fail)
        refine bodyPost_ret (results_none rfl _ _ _) rfl ?_
        exact ⟨⟨_, rfl⟩, .inl HD.out⟩
      have h4 : ¬ cap = k + 4 := by have := HCAP.out; omega
      have h5 : (k : Int) + 8 + m ≤ (ys.length : Int) := by omega
      have h5n : k + 8 + m ≤ ys.length := by omega
      obtain ⟨p, hp⟩ : ∃ p, p = (ys.drop (k + 8)).take m := ⟨_, rfl⟩
      have hpl : p.length = m := by rw [hp, List.length_take, List.length_drop]; omega
      have HSUB : Hid (∀ W a' c, Below wr.heap.size wr W → (m ≠ 0 → a' = some ⟨g, off + (k + 8), none⟩) → RdAt byteKind W (.slice a' m c) p) := Lib.hid fun W a' c hW ha => by rw [hp]; exact (HF.out.bytes.sub (by omega) a' c ha).below hW
      obtain ⟨q, hq⟩ : ∃ q, q = sumOf p := ⟨_, rfl⟩
      obtain ⟨r, hr⟩ : ∃ r, r = numOf ((ys.drop (k + 4)).take 4) := ⟨_, rfl⟩
      have HSQ : Hid (∀ a' c n, (m ≠ 0 → a' = some ⟨g, off + (k + 8), none⟩) → Calls Try.prog 19 #[.slice a' m c] (wr.drewN n) fun e w' => e = .returned (.int .u32 (q : Int)) ∧ ∃ k, w' = wr.drewN k) := Lib.hid fun a' c n ha => by
        rw [hq]
        exact (w_sum (HSUB.out _ a' c (below_drewN _ _ n) ha) (by have := HN.out; omega)).mono fun _ _ ⟨he, hw⟩ => ⟨he, n, hw.symm⟩
      have HNQ : Hid (∀ c n, Calls Try.prog 73 #[.slice (some ⟨g, off + (k + 4), none⟩) (ys.length - (k + 4)) c] (wr.drewN n) fun e w' => e = .returned (.int .i64 (r : Int)) ∧ ∃ k, w' = wr.drewN k) := Lib.hid fun c n => by
        rw [hr]
        exact (w_value ((HF.out.bytes.tail (q := k + 4) (by omega) _ c (fun _ => rfl)).below (below_drewN _ _ n)) (by rw [List.length_drop]; omega) (by rw [List.length_drop]; have := HN.out; omega)).mono fun _ _ ⟨he, hw⟩ => ⟨he, n, hw.symm⟩
      have HQ1 : Hid (IntKind.i64.wrap (q : Int) = (q : Int)) := Lib.hid (IntWalk.i64_in _ (by have := sumOf_lt p; omega))
      have HQ := Lib.hid hq
      have HR := Lib.hid hr
      have HP := Lib.hid hp
      have HPL := Lib.hid hpl
      clear hp hpl hmlt hq hr
      have e1 : k + 8 + m - (k + 8) = m := by omega
      have HE1 := Lib.hid e1
      have HX : Hid (IntKind.i64.wrap ((k : Int) + 4) = (k : Int) + 4 ∧ ((k : Int) + 4).toNat = k + 4) := Lib.hid ⟨IntWalk.i64_in _ (by omega), by omega⟩
      clear e1
      by_cases hqr : q = r
      · have hh : headOf (ys.drop k) = some p := headOf_some.2 ⟨by rw [List.length_drop]; have := HPL.out; omega, by have := HPL.out; omega, by rw [← HM.out, HPL.out], by rw [HPL.out, List.drop_drop]; exact HP.out, by rw [List.drop_drop, ← HQ.out, hqr]; exact HR.out⟩
        obtain ⟨rest2, hrest⟩ : ∃ rest2, rest = p :: rest2 ∧ scanOf (ys.drop (k + 8 + m)) = rest2 := ⟨_, by rw [← HI.out.2.1, scanOf_some hh, List.drop_drop, HPL.out, Nat.add_assoc], rfl⟩
        have HNX : Hid (pre ++ [frI g off cap k p] ++ frL g off cap (k + 8 + m) rest2 = frL g off cap 0 (scanOf ys) ∧ scanOf (ys.drop (k + 8 + m)) = rest2 ∧ k + 8 + m ≤ ys.length) := Lib.hid ⟨by rw [← HI.out.1, hrest.1, ← HPL.out]; simp [frL], hrest.2, h5n⟩
        have hqr2 : ((q : Int) != (r : Int)) = false := by rw [hqr]; simp
        clear hqr hh hrest
        by_cases hc8 : cap = k + 8
        · have hm0 : Hid (m = 0) := Lib.hid (by have := HCAP.out; omega)
          have HC8 := Lib.hid hc8
          go_wp2_with (fail)
          rw [HE1.out]
          obtain ⟨x1, x3⟩ := HX.out
          have x5 := HQ1.out
          go_quiet ((first | (go_at_call 19; exact HSQ.out _ _ _ (fun h => absurd hm0.out h)) | (go_at_call 73; exact HNQ.out _ _)))
          clear x1 x3 x5
          go_upto_region 7 with (fail)
          simp only [Nat.sub_self]
          have he : encFr (frI g off cap k p) = #[.int .i64 ((k : Int) + (8 + (m : Int))), .slice (some ⟨g, off, none⟩) m 0] := by simp [frI, HPL.out, HC8.out]; omega
          obtain ⟨fn, tmps, assign, body, hy, hR⟩ := HY.out pre (frI g off cap k p) (wr.drewN nq) (HG.out _ _ _ HJ.out (below_drewN _ _ _)) ⟨_, HNX.out.1⟩
          rw [he] at hy
          have HR2 := Lib.hid hR
          clear he hR
          refine (wpIn_wide (n := 1)).1 ?_
          gi_wp2_with (first | (with_reducible refine ⟨fun f _ => wfn f, ?_⟩) | (with_reducible refine ⟨wfn _, wd _, ?_⟩) | (with_reducible refine ⟨wd _, ?_⟩) | (with_reducible refine ⟨wfn _, ?_⟩))
          refine HR2.out.mono ?_
          rintro e W2 (⟨rfl, hJ2, hk2⟩ | ⟨rfl, hx2, hk2⟩)
          · have HJ2 := Lib.hid hJ2
            have HF2 := Lib.hid ((HF.out.keep (KpF.of_below (below_drewN _ _ _))).keep hk2)
            clear hJ2 hk2
            gi_wp2_with (first | (with_reducible refine ⟨fun f _ => wfn f, ?_⟩) | (with_reducible refine ⟨wfn _, wd _, ?_⟩) | (with_reducible refine ⟨wd _, ?_⟩) | (with_reducible refine ⟨wfn _, ?_⟩))
            go_wp2_with (fail)
            go_roundw
            case rel => exact ⟨k + 8 + m, pre ++ [frI g off cap k p], rest2, by congr 1; omega, HNX, HJ2, HF2⟩
            case measure => simp [intOf]; omega
          · have HX2 := Lib.hid hx2
            clear hx2 hk2
            gi_wp2_with (first | (with_reducible refine ⟨fun f _ => wfn f, ?_⟩) | (with_reducible refine ⟨wfn _, wd _, ?_⟩) | (with_reducible refine ⟨wd _, ?_⟩) | (with_reducible refine ⟨wfn _, ?_⟩))
            go_wp2_with (fail)
            refine bodyPost_ret (results_none rfl _ _ _) rfl ?_
            exact ⟨⟨_, rfl⟩, .inr ⟨_, ⟨_, HNX.out.1⟩, HX2.out⟩⟩
        · go_wp2_with (fail)
          rw [HE1.out]
          obtain ⟨x1, x3⟩ := HX.out
          have x5 := HQ1.out
          go_quiet ((first | (go_at_call 19; exact HSQ.out _ _ _ (fun _ => rfl)) | (go_at_call 73; exact HNQ.out _ _)))
          clear x1 x3 x5
          go_upto_region 7 with (fail)
          have he : encFr (frI g off cap k p) = #[.int .i64 ((k : Int) + (8 + (m : Int))), .slice (some ⟨g, off + (k + 8), none⟩) m (cap - (k + 8))] := by simp [frI, HPL.out, hc8]; omega
          obtain ⟨fn, tmps, assign, body, hy, hR⟩ := HY.out pre (frI g off cap k p) (wr.drewN nq) (HG.out _ _ _ HJ.out (below_drewN _ _ _)) ⟨_, HNX.out.1⟩
          rw [he] at hy
          have HR2 := Lib.hid hR
          clear he hR
          refine (wpIn_wide (n := 1)).1 ?_
          gi_wp2_with (first | (with_reducible refine ⟨fun f _ => wfn f, ?_⟩) | (with_reducible refine ⟨wfn _, wd _, ?_⟩) | (with_reducible refine ⟨wd _, ?_⟩) | (with_reducible refine ⟨wfn _, ?_⟩))
          refine HR2.out.mono ?_
          rintro e W2 (⟨rfl, hJ2, hk2⟩ | ⟨rfl, hx2, hk2⟩)
          · have HJ2 := Lib.hid hJ2
            have HF2 := Lib.hid ((HF.out.keep (KpF.of_below (below_drewN _ _ _))).keep hk2)
            clear hJ2 hk2
            gi_wp2_with (first | (with_reducible refine ⟨fun f _ => wfn f, ?_⟩) | (with_reducible refine ⟨wfn _, wd _, ?_⟩) | (with_reducible refine ⟨wd _, ?_⟩) | (with_reducible refine ⟨wfn _, ?_⟩))
            go_wp2_with (fail)
            go_roundw
            case rel => exact ⟨k + 8 + m, pre ++ [frI g off cap k p], rest2, by congr 1; omega, HNX, HJ2, HF2⟩
            case measure => simp [intOf]; omega
          · have HX2 := Lib.hid hx2
            clear hx2 hk2
            gi_wp2_with (first | (with_reducible refine ⟨fun f _ => wfn f, ?_⟩) | (with_reducible refine ⟨wfn _, wd _, ?_⟩) | (with_reducible refine ⟨wd _, ?_⟩) | (with_reducible refine ⟨wfn _, ?_⟩))
            go_wp2_with (fail)
            refine bodyPost_ret (results_none rfl _ _ _) rfl ?_
            exact ⟨⟨_, rfl⟩, .inr ⟨_, ⟨_, HNX.out.1⟩, HX2.out⟩⟩
      · have HD : Hid (J (frL g off cap 0 (scanOf ys)) wr) := Lib.hid (HEND.out (by
          cases hh : headOf (ys.drop k) with
          | none => rfl
          | some p2 =>
            obtain ⟨_, _, g3, g4, g5⟩ := headOf_some.1 hh
            rw [← HM.out] at g3
            rw [← g3, List.drop_drop, ← HP.out] at g4
            subst g4
            rw [List.drop_drop, ← HR.out, ← HQ.out] at g5
            exact absurd g5 hqr))
        have hqr2 : ((q : Int) != (r : Int)) = true := by rw [bne_iff_ne]; omega
        clear hqr
        by_cases hc8 : cap = k + 8
        · have hm0 : Hid (m = 0) := Lib.hid (by have := HCAP.out; omega)
          go_wp2_with (fail)
          rw [HE1.out]
          obtain ⟨x1, x3⟩ := HX.out
          have x5 := HQ1.out
          go_quiet ((first | (go_at_call 19; exact HSQ.out _ _ _ (fun h => absurd hm0.out h)) | (go_at_call 73; exact HNQ.out _ _)))
          clear x1 x3 x5
          go_wp2_with (fail)
          refine bodyPost_ret (results_none rfl _ _ _) rfl ?_
          exact ⟨⟨_, rfl⟩, .inl (HG.out _ _ _ HD.out (below_drewN _ _ _))⟩
        · go_wp2_with (fail)
          rw [HE1.out]
          obtain ⟨x1, x3⟩ := HX.out
          have x5 := HQ1.out
          go_quiet ((first | (go_at_call 19; exact HSQ.out _ _ _ (fun _ => rfl)) | (go_at_call 73; exact HNQ.out _ _)))
          clear x1 x3 x5
          go_wp2_with (fail)
          refine bodyPost_ret (results_none rfl _ _ _) rfl ?_
          exact ⟨⟨_, rfl⟩, .inl (HG.out _ _ _ HD.out (below_drewN _ _ _))⟩
    · have h2 : ¬ ((8 : Int) ≤ (ys.length : Int) - (k : Int)) := by omega
      have HD : Hid (J (frL g off cap 0 (scanOf ys)) wr) := Lib.hid (HEND.out (by unfold headOf; rw [if_pos (by rw [List.length_drop]; omega)]))
      go_wp2_with (fail)
      go_end0
      exact ⟨⟨_, rfl⟩, .inl HD.out⟩
end
theorem iter_frames {n0 bb g off cap : Nat} {a : Option Addr} {ys : List UInt8} {W : World} (hn : ys.length ≤ 70000000) (hcap : ys.length ≤ cap) (hcm : cap ≤ 9223372036854775807) (ha : ys ≠ [] → a = some ⟨g, off, none⟩) (hW : FrW n0 bb W a cap ys W) :
    IterC Try.prog 72 #[.pointer (some ⟨bb, 0, none⟩)] encFr (KpF n0 bb) (frL g off cap 0 (scanOf ys)) W :=
  fun l J Jx W' hW' hg hr h0 => q_frames l J Jx hn hcap hcm ha (by
    have h := hW.keep (n0 := n0) (bb := bb) (KpF.of_below hW')
    exact ⟨h.box, h.bytes, h.own⟩) hg hr h0
end Go.Proofs.Ythbfkjmpaifblaa
