/- The walk of the reference's Scan. -/
import Derived.Test.YthbfkjmpaifblaaWd
namespace Go.Proofs.Ythbfkjmpaifblaa
open Go.RowKit Go.Shelf

/-- A part of bytes. -/
theorem RdAt.sub {w : World} {g off len cap q m : Nat} {ys : List UInt8} (h : RdAt byteKind w (.slice (some ⟨g, off, none⟩) len cap) ys) (hq : q + m ≤ ys.length) (a' : Option Addr) (cap' : Nat) (ha : m ≠ 0 → a' = some ⟨g, off + q, none⟩) :
    RdAt byteKind w (.slice a' m cap') ((ys.drop q).take m) := by
  have hl : ((ys.drop q).take m).length = m := by rw [List.length_take, List.length_drop]; omega
  refine ⟨a', cap', by rw [hl], fun j x hx => ?_⟩
  have hj : j < m := by have := (List.getElem?_eq_some_iff.1 hx).1; omega
  rw [List.getElem?_take_of_lt hj, List.getElem?_drop] at hx
  obtain ⟨g', off', e, hc⟩ := byte_cell h hx
  simp only [Option.some.injEq, Addr.mk.injEq, and_true] at e
  obtain ⟨rfl, rfl⟩ := e
  refine ⟨g, off + q, ha (by omega), fun i hi => ?_⟩
  have hi0 : i = 0 := by have : i < 1 := hi; omega
  subst hi0
  show w.cell? ⟨g, off + q + j * 1 + 0, none⟩ = some (.int .u8 (x.toNat : Int))
  rw [Nat.mul_one, Nat.add_zero, Nat.add_assoc]
  exact hc
/-- What was scanned so far. -/
structure ScanI (w : World) (ys : List UInt8) (pre : List (List UInt8)) (v : Value) (wr : World) : Prop where
  sc : scanOf ys = pre ++ scanOf (ys.drop (endOf pre))
  le : endOf pre ≤ ys.length
  ls : LsAt w.heap.size wr v pre
  below : Below w.heap.size w wr
theorem ScanI.done {w wr : World} {ys : List UInt8} {pre : List (List UInt8)} {v : Value} (h : ScanI w ys pre v wr) (hh : headOf (ys.drop (endOf pre)) = none) : scanOf ys = pre := by
  rw [h.sc, scanOf_none hh, List.append_nil]
theorem ScanI.step {w wr w' : World} {ys p : List UInt8} {pre : List (List UInt8)} {v v' : Value} (h : ScanI w ys pre v wr) (hh : headOf (ys.drop (endOf pre)) = some p) (hl : LsAt w.heap.size w' v' (pre ++ [p])) (hb : Below w.heap.size w w') : ScanI w ys (pre ++ [p]) v' w' := by
  have e : endOf (pre ++ [p]) = endOf pre + (8 + p.length) := by rw [endOf_append, endOf_cons]; simp [endOf]
  refine ⟨?_, ?_, hl, hb⟩
  · rw [e, ← List.drop_drop, List.append_assoc, List.singleton_append, ← scanOf_some hh]; exact h.sc
  · have := (headOf_some.1 hh).1
    rw [List.length_drop] at this
    have := h.le
    omega
/-- What Scan hands back. -/
def ScanPost (w : World) (ys : List UInt8) (e : Ending) (w' : World) : Prop :=
  ∃ v, e = .returned (.tuple #[v, .int .i64 (endOf (scanOf ys) : Int), .bool (decide (endOf (scanOf ys) = ys.length))]) ∧ LsAt w.heap.size w' v (scanOf ys) ∧ Below w.heap.size w w'
theorem ScanI.exit {w wr : World} {ys : List UInt8} {pre : List (List UInt8)} {v : Value} {k : Nat} (h : ScanI w ys pre v wr) (hd : scanOf ys = pre) (hk : k = endOf pre) : ScanPost w ys (.returned (.tuple #[v, .int .i64 (k : Int), .bool ((k : Int) == (ys.length : Int))])) wr := by
  refine ⟨v, ?_, by rw [hd]; exact h.ls, h.below⟩
  have e : ((k : Int) == (ys.length : Int)) = decide (k = ys.length) := by
    rw [Bool.eq_iff_iff, beq_iff_eq, decide_eq_true_eq]; omega
  rw [e, hd, ← hk]
theorem ScanI.exit_drew {w wr : World} {ys : List UInt8} {pre : List (List UInt8)} {v : Value} {k : Nat} (h : ScanI w ys pre v wr) (hd : scanOf ys = pre) (hk : k = endOf pre) (n : Nat) : ScanPost w ys (.returned (.tuple #[v, .int .i64 (k : Int), .bool ((k : Int) == (ys.length : Int))])) (wr.drewN n) :=
  (ScanI.mk h.sc h.le (h.ls.below (below_drewN _ _ _)) (h.below.trans ((below_drewN wr.heap.size wr n).mono h.below.size))).exit hd hk
theorem endOf_len (rs : List (List UInt8)) : 8 * rs.length ≤ endOf rs := by
  induction rs with
  | nil => simp
  | cons r rs ih => rw [endOf_cons, List.length_cons]; omega
set_option maxRecDepth 100000 in
set_option maxHeartbeats 2000000 in
theorem h_scan {w : World} {a : Option Addr} {cap : Nat} {ys : List UInt8} (hu : RdAt byteKind w (.slice a ys.length cap) ys) (hn : ys.length ≤ 70000000) (hcap : ys.length ≤ cap) (hcm : cap ≤ 9223372036854775807) :
    Calls Try.prog 14 #[.slice a ys.length cap] w (ScanPost w ys) := by
  have HU := Lib.hid hu
  have HN := Lib.hid hn
  have HCAP := Lib.hid hcap
  have hn2 : (ys.length : Int) ≤ 70000000 := by omega
  have hc2 : (ys.length : Int) ≤ (cap : Int) := by omega
  have hc3 : (cap : Int) ≤ 9223372036854775807 := by omega
  clear hn hu hcap hcm
  go_enter Try.func14, Try.ntmps14
  go_wp2_with (fail)
  go_loopw [5, 6] (fun v i wr => ∃ pre : List (List UInt8), i = .int .i64 (endOf pre : Int) ∧ Hid (ScanI w ys pre v wr)) (fun _ i _ => ys.length - (intOf i).toNat)
  case atStart => exact ⟨[], rfl, Lib.hid ⟨rfl, Nat.zero_le _, LsAt.nil _ _, Below.refl _ _⟩⟩
  case round =>
    obtain ⟨pre, rfl, HI⟩ := hrel
    have hle := HI.out.le
    have HW := Lib.hid (HU.out.below HI.out.below)
    obtain ⟨at_, hat⟩ : ∃ k, k = endOf pre := ⟨_, rfl⟩
    rw [← hat] at hle ⊢
    have HAT := Lib.hid hat
    clear hat
    have h0 : (0 : Int) ≤ (at_ : Int) := by omega
    have h1 : (at_ : Int) ≤ (ys.length : Int) := by omega
    by_cases h8 : at_ + 8 ≤ ys.length
    · have h2 : (at_ : Int) + 8 ≤ (ys.length : Int) := by omega
      obtain ⟨g, off, rfl, _⟩ := byte_cell HU.out (List.getElem?_eq_getElem (i := at_) (by omega))
      have h3 : ¬ cap = at_ := by have := HCAP.out; omega
      go_wp2_with (fail)
      refine (h_number (HW.out.sub (q := at_) (m := 4) (by omega) _ _ (fun _ => rfl)) (by rw [List.length_take]; omega)).mono ?_
      rintro e w' ⟨rfl, rfl⟩
      obtain ⟨m, hm⟩ : ∃ m, m = numOf ((ys.drop at_).take 4) := ⟨_, rfl⟩
      have hmlt : (m : Int) < 4294967296 := by have := numOf_four (xs := (ys.drop at_).take 4) (by rw [List.length_take]; omega); omega
      rw [← hm]
      have HM := Lib.hid hm
      clear hm
      by_cases hbig : (1048576 : Int) < (m : Int)
      · have HD : Hid (scanOf ys = pre) := Lib.hid (HI.out.done (by rw [← HAT.out]; unfold headOf; rw [← HM.out, if_neg (by rw [List.length_drop]; omega), if_pos (by omega)]))
        go_wp2_with (fail)
        go_ret3
        exact HI.out.exit HD.out HAT.out
      by_cases hlong : (ys.length : Int) - (at_ : Int) - 8 < (m : Int)
      · have HD : Hid (scanOf ys = pre) := Lib.hid (HI.out.done (by rw [← HAT.out]; unfold headOf; rw [← HM.out, if_neg (by rw [List.length_drop]; omega), if_pos (by rw [List.length_drop]; omega)]))
        go_wp2_with (fail)
        go_ret3
        exact HI.out.exit HD.out HAT.out
      have h4 : ¬ cap = at_ + 4 := by have := HCAP.out; omega
      have h5 : (at_ : Int) + 8 + m ≤ (ys.length : Int) := by omega
      have h5n : at_ + 8 + m ≤ ys.length := by omega
      obtain ⟨p, hp⟩ : ∃ p, p = (ys.drop (at_ + 8)).take m := ⟨_, rfl⟩
      have hpl : p.length = m := by rw [hp, List.length_take, List.length_drop]; omega
      have HSUB : Hid (∀ W a' c, Below wr.heap.size wr W → (m ≠ 0 → a' = some ⟨g, off + (at_ + 8), none⟩) → RdAt byteKind W (.slice a' m c) p) := Lib.hid fun W a' c hW ha => by rw [hp]; exact (HW.out.sub (by omega) a' c ha).below hW
      have HSQ : Hid (∀ a' c n, (m ≠ 0 → a' = some ⟨g, off + (at_ + 8), none⟩) → Calls Try.prog 20 #[.slice a' m c] (wr.drewN n) fun e w' => e = .returned (.int .u32 (sumOf p : Int)) ∧ ∃ k, w' = wr.drewN k) := Lib.hid fun a' c n ha =>
        (h_sum (HSUB.out _ a' c (below_drewN _ _ n) ha) (by have := HN.out; omega)).mono fun _ _ ⟨he, hw⟩ => ⟨he, n, hw.symm⟩
      have HNQ : Hid (∀ c n, Calls Try.prog 50 #[.slice (some ⟨g, off + (at_ + 4), none⟩) 4 c] (wr.drewN n) fun e w' => e = .returned (.int .i64 (numOf ((ys.drop (at_ + 4)).take 4) : Int)) ∧ ∃ k, w' = wr.drewN k) := Lib.hid fun c n =>
        (h_number ((HW.out.sub (q := at_ + 4) (m := 4) (by omega) _ c (fun _ => rfl)).below (below_drewN _ _ n)) (by rw [List.length_take]; omega)).mono fun _ _ ⟨he, hw⟩ => ⟨he, n, hw.symm⟩
      obtain ⟨q, hq⟩ : ∃ q, q = sumOf p := ⟨_, rfl⟩
      have HQ1 : Hid (IntKind.i64.wrap (q : Int) = (q : Int)) := Lib.hid (IntWalk.i64_in _ (by have := sumOf_lt p; omega))
      rw [← hq] at HSQ
      have HQ := Lib.hid hq
      clear hq
      have HP := Lib.hid hp
      have HPL := Lib.hid hpl
      clear hp hpl hmlt
      have e1 : at_ + 8 + m - (at_ + 8) = m := by omega
      have e2 : at_ + 8 - (at_ + 4) = 4 := by omega
      have HE1 := Lib.hid e1
      have HX : Hid (IntKind.i64.wrap ((at_ : Int) + 4) = (at_ : Int) + 4 ∧ IntKind.i64.wrap ((at_ : Int) + 8) = (at_ : Int) + 8 ∧ ((at_ : Int) + 4).toNat = at_ + 4 ∧ ((at_ : Int) + 8).toNat = at_ + 8) := Lib.hid ⟨IntWalk.i64_in _ (by omega), IntWalk.i64_in _ (by omega), by omega, by omega⟩
      clear e1
      obtain ⟨r, hr⟩ : ∃ r, r = numOf ((ys.drop (at_ + 4)).take 4) := ⟨_, rfl⟩
      rw [← hr] at HNQ
      have HR := Lib.hid hr
      clear hr
      by_cases hqr : q = r
      · have hh : headOf (ys.drop at_) = some p := headOf_some.2 ⟨by rw [List.length_drop]; have := HPL.out; omega, by have := HPL.out; omega, by rw [← HM.out, HPL.out], by rw [HPL.out, List.drop_drop]; exact HP.out, by rw [List.drop_drop, ← HQ.out, hqr]; exact HR.out⟩
        have HBY : Hid (∀ W a' c, Below wr.heap.size wr W → (m ≠ 0 → a' = some ⟨g, off + (at_ + 8), none⟩) → Calls Try.prog 48 #[.slice a' m c] W fun e w' => ∃ va vc, e = .returned (.slice va m vc) ∧ FreshAt W w' (.slice va m vc) p) := Lib.hid fun W a' c hW ha => by
          have h1 := HSUB.out W a' c hW ha
          have h2 := HPL.out
          rw [← h2] at h1 ⊢
          exact g_bytes h1 (by have := HN.out; omega)
        have HPUSH : Hid (∀ W w2 va vc, Below wr.heap.size wr W → FreshAt W w2 (.slice va m vc) p → ∃ v3 w3, (Builtin.append_ #[25, 25] 25 #[u5, .slice (some ⟨w2.heap.size, 0, none⟩) 1 1]).run Try.prog (w2.alloc (.cells #[.slice va m vc] 22)) = .ok v3 w3 ∧ Hid (ScanI w ys (pre ++ [p]) v3 w3)) := Lib.hid fun W w2 va vc hW hfr => by
          have hb2 : Below w.heap.size w w2 := (HI.out.below.trans (hW.mono HI.out.below.size)).trans (hfr.below.mono (Nat.le_trans HI.out.below.size hW.size))
          have hls : LsAt w.heap.size w2 u5 pre := (HI.out.ls.below hW).below hfr.below
          obtain ⟨v3, w3, hrun, hl, hk⟩ := hls.push (s := ⟨va, m, vc⟩) hfr.sl (fun g hg => Nat.le_trans (Nat.le_trans HI.out.below.size hW.size) (hfr.new g hg)) hb2.size (by have := endOf_len pre; have := HAT.out; omega) 25
          refine ⟨v3, w3, hrun, Lib.hid (HI.out.step (by rw [← HAT.out]; exact hh) hl (below_keeps hb2 hk (fun i e => hls.new i e) hb2.size))⟩
        have HEND : Hid (Value.int .i64 ((at_ : Int) + 8 + (m : Int)) = .int .i64 (endOf (pre ++ [p]) : Int)) := Lib.hid (by rw [endOf_append, endOf_cons, ← HAT.out, HPL.out]; simp [endOf]; omega)
        have hqr2 : ((q : Int) != (r : Int)) = false := by rw [hqr]; simp
        clear hqr hh
        by_cases hc8 : cap = at_ + 8
        · have hm0 : Hid (m = 0) := Lib.hid (by have := HCAP.out; omega)
          have HC8 := Lib.hid hc8
          go_wp2_with (fail)
          rw [HE1.out]
          obtain ⟨x1, x2, x3, x4⟩ := HX.out
          have x5 := HQ1.out
          go_quiet ((first | (go_at_call 20; exact HSQ.out _ _ _ (fun h => absurd hm0.out h)) | (go_at_call 50; exact HNQ.out _ _)))
          clear x1 x2 x3 x4 x5
          go_wp2_with (fail)
          refine (HBY.out (wr.drewN nq) _ _ (below_drewN _ _ _) (fun h => absurd hm0.out h)).mono ?_
          rintro e w2 ⟨va, vc, rfl, hfr⟩
          obtain ⟨v3, w3, hrun, HI3⟩ := HPUSH.out _ _ _ _ (below_drewN _ _ _) hfr
          clear hfr
          go_wp2_with (at_builtin; refine wpList_append_run rfl (.tmp 50) (.tmp 53) 25 rfl _ _ rfl rfl _ _ hrun ?_)
          rw [← HC8.out]
          refine ⟨?_, ?_⟩
          · repeat apply Exists.intro
            exact ⟨⟨pre ++ [p], HEND.out, HI3⟩, rfl⟩
          · simp [intOf]; omega
        · go_wp2_with (fail)
          rw [HE1.out]
          obtain ⟨x1, x2, x3, x4⟩ := HX.out
          have x5 := HQ1.out
          go_quiet ((first | (go_at_call 20; exact HSQ.out _ _ _ (fun _ => rfl)) | (go_at_call 50; exact HNQ.out _ _)))
          clear x1 x2 x3 x4 x5
          go_wp2_with (fail)
          refine (HBY.out (wr.drewN nq) _ _ (below_drewN _ _ _) (fun _ => rfl)).mono ?_
          rintro e w2 ⟨va, vc, rfl, hfr⟩
          obtain ⟨v3, w3, hrun, HI3⟩ := HPUSH.out _ _ _ _ (below_drewN _ _ _) hfr
          clear hfr
          go_wp2_with (at_builtin; refine wpList_append_run rfl (.tmp 50) (.tmp 53) 25 rfl _ _ rfl rfl _ _ hrun ?_)
          go_roundw
          case rel => exact ⟨pre ++ [p], HEND.out, HI3⟩
          case measure => simp [intOf]; omega
      · have HD : Hid (scanOf ys = pre) := Lib.hid (HI.out.done (by
          rw [← HAT.out]
          cases hh : headOf (ys.drop at_) with
          | none => rfl
          | some p2 =>
            obtain ⟨_, _, g3, g4, g5⟩ := headOf_some.1 hh
            rw [← HM.out] at g3
            rw [← g3, List.drop_drop, ← HP.out] at g4
            subst g4
            rw [List.drop_drop, ← HR.out, ← HQ.out] at g5
            exact absurd g5 hqr))
        have hqr2 : ((q : Int) != (r : Int)) = true := by rw [bne_iff_ne]; omega
        clear hqr
        by_cases hc8 : cap = at_ + 8
        · have hm0 : Hid (m = 0) := Lib.hid (by have := HCAP.out; omega)
          have HC8 := Lib.hid hc8
          go_wp2_with (fail)
          rw [HE1.out]
          obtain ⟨x1, x2, x3, x4⟩ := HX.out
          have x5 := HQ1.out
          go_quiet ((first | (go_at_call 20; exact HSQ.out _ _ _ (fun h => absurd hm0.out h)) | (go_at_call 50; exact HNQ.out _ _)))
          clear x1 x2 x3 x4 x5
          go_wp2_with (fail)
          go_ret3
          exact HI.out.exit_drew HD.out HAT.out nq
        · go_wp2_with (fail)
          rw [HE1.out]
          obtain ⟨x1, x2, x3, x4⟩ := HX.out
          have x5 := HQ1.out
          go_quiet ((first | (go_at_call 20; exact HSQ.out _ _ _ (fun _ => rfl)) | (go_at_call 50; exact HNQ.out _ _)))
          clear x1 x2 x3 x4 x5
          go_wp2_with (fail)
          go_ret3
          exact HI.out.exit_drew HD.out HAT.out nq
    · have h2 : ¬ ((8 : Int) ≤ (ys.length : Int) - (at_ : Int)) := by omega
      have HD : Hid (scanOf ys = pre) := Lib.hid (HI.out.done (by rw [← HAT.out]; unfold headOf; rw [if_pos (by rw [List.length_drop]; omega)]))
      go_wp2_with (fail)
      go_ret3
      exact HI.out.exit HD.out HAT.out
end Go.Proofs.Ythbfkjmpaifblaa
