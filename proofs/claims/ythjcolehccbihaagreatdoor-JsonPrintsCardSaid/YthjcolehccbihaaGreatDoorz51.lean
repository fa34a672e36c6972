/- The walk of the statement JsonQuotes. -/
import Derived.Test.YthjcolehccbihaaGreatDoorz30
import Derived.Test.YthjcolehccbihaaGreatDoorz48
import Derived.Test.YthjcolehccbihaaGreatDoorz38
import Derived.Test.YthjcolehccbihaaGreatDoorz50
namespace Go.Proofs.YthjcolehccbihaaGreatDoor
open Go.RowKit Go.Shelf
section
variable {w : World}
set_option maxRecDepth 100000 in
theorem j_ofText (s : ByteArray) : Calls Tryz.prog 27 #[.string s] w fun e w' => e = .returned (.agg #[.int .i64 4, .string s, .slice none 0 0, .slice none 0 0]) ∧ Below w.heap.size w w' := by
  obtain ⟨w1, hw1, HBX⟩ := jbox_zero w
  have HW1 := Lib.hid hw1
  obtain ⟨⟨b0, b1, b2, b3⟩, z0, z1, z2, z3⟩ := jbox_cells HBX.out.2
  clear hw1
  go_enter Tryz.func27, Tryz.ntmps27
  go_upto_region 1 with (fail)
  rw [show w.alloc (.cells #[.int .i64 0, .string ⟨#[]⟩, .slice none 0 0, .slice none 0 0] 25) = w1 from HW1.out]
  go_wp2_with (fail)
  have hk := keeps4 w1 w.heap.size (.int .i64 4) (.string s) (.slice none 0 0) (.slice none 0 0)
  exact bodyPost_ret (v := (⟨4, s, none, 0, 0, none, 0, 0⟩ : RawV).val) (jres_cell rfl (jbox_set HBX.out.2 ⟨4, s, none, 0, 0, none, 0, 0⟩) _ rfl) rfl ⟨rfl, below_keeps HBX.out.1 hk (fun i e => by have e : i = w.heap.size := e; omega) HBX.out.1.size⟩
end
end Go.Proofs.YthjcolehccbihaaGreatDoor
set_option linter.unusedSimpArgs false
set_option linter.unusedVariables false
namespace Go.Proofs.YthjcolehccbihaaGreatDoor
open Go.RowKit Go.Shelf
/-- A value in its box. -/
structure HasX (w wr : World) (xb : Nat) (q : RawV) (v : JV) : Prop where
  box : JBox wr xb q
  val : JAt wr (fun _ => True) v q
  below : Below w.heap.size w wr
theorem HasX.on {w wr wy : World} {xb : Nat} {q : RawV} {v : JV} (h : HasX w wr xb q v) (hb : Below wr.heap.size wr wy) : HasX w wy xb q v := ⟨jbox_below h.box hb, h.val.below hb, h.below.trans (hb.mono h.below.size)⟩
section
variable {w : World}
theorem small_200 {v : JV} {q : RawV} {A : Nat → Prop} (hz : v.Sz) (hj : JAt w A v q) :
    Calls Tryz.prog 9 #[.agg #[.int .i64 q.k, .string q.t, .slice q.la q.ll q.lc, .slice q.na q.nl q.nc], .int .i64 200] w fun e w' => e = .returned (.int .i64 (smallJ v 200 : Int)) ∧ Below w.heap.size w w' :=
  j_small v q w A 200 hz hj (by decide)
end
end Go.Proofs.YthjcolehccbihaaGreatDoor
set_option linter.unusedSimpArgs false
set_option linter.unusedVariables false
set_option linter.unusedSectionVars false
namespace Go.Proofs.YthjcolehccbihaaGreatDoor
open Go.RowKit Go.Shelf
section
variable {w : World}
theorem ofInt_fit {n : Int} (h0 : -9223372036854775808 ≤ n) (h1 : n ≤ 9223372036854775807) : (ofInt n).Fit := by
  have h := itoa_small n h0 h1
  unfold ofInt
  simp only [JV.Fit, FitAll]
  have hz : (str (Lib.itoa n)).size = (Lib.itoa n).length := by show (Lib.itoa n).toArray.size = _; rw [List.size_toArray]
  exact ⟨by omega, by simp, by simp, by simp, trivial⟩
theorem x_bigText {w : World} (n : Int) (h0 : -9223372036854775808 ≤ n) (h1 : n ≤ 9223372036854775807) {a : Option Addr} {cap m B : Nat} (h : IntRow w B (.slice a m cap) (chunks n.natAbs m)) (hT : Top n.natAbs m) (hm : m ≤ 5) :
    Calls Tryz.prog 21 #[.agg #[.bool (decide (n < 0)), .slice a m cap]] w fun e w' => e = .returned (.string (str (Lib.itoa n))) ∧ Below w.heap.size w w' := by
  rw [itoa_text]
  have hneg : decide (n < 0) = true → n.natAbs ≠ 0 := fun e => by
    have : n < 0 := by simpa using e
    omega
  have := r_bigText (w := w) (neg := decide (n < 0)) h hT (by omega) hneg (by omega)
  simpa using this
end
end Go.Proofs.YthjcolehccbihaaGreatDoor
set_option linter.unusedSectionVars false
set_option linter.unusedSimpArgs false
set_option linter.unusedVariables false
namespace Go.Proofs.YthjcolehccbihaaGreatDoor
open Go.RowKit Go.Shelf
/-- What the two Prints hand back, one form. -/
theorem printed_rd {w : World} {r : Option (List UInt8) × Nat} {e : Ending} {w' : World} (h : PrintedTo w r e w') : ∃ bv, e = .returned (.tuple #[bv, .int .i64 (r.2 : Int)]) ∧ Hid (Below w.heap.size w w' ∧ RdAt byteKind w' bv (r.1.getD [])) := by
  obtain ⟨hb, h⟩ := h
  rcases h with ⟨h1, rfl⟩ | ⟨l, bv, h1, rfl, h3⟩
  · exact ⟨_, rfl, Lib.hid ⟨hb, by rw [h1]; exact rdNil _ _⟩⟩
  · exact ⟨bv, rfl, Lib.hid ⟨hb, by rw [h1]; exact h3.rd⟩⟩
theorem print_size (v : JV) (h : (lay v).length ≤ 1000000) : ((print v).1.getD []).length ≤ 1000000 := by
  unfold print
  split
  · simp
  · split
    · simp
    · exact h
/-- A document's value in its box. -/
structure KX (wr : World) (zb : Nat) (p : RawV) (v : JV) : Prop where
  box : KBox wr zb p
  val : JAt wr (fun _ => True) v p
theorem KX.on {wr wy : World} {zb : Nat} {p : RawV} {v : JV} (h : KX wr zb p v) (hb : Below wr.heap.size wr wy) : KX wy zb p v := ⟨kbox_below h.box hb, h.val.below hb⟩
/-- A program's value in its box. -/
structure JX (wr : World) (zb : Nat) (p : RawV) (v : JV) : Prop where
  box : JBox wr zb p
  val : JAt wr (fun _ => True) v p
theorem JX.on {wr wy : World} {zb : Nat} {p : RawV} {v : JV} (h : JX wr zb p v) (hb : Below wr.heap.size wr wy) : JX wy zb p v := ⟨jbox_below h.box hb, h.val.below hb⟩
theorem zero_at (w : World) (A : Nat → Prop) : JAt w A JV.zero raw0 := JAt.plain w A 0 ⟨#[]⟩
theorem zero_fit : JV.zero.Fit := by unfold JV.zero; simp only [JV.Fit, FitAll]; exact ⟨by decide, by simp, by simp, by simp, trivial⟩
/-- What the two Gets hand back. -/
theorem get_pair (v : JV) (hf : v.Fit) (s : ByteArray) : ∃ (x : JV) (b : Bool), x.Fit ∧
    (∀ (w : World) (q : RawV) (A : Nat → Prop), JAt w A v q → Calls Tryz.prog 18 #[.agg #[.int .i64 q.k, .string q.t, .slice q.la q.ll q.lc, .slice q.na q.nl q.nc], .string s] w fun e w' => ∃ r : RawV, e = .returned (.tuple #[.agg #[.int .i64 r.k, .string r.t, .slice r.la r.ll r.lc, .slice r.na r.nl r.nc], .bool b]) ∧ Hid (JAt w' (fun _ => True) x r ∧ Below w.heap.size w w')) ∧
    (∀ (w : World) (q : RawV) (A : Nat → Prop), JAt w A v q → Calls Tryz.prog 25 #[.agg #[.int .i64 q.k, .string q.t, .slice q.la q.ll q.lc, .slice q.na q.nl q.nc], .string s] w fun e w' => ∃ r : RawV, e = .returned (.tuple #[.agg #[.int .i64 r.k, .string r.t, .slice r.la r.ll r.lc, .slice r.na r.nl r.nc], .bool b]) ∧ Hid (JAt w' (fun _ => True) x r ∧ Below w.heap.size w w')) := by
  obtain ⟨k, t, l, ns⟩ := v
  have hf2 := hf
  simp only [JV.Fit] at hf2
  by_cases hP : ∃ (j : Nat) (x : JV), FirstAt ns s j ∧ k = 6 ∧ l[j]? = some x
  · obtain ⟨j, x, h1, h2, h3⟩ := hP
    refine ⟨x, true, FitAll.mem hf2.2.2.2.2 x (List.mem_of_getElem? h3), fun w q A hq => ?_, fun w q A hq => ?_⟩
    · refine (j_get hf hq s).mono ?_
      rintro e w' (⟨rfl, H⟩ | ⟨j', x', r, rfl, H⟩)
      · have := H.out.1 j h1 h2
        have := (List.getElem?_eq_some_iff.1 h3).1
        omega
      · obtain ⟨-, f1, f2, f3, f4⟩ := H.out
        have e1 := first_unique f1 h1
        subst e1
        rw [h3] at f2
        cases f2
        exact ⟨r, rfl, Lib.hid ⟨f3.mono fun _ _ => trivial, f4⟩⟩
    · refine (k_get hf (fun g h => h.2) hq.lt s).mono ?_
      rintro e w' (⟨rfl, H⟩ | ⟨j', x', r, rfl, H⟩)
      · have := H.out.1 j h1 h2
        have := (List.getElem?_eq_some_iff.1 h3).1
        omega
      · obtain ⟨-, f1, f2, f3, f4⟩ := H.out
        have e1 := first_unique f1 h1
        subst e1
        rw [h3] at f2
        cases f2
        exact ⟨r, rfl, Lib.hid ⟨f3.mono fun _ _ => trivial, f4⟩⟩
  · refine ⟨JV.zero, false, zero_fit, fun w q A hq => ?_, fun w q A hq => ?_⟩
    · refine (j_get hf hq s).mono ?_
      rintro e w' (⟨rfl, H⟩ | ⟨j', x', r, rfl, H⟩)
      · exact ⟨raw0, rfl, Lib.hid ⟨zero_at _ _, H.out.2⟩⟩
      · exact absurd ⟨j', x', H.out.2.1, H.out.1, H.out.2.2.1⟩ hP
    · refine (k_get hf (fun g h => h.2) hq.lt s).mono ?_
      rintro e w' (⟨rfl, H⟩ | ⟨j', x', r, rfl, H⟩)
      · exact ⟨raw0, rfl, Lib.hid ⟨zero_at _ _, H.out.2⟩⟩
      · exact absurd ⟨j', x', H.out.2.1, H.out.1, H.out.2.2.1⟩ hP
theorem ofText_fit {s : ByteArray} (h : s.size ≤ 4000) : (JV.mk 4 s [] []).Fit := by
  simp only [JV.Fit, FitAll]
  exact ⟨by omega, by simp, by simp, by simp, trivial⟩
section
variable {w : World}
/-- A number and a text made: the same as the document's. -/
theorem same_number (w : World) {n : Int} (h0 : -9223372036854775808 ≤ n) (h1 : n ≤ 9223372036854775807) : Calls Tryz.prog 15 #[.agg #[.int .i64 3, .string (str (Lib.itoa n)), .slice none 0 0, .slice none 0 0], .agg #[.int .i64 3, .string (str (Lib.itoa n)), .slice none 0 0, .slice none 0 0]] w fun e w' => e = .returned (.bool true) ∧ Below w.heap.size w w' :=
  j_jsame (.mk 3 (str (Lib.itoa n)) [] []) (rawOf 3 _) (rawOf 3 _) w (fun _ => True) (fun _ => True) (ofInt_fit h0 h1) (JAt.plain _ _ _ _) (JAt.plain _ _ _ _)
theorem same_text (w : World) {s : ByteArray} (h : s.size ≤ 4000) : Calls Tryz.prog 15 #[.agg #[.int .i64 4, .string s, .slice none 0 0, .slice none 0 0], .agg #[.int .i64 4, .string s, .slice none 0 0, .slice none 0 0]] w fun e w' => e = .returned (.bool true) ∧ Below w.heap.size w w' :=
  j_jsame (.mk 4 s [] []) (rawOf 4 _) (rawOf 4 _) w (fun _ => True) (fun _ => True) (ofText_fit h) (JAt.plain _ _ _ _) (JAt.plain _ _ _ _)
end
end Go.Proofs.YthjcolehccbihaaGreatDoor
