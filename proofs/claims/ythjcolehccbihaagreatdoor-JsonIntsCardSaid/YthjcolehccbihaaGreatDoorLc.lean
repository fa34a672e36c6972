/- The walk of the chapter's example: first. -/
import Derived.Test.YthjcolehccbihaaGreatDoorKm
import Derived.Lib.SlBytesConst
namespace Go.Proofs.YthjcolehccbihaaGreatDoor
open Go.RowKit Go.Shelf

abbrev litObj (ys : List UInt8) : Obj := .cells (ys.map fun b => Value.int .u8 (b.toNat : Int)).toArray 5 (ys.length, ys.length + 1)
theorem lit_bytes (W : World) (ys : List UInt8) (hy : ys.length ≤ 1000) : BytesAt (W.alloc (litObj ys)) (.slice (some ⟨W.heap.size, 0, none⟩) ys.length ys.length) ys := by
  refine ⟨⟨_, _, rfl, fun j x hx => ⟨W.heap.size, 0, rfl, fun i hi => ?_⟩⟩, by omega, fun a n cap e => ?_⟩
  · have hi0 : i = 0 := by have : i < 1 := hi; omega
    subst hi0
    have hb := heap_alloc_new W (litObj ys)
    have hc : (W.alloc (litObj ys)).cell? ⟨W.heap.size, 0 + j * 1 + 0, none⟩ = ((ys.map fun b => Value.int .u8 (b.toNat : Int)).toArray)[0 + j * 1 + 0]? := by simp only [World.cell?, hb]; rw [if_neg (by simp)]
    refine hc.trans ?_
    simp [hx, byteKind]
  · injection e with e1 e2 e3
    omega
theorem lit_below (w : World) (ys : List UInt8) : Below w.heap.size w (w.alloc (litObj ys)) := (Below.refl _ _).alloc (Nat.le_refl _) _
theorem r_num (w : World) (n : Int) : Calls Tryz.prog 11 #[.int .i64 n] w fun e w' => e = .returned (.int .i64 n) ∧ w = w' := by
  go_enter Tryz.func11, Tryz.ntmps11
  go_wp2
  go_ret
  exact ⟨rfl, rfl⟩
section
variable {w : World}
theorem parse_one (ht : Tabs w) : Calls Tryz.prog 12 #[.slice (some ⟨w.heap.size, 0, none⟩) 37 37] (w.alloc (litObj exOne)) fun e w' =>
    ∃ q : RawV, e = .returned (.tuple #[.agg #[.int .i64 q.k, .string q.t, .slice q.la q.ll q.lc, .slice q.na q.nl q.nc], .int .i64 0, .int .i64 0]) ∧ Hid (JAt w' (fun g => w.heap.size ≤ g) exV q ∧ Below w.heap.size w w') := by
  have hb := lit_below w exOne
  refine (j_parse (lit_bytes w exOne (by decide)) (ht.below hb)).mono ?_
  rw [ex_one]
  rintro e w' ⟨q, rfl, hj, hb2⟩
  exact ⟨q, rfl, Lib.hid ⟨hj.mono (fun g hg => by have := hb.size; omega), hb.trans (hb2.mono hb.size)⟩⟩
theorem parse_two (ht : Tabs w) : Calls Tryz.prog 12 #[.slice (some ⟨w.heap.size, 0, none⟩) 13 13] (w.alloc (litObj exTwo)) fun e w' =>
    ∃ q : RawV, e = .returned (.tuple #[.agg #[.int .i64 q.k, .string q.t, .slice q.la q.ll q.lc, .slice q.na q.nl q.nc], .int .i64 7, .int .i64 12]) ∧ Hid (Below w.heap.size w w') := by
  have hb := lit_below w exTwo
  refine (j_parse (lit_bytes w exTwo (by decide)) (ht.below hb)).mono ?_
  obtain ⟨v, hv⟩ := ex_two
  rw [hv]
  rintro e w' ⟨q, rfl, hj, hb2⟩
  exact ⟨q, rfl, Lib.hid (hb.trans (hb2.mono hb.size))⟩
theorem exV_fit : exV.Fit := by
  simp only [exV, JV.Fit, FitAll]
  decide
theorem print_one {q : RawV} {A : Nat → Prop} (hj : JAt w A exV q) (ht : Tabs w) (hA : ∀ g, A g → g < w.heap.size) :
    Calls Tryz.prog 10 #[.agg #[.int .i64 q.k, .string q.t, .slice q.la q.ll q.lc, .slice q.na q.nl q.nc]] w fun e w' =>
      ∃ (a : Option Addr) (n cap : Nat), e = .returned (.tuple #[.slice a n cap, .int .i64 0]) ∧ Hid (BytesAt w' (.slice a n cap) exOut ∧ n = exOut.length ∧ Below w.heap.size w w') := by
  refine (j_print hj exV_fit ht hA (fun _ => by decide +kernel)).mono ?_
  rw [ex_print]
  rintro e w' ⟨hb, ⟨h, -⟩ | ⟨l, bv, h, rfl, hl⟩⟩
  · cases h
  · cases h
    obtain ⟨a, cap, rfl, -⟩ := hl.rd
    exact ⟨a, _, cap, rfl, Lib.hid ⟨hl, rfl, hb⟩⟩
set_option maxRecDepth 100000 in
set_option maxHeartbeats 4000000 in
theorem x_first (ht : Tabs w) : Calls Tryz.prog 8 #[] w fun e w' => e = .returned (.bool true) ∧ Below w.heap.size w w' := by
  have kc := fun (w : World) (C : Array Value) (n c : Nat) => Lib.run_convert_bytes_const (P := Tryz.prog) w 26 5 C n c Tryz.underlying26 Tryz.underlying5
  have HT := Lib.hid ht
  clear ht
  go_enter Tryz.func8, Tryz.ntmps8
  go_wp2_with (fail)
  refine (parse_one HT.out).mono ?_
  rintro e w1 ⟨q, rfl, HQ⟩
  obtain ⟨w2, hw2, HBX⟩ := jbox_new w1 q
  have HW2 := Lib.hid hw2
  have HB2 : Hid (Below w.heap.size w w2) := Lib.hid (HQ.out.2.trans (HBX.out.1.mono HQ.out.2.size))
  have hs2 : w2.heap.size = w1.heap.size + 1 := by rw [← hw2]; simp
  have HP := Lib.hid (print_one (HQ.out.1.lt.below HBX.out.1) (HT.out.below HB2.out) (fun g hg => by have := hg.2; omega))
  clear hw2 hs2
  go_upto_region 2 with fail
  rw [HW2.out]
  obtain ⟨⟨b0, b1, b2, b3⟩, -⟩ := jbox_cells HBX.out.2
  go_wp2_with (fail)
  refine HP.out.mono ?_
  rintro e w3 ⟨a, n, cap, rfl, HO⟩
  have HB3 : Hid (Below w.heap.size w w3) := Lib.hid (HB2.out.trans (HO.out.2.2.mono HB2.out.size))
  clear b0 b1 b2 b3 HP HW2
  go_wp2_with (fail)
  refine (parse_two (HT.out.below HB3.out)).mono ?_
  rintro e w4 ⟨q2, rfl, HQ2⟩
  obtain ⟨w5, hw5, HBX5⟩ := jbox_new w4 q2
  have HW5 := Lib.hid hw5
  have HB4 : Hid (Below w.heap.size w w4) := Lib.hid (HB3.out.trans (HQ2.out.mono HB3.out.size))
  have HB5 : Hid (Below w.heap.size w w5) := Lib.hid (HB4.out.trans (HBX5.out.1.mono HB4.out.size))
  obtain ⟨hb3, rfl, -⟩ := HO.out
  have hcv := run_text (hb3.rd.below (HQ2.out.trans (HBX5.out.1.mono HQ2.out.size)))
  clear hw5 hb3
  go_upto_region 4 with fail
  rw [HW5.out]
  clear HBX HBX5 HQ HQ2 HO
  go_wp2_with (first | (go_at_call 11; refine (r_num _ _).mono ?_; rintro e w' ⟨rfl, rfl⟩))
  go_ret
  exact ⟨rfl, HB5.out⟩
end
end Go.Proofs.YthjcolehccbihaaGreatDoor
