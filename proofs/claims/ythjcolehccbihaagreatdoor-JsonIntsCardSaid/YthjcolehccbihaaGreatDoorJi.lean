/- The walks of a JSON reader's escapes. -/
import Derived.Test.YthjcolehccbihaaGreatDoorJh
namespace Go.Proofs.YthjcolehccbihaaGreatDoor
open Go.RowKit Go.Shelf

def hexes : List UInt8 := [48, 49, 50, 51, 52, 53, 54, 55, 56, 57, 97, 98, 99, 100, 101, 102]
set_option maxRecDepth 100000 in
theorem or_byte : ∀ c : UInt8, bits .or .u8 (c.toNat : Int) 32 = (((c ||| 32 : UInt8)).toNat : Int) := by_bytesP (by decide +kernel)
/-- What the digit's place among the sixteen says. -/
def hexOk (c : UInt8) : Bool := match hexVal c with
  | none => decide (Lib.indexByte hexes (c ||| 32) < 0) || (decide (c < 48) || (decide (57 < c) && decide (c < 65)))
  | some v => decide (Lib.indexByte hexes (c ||| 32) = (v : Int)) && !decide (c < 48) && !(decide (57 < c) && decide (c < 65)) && decide (v < 16)
theorem hex_ok : ∀ c : UInt8, hexOk c = true := by_bytes (q := fun _ => true) (by decide +kernel)
section
variable {w : World} {rb : Nat} {bv : Value} {bs l : List UInt8}
def VRune (_ : World) (v : Value) (x : Nat) : Prop := v = .int .i32 (x : Int)
set_option maxRecDepth 100000 in
set_option maxHeartbeats 2000000 in
theorem j_four (pl : Nat) (h : Rdr w rb bv bs l) : Calls Tryz.prog 121 #[.pointer (some ⟨rb, 0, none⟩), .int .i64 ((bs.length - pl : Nat) : Int)] w (ROut rb bv bs w VRune (fourN pl 4 0 l)) := by
  obtain ⟨place, hplace⟩ : ∃ p : Int, p = ((bs.length - pl : Nat) : Int) := ⟨_, rfl⟩
  rw [← hplace]
  have HP := Lib.hid hplace
  obtain ⟨RES, hres⟩ : ∃ o, o = fourN pl 4 0 l := ⟨_, rfl⟩
  rw [← hres]
  have HW := Lib.hid h
  have HRES := Lib.hid hres
  clear hplace h hres
  go_enter Tryz.func121, Tryz.ntmps121
  go_wp2_with (fail)
  go_loopw [5, 8] (fun x i wx => ∃ (k y : Nat) (l' : List UInt8), k ≤ 4 ∧ i = .int .i64 (4 - (k : Int)) ∧ x = .int .i32 (y : Int) ∧ Hid (fourN pl k y l' = RES) ∧ Hid (Rdr wx rb bv bs l') ∧ Hid (Keeps (Only rb) w wx) ∧ Hid (y < 16 ^ (4 - k))) (fun _ i _ => (4 - intOf i).toNat)
  case atStart => exact ⟨4, 0, l, Nat.le_refl _, rfl, rfl, Lib.hid HRES.out.symm, HW, Lib.hid (Keeps.refl _ _), Lib.hid (by decide)⟩
  case round =>
    obtain ⟨k, y, l', hk, rfl, rfl, HE, HR, HK, HY⟩ := hrel
    cases k with
    | zero =>
      go_wp2
      go_ret
      have e := HE.out
      rw [← e]
      exact ⟨⟨_, rfl, rfl⟩, HR.out, HK.out⟩
    | succ k =>
      have hlt : (4 : Int) - ((k + 1 : Nat) : Int) < 4 := by omega
      obtain ⟨a, cap, p, hbv, hp, hpl, c0, c1, f1⟩ := HR.out.parts
      cases l' with
      | nil =>
        have ht : (((p : Nat) : Int) == ((bs.length : Nat) : Int)) = true := by simp at hpl ⊢; omega
        clear hp hpl
        go_wp2_with (fail)
        go_quiet (fail)
        go_wp2_with (fail)
        refine (j_wrong (HR.out.below (below_drewN _ _ _))).mono ?_
        rintro e w' ⟨rfl, rfl⟩
        refine leave_panic (P := Tryz.prog) (fn := Tryz.f121) rfl ?_
        rw [← HE.out]
        exact ⟨rfl, HK.out.drewN _⟩
      | cons c r =>
        subst hbv
        obtain ⟨g, off, rfl, c2⟩ := HR.out.byte hp rfl
        have ht : (((p : Nat) : Int) == ((bs.length : Nat) : Int)) = false := by simp at hpl ⊢; omega
        have hltp : (p : Int) < (bs.length : Int) := by simp at hpl; omega
        have hp1 : (p : Int) + 1 ≤ 1000000 := by have := HR.out.len; omega
        have HN : Hid (((bs.length - r.length : Nat) : Int) = (p : Int) + 1) := Lib.hid (by simp at hpl; omega)
        obtain ⟨i, hi⟩ : ∃ i, i = Lib.indexByte hexes (c ||| 32) := ⟨_, rfl⟩
        obtain ⟨d, hd⟩ : ∃ d : Int, d = (((c ||| 32 : UInt8)).toNat : Int) := ⟨_, rfl⟩
        have hor : bits .or .u8 (c.toNat : Int) 32 = d := by rw [hd]; exact or_byte c
        have HX : Hid (∀ W, Calls Tryz.prog 96 #[.string ⟨#[48, 49, 50, 51, 52, 53, 54, 55, 56, 57, 97, 98, 99, 100, 101, 102]⟩, .int .u8 d] W fun e w' => e = .returned (.int .i64 i) ∧ w' = W) := Lib.hid fun W => by
          have := Tryz.strings_IndexByte ⟨#[48, 49, 50, 51, 52, 53, 54, 55, 56, 57, 97, 98, 99, 100, 101, 102]⟩ d W
          rw [hd, toByte] at this
          rw [hi, hd]
          exact this
        have hho := hex_ok c
        unfold hexOk at hho
        rw [← hi] at hho
        have hcn : (0 : Int) ≤ (c.toNat : Int) := by omega
        have HHO := Lib.hid hho
        have HOR := Lib.hid hor
        clear hp hpl hi hd hho hor hcn hp1
        go_wp2_with (fail)
        go_quiet (fail)
        rename Nat => nq1
        go_wp2_with (fail)
        go_quiet (fail)
        obtain ⟨wd, hwd⟩ : ∃ wd, wd = (wr.drewN nq1).drewN nq := ⟨_, rfl⟩
        rw [← hwd]
        have HR2 : Hid (Rdr wd rb (.slice (some ⟨g, off, none⟩) bs.length cap) bs (c :: r)) := Lib.hid (by rw [hwd]; exact (HR.out.below (below_drewN _ _ _)).below (below_drewN _ _ _))
        have HK2 : Hid (Keeps (Only rb) w wd) := Lib.hid (by rw [hwd]; exact (HK.out.drewN _).drewN _)
        obtain ⟨-, -, p', -, hp', -, d0, d1, e1⟩ := HR2.out.parts
        have hpp : p' = p := by rw [hp']; have := HN.out; have := HR.out.len; simp at *; omega
        subst hpp
        clear hwd c0 c1 c2 f1 hp'
        have hor := HOR.out
        go_wp2_with (fail)
        refine (HX.out _).mono ?_
        rintro e w9 ⟨rfl, rfl⟩
        clear hor
        cases hx : hexVal c with
        | none =>
          have HB : Hid (RES = .bad pl 11) := Lib.hid (by rw [← HE.out]; simp [fourN, hx])
          have hcase : i < 0 ∨ (¬ i < 0 ∧ (c.toNat : Int) < 48) ∨ (¬ i < 0 ∧ ¬ (c.toNat : Int) < 48 ∧ 57 < (c.toNat : Int) ∧ (c.toNat : Int) < 65) := by
            have := HHO.out
            rw [hx] at this
            simp only [Bool.or_eq_true, Bool.and_eq_true, decide_eq_true_eq, u8lt] at this
            have e1 : (48 : UInt8).toNat = 48 := rfl
            have e2 : (57 : UInt8).toNat = 57 := rfl
            have e3 : (65 : UInt8).toNat = 65 := rfl
            rw [e1, e2, e3] at this
            omega
          clear hx
          rcases hcase with h1 | ⟨h1, h2⟩ | ⟨h1, h2, h3, h4⟩
          all_goals
            go_wp2_with (fail)
            refine (j_fail _ _ _ _).mono ?_
            rintro e w' ⟨rfl, rfl⟩
            refine leave_panic (P := Tryz.prog) (fn := Tryz.f121) rfl ?_
            rw [HB.out, HP.out]
            exact ⟨rfl, HK2.out⟩
        | some v =>
          have hcase : i = (v : Int) ∧ v < 16 ∧ ¬ (c.toNat : Int) < 48 ∧ ((¬ 57 < (c.toNat : Int)) ∨ (57 < (c.toNat : Int) ∧ ¬ (c.toNat : Int) < 65)) := by
            have := HHO.out
            rw [hx] at this
            simp only [Bool.not_eq_true', Bool.and_eq_true, Bool.and_eq_false_iff, decide_eq_true_eq, decide_eq_false_iff_not, u8lt] at this
            have e1 : (48 : UInt8).toNat = 48 := rfl
            have e2 : (57 : UInt8).toNat = 57 := rfl
            have e3 : (65 : UInt8).toNat = 65 := rfl
            rw [e1, e2, e3] at this
            omega
          have HB : Hid (fourN pl k (16 * y + v) r = RES) := Lib.hid (by rw [← HE.out]; simp [fourN, hx])
          obtain ⟨rfl, hv, h2, h3⟩ := hcase
          have hy : y ≤ 4095 := by
            have := HY.out
            have : 16 ^ (4 - (k + 1)) ≤ 16 ^ 3 := Nat.pow_le_pow_right (by decide) (by omega)
            omega
          have hv0 : ¬ (v : Int) < 0 := by omega
          have hy2 : 16 * y + v < 16 ^ (4 - k) := by
            have := HY.out
            have : 16 ^ (4 - k) = 16 * 16 ^ (4 - (k + 1)) := by rw [show 4 - k = (4 - (k + 1)) + 1 by omega, Nat.pow_succ, Nat.mul_comm]
            omega
          have HY2 := Lib.hid hy2
          have HM := Lib.hid (HR2.out.move (tailSuf HR2.out.suf) HN.out.symm)
          have hw1 : wrap64 ((p' : Int) + 1) = (p' : Int) + 1 := by have := HN.out; have := HR2.out.len; unfold wrap64; omega
          have hw2 : wrap32 (16 * (y : Int)) = 16 * (y : Int) := by unfold wrap32; omega
          have hw3 : wrap32 (16 * (y : Int) + (v : Int)) = 16 * (y : Int) + (v : Int) := by unfold wrap32; omega
          have hw4 : wrap32 (v : Int) = (v : Int) := by unfold wrap32; omega
          have HMS : Hid ((4 - (4 - ((k + 1 : Nat) : Int))).toNat = k + 1) := Lib.hid (by omega)
          have HV := Lib.hid hv
          have HYB := Lib.hid hy
          clear hx hy2 hv hy
          rcases h3 with h3 | ⟨h3, h4⟩
          all_goals
            go_wp2_with (fail)
            refine ⟨⟨k, 16 * y + v, r, by omega, congrArg _ (by omega), congrArg _ ?_, HB, HM, Lib.hid (HK2.out.trans' (keeps_set _ _ _ _)), HY2⟩, ?_⟩
            · have := HV.out; have := HYB.out; unfold wrap32; omega
            · simp only [intOf]; omega
end
end Go.Proofs.YthjcolehccbihaaGreatDoor
