/- The walk of Quote. -/
import Derived.Test.YthjcolehccbihaaGreatDoorz25
namespace Go.Proofs.YthjcolehccbihaaGreatDoor
open Go.RowKit Go.Shelf
theorem cells_app (l m : List UInt8) : Lib.byteCells (l ++ m) = Lib.byteCells l ++ Lib.byteCells m := by simp [Lib.byteCells]
/-- A builder of the walk's own, that holds these bytes. -/
structure QuoI (w W : World) (l : List UInt8) : Prop where
  bld : Lib.IsBuilder 77 5 w.heap.size w.heap.size (Lib.byteCells l) W
  below : Below w.heap.size w W
theorem QuoI.byte {w W : World} {l : List UInt8} (h : QuoI w W l) (c : UInt8) (hl : l.length ≤ 1000000000) : Calls Tryz.prog 56 #[.pointer (some ⟨w.heap.size, 0, none⟩), .int .u8 (c.toNat : Int)] W fun e W' => e = .returned .nilIface ∧ QuoI w W' (l ++ [c]) := by
  refine (b_writeByte (.inl rfl) (c.toNat : Int) h.bld (by rw [Lib.byteCells_length]; exact hl) h.below.size).mono ?_
  rintro e W' ⟨rfl, h1, h2, _⟩
  exact ⟨rfl, ⟨by rw [cells_app]; exact h1, h.below.trans h2⟩⟩
theorem QuoI.text {w W : World} {l : List UInt8} (h : QuoI w W l) (s : ByteArray) (hl : l.length + s.size ≤ 1000000000) : Calls Tryz.prog 57 #[.pointer (some ⟨w.heap.size, 0, none⟩), .string s] W fun e W' => e = .returned (.tuple #[.int .i64 (s.size : Int), .nilIface]) ∧ QuoI w W' (l ++ raw s) := by
  refine (b_writeString (.inl rfl) s h.bld (by rw [Lib.byteCells_length]; exact hl) h.below.size).mono ?_
  rintro e W' ⟨rfl, h1, h2, _⟩
  exact ⟨rfl, ⟨by rw [cells_app]; exact h1, h.below.trans h2⟩⟩
theorem quote_room (l : List UInt8) : (l.flatMap quoteByte).length ≤ 6 * l.length := by
  induction l with
  | nil => simp
  | cons c l ih =>
    have : (quoteByte c).length ≤ 6 := by unfold quoteByte; split; simp; split <;> simp
    simp only [List.flatMap_cons, List.length_append, List.length_cons]
    omega
theorem ctl_all (c : UInt8) (h : c < 32 ∨ c = 127) : c = 0 ∨ c = 1 ∨ c = 2 ∨ c = 3 ∨ c = 4 ∨ c = 5 ∨ c = 6 ∨ c = 7 ∨ c = 8 ∨ c = 9 ∨ c = 10 ∨ c = 11 ∨ c = 12 ∨ c = 13 ∨ c = 14 ∨ c = 15 ∨ c = 16 ∨ c = 17 ∨ c = 18 ∨ c = 19 ∨ c = 20 ∨ c = 21 ∨ c = 22 ∨ c = 23 ∨ c = 24 ∨ c = 25 ∨ c = 26 ∨ c = 27 ∨ c = 28 ∨ c = 29 ∨ c = 30 ∨ c = 31 ∨ c = 127 := by
  revert h
  exact by_bytesP (p := fun c => (c < 32 ∨ c = 127) → (c = 0 ∨ c = 1 ∨ c = 2 ∨ c = 3 ∨ c = 4 ∨ c = 5 ∨ c = 6 ∨ c = 7 ∨ c = 8 ∨ c = 9 ∨ c = 10 ∨ c = 11 ∨ c = 12 ∨ c = 13 ∨ c = 14 ∨ c = 15 ∨ c = 16 ∨ c = 17 ∨ c = 18 ∨ c = 19 ∨ c = 20 ∨ c = 21 ∨ c = 22 ∨ c = 23 ∨ c = 24 ∨ c = 25 ∨ c = 26 ∨ c = 27 ∨ c = 28 ∨ c = 29 ∨ c = 30 ∨ c = 31 ∨ c = 127)) (by decide +kernel) c
section
variable {w : World}
set_option maxRecDepth 100000 in
set_option maxHeartbeats 80000000 in
theorem j_quote (s : ByteArray) (hs : s.size ≤ 1000000) : Calls Tryz.prog 28 #[.string s] w fun e w' => e = .returned (.string (str (quote (raw s)))) ∧ Below w.heap.size w w' := by
  obtain ⟨w1, hw1⟩ : ∃ x, w.alloc (.cells #[.pointer none, .slice none 0 0] 77) = x := ⟨_, rfl⟩
  have HQ1 : Hid (QuoI w w1 []) := Lib.hid ⟨.inl ⟨Nat.le_refl _, .slice none 0 0, by rw [← hw1]; exact blk_new _ _, ⟨rfl, .inl ⟨rfl, rfl⟩⟩, by simp [Value.ownBlock]⟩, by rw [← hw1]; exact (Below.refl _ _).alloc (Nat.le_refl _) _⟩
  have HW1 := Lib.hid hw1
  have HS := Lib.hid hs
  clear hw1 hs
  go_enter Tryz.func28, Tryz.ntmps28
  go_upto_region 2 with (fail)
  rw [HW1.out]
  have HB := Lib.hid (HQ1.out.byte 34 (by simp))
  go_wp2_with (fail)
  refine HB.out.mono ?_
  rintro e w2 ⟨rfl, hq2⟩
  have HQ2 : Hid (QuoI w w2 (34 :: ((raw s).take 0).flatMap quoteByte)) := Lib.hid (by simpa using hq2)
  clear hq2 HB HQ1 HW1
  go_wp2_with (fail)
  go_loopg [4] (s.size + 1) (fun gk v wx => ∃ i : Nat, gk = s.size - i + 1 ∧ i ≤ s.size ∧ v = .int .i64 (i : Int) ∧ Hid (QuoI w wx (34 :: ((raw s).take i).flatMap quoteByte)))
  case atStart => exact ⟨0, rfl, Nat.zero_le _, rfl, HQ2⟩
  case round =>
    obtain ⟨i, rfl, hi, rfl, HQ⟩ := hrel
    by_cases hlt : i < s.size
    · have hlt2 : (i : Int) < (s.size : Int) := by omega
      have hlt3 : decide (i < s.size) = true := by simpa using hlt
      have hw64 : wrap64 ((i : Int) + 1) = (i : Int) + 1 := by have := HS.out; unfold wrap64; omega
      obtain ⟨c, hc⟩ : ∃ c, s[i]'hlt = c := ⟨_, rfl⟩
      have HC : Hid (((raw s).take (i + 1)).flatMap quoteByte = ((raw s).take i).flatMap quoteByte ++ quoteByte c) := Lib.hid (by
        have : (raw s)[i]? = some c := by
          rw [List.getElem?_eq_getElem (show i < (raw s).length from hlt), ← hc]
          rfl
        rw [List.take_add_one, this, List.flatMap_append]
        simp)
      have HLEN : Hid ((34 :: ((raw s).take i).flatMap quoteByte).length ≤ 10000000) := Lib.hid (by
        have h1 := quote_room ((raw s).take i)
        have h2 : ((raw s).take i).length ≤ s.size := by rw [List.length_take]; exact Nat.min_le_right _ _
        have := HS.out
        simp only [List.length_cons]
        omega)
      have HL := Lib.hid hlt
      obtain ⟨cont, hcont⟩ : ∃ x, x = 34 :: ((raw s).take i).flatMap quoteByte := ⟨_, rfl⟩
      rw [← hcont] at HQ HLEN
      have HNX : Hid (cont ++ quoteByte c = 34 :: ((raw s).take (i + 1)).flatMap quoteByte) := Lib.hid (by rw [HC.out, hcont]; rfl)
      clear hcont HC hi
      go_upto_region 8 with (fail)
      clear hc
      by_cases h1 : c = 34 ∨ c = 92
      · have HQB : Hid (quoteByte c = [92, c]) := Lib.hid (by unfold quoteByte; rw [if_pos h1])
        rcases h1 with rfl | rfl
        · go_wp2_with (fail)
          refine (HQ.out.byte 92 (by have := HLEN.out; omega)).mono ?_
          rintro e w3 ⟨rfl, hq3⟩
          have HQ3 := Lib.hid hq3
          clear hq3
          go_wp2_with (fail)
          refine (HQ3.out.byte 34 (by have := HLEN.out; simp; omega)).mono ?_
          rintro e w4 ⟨rfl, hq4⟩
          have HQ4 := Lib.hid hq4
          clear hq4
          go_wp2_with (fail)
          go_roundg (s.size - (i + 1) + 1)
          case measure => have := HL.out; omega
          case rel => exact ⟨i + 1, rfl, HL.out, by rw [hw64]; rfl, Lib.hid (by rw [← HNX.out, HQB.out]; have := HQ4.out; rw [List.append_assoc] at this; exact this)⟩
        · go_wp2_with (fail)
          refine (HQ.out.byte 92 (by have := HLEN.out; omega)).mono ?_
          rintro e w3 ⟨rfl, hq3⟩
          have HQ3 := Lib.hid hq3
          clear hq3
          go_wp2_with (fail)
          refine (HQ3.out.byte 92 (by have := HLEN.out; simp; omega)).mono ?_
          rintro e w4 ⟨rfl, hq4⟩
          have HQ4 := Lib.hid hq4
          clear hq4
          go_wp2_with (fail)
          go_roundg (s.size - (i + 1) + 1)
          case measure => have := HL.out; omega
          case rel => exact ⟨i + 1, rfl, HL.out, by rw [hw64]; rfl, Lib.hid (by rw [← HNX.out, HQB.out]; have := HQ4.out; rw [List.append_assoc] at this; exact this)⟩
      by_cases h2 : c < 32 ∨ c = 127
      · have HQB : Hid (quoteByte c = [92, 117, 48, 48, hexChar (c.toNat / 16), hexChar (c.toNat % 16)]) := Lib.hid (by unfold quoteByte; rw [if_neg h1, if_pos h2])
        clear h1
        have e0 : IntKind.u8.wrap 0 = 0 := by decide
        have e1 : IntKind.u8.wrap 1 = 1 := by decide
        have e2 : IntKind.u8.wrap 2 = 2 := by decide
        have e3 : IntKind.u8.wrap 3 = 3 := by decide
        have e4 : IntKind.u8.wrap 4 = 4 := by decide
        have e5 : IntKind.u8.wrap 5 = 5 := by decide
        have e6 : IntKind.u8.wrap 6 = 6 := by decide
        have e7 : IntKind.u8.wrap 7 = 7 := by decide
        have e8 : IntKind.u8.wrap 8 = 8 := by decide
        have e9 : IntKind.u8.wrap 9 = 9 := by decide
        have e10 : IntKind.u8.wrap 10 = 10 := by decide
        have e11 : IntKind.u8.wrap 11 = 11 := by decide
        have e12 : IntKind.u8.wrap 12 = 12 := by decide
        have e13 : IntKind.u8.wrap 13 = 13 := by decide
        have e14 : IntKind.u8.wrap 14 = 14 := by decide
        have e15 : IntKind.u8.wrap 15 = 15 := by decide
        have e16 : IntKind.u8.wrap 16 = 16 := by decide
        have HQD : Hid (QuoI w wr.drew cont) := Lib.hid ⟨by
          rcases HQ.out.bld with h | h
          · exact .inl h
          · exact .inr h, HQ.out.below.drew⟩
        have hall : c = 0 ∨ c = 1 ∨ c = 2 ∨ c = 3 ∨ c = 4 ∨ c = 5 ∨ c = 6 ∨ c = 7 ∨ c = 8 ∨ c = 9 ∨ c = 10 ∨ c = 11 ∨ c = 12 ∨ c = 13 ∨ c = 14 ∨ c = 15 ∨ c = 16 ∨ c = 17 ∨ c = 18 ∨ c = 19 ∨ c = 20 ∨ c = 21 ∨ c = 22 ∨ c = 23 ∨ c = 24 ∨ c = 25 ∨ c = 26 ∨ c = 27 ∨ c = 28 ∨ c = 29 ∨ c = 30 ∨ c = 31 ∨ c = 127 := ctl_all c h2
        clear h2
        rcases hall with rfl | rfl | rfl | rfl | rfl | rfl | rfl | rfl | rfl | rfl | rfl | rfl | rfl | rfl | rfl | rfl | rfl | rfl | rfl | rfl | rfl | rfl | rfl | rfl | rfl | rfl | rfl | rfl | rfl | rfl | rfl | rfl | rfl
        all_goals
          go_upto_region 12 with (fail)
          go_region_law (first
            | (go_simp; go_at_call 57; refine (HQD.out.text _ (by have := HLEN.out; have : (10 : Nat) ≤ 10 := Nat.le_refl _; exact Nat.le_trans (Nat.add_le_add_right HLEN.out _) (by decide))).mono ?_; rintro e w3 ⟨rfl, hq3⟩))
          all_goals
            have HQ3 := Lib.hid hq3
            clear hq3
            go_wp2_with (fail)
            go_roundg (s.size - (i + 1) + 1)
            case measure => have := HL.out; omega
            case rel => exact ⟨i + 1, rfl, HL.out, by rw [hw64]; rfl, Lib.hid (by rw [← HNX.out, HQB.out]; exact HQ3.out)⟩
      · have hq : quoteByte c = [c] := by unfold quoteByte; rw [if_neg h1, if_neg h2]
        have HQB := Lib.hid hq
        obtain ⟨cv, hcv⟩ : ∃ x : Int, x = (c.toNat : Int) := ⟨_, rfl⟩
        have t1 : (cv == 34) = false := by
          have : c.toNat ≠ 34 := fun e => h1 (.inl (UInt8.toNat_inj.1 e))
          rw [hcv]; simp; omega
        have t2 : (cv == 92) = false := by
          have : c.toNat ≠ 92 := fun e => h1 (.inr (UInt8.toNat_inj.1 e))
          rw [hcv]; simp; omega
        have t3 : decide (cv < 32) = false := by
          have : ¬ c.toNat < 32 := fun e => h2 (.inl (UInt8.lt_iff_toNat_lt.2 e))
          rw [hcv]; simp; omega
        have t4 : (cv == 127) = false := by
          have : c.toNat ≠ 127 := fun e => h2 (.inr (UInt8.toNat_inj.1 e))
          rw [hcv]; simp; omega
        have HB := Lib.hid (HQ.out.byte c (by have := HLEN.out; omega))
        rw [← hcv] at HB
        rw [← hcv]
        clear h1 h2 hq hcv
        go_wp2_with (fail)
        refine HB.out.mono ?_
        rintro e w3 ⟨rfl, hq3⟩
        have HQ3 := Lib.hid hq3
        clear hq3
        go_wp2_with (fail)
        go_roundg (s.size - (i + 1) + 1)
        case measure => have := HL.out; omega
        case rel => exact ⟨i + 1, rfl, HL.out, by rw [hw64]; rfl, Lib.hid (by rw [← HNX.out, HQB.out]; exact HQ3.out)⟩
    · have hlt3 : decide (i < s.size) = false := by simpa using hlt
      have HEND : Hid (QuoI w wr (34 :: (raw s).flatMap quoteByte)) := Lib.hid (by
        have := HQ.out
        rw [List.take_of_length_le (show (raw s).length ≤ i from by show s.size ≤ i; omega)] at this
        exact this)
      have HLEN : Hid ((34 :: (raw s).flatMap quoteByte).length ≤ 10000000) := Lib.hid (by
        have h1 := quote_room (raw s)
        have h2 : (raw s).length = s.size := rfl
        have := HS.out
        simp only [List.length_cons]
        omega)
      have HB := Lib.hid (HEND.out.byte 34 (by have := HLEN.out; omega))
      clear hlt hi HQ
      go_wp2_with (fail)
      refine HB.out.mono ?_
      rintro e w3 ⟨rfl, hq3⟩
      have HQ3 := Lib.hid hq3
      clear hq3
      have HST := Lib.hid (b_string HQ3.out.bld (by simp))
      go_wp2_with (fail)
      refine HST.out.mono ?_
      rintro e w4 ⟨rfl, hb4⟩
      have HB4 := Lib.hid hb4
      clear hb4
      go_wp2_with (fail)
      go_ret
      exact ⟨rfl, HQ3.out.below.trans HB4.out⟩
end
end Go.Proofs.YthjcolehccbihaaGreatDoor
