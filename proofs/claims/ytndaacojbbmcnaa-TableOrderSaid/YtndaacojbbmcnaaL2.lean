/- The statements' first look at a table, walked. -/
import Derived.Test.YtndaacojbbmcnaaT6
import Derived.Test.YtndaacojbbmcnaaL1
namespace Go.Proofs.Ytndaacojbbmcnaa
open Go.RowKit

abbrev kA : ByteArray := { data := #[97] }
abbrev kB : ByteArray := { data := #[98] }
theorem sAA : slt kA kA = false := slt_ord.irr _
theorem sBB : slt kB kB = false := slt_ord.irr _
theorem sAB : slt kA kB = true := by unfold slt; rw [ByteArray.toList_eq, ByteArray.toList_eq]; decide
theorem sBA : slt kB kA = false := slt_ord.asymm sAB
def tr2 : Tr ByteArray Int := .node kB 2 (.node kA 1 .leaf .leaf) .leaf
def tr3 : Tr ByteArray Int := .node kB 3 (.node kA 1 .leaf .leaf) .leaf
def tr4 : Tr ByteArray Int := .node kB 3 .leaf .leaf
theorem e1 : (Tr.leaf : Tr ByteArray Int).put slt kB 2 = .node kB 2 .leaf .leaf := rfl
theorem e2 : (Tr.node kB 2 .leaf .leaf : Tr ByteArray Int).put slt kA 1 = tr2 := by
  simp [Tr.put, sAB, Tr.even, Tr.tall, tr2]
theorem e3 : tr2.put slt kB 3 = tr3 := by simp [tr2, tr3, Tr.put, sBB]
theorem e4 : delT tr3 kA = tr4 := by
  simp [delT, tr3, tr4, Tr.get, sAB, sAA, Tr.drop, Tr.even, Tr.tall]
theorem e5 : delT tr4 kA = tr4 := by simp [delT, tr4, Tr.get, sAB]
theorem g3 : (tr3.get slt kA).isSome = true := by simp [tr3, Tr.get, sAB, sAA]
theorem g4 : (tr4.get slt kA).isSome = false := by simp [tr4, Tr.get, sAB]
theorem g5 : tr4.get slt kB = some 3 := by simp [tr4, Tr.get, sBB]
theorem g6 : tr2.get slt kA = some 1 := by simp [tr2, Tr.get, sAB, sAA]

theorem quiet_step {w w' : World} {b : Nat} {S : Nat → Prop} (h : Keeps S w w') (hS : ∀ k, S k → b ≤ k) (hb : b ≤ w.heap.size) : Below b w w' :=
  below_keeps (Below.refl b w) h hS hb

set_option maxRecDepth 100000 in
set_option maxHeartbeats 4000000 in
theorem t_first (w : World) : Calls Try.prog 7 #[] w fun e w' => e = .returned (.bool true) ∧ Below w.heap.size w w' := by
  go_enter Try.func7, Try.ntmps7
  go_wp2_with fail
  refine (t_new w).mono ?_
  rintro e w1 ⟨tb, rfl, ht1, hle, hlt, hb1⟩
  have HT1 := Lib.hid ht1
  have HB1 := Lib.hid hb1
  have HLE := Lib.hid hle
  clear ht1 hb1 hle hlt
  go_wp2_with fail
  refine (t_put w1 tb _ 0 kB 2 HT1.out (by omega) (by omega) (by simp [Tr.size])).mono ?_
  rintro e w2 ⟨rfl, ht2, hk2⟩
  have HB2 := Lib.hid (HB1.out.trans (quiet_step hk2 (fun k hk => hk ▸ HLE.out) HB1.out.size))
  rw [e1] at ht2
  have HT2 := Lib.hid ht2
  clear ht2 hk2
  go_wp2_with fail
  refine (t_put w2 tb _ _ kA 1 HT2.out (by omega) (by omega) (by simp [Tr.size])).mono ?_
  rintro e w3 ⟨rfl, ht3, hk3⟩
  have HB3 := Lib.hid (HB2.out.trans (quiet_step hk3 (fun k hk => hk ▸ HLE.out) HB2.out.size))
  rw [e2] at ht3
  have HT3 : Hid (STab w3 tb tr2 2) := Lib.hid ht3
  clear ht3 hk3
  go_wp2_with fail
  refine (t_snapshot w3 tb _ _ HT3.out).mono ?_
  rintro e w4 ⟨sb, rfl, hs4, hsb, hk4⟩
  have HT4 := Lib.hid (HT3.out.below hk4)
  have HS4 := Lib.hid hs4
  have HB4 := Lib.hid (HB3.out.trans (hk4.mono HB3.out.size))
  have HNE : Hid (sb ≠ tb) := Lib.hid (fun e => by have := HT3.out.lt; omega)
  clear hs4 hk4 hsb
  go_wp2_with fail
  refine (t_put w4 tb _ _ kB 3 HT4.out (by omega) (by omega) (by simp [Tr.size, tr2])).mono ?_
  rintro e w5 ⟨rfl, ht5, hk5⟩
  have HB5 := Lib.hid (HB4.out.trans (quiet_step hk5 (fun k hk => hk ▸ HLE.out) HB4.out.size))
  have hn : ∀ b cs, IsBlk w4 b cs 111 → ¬ Only tb b := fun b cs hi e => by
    obtain ⟨r, hr, _⟩ := HT4.out.ex
    exact ne_of_type hi hr (by decide) e
  have HS5 := Lib.hid (HS4.out.keeps hk5 HNE.out hn)
  rw [e3] at ht5
  have HT5 : Hid (STab w5 tb tr3 3) := Lib.hid ht5
  clear ht5 hk5 hn
  go_wp2_with fail
  refine (t_delete w5 tb _ _ kA HT5.out (by omega) (by omega) (by simp [Tr.size, tr3])).mono ?_
  rintro e w6 ⟨he, ht6, hk6⟩
  rw [g3] at he
  subst he
  have HB6 := Lib.hid (HB5.out.trans (quiet_step hk6 (fun k hk => hk ▸ HLE.out) HB5.out.size))
  have hn : ∀ b cs, IsBlk w5 b cs 111 → ¬ Only tb b := fun b cs hi e => by
    obtain ⟨r, hr, _⟩ := HT5.out.ex
    exact ne_of_type hi hr (by decide) e
  have HS6 := Lib.hid (HS5.out.keeps hk6 HNE.out hn)
  rw [e4] at ht6
  have HT6 : Hid (STab w6 tb tr4 4) := Lib.hid ht6
  clear ht6 hk6 hn
  go_wp2_with fail
  refine (t_delete w6 tb _ _ kA HT6.out (by omega) (by omega) (by simp [Tr.size, tr4])).mono ?_
  rintro e w7 ⟨he, ht7, hk7⟩
  rw [g4] at he
  subst he
  have HB7 := Lib.hid (HB6.out.trans (quiet_step hk7 (fun k hk => hk ▸ HLE.out) HB6.out.size))
  have hn : ∀ b cs, IsBlk w6 b cs 111 → ¬ Only tb b := fun b cs hi e => by
    obtain ⟨r, hr, _⟩ := HT6.out.ex
    exact ne_of_type hi hr (by decide) e
  have HS7 := Lib.hid (HS6.out.keeps hk7 HNE.out hn)
  rw [e5] at ht7
  have HT7 : Hid (STab w7 tb tr4 5) := Lib.hid ht7
  clear ht7 hk7 hn
  go_wp2_with fail
  refine (t_get w7 tb _ _ kB HT7.out).mono ?_
  rintro e w8 ⟨he, hk8⟩
  rw [g5] at he
  subst he
  have HT8 := Lib.hid (HT7.out.below hk8)
  have HS8 := Lib.hid (HS7.out.below hk8)
  have HB8 := Lib.hid (HB7.out.trans (hk8.mono HB7.out.size))
  clear hk8
  simp only [getRes, Option.getD, Option.isSome]
  go_wp2_with fail
  refine (t_sget w8 sb _ _ kA HS8.out).mono ?_
  rintro e w9 ⟨he, rfl⟩
  rw [g6] at he
  subst he
  simp only [getRes, Option.getD, Option.isSome]
  obtain ⟨root, hblk, _⟩ := HT8.out.ex
  have HBLK := Lib.hid hblk
  clear hblk
  go_wp2_with fail
  refine (t_version w8 tb _ _ root _ HBLK.out).mono ?_
  rintro e w9 ⟨rfl, rfl⟩
  go_wp2_with fail
  refine (t_sversion w8 sb _ _ HS8.out).mono ?_
  rintro e w9 ⟨rfl, rfl⟩
  go_wp2_with fail
  refine (t_len w8 tb _ _ HT8.out).mono ?_
  rintro e w9 ⟨he, hk9⟩
  have he' : e = .returned (.int .i64 1) := he
  subst he'
  have HS9 := Lib.hid (HS8.out.below hk9)
  have HB9 := Lib.hid (HB8.out.trans (hk9.mono HB8.out.size))
  clear hk9 he
  go_wp2_with fail
  refine (t_slen w9 sb _ _ HS9.out).mono ?_
  rintro e w10 ⟨he, rfl⟩
  have he' : e = .returned (.int .i64 2) := he
  subst he'
  clear he
  go_wp2
  go_ret
  exact ⟨rfl, HB9.out⟩
end Go.Proofs.Ytndaacojbbmcnaa
