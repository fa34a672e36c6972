/- The walks of package store's numbers: laid, read; a change's size. -/
import Derived.Test.YtagdchgkjjpacaaGreatb06
import Derived.Test.YtagdchgkjjpacaaGreatb08
import Derived.Test.YtagdchgkjjpacaaGreatb01
set_option maxRecDepth 100000
open Go.Lib (hid)
set_option linter.unusedSimpArgs false
set_option linter.unusedVariables false
set_option linter.unusedSectionVars false
namespace Go.Proofs.YtagdchgkjjpacaaGreat
open Go.RowKit Go.Shelf
section
variable {w : World}
set_option maxHeartbeats 1000000 in
theorem st_number {v : Value} {xs : List UInt8} (hv : SlAt byteKind 5 w v xs) (hx : xs.length ≤ 90000000) (n : Nat) (hn : n < 9223372036854775808) (k : Nat) (hk : k ≤ 8) :
 Calls Tryz.prog 48 #[v, .int .i64 (n : Int), .int .i64 (k : Int)] w fun e w' => ∃ v', e = .returned v' ∧ GrowAt w v w' v' (xs ++ lowN k n) := by
 have HV := hid (GrowAt.refl hv)
 have hkI : (k : Int) ≤ 8 := by omega
 clear hv
 go_enter Tryz.func48, Tryz.ntmps48
 go_wp2_with (fail)
 go_loopw [0, 1, 8] (fun b c i wr => ∃ (j m : Nat) (zs : List UInt8), j ≤ k ∧ i = .int .i64 ((k : Int) - (j : Int)) ∧ c = .int .i64 (m : Int) ∧ m < 9223372036854775808 ∧ Hid (zs ++ lowN j m = lowN k n) ∧ Hid (GrowAt w v wr b (xs ++ zs))) (fun _ _ i _ => k - (intOf i).toNat)
 case atStart => exact ⟨k, n, [], Nat.le_refl _, by rw [Int.sub_self], rfl, hn, hid rfl, by rw [List.append_nil]; exact HV⟩
 case round =>
  obtain ⟨j, m, zs, hj, rfl, rfl, hm, HE, HG⟩ := hrel
  cases j with
  | zero =>
    have hj0 : ¬ (k : Int) - ((0 : Nat) : Int) < (k : Int) := by omega
    go_wp2_with (fail)
    go_ret
    refine ⟨_, rfl, ?_⟩
    rw [← HE.out]
    simpa [lowN] using HG.out
  | succ j =>
    obtain ⟨v', w', hrun, hg⟩ := grow_one HG.out (by have := congrArg List.length HE.out; rw [List.length_append, lowN_len, lowN_len] at this; rw [List.length_append]; omega) (UInt8.ofNat m) 23
    rw [byteOf] at hrun
    have HG' := hid hg
    have hj1 : (k : Int) - ((j + 1 : Nat) : Int) < (k : Int) := by omega
    have hj2 : (k : Int) - ((j + 1 : Nat) : Int) + 1 ≤ 8 := by omega
    have hj3 : 0 ≤ (k : Int) - ((j + 1 : Nat) : Int) := by omega
    have HM := hid hm
    have hm2 : (m : Int) ≤ 9223372036854775807 := by omega
    clear hg hm
    go_wp2_with (at_builtin; refine wpList_append_run rfl (.tmp 10) (.tmp 13) 23 rfl _ _ rfl rfl _ _ hrun ?_)
    go_roundw
    case rel => exact ⟨j, m / 256, zs ++ [UInt8.ofNat m], by omega, by go_num, by congr 1, by have := HM.out; omega, hid (by rw [List.append_assoc]; exact HE.out), by rw [← List.append_assoc]; exact HG'⟩
    case measure => simp [intOf]; omega
theorem wrapEq (x : Int) : IntKind.i64.wrap x = wrap64 x := by rw [IntKind.wrap_i64]; unfold wrap64; omega
theorem or_next8 {ys : List UInt8} {k : Nat} {x : UInt8} (h : ys[k]? = some x) (hk : k < 8) : bits .or .i64 (numOf (ys.take k) : Int) (wrap64 ((x.toNat * 256 ^ k : Nat) : Int)) = wrap64 (numOf (ys.take (k + 1)) : Int) := by
 have h1 : numOf (ys.take k) < 256 ^ k := by
  have := numOf_lt (ys.take k)
  have h2 : 256 ^ (ys.take k).length ≤ 256 ^ k := Nat.pow_le_pow_right (by omega) (by rw [List.length_take]; omega)
  omega
 have hx := x.toNat_lt
 have h3 : 256 ^ k ≤ 256 ^ 7 := Nat.pow_le_pow_right (by omega) (by omega)
 have h4 : x.toNat * 256 ^ k ≤ 255 * 256 ^ 7 := Nat.mul_le_mul (by omega) h3
 have e1 : (BitVec.ofInt 64 (numOf (ys.take k) : Int)).toNat = numOf (ys.take k) := ofInt_u64 _ (by omega)
 have e2 : (BitVec.ofInt 64 (wrap64 ((x.toNat * 256 ^ k : Nat) : Int))).toNat = x.toNat * 256 ^ k := by
  have : BitVec.ofInt 64 (wrap64 ((x.toNat * 256 ^ k : Nat) : Int)) = BitVec.ofInt 64 ((x.toNat * 256 ^ k : Nat) : Int) := by
   generalize x.toNat * 256 ^ k = A
   apply BitVec.eq_of_toNat_eq
   rw [BitVec.toNat_ofInt, BitVec.toNat_ofInt]
   congr 1
   unfold wrap64
   omega
  rw [this]
  exact ofInt_u64 _ (by omega)
 show IntKind.i64.wrap ((BitVec.ofInt 64 (numOf (ys.take k) : Int) ||| BitVec.ofInt 64 (wrap64 ((x.toNat * 256 ^ k : Nat) : Int))).toNat : Int) = _
 rw [BitVec.toNat_or, e1, e2, numOf_take h]
 have e : (256 : Nat) ^ k = 2 ^ (8 * k) := by rw [show (256 : Nat) = 2 ^ 8 from rfl, ← Nat.pow_mul]
 rw [e] at h1 ⊢
 rw [Nat.or_comm, Nat.mul_comm x.toNat, ← Nat.two_pow_add_eq_or_of_lt h1, Nat.add_comm]
 exact wrapEq _
theorem shl_in8 (x : UInt8) {k : Nat} : wrap64 (wrap64 (x.toNat : Int) * 2 ^ (8 * k)) = wrap64 ((x.toNat * 256 ^ k : Nat) : Int) := by
 have hx := x.toNat_lt
 have e1 : wrap64 (x.toNat : Int) = (x.toNat : Int) := IntWalk.wrap64_in _ (by omega)
 have e2 : (x.toNat : Int) * 2 ^ (8 * k) = ((x.toNat * 256 ^ k : Nat) : Int) := by
  rw [show (256 : Nat) = 2 ^ 8 from rfl, ← Nat.pow_mul]; push_cast; rfl
 rw [e1, e2]
set_option maxHeartbeats 1000000 in
theorem st_value {a : Option Addr} {len cap : Nat} {ys : List UInt8} (hu : RdAt byteKind w (.slice a len cap) ys) (hn : ys.length ≤ 8) :
 Calls Tryz.prog 54 #[.slice a len cap] w fun e w' => e = .returned (.int .i64 (wrap64 (numOf ys : Int))) ∧ w = w' := by
 have HR := hid hu
 obtain rfl : len = ys.length := by obtain ⟨_, _, e, _⟩ := hu; injection e
 clear hu
 have hm2 : (ys.length : Int) ≤ 8 := by omega
 go_enter Tryz.func54, Tryz.ntmps54
 go_wp2_with (fail)
 go_loopw [3, 8] (fun c i wr => ∃ k : Nat, k ≤ ys.length ∧ i = .int .i64 k ∧ c = .int .i64 (wrap64 (numOf (ys.take k) : Int)) ∧ wr = w) (fun _ i _ => ys.length - (intOf i).toNat)
 case atStart => exact ⟨0, Nat.zero_le _, rfl, by simp [numOf, wrap64], rfl⟩
 case round =>
  obtain ⟨k, hk, rfl, rfl, rfl⟩ := hrel
  by_cases hlt : k < ys.length
  ·have hx : ys[k]? = some ys[k] := List.getElem?_eq_getElem (by omega)
   generalize ys[k] = x at hx
   obtain ⟨g, off, rfl, hc⟩ := byte_cell HR.out hx
   have HO := hid (or_next8 hx (by omega))
   have HS := hid (shl_in8 x (k := k))
   have hk0 : (0 : Int) ≤ (k : Int) := by omega
   have hk1 : (k : Int) < 8 := by omega
   have hk2 : (k : Int) < (ys.length : Int) := by omega
   have h1 : numOf (ys.take k) < 72057594037927936 := by
    have h1 := numOf_lt (ys.take k)
    have h2 : 256 ^ (ys.take k).length ≤ 256 ^ 7 := Nat.pow_le_pow_right (by omega) (by rw [List.length_take]; omega)
    omega
   rw [IntWalk.wrap64_in (numOf (ys.take k) : Int) (by omega)]
   have HLT := hid hlt
   clear hx h1 hlt hk
   go_wp2_with (fail)
   go_roundw
   case rel => exact ⟨k + 1, HLT.out, by go_num, by rw [HS.out, HO.out], by first | rfl | trivial⟩
   case measure => have := HLT.out; simp [intOf]; omega
  ·have hk1 : ¬ ((k : Int) < (ys.length : Int)) := by omega
   obtain rfl : k = ys.length := by omega
   rw [List.take_length]
   clear hlt hk
   go_wp2_with (fail)
   go_ret
   exact ⟨rfl, rfl⟩
theorem st_chgSize (c : Chg) (hk : c.key.size ≤ 1000000) (hv : c.val.size ≤ 1000000) :
 Calls Tryz.prog 136 #[.agg #[.string c.key, .string c.val, .bool c.drop]] w fun e w' => e = .returned (.int .i64 ((chgB c).length : Int)) ∧ Below w.heap.size w w' := by
 obtain ⟨k, v, d⟩ := c
 obtain ⟨w1, hw1⟩ : ∃ x, x = w.alloc (.cells #[.string k, .string v, .bool d] 42) := ⟨_, rfl⟩
 have hb : Below w.heap.size w w1 := by rw [hw1]; exact (Below.refl _ _).alloc (Nat.le_refl _) _
 have hblk : IsBlk w1 w.heap.size #[.string k, .string v, .bool d] 42 := by rw [hw1]; exact blk_new _ _
 have b0 : w1.cell? ⟨w.heap.size, 0, none⟩ = some (.string k) := blk_cell hblk 0
 have b1 : w1.cell? ⟨w.heap.size, 1, none⟩ = some (.string v) := blk_cell hblk 1
 have b2 : w1.cell? ⟨w.heap.size, 2, none⟩ = some (.bool d) := blk_cell hblk 2
 have HB := hid hb
 have HL := hid (chgB_len ⟨k, v, d⟩)
 have HW := hid hw1
 simp only at hk hv
 have k1 : (k.size : Int) ≤ 1000000 := by omega
 have v1 : (v.size : Int) ≤ 1000000 := by omega
 clear hb hw1 hblk hk hv
 cases d with
 | true =>
   go_enter Tryz.func136, Tryz.ntmps136
   go_upto_region 1 with (fail)
   rw [← HW.out]
   go_wp2_with (fail)
   go_ret
   exact ⟨by rw [HL.out]; rfl, HB.out⟩
 | false =>
   go_enter Tryz.func136, Tryz.ntmps136
   go_upto_region 1 with (fail)
   rw [← HW.out]
   go_wp2_with (fail)
   go_ret
   exact ⟨by rw [HL.out]; simp, HB.out⟩
end
end Go.Proofs.YtagdchgkjjpacaaGreat
namespace Go.Proofs.YtagdchgkjjpacaaGreat.Kv
section
variable {V : Type} {n : ByteArray} {y : V} {l : List (ByteArray × V)}
theorem find_mem (h : findL slt l n = some y) (hr : Rise slt l) : (n, y) ∈ l := by
 rcases find_split slt_ord l hr n with ⟨h1, _⟩ | ⟨a, v, b, e, h1⟩
 ·rw [h1] at h; cases h
 ·rw [h1] at h; cases h; rw [e]; simp
theorem find_of_mem (hr : Rise slt l) (h : (n, y) ∈ l) : findL slt l n = some y := by
 obtain ⟨a, b, e⟩ := List.append_of_mem h
 rw [e] at hr ⊢
 exact findL_eq slt_ord hr
theorem find_congr {l l' : List (ByteArray × V)} (hr : Rise slt l) (hr' : Rise slt l') (h : ∀ y, (n, y) ∈ l ↔ (n, y) ∈ l') : findL slt l n = findL slt l' n := by
 cases h1 : findL slt l n with
 | some v => rw [find_of_mem hr' ((h v).1 (find_mem h1 hr))]
 | none =>
   cases h2 : findL slt l' n with
   | none => rfl
   | some v => rw [find_of_mem hr ((h v).2 (find_mem h2 hr'))] at h1; cases h1
theorem mem_put {m : ByteArray} {z : V} (hne : n ≠ m) : (n, z) ∈ putL slt l m y ↔ (n, z) ∈ l := by
 unfold putL
 have hb : (slt n m || slt m n) = true := by
  cases h1 : slt n m with
  | true => rfl
  | false =>
    cases h2 : slt m n with
    | true => rfl
    | false => exact absurd (slt_ord.eq _ _ h1 h2) hne
 simp only [List.mem_append, List.mem_cons, List.mem_filter, Prod.mk.injEq]
 constructor
 ·rintro (⟨h, _⟩ | ⟨h, _⟩ | ⟨h, _⟩)
  ·exact h
  ·exact absurd h hne
  ·exact h
 ·intro h
  rcases Bool.or_eq_true_iff.1 hb with hb | hb
  ·exact .inl ⟨h, hb⟩
  ·exact .inr (.inr ⟨h, hb⟩)
theorem find_put (hr : Rise slt l) : findL slt (putL slt l n y) n = some y := by
 obtain ⟨a, b, e, hr⟩ : ∃ a b, putL slt l n y = a ++ (n, y) :: b ∧ Rise slt (a ++ (n, y) :: b) := ⟨_, _, rfl, rise_putL slt_ord hr n y⟩
 rw [e]
 exact findL_eq slt_ord hr
theorem find_put_ne (hr : Rise slt l) {m : ByteArray} (hne : n ≠ m) : findL slt (putL slt l m y) n = findL slt l n := find_congr (rise_putL slt_ord hr m y) hr fun _ => mem_put hne
end
end Go.Proofs.YtagdchgkjjpacaaGreat.Kv
