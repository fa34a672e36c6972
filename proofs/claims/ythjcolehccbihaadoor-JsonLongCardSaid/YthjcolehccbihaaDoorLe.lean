/- The walk of the statement JsonLong. -/
import Derived.Test.YthjcolehccbihaaDoorLc
import Derived.Test.YthjcolehccbihaaDoorLb
import Derived.Deep.LoopGhost
namespace Go.Proofs.YthjcolehccbihaaDoor
open Go.RowKit Go.Shelf

theorem make_zeros (w : World) (n : Nat) (hn : n ≤ 1000000000) : ∃ W1, (Instr.makeSlice 23 (.int .i64 (n : Int)) (.int .i64 (n : Int))).run Tryd.prog w = .ok (.slice (some ⟨w.heap.size, 0, none⟩) n n) W1 ∧ (∃ cur, IsBlk W1 w.heap.size cur 5 ∧ cur.size = n) ∧ Below w.heap.size w W1 := by
  obtain ⟨i0, hi, hz0, hz1, hz2⟩ := info_parts infoU8
  have hr := run_make (P := Tryd.prog) w 23 5 i0 _ Tryd.underlying23 hi hz0 .i64 .i64 (n : Int) (n : Int) (by omega) (by omega) (by rw [hz2]; omega) (by omega)
  simp only [Int.toNat_natCast] at hr
  refine ⟨_, hr, ⟨_, heap_alloc_new w _, ?_⟩, (Below.refl _ _).alloc (Nat.le_refl _) _⟩
  rw [size_madeCells, hz1]
  omega
/-- A text of blanks under way. -/
structure LongI (w wr : World) (g N k : Nat) : Prop where
  blk : ∃ cur, IsBlk wr g cur 5 ∧ cur.size = N ∧ ∀ j, j < k → cur[j]? = some (.int .u8 32)
  below : Below w.heap.size w wr
  new : w.heap.size ≤ g
section
variable {w wr : World} {g N k : Nat}
theorem LongI.at (h : LongI w wr g N k) (hk : k < N) : (∃ u, wr.cell? ⟨g, k, none⟩ = some u) ∧ wr.frozen? ⟨g, k, none⟩ = false := by
  obtain ⟨cur, hb, hs, -⟩ := h.blk
  exact ⟨⟨_, by rw [blk_cell hb, Array.getElem?_eq_getElem (by omega)]⟩, blk_free hb _⟩
theorem LongI.step (h : LongI w wr g N k) (hk : k < N) : LongI w (wr.setCell ⟨g, k, none⟩ (.int .u8 32)) g N (k + 1) := by
  obtain ⟨cur, hb, hs, hc⟩ := h.blk
  refine ⟨⟨_, blk_set hb k (.int .u8 32), by rw [Array.size_setIfInBounds]; exact hs, fun j hj => ?_⟩, h.below.setCell (p := ⟨g, k, none⟩) h.new _, h.new⟩
  rw [Array.getElem?_setIfInBounds]
  by_cases e : k = j
  · rw [if_pos e, if_pos (by omega)]
  · rw [if_neg e]
    exact hc j (by omega)
/-- The text of a one and blanks. -/
def oneT (N : Nat) : List UInt8 := 49 :: List.replicate (N - 1) 32
theorem LongI.done (h : LongI w wr g N N) (hN : 0 < N) (hN2 : N ≤ 1000000) : (∃ u, wr.cell? ⟨g, 0, none⟩ = some u) ∧ wr.frozen? ⟨g, 0, none⟩ = false ∧
    Hid (BytesAt (wr.setCell ⟨g, 0, none⟩ (.int .u8 49)) (.slice (some ⟨g, 0, none⟩) N N) (oneT N) ∧ Below w.heap.size w (wr.setCell ⟨g, 0, none⟩ (.int .u8 49))) := by
  obtain ⟨cur, hb, hs, hc⟩ := h.blk
  have hl : (oneT N).length = N := by unfold oneT; simp; omega
  refine ⟨⟨_, by rw [blk_cell hb, Array.getElem?_eq_getElem (by omega)]⟩, blk_free hb _, Lib.hid ⟨⟨⟨_, _, by rw [hl], fun j x hx => ⟨g, 0, rfl, fun i hi => ?_⟩⟩, by omega, fun a n cap e => ?_⟩, h.below.setCell (p := ⟨g, 0, none⟩) h.new _⟩⟩
  · have hi0 : i = 0 := by have : i < 1 := hi; omega
    subst hi0
    have hb2 := blk_set hb 0 (.int .u8 49)
    have hj : j < N := by have := (List.getElem?_eq_some_iff.1 hx).1; omega
    have e1 : 0 + j * byteKind.size + 0 = j := by show 0 + j * 1 + 0 = j; omega
    rw [e1, blk_cell hb2, Array.getElem?_setIfInBounds]
    by_cases e : 0 = j
    · subst e
      rw [if_pos rfl, if_pos (by omega)]
      have : x = 49 := by simpa [oneT] using hx.symm
      subst this
      rfl
    · rw [if_neg e, hc j hj]
      obtain ⟨j, rfl⟩ : ∃ i, j = i + 1 := ⟨j - 1, by omega⟩
      have : x = 32 := by
        unfold oneT at hx
        rw [List.getElem?_cons_succ] at hx
        exact (List.mem_replicate.1 (List.mem_of_getElem? hx)).2
      subst this
      rfl
  · injection e with e1 e2 e3
    omega
theorem raw_cat (x y : ByteArray) : raw (x ++ y) = raw x ++ raw y := by simp [raw]
theorem raw_push (x : ByteArray) (c : UInt8) : raw (x ++ ⟨#[c]⟩) = raw x ++ [c] := raw_cat x ⟨#[c]⟩
theorem raw_size (x : ByteArray) : x.size = (raw x).length := rfl
theorem deep_bad (K : Nat) (h : K = 31 ∨ K = 32 ∨ K = 33) : (parse (deepT K)).2.2 = (if K = 33 then 20 else 0) ∧ (K = 33 → (parse (deepT K)).2.1 = 32) := by
  rcases h with rfl | rfl | rfl
  · exact ⟨deep_31, fun h => by omega⟩
  · exact ⟨deep_32, fun h => by omega⟩
  · exact ⟨deep_33.1, fun _ => deep_33.2⟩
theorem many_bad (K : Nat) (h : K = 998 ∨ K = 999 ∨ K = 1000) : (parse (manyT K)).2.2 = (if K = 1000 then 9 else 0) ∧ (K = 1000 → (parse (manyT K)).2.1 = 2001) := by
  rcases h with rfl | rfl | rfl
  · exact ⟨many_999, fun h => by omega⟩
  · exact ⟨many_1000, fun h => by omega⟩
  · exact ⟨many_1001.1, fun _ => many_1001.2⟩
theorem ones_len (k : Nat) : ((List.replicate k ([44, 49] : List UInt8)).flatten).length = 2 * k := by
  induction k with
  | zero => rfl
  | succ k ih => rw [List.replicate_succ, List.flatten_cons, List.length_append, ih]; show 2 + 2 * k = _; omega
theorem ones_snoc (k : Nat) : (List.replicate (k + 1) ([44, 49] : List UInt8)).flatten = (List.replicate k [44, 49]).flatten ++ [44, 49] := by
  rw [List.replicate_succ', List.flatten_append]; rfl
theorem parse_int {bv : Value} {bs : List UInt8} (hb : BytesAt w bv bs) (ht : Tabs w) : Calls Tryd.prog 6 #[bv] w fun e w' => ∃ (q : RawV) (p er : Int),
    e = .returned (.tuple #[.agg #[.int .i64 q.k, .string q.t, .slice q.la q.ll q.lc, .slice q.na q.nl q.nc], .int .i64 p, .int .i64 er]) ∧ Hid (p = ((parse bs).2.1 : Int) ∧ er = ((parse bs).2.2 : Int) ∧ Below w.heap.size w w') := by
  refine (j_parse hb ht).mono ?_
  rintro e w' ⟨q, rfl, -, h⟩
  exact ⟨q, _, _, rfl, Lib.hid ⟨rfl, rfl, h⟩⟩
set_option maxRecDepth 100000 in
set_option maxHeartbeats 8000000 in
theorem l_long (n : Int) (h1 : -9223372036854775808 ≤ n) (h2 : n ≤ 9223372036854775807) (ht : Tabs w) : Calls Tryd.prog 3 #[.int .i64 n] w fun e w' => e = .returned (.bool true) ∧ Below w.heap.size w w' := by
  have HT := Lib.hid ht
  obtain ⟨m, hm, hm1, hm2⟩ : ∃ m : Int, wrap64 ((wrap64 (n.tmod 3 + 3)).tmod 3 - 1) = m ∧ -1 ≤ m ∧ m ≤ 1 := by
    have t1 : -3 < n.tmod 3 ∧ n.tmod 3 < 3 := ⟨by have := Int.lt_tmod_of_pos n (show (0 : Int) < 3 by omega); omega, Int.tmod_lt_of_pos n (by omega)⟩
    have e1 : wrap64 (n.tmod 3 + 3) = n.tmod 3 + 3 := IntWalk.wrap64_in _ (by omega)
    have t2 : 0 ≤ (n.tmod 3 + 3).tmod 3 ∧ (n.tmod 3 + 3).tmod 3 < 3 := ⟨Int.tmod_nonneg _ (by omega), Int.tmod_lt_of_pos _ (by omega)⟩
    refine ⟨_, rfl, ?_, ?_⟩
    · rw [e1, IntWalk.wrap64_in _ (by omega)]; omega
    · rw [e1, IntWalk.wrap64_in _ (by omega)]; omega
  obtain ⟨N, hN⟩ : ∃ N : Nat, wrap64 (65536 + m) = (N : Int) ∧ (N : Int) = 65536 + m := ⟨(65536 + m).toNat, by rw [IntWalk.wrap64_in _ (by omega)]; omega, by omega⟩
  have HM := Lib.hid hm
  have HN := Lib.hid hN
  have HMB := Lib.hid (And.intro hm1 hm2)
  clear hm hN ht h1 h2 hm1 hm2
  go_enter Tryd.func3, Tryd.ntmps3
  go_wp2_with (fail)
  refine (x_first HT.out).mono ?_
  rintro e w1 ⟨rfl, hb1⟩
  have HB1 := Lib.hid hb1
  clear hb1
  go_upto_region 3 with (fail)
  rw [HM.out]
  obtain ⟨w2, hmk, ⟨cur, hcur, hcs⟩, hb2⟩ := make_zeros w1 N (by have := HN.out; have := HMB.out; omega)
  obtain ⟨g, hg⟩ : ∃ x, x = w1.heap.size := ⟨_, rfl⟩
  rw [← hg] at hmk hcur
  have HL0 : Hid (LongI w1 w2 g N 0) := Lib.hid ⟨⟨cur, hcur, hcs, fun j hj => by omega⟩, hb2, by omega⟩
  have hN1 := HN.out.1
  have HG := Lib.hid hg
  clear hcur hcs hb2 hg
  go_upto_region 4 with (fail)
  clear hmk hN1
  go_wp2_with (fail)
  have hlim : (N : Int) ≤ 9223372036854775807 := by have := HN.out; have := HMB.out; omega
  go_loopw [5] (fun i wr => ∃ k : Nat, k ≤ N ∧ i = .int .i64 k ∧ Hid (LongI w1 wr g N k)) (fun i _ => N - (intOf i).toNat)
  case atStart => exact ⟨0, Nat.zero_le _, rfl, HL0⟩
  case round =>
    obtain ⟨k, hk, rfl, HI⟩ := hrel
    by_cases hlt : k < N
    · obtain ⟨⟨u, c0⟩, f0⟩ := HI.out.at hlt
      have HNX := Lib.hid (HI.out.step hlt)
      have k1 : (0 : Int) ≤ (k : Int) := by omega
      have k2 : (k : Int) < (N : Int) := by omega
      go_wp2_with (fail)
      go_roundw
      case rel => exact ⟨k + 1, by omega, by go_num, HNX⟩
      case measure => simp [intOf]; omega
    · have k2 : ¬ (k : Int) < (N : Int) := by omega
      have hke : k = N := by omega
      subst hke
      obtain ⟨⟨u, c0⟩, f0, HD⟩ := HI.out.done (by have := HN.out; have := HMB.out; omega) (by have := HN.out; have := HMB.out; omega)
      have kp : 0 < k := by have := HN.out; have := HMB.out; omega
      have kp2 : (0 : Int) < (k : Int) := by omega
      go_upto_region 9 with (fail)
      obtain ⟨w3, hw3⟩ : ∃ x, x = wr.setCell ⟨g, 0, none⟩ (.int .u8 49) := ⟨_, rfl⟩
      rw [← hw3] at HD
      rw [← hw3]
      have HB3 : Hid (Below w.heap.size w w3) := Lib.hid (HB1.out.trans (HD.out.2.mono HB1.out.size))
      clear hw3 c0 f0 HI HL0 HG hk hlt k2
      go_wp2_with (fail)
      refine (parse_int HD.out.1 (HT.out.below HB3.out)).mono ?_
      rintro e w4 ⟨q, p1, e1, rfl, HP⟩
      have HE1 : Hid (e1 = if m = 1 then 8 else 0) := Lib.hid (by
        rw [HP.out.2.1]
        have a1 := HN.out.2
        have a2 := HMB.out
        by_cases hm : m = 1
        · rw [if_pos hm, long_bad _ (by unfold oneT; simp; omega)]
          rfl
        · rw [if_neg hm]
          unfold oneT
          rw [long_ok _ (by omega)]
          rfl)
      obtain ⟨w5, hw5, HBX⟩ := jbox_new w4 q
      have HW5 := Lib.hid hw5
      have HB5 : Hid (Below w.heap.size w w5) := Lib.hid ((HB3.out.trans (HP.out.2.2.mono HB3.out.size)).trans (HBX.out.1.mono (by have := HB3.out.size; have := HP.out.2.2.size; omega)))
      clear hw5
      go_upto_region 10 with (fail)
      rw [HW5.out]
      clear HW5 HBX HP HD
      obtain ⟨K, hK, hK2⟩ : ∃ K : Nat, wrap64 (32 + m) = (K : Int) ∧ (K : Int) = 32 + m := ⟨(32 + m).toNat, by have := HMB.out; rw [IntWalk.wrap64_in _ (by omega)]; omega, by have := HMB.out; omega⟩
      have HK2 := Lib.hid hK2
      have h40 : (K : Int) ≤ 40 := by have := HMB.out; omega
      clear hK2 kp kp2 hlim
      go_wp2_with (fail)
      go_loopw [9, 10, 11] (fun a b i wr => ∃ (j : Nat) (x y : ByteArray), j ≤ K ∧ i = .int .i64 j ∧ a = .string x ∧ b = .string y ∧ wr = w5 ∧ Hid (raw x = List.replicate j 91 ∧ raw y = List.replicate j 93)) (fun _ _ i _ => K - (intOf i).toNat)
      case atStart => exact ⟨0, ⟨#[]⟩, ⟨#[]⟩, Nat.zero_le _, rfl, rfl, rfl, rfl, Lib.hid ⟨rfl, rfl⟩⟩
      case round =>
        obtain ⟨j, x, y, hj, rfl, rfl, rfl, rfl, HXY⟩ := hrel
        by_cases hlt : j < K
        · have k1 : (0 : Int) ≤ (j : Int) := by omega
          have k2 : (j : Int) < (K : Int) := by omega
          have hxz : x.size = j := by have := congrArg List.length HXY.out.1; simpa [raw] using this
          have hyz : y.size = j := by have := congrArg List.length HXY.out.2; simpa [raw] using this
          have o1 : ¬ (9223372036854775807 < x.size + 1) := by omega
          have o2 : ¬ (9223372036854775807 < y.size + 1) := by omega
          clear hxz hyz
          go_wp2_with (fail)
          go_roundw
          case rel => exact ⟨j + 1, _, _, by omega, by go_num, rfl, rfl, by first | rfl | trivial, Lib.hid ⟨by rw [raw_push, HXY.out.1, ← List.replicate_succ'], by rw [raw_push, HXY.out.2, ← List.replicate_succ']⟩⟩
          case measure => simp [intOf]; omega
        · have k2 : ¬ (j : Int) < (K : Int) := by omega
          have hke : j = K := by omega
          subst hke
          have hxz : x.size ≤ 40 := by rw [raw_size, HXY.out.1, List.length_replicate]; omega
          have hyz : y.size ≤ 40 := by rw [raw_size, HXY.out.2, List.length_replicate]; omega
          have o1 : ¬ (9223372036854775807 < x.size + y.size) := by omega
          obtain ⟨cap, w6, hcv, hb6, -, hy6⟩ := conv_bytes wr (x ++ y) (by rw [raw_size, raw_cat, List.length_append, ← raw_size, ← raw_size]; omega)
          rw [raw_cat, HXY.out.1, HXY.out.2, ByteArray.size_append] at hy6
          rw [ByteArray.size_append] at hcv
          have HY6 : Hid (BytesAt w6 (.slice (some ⟨wr.heap.size, 0, none⟩) (x.size + y.size) cap) (deepT j)) := Lib.hid hy6
          have HB6 : Hid (Below w.heap.size w w6) := Lib.hid (HB5.out.trans (hb6.mono HB5.out.size))
          clear hy6 hb6 hxz hyz
          go_upto_region 17 with (fail)
          clear h40 hK k2 hlt hj
          go_wp2_with (fail)
          refine (parse_int HY6.out (HT.out.below HB6.out)).mono ?_
          rintro e w7 ⟨q2, p2, e2, rfl, HP2⟩
          have HE2 : Hid ((e2 = if m = 1 then 20 else 0) ∧ (m = 1 → p2 = 32)) := Lib.hid (by
            have a1 := HK2.out
            have a2 := HMB.out
            obtain ⟨d1, d2⟩ := deep_bad j (by omega)
            rw [HP2.out.1, HP2.out.2.1]
            constructor
            · rw [d1]
              by_cases hm : m = 1
              · rw [if_pos hm, if_pos (by omega)]; rfl
              · rw [if_neg hm, if_neg (by omega)]; rfl
            · intro hm
              rw [d2 (by omega)]; rfl)
          obtain ⟨w8, hw8, HBX8⟩ := jbox_new w7 q2
          have HW8 := Lib.hid hw8
          have HB8 : Hid (Below w.heap.size w w8) := Lib.hid ((HB6.out.trans (HP2.out.2.2.mono HB6.out.size)).trans (HBX8.out.1.mono (by have := HB6.out.size; have := HP2.out.2.2.size; omega)))
          clear hw8 hcv o1
          go_upto_region 18 with (fail)
          rw [HW8.out]
          clear HW8 HBX8 HP2 HY6
          obtain ⟨M, hM, hM2⟩ : ∃ M : Nat, wrap64 (1000 + m) = (M : Int) ∧ (M : Int) = 1000 + m := ⟨(1000 + m).toNat, by have := HMB.out; rw [IntWalk.wrap64_in _ (by omega)]; omega, by have := HMB.out; omega⟩
          have HM2 := Lib.hid hM2
          have h2000 : (M : Int) ≤ 2000 := by have := HMB.out; omega
          have h1M : 1 ≤ M := by have := HMB.out; omega
          clear hM2
          go_wp2_with (fail)
          go_loopw [15, 16] (fun a i wr => ∃ (t : Nat) (z : ByteArray), t + 1 ≤ M ∧ i = .int .i64 ((t : Int) + 1) ∧ a = .string z ∧ wr = w8 ∧ Hid (raw z = 91 :: 49 :: (List.replicate t [44, 49]).flatten)) (fun _ i _ => M - (intOf i).toNat)
          case atStart => exact ⟨0, ⟨#[91, 49]⟩, h1M, rfl, rfl, rfl, Lib.hid rfl⟩
          case round =>
            obtain ⟨t, z, ht, rfl, rfl, rfl, HZ⟩ := hrel
            have hzz : z.size = 2 + 2 * t := by rw [raw_size, HZ.out, List.length_cons, List.length_cons, ones_len]; omega
            by_cases hlt : t + 1 < M
            · have k1 : (0 : Int) ≤ (t : Int) := by omega
              have k2 : (t : Int) + 1 < (M : Int) := by omega
              have o1 : ¬ (9223372036854775807 < z.size + 2) := by omega
              clear hzz
              go_wp2_with (fail)
              go_roundw
              case rel => exact ⟨t + 1, _, by omega, by go_num, rfl, by first | rfl | trivial, Lib.hid (by rw [raw_cat, HZ.out, ones_snoc]; rfl)⟩
              case measure => simp [intOf]; omega
            · have k2 : ¬ (t : Int) + 1 < (M : Int) := by omega
              have o1 : ¬ (9223372036854775807 < z.size + 1) := by omega
              obtain ⟨cap9, w9, hcv, hb9, -, hy9⟩ := conv_bytes wr (z ++ ⟨#[93]⟩) (by rw [raw_size, raw_push, List.length_append, ← raw_size, hzz]; simp; omega)
              rw [raw_push, HZ.out, ByteArray.size_append] at hy9
              rw [ByteArray.size_append] at hcv
              have HY9 : Hid (BytesAt w9 (.slice (some ⟨wr.heap.size, 0, none⟩) (z.size + (⟨#[93]⟩ : ByteArray).size) cap9) (manyT t)) := Lib.hid hy9
              have HB9 : Hid (Below w.heap.size w w9) := Lib.hid (HB8.out.trans (hb9.mono HB8.out.size))
              have HT2 : Hid ((t : Int) = 999 + m) := Lib.hid (by have := HM2.out; omega)
              clear hy9 hb9 hzz
              go_upto_region 23 with (fail)
              clear h2000 hM k2 hlt ht h1M
              go_wp2_with (fail)
              refine (parse_int HY9.out (HT.out.below HB9.out)).mono ?_
              rintro e w10 ⟨q3, p3, e3, rfl, HP3⟩
              have HE3 : Hid ((e3 = if m = 1 then 9 else 0) ∧ (m = 1 → p3 = 2001)) := Lib.hid (by
                have a1 := HT2.out
                have a2 := HMB.out
                obtain ⟨d1, d2⟩ := many_bad t (by omega)
                rw [HP3.out.1, HP3.out.2.1]
                constructor
                · rw [d1]
                  by_cases hm : m = 1
                  · rw [if_pos hm, if_pos (by omega)]; rfl
                  · rw [if_neg hm, if_neg (by omega)]; rfl
                · intro hm
                  rw [d2 (by omega)]; rfl)
              have HB10 : Hid (Below w.heap.size w w10) := Lib.hid (HB9.out.trans (HP3.out.2.2.mono HB9.out.size))
              clear hcv o1
              go_upto_region 24 with (fail)
              obtain ⟨w11, hw11, HBX11⟩ := jbox_new w10 q3
              have HB11 : Hid (Below w.heap.size w w11) := Lib.hid (HB10.out.trans (HBX11.out.1.mono HB10.out.size))
              rw [hw11]
              clear hw11 HBX11 HP3 HY9
              by_cases hm : m = 1
              · obtain rfl : e1 = 8 := by rw [HE1.out, if_pos hm]
                obtain rfl : e2 = 20 := by rw [HE2.out.1, if_pos hm]
                obtain rfl : p2 = 32 := HE2.out.2 hm
                obtain rfl : e3 = 9 := by rw [HE3.out.1, if_pos hm]
                obtain rfl : p3 = 2001 := HE3.out.2 hm
                have t0 : (0 : Int) < m := by omega
                clear hm
                go_wp2_with (first | (go_at_call 7; refine (r_num _ _).mono ?_; rintro e w' ⟨rfl, rfl⟩))
                go_ret
                exact ⟨rfl, HB11.out⟩
              · obtain rfl : e1 = 0 := by rw [HE1.out, if_neg hm]
                obtain rfl : e2 = 0 := by rw [HE2.out.1, if_neg hm]
                obtain rfl : e3 = 0 := by rw [HE3.out.1, if_neg hm]
                have t0 : ¬ (0 : Int) < m := by have := HMB.out; omega
                clear hm
                go_wp2_with (first | (go_at_call 7; refine (r_num _ _).mono ?_; rintro e w' ⟨rfl, rfl⟩))
                go_ret
                exact ⟨rfl, HB11.out⟩
end
end Go.Proofs.YthjcolehccbihaaDoor
