/- The walk of the document's Encode. -/
import Derived.Test.YtagdchgkjjpacaaGreatb19
set_option maxRecDepth 100000
open Go.Lib (hid)
set_option linter.unusedSimpArgs false
set_option linter.unusedVariables false
set_option linter.unusedSectionVars false
namespace Go.Proofs.YtagdchgkjjpacaaGreat
open Go.RowKit Go.Shelf
theorem batB_front (s : Nat) (l : List Chg) (i : Nat) : (lowN 8 s ++ lowN 2 l.length ++ (l.take i).flatMap chgB).length ≤ (batB s l).length := by
 rw [batB_take, List.take_length]
 simp only [List.length_append]
 have : ((l.take i).flatMap chgB).length ≤ (l.flatMap chgB).length := by
  conv => rhs; rw [← List.take_append_drop i l, List.flatMap_append, List.length_append]
  omega
 omega
section
variable {w : World}
set_option maxHeartbeats 8000000 in
theorem d_encode {v : Value} {l : List Chg} (h : RdAt chgKind w v l) (hl : l.length ≤ 1048576) (hsz : ∀ c ∈ l, c.key.size ≤ 1048576 ∧ c.val.size ≤ 1048576) (seq : Int) (hs : seq ≤ 9223372036854775807) :
 Calls Tryz.prog 13 #[.int .i64 seq, v] w fun e w' => ∃ bv, e = .returned (.tuple #[bv, .int .i64 ((encB seq l).2 : Int)]) ∧ Hid (FreshAt w w' bv (encB seq l).1) := by
 have HR := hid h
 have HL := hid hl
 obtain ⟨a, cap, rfl, -⟩ := h
 have hlI : (l.length : Int) ≤ 1048576 := by omega
 have HF0 : Hid (FreshAt w w (.slice none 0 0) []) := hid ⟨SlAt.nil, fun k hk => by simp [Value.ownBlock] at hk, Below.refl _ _⟩
 by_cases h1 : seq < 1
 ·have t0 : decide (seq < 1) = true := by simp; omega
  have HE : Hid (encB seq l = ([], 10)) := hid (by unfold encB; rw [if_pos h1])
  clear hsz
  go_enter Tryz.func13, Tryz.ntmps13
  go_wp2_with (fail)
  exact bodyPost_ret (results_tmp2 rfl _ _ _) rfl ⟨_, by rw [HE.out]; rfl, by rw [HE.out]; exact HF0⟩
 have t0 : decide (seq < 1) = false := by simp; omega
 have HC := hid (d_check (w := w) HR.out HL.out hsz)
 clear hsz
 by_cases h2 : chkB l ≠ 0
 ·have HE : Hid (encB seq l = ([], chkB l)) := hid (by unfold encB; rw [if_neg h1, if_pos h2])
  obtain ⟨er, her⟩ : ∃ x : Int, x = (chkB l : Int) := ⟨_, rfl⟩
  have t1 : (er != 0) = true := by simp; omega
  rw [← her] at HC
  have HER := hid her
  clear h2 her
  go_enter Tryz.func13, Tryz.ntmps13
  go_wp2_with (fail)
  refine HC.out.mono ?_
  rintro e w1 ⟨rfl, hb1⟩
  have HF1 : Hid (FreshAt w w1 (.slice none 0 0) []) := hid (HF0.out.read hb1)
  clear hb1
  go_wp2_with (fail)
  exact bodyPost_ret (results_tmp2 rfl _ _ _) rfl ⟨_, by rw [HE.out, HER.out]; rfl, by rw [HE.out]; exact HF1⟩
 have hc0 : chkB l = 0 := by omega
 have HC0 := hid hc0
 obtain ⟨N, rfl⟩ : ∃ N : Nat, seq = (N : Int) := ⟨seq.toNat, by omega⟩
 have HN : Hid (N < 9223372036854775808) := hid (by omega)
 have HE : Hid (encB (N : Int) l = if 1048576 < (batB N l).length then ([], 8) else (batB N l, 0)) := hid (by unfold encB; rw [if_neg h1, if_neg h2, Int.toNat_natCast])
 have hl5 : (l.length : Int) ≤ 500 := by have := (chkB_ok hc0).1; omega
 rw [hc0] at HC
 clear h2 hc0 h1
 go_enter Tryz.func13, Tryz.ntmps13
 go_wp2_with (fail)
 refine HC.out.mono ?_
 rintro e w1 ⟨rfl, hb1⟩
 have HB1 := hid hb1
 clear hb1 HC HF0
 go_wp2_with (fail)
 refine (d_low w1 N HN.out 8 (by decide) 8 rfl).mono ?_
 rintro e w2 ⟨v2, rfl, hf2⟩
 obtain ⟨a2, c2, hv2⟩ := hf2.sl.shape
 subst hv2
 have HF2 := hid hf2
 clear hf2
 go_wp2_with (fail)
 refine (d_low w2 l.length (by have := HL.out; omega) 2 (by decide) 2 rfl).mono ?_
 rintro e w3 ⟨v3, rfl, hf3⟩
 have h8 : (lowN 8 N).length = 8 := lowN_len _ _
 obtain ⟨v4, w4, hrun4, hf4⟩ := FreshAt.append HF2.out (hf3.below) (hf3.sl.rd) (by rw [lowN_len, lowN_len]; omega) 23
 have HF4 : Hid (FreshAt w w4 v4 (lowN 8 N ++ lowN 2 l.length)) := hid ⟨hf4.sl, fun g hg => by have := hf4.new g hg; have := HB1.out.size; omega, HB1.out.trans (hf4.below.mono HB1.out.size)⟩
 clear hf3 hf4
 go_wp2_with (at_builtin; refine wpList_append_run rfl (.tmp 18) (.tmp 21) 23 rfl _ _ rfl rfl _ _ hrun4 ?_)
 clear hrun4
 go_loopw [7, 8, 9] (fun bv iv _ wr => ∃ i : Nat, i ≤ l.length ∧ iv = .int .i64 (i : Int) ∧ Hid (FreshAt w wr bv (lowN 8 N ++ lowN 2 l.length ++ (l.take i).flatMap chgB)) ∧ Hid ((lowN 8 N ++ lowN 2 l.length ++ (l.take i).flatMap chgB).length ≤ 1048576)) (fun _ iv _ _ => l.length - (intOf iv).toNat)
 case atStart => exact ⟨0, Nat.zero_le _, rfl, by simpa using HF4, hid (by simp [lowN_len])⟩
 case round =>
  obtain ⟨i, hi, rfl, HF, HLE⟩ := hrel
  by_cases hlt : i < l.length
  ·have q1 : (0 : Int) ≤ (i : Int) := by omega
   have q2 : (i : Int) < (l.length : Int) := by omega
   obtain ⟨c, hc⟩ : ∃ c, l[i]? = some c := ⟨_, List.getElem?_eq_getElem hlt⟩
   obtain ⟨g, off, ea, d0, d1, d2⟩ := chg_cells HR.out hc
   subst ea
   have HLT := hid hlt
   have HTK : Hid ((l.take (i + 1)).flatMap chgB = (l.take i).flatMap chgB ++ chgB c) := hid (by rw [List.take_add_one, hc]; simp)
   have HOK := hid ((chkB_ok HC0.out).2 c (List.mem_of_getElem? hc))
   obtain ⟨k, u, dr⟩ := c
   simp only at d0 d1 d2
   have HCELL : Hid (∀ W, Below w.heap.size w W → W.cell? ⟨g, off + i * 3, none⟩ = some (.string k) ∧ W.cell? ⟨g, off + i * 3 + 1, none⟩ = some (.string u) ∧ W.cell? ⟨g, off + i * 3 + 2, none⟩ = some (.bool dr)) := hid fun W hW =>
    ⟨(hW.cell (p := ⟨g, off + i * 3, none⟩) (World.block_lt_of_cell? w _ d0)).trans d0, (hW.cell (p := ⟨g, off + i * 3 + 1, none⟩) (World.block_lt_of_cell? w _ d1)).trans d1, (hW.cell (p := ⟨g, off + i * 3 + 2, none⟩) (World.block_lt_of_cell? w _ d2)).trans d2⟩
   clear d0 d1 d2 hc hlt hi
   obtain ⟨e0, e1, e2⟩ := HCELL.out _ HF.out.below
   obtain ⟨Z, hZ⟩ : ∃ Z, Z = lowN 8 N ++ lowN 2 l.length ++ (l.take i).flatMap chgB := ⟨_, rfl⟩
   rw [← hZ] at HF HLE
   have HZ := hid hZ
   have HG1 : Hid (GrowAt wr u7 wr u7 Z) := hid (GrowAt.refl HF.out.sl)
   have ks : (k.size : Int) ≤ 200 := by have := HOK.out.2.1; simp only at this; omega
   have HKS : Hid (k.size ≤ 200) := hid (by omega)
   have HKL : Hid ((tx k).length = k.size) := hid rfl
   clear hZ
   cases dr with
   | true =>
     obtain ⟨v4, w4, hrun4, hg4⟩ := HG1.out.two (by have := HLE.out; omega) (2 : UInt8) (UInt8.ofNat k.size) 23
     rw [show ((((2 : UInt8).toNat : Nat)) : Int) = 2 from rfl, show (((UInt8.ofNat k.size).toNat : Nat) : Int) = (k.size : Int) from by rw [UInt8.toNat_ofNat']; omega] at hrun4
     obtain ⟨f0, f1, f2⟩ := HCELL.out _ (HF.out.grow hg4).below
     obtain ⟨v5, w5, hrun5, hg5⟩ := hg4.str k (by rw [List.length_append]; simp only [List.length_cons, List.length_nil]; have := HLE.out; have := HKS.out; omega) 23
     obtain ⟨g0, g1, g2⟩ := HCELL.out _ (HF.out.grow hg5).below
     have hf5 := HF.out.grow hg5
     obtain ⟨Z5, hZ5⟩ : ∃ Z5, Z5 = Z ++ [(2 : UInt8), UInt8.ofNat k.size] ++ tx k := ⟨_, rfl⟩
     rw [← hZ5] at hf5
     have HNX : Hid (Z5 = lowN 8 N ++ lowN 2 l.length ++ (l.take (i + 1)).flatMap chgB) := hid (by
      rw [hZ5, HZ.out, HTK.out]
      simp [chgB])
     have z5 : (Z5.length : Int) ≤ 2000000 := by rw [hZ5]; simp only [List.length_append, List.length_cons, List.length_nil]; have := HLE.out; have := HKS.out; have := HKL.out; omega
     obtain ⟨a5, c5, hv5⟩ := hf5.sl.shape
     subst hv5
     have HF5 := hid hf5
     clear hg4 hg5 hf5 hZ5 HG1
     by_cases hbig : 1048576 < Z5.length
     ·have z6 : (1048576 : Int) < (Z5.length : Int) := by omega
      have HE3 : Hid (encB (N : Int) l = ([], 8)) := hid (by
       rw [HE.out, if_pos]
       have := batB_front N l (i + 1)
       rw [← HNX.out] at this
       omega)
      have HF6 : Hid (FreshAt w w5 (.slice none 0 0) []) := hid ⟨SlAt.nil, fun k hk => by simp [Value.ownBlock] at hk, HF5.out.below⟩
      clear hbig
      go_wp2_with (first | (at_builtin; refine wpList_append_run rfl (.tmp 34) (.tmp 43) 23 rfl _ _ rfl rfl _ _ hrun4 ?_) | (at_builtin; refine wpList_append_run2 rfl (.tmp 45) (.tmp 50) 23 9 rfl _ _ rfl rfl _ _ hrun5 ?_))
      exact bodyPost_ret (results_tmp2 rfl _ _ _) rfl ⟨_, by rw [HE3.out]; rfl, by rw [HE3.out]; exact HF6⟩
     ·have z6 : ¬ (1048576 : Int) < (Z5.length : Int) := by omega
      have HLE5 : Hid (Z5.length ≤ 1048576) := hid (by omega)
      clear hbig
      go_wp2_with (first | (at_builtin; refine wpList_append_run rfl (.tmp 34) (.tmp 43) 23 rfl _ _ rfl rfl _ _ hrun4 ?_) | (at_builtin; refine wpList_append_run2 rfl (.tmp 45) (.tmp 50) 23 9 rfl _ _ rfl rfl _ _ hrun5 ?_))
      go_roundw
      case rel => exact ⟨i + 1, HLT.out, by go_num, hid (by rw [← HNX.out]; exact HF5.out), hid (by rw [← HNX.out]; exact HLE5.out)⟩
      case measure => have := HLT.out; simp [intOf]; omega
   | false =>
     have us : (u.size : Int) ≤ 65536 := by have := HOK.out.2.2 rfl; simp only at this; omega
     have HUS : Hid (u.size ≤ 65536) := hid (by omega)
     have HUL : Hid ((tx u).length = u.size) := hid rfl
     obtain ⟨v4, w4, hrun4, hg4⟩ := HG1.out.two (by have := HLE.out; omega) (1 : UInt8) (UInt8.ofNat k.size) 23
     rw [show ((((1 : UInt8).toNat : Nat)) : Int) = 1 from rfl, show (((UInt8.ofNat k.size).toNat : Nat) : Int) = (k.size : Int) from by rw [UInt8.toNat_ofNat']; omega] at hrun4
     obtain ⟨f0, f1, f2⟩ := HCELL.out _ (HF.out.grow hg4).below
     obtain ⟨v5, w5, hrun5, hg5⟩ := hg4.str k (by rw [List.length_append]; simp only [List.length_cons, List.length_nil]; have := HLE.out; have := HKS.out; omega) 23
     obtain ⟨g0, g1, g2⟩ := HCELL.out _ (HF.out.grow hg5).below
     have hf5 := HF.out.grow hg5
     obtain ⟨Z5, hZ5⟩ : ∃ Z5, Z5 = Z ++ [(1 : UInt8), UInt8.ofNat k.size] ++ tx k := ⟨_, rfl⟩
     rw [← hZ5] at hf5
     have HZ5 := hid hZ5
     have HZL : Hid (Z5.length ≤ 2000000) := hid (by rw [hZ5]; simp only [List.length_append, List.length_cons, List.length_nil]; have := HLE.out; have := HKS.out; have := HKL.out; omega)
     have HF5 := hid hf5
     obtain ⟨a5, c5, hv5⟩ := hf5.sl.shape
     subst hv5
     clear hg4 hg5 hf5 hZ5 HG1
     go_upto_region 16 with (first | (at_builtin; refine wpList_append_run rfl (.tmp 34) (.tmp 43) 23 rfl _ _ rfl rfl _ _ hrun4 ?_) | (at_builtin; refine wpList_append_run2 rfl (.tmp 45) (.tmp 50) 23 9 rfl _ _ rfl rfl _ _ hrun5 ?_))
     clear hrun4 hrun5 e0 e1 e2 f0 f1 f2 g0 g2
     go_wp2_with (fail)
     refine (d_low w5 u.size (by have := HUS.out; omega) 4 (by decide) 4 rfl).mono ?_
     rintro e w6 ⟨v6, rfl, hf6⟩
     obtain ⟨v7, w7, hrun7, hf7⟩ := FreshAt.append HF5.out hf6.below hf6.sl.rd (by rw [lowN_len]; have := HZL.out; omega) 23
     obtain ⟨k0, k1, k2⟩ := HCELL.out _ hf7.below
     obtain ⟨v8, w8, hrun8, hg8⟩ := (GrowAt.refl hf7.sl).str u (by rw [List.length_append, lowN_len]; have := HZL.out; have := HUS.out; omega) 23
     obtain ⟨m0, m1, m2⟩ := HCELL.out _ (hf7.grow hg8).below
     have hf8 := hf7.grow hg8
     obtain ⟨Z8, hZ8⟩ : ∃ Z8, Z8 = Z5 ++ lowN 4 u.size ++ tx u := ⟨_, rfl⟩
     rw [← hZ8] at hf8
     have HNX : Hid (Z8 = lowN 8 N ++ lowN 2 l.length ++ (l.take (i + 1)).flatMap chgB) := hid (by
      rw [hZ8, HZ5.out, HZ.out, HTK.out]
      simp [chgB])
     have z5 : (Z8.length : Int) ≤ 3000000 := by rw [hZ8]; simp only [List.length_append, lowN_len]; have := HZL.out; have := HUS.out; have := HUL.out; omega
     obtain ⟨a8, c8, hv8⟩ := hf8.sl.shape
     subst hv8
     have HF8 := hid hf8
     clear hf6 hf7 hg8 hf8 hZ8
     by_cases hbig : 1048576 < Z8.length
     ·have z6 : (1048576 : Int) < (Z8.length : Int) := by omega
      have HE3 : Hid (encB (N : Int) l = ([], 8)) := hid (by
       rw [HE.out, if_pos]
       have := batB_front N l (i + 1)
       rw [← HNX.out] at this
       omega)
      have HF6 : Hid (FreshAt w w8 (.slice none 0 0) []) := hid ⟨SlAt.nil, fun k hk => by simp [Value.ownBlock] at hk, HF8.out.below⟩
      clear hbig
      go_wp2_with (first | (at_builtin; refine wpList_append_run rfl (.tmp 58) (.tmp 65) 23 rfl _ _ rfl rfl _ _ hrun7 ?_) | (at_builtin; refine wpList_append_run2 rfl (.tmp 67) (.tmp 72) 23 9 rfl _ _ rfl rfl _ _ hrun8 ?_))
      exact bodyPost_ret (results_tmp2 rfl _ _ _) rfl ⟨_, by rw [HE3.out]; rfl, by rw [HE3.out]; exact HF6⟩
     ·have z6 : ¬ (1048576 : Int) < (Z8.length : Int) := by omega
      have HLE5 : Hid (Z8.length ≤ 1048576) := hid (by omega)
      clear hbig
      go_wp2_with (first | (at_builtin; refine wpList_append_run rfl (.tmp 58) (.tmp 65) 23 rfl _ _ rfl rfl _ _ hrun7 ?_) | (at_builtin; refine wpList_append_run2 rfl (.tmp 67) (.tmp 72) 23 9 rfl _ _ rfl rfl _ _ hrun8 ?_))
      go_roundw
      case rel => exact ⟨i + 1, HLT.out, by go_num, hid (by rw [← HNX.out]; exact HF8.out), hid (by rw [← HNX.out]; exact HLE5.out)⟩
      case measure => have := HLT.out; simp [intOf]; omega
  ·have q2 : ¬ (i : Int) < (l.length : Int) := by omega
   obtain rfl : i = l.length := by omega
   have HF2 : Hid (FreshAt w wr u7 (batB N l)) := hid (by rw [batB_take]; exact HF.out)
   have HE2 : Hid (encB (N : Int) l = (batB N l, 0)) := hid (by
    rw [HE.out, if_neg]
    have := HLE.out
    rw [← batB_take] at this
    omega)
   go_wp2_with (fail)
   exact bodyPost_ret (results_tmp2 rfl _ _ _) rfl ⟨_, by rw [HE2.out]; rfl, by rw [HE2.out]; exact HF2⟩
end
section
variable {w w' : World}
set_option maxHeartbeats 2000000 in
theorem r_sameB {w : World} {u v : Value} {xs ys : List UInt8} (h1 : RdAt byteKind w u xs) (h2 : RdAt byteKind w v ys) (hm : xs.length ≤ 1000000000) (hm2 : ys.length ≤ 1000000000) :
 Calls Tryz.prog 18 #[u, v] w fun e w' => e = .returned (.bool (decide (xs = ys))) ∧ Below w.heap.size w w' := by
 by_cases he : xs = ys
 ·subst he
  refine (r_sameBytes h1 h2 hm).mono fun e w' h => ⟨by rw [h.1]; simp, h.2⟩
 have HR1 := hid h1
 have HR2 := hid h2
 have HNE := hid he
 rw [decide_eq_false he]
 obtain ⟨a, c1, rfl, hr1⟩ := h1
 obtain ⟨b, c2, rfl, hr2⟩ := h2
 clear hr1 hr2 he
 have hmi : (xs.length : Int) ≤ 1000000000 := by omega
 have hmj : (ys.length : Int) ≤ 1000000000 := by omega
 by_cases hl : xs.length = ys.length
 rotate_left
 ·have hlI : ¬ (xs.length : Int) = (ys.length : Int) := by omega
  clear hl
  go_enter Tryz.func18, Tryz.ntmps18
  go_wp2_with (fail)
  go_ret
  exact ⟨rfl, Below.refl _ _⟩
 have hlI : (xs.length : Int) = (ys.length : Int) := by omega
 go_enter Tryz.func18, Tryz.ntmps18
 go_wp2_with (fail)
 go_loopw [5] (fun i wr => ∃ k : Nat, k ≤ ys.length ∧ i = .int .i64 k ∧ Hid (Below w.heap.size w wr ∧ xs.take k = ys.take k)) (fun i _ => ys.length - (intOf i).toNat)
 case atStart => exact ⟨0, Nat.zero_le _, rfl, hid ⟨Below.refl _ _, rfl⟩⟩
 case round =>
  obtain ⟨k, hk, rfl, HB⟩ := hrel
  have hlt : k < ys.length := by
   refine Nat.lt_of_le_of_ne hk fun e => HNE.out ?_
   have h := HB.out.2
   rw [e, List.take_length, ← hl, List.take_length] at h
   exact h
  have hx : xs[k]? = some (xs[k]'(by omega)) := List.getElem?_eq_getElem (by omega)
  have hy : ys[k]? = some ys[k] := List.getElem?_eq_getElem hlt
  obtain ⟨x, hxx⟩ : ∃ x, x = xs[k]'(by omega) := ⟨_, rfl⟩
  obtain ⟨y, hyy⟩ : ∃ y, y = ys[k] := ⟨_, rfl⟩
  rw [← hxx] at hx
  rw [← hyy] at hy
  obtain ⟨g, off, rfl, d1⟩ := byte_cell HR1.out hx
  obtain ⟨g2, off2, rfl, d2⟩ := byte_cell HR2.out hy
  have d1 := (HB.out.1.cell (p := ⟨g, off + k, none⟩) (World.block_lt_of_cell? w _ d1)).trans d1
  have d2 := (HB.out.1.cell (p := ⟨g2, off2 + k, none⟩) (World.block_lt_of_cell? w _ d2)).trans d2
  have hk0 : (0 : Int) ≤ (k : Int) := by omega
  have hk1 : (k : Int) < (ys.length : Int) := by omega
  have hk2 : (k : Int) < (xs.length : Int) := by omega
  have HLT := hid hlt
  by_cases e : x = y
  ·have HN : Hid (xs.take (k + 1) = ys.take (k + 1)) := hid (by rw [List.take_add_one, List.take_add_one, hx, hy, HB.out.2, e])
   subst e
   clear hx hy hxx hyy hlt hk
   go_wp2_with (fail)
   go_quiet (fail)
   go_wp2_with (fail)
   go_roundw
   case rel => exact ⟨k + 1, HLT.out, by go_num, hid ⟨HB.out.1.trans (below_drewN _ _ _), HN.out⟩⟩
   case measure => simp [intOf]; have := HLT.out; omega
  ·have e2 : ((x.toNat : Int) != (y.toNat : Int)) = true := by
    simp only [bne_iff_ne, ne_eq]
    intro e3
    exact e (UInt8.toNat_inj.1 (by omega))
   obtain ⟨m1, hm1⟩ : ∃ m : Int, m = (x.toNat : Int) := ⟨_, rfl⟩
   obtain ⟨m2, hm2⟩ : ∃ m : Int, m = (y.toNat : Int) := ⟨_, rfl⟩
   rw [← hm1] at d1 e2
   rw [← hm2] at d2 e2
   clear hx hy hxx hyy hlt hk e hm1 hm2
   go_wp2_with (fail)
   go_quiet (fail)
   go_wp2_with (fail)
   go_ret
   exact ⟨rfl, HB.out.1.trans (below_drewN _ _ _)⟩
end
end Go.Proofs.YtagdchgkjjpacaaGreat
