/- The walk of package store's EncodeBatch. -/
import Derived.Test.YtagdchgkjjpacaaGreatb10
import Derived.Maps.RangeWalk
set_option maxRecDepth 100000
open Go.Lib (hid)
set_option linter.unusedSimpArgs false
set_option linter.unusedVariables false
set_option linter.unusedSectionVars false
namespace Go.Proofs.YtagdchgkjjpacaaGreat
open Go.RowKit Go.Shelf
theorem GrowAt.str {w w1 : World} {v v1 : Value} {zs : List UInt8} (h : GrowAt w v w1 v1 zs) (s : ByteArray) (hz : zs.length + s.size ≤ 100000000) (ty : TypeId) :
 ∃ v' w', (Builtin.append_ #[23, 9] ty #[v1, .string s]).run Tryz.prog w1 = .ok v' w' ∧ GrowAt w v w' v' (zs ++ tx s) := by
 obtain ⟨v', w', hr, hs, hk, ho⟩ := append_str h.sl s (by omega) ty
 exact ⟨v', w', hr, h.trans ⟨hs, hk, ho⟩⟩
theorem two_bytes (w : World) (x y : UInt8) : RdAt byteKind (w.alloc (.cells #[.int .u8 (x.toNat : Int), .int .u8 (y.toNat : Int)] 5)) (.slice (some ⟨w.heap.size, 0, none⟩) 2 2) [x, y] := by
 refine ⟨_, 2, rfl, fun j z hz => ⟨w.heap.size, 0, rfl, fun i hi => ?_⟩⟩
 have hi0 : i = 0 := by have : i < 1 := hi; omega
 subst hi0
 match j, hz with
 | 0, hz =>
   simp only [List.getElem?_cons_zero, Option.some.injEq] at hz
   subst hz
   exact blk_cell (cs := #[.int .u8 (x.toNat : Int), .int .u8 (y.toNat : Int)]) (heap_alloc_new w _) 0
 | 1, hz =>
   simp only [List.getElem?_cons_succ, List.getElem?_cons_zero, Option.some.injEq] at hz
   subst hz
   exact blk_cell (cs := #[.int .u8 (x.toNat : Int), .int .u8 (y.toNat : Int)]) (heap_alloc_new w _) 1
theorem GrowAt.two {w w1 : World} {v v1 : Value} {zs : List UInt8} (h : GrowAt w v w1 v1 zs) (hz : zs.length ≤ 100000000) (x y : UInt8) (ty : TypeId) :
 ∃ v' w', (Builtin.append_ #[23, 23] ty #[v1, .slice (some ⟨w1.heap.size, 0, none⟩) 2 2]).run Tryz.prog (w1.alloc (.cells #[.int .u8 (x.toNat : Int), .int .u8 (y.toNat : Int)] 5)) = .ok v' w' ∧ GrowAt w v w' v' (zs ++ [x, y]) := by
 have hb : Below w1.heap.size w1 (w1.alloc (.cells #[.int .u8 (x.toNat : Int), .int .u8 (y.toNat : Int)] 5)) := (Below.refl _ _).alloc (Nat.le_refl _) _
 obtain ⟨v', w', hr, hs, hk, ho, _⟩ := append_bytes (h.below hb).sl (two_bytes w1 x y) (by simp only [List.length_cons, List.length_nil]; omega) ty
 exact ⟨v', w', hr, (h.below hb).trans ⟨hs, hk, ho⟩⟩
theorem chg_bound {l : List Chg} (h : chkB l = 0) (j : Nat) : ((l.take j).flatMap chgB).length ≤ 33000000 := by
 obtain ⟨h1, h2⟩ := chkB_ok h
 have h3 : ∀ l : List Chg, (∀ c ∈ l, 1 ≤ c.key.size ∧ c.key.size ≤ 200 ∧ (c.drop = false → c.val.size ≤ 65536)) → (l.flatMap chgB).length ≤ 66000 * l.length := by
  intro l
  induction l with
  | nil => intro _; simp
  | cons c l ih =>
    intro hl
    have h1 := hl c (by simp)
    have h2 := ih fun c hc => hl c (by simp [hc])
    rw [List.flatMap_cons, List.length_append, chgB_len, List.length_cons]
    split
    ·omega
    ·rename_i hd; have := h1.2.2 (by simpa using hd); omega
 have h4 := h3 (l.take j) (fun c hc => h2 c (List.mem_of_mem_take hc))
 have h5 : (l.take j).length ≤ 500 := by rw [List.length_take]; omega
 omega
theorem batB_take (s : Nat) (l : List Chg) : batB s l = lowN 8 s ++ lowN 2 l.length ++ (l.take l.length).flatMap chgB := by unfold batB; rw [List.take_length, List.append_assoc]
section
variable {w : World}
set_option maxHeartbeats 8000000 in
theorem st_encode {v : Value} {l : List Chg} (h : RdAt chgKind w v l) (hl : l.length ≤ 1000000000) (seq : Int) (hs : seq ≤ 9223372036854775807) :
 Calls Tryz.prog 12 #[.int .i64 seq, v] w fun e w' => ∃ bv, e = .returned (.tuple #[bv, .int .i64 ((encB seq l).2 : Int)]) ∧ Hid (FreshAt w w' bv (encB seq l).1) := by
 have HR := hid h
 have HL := hid hl
 obtain ⟨a, cap, rfl, -⟩ := h
 have hlI : (l.length : Int) ≤ 1000000000 := by omega
 have HF0 : Hid (FreshAt w w (.slice none 0 0) []) := hid ⟨SlAt.nil, fun k hk => by simp [Value.ownBlock] at hk, Below.refl _ _⟩
 by_cases h1 : seq < 1
 ·have t0 : decide (seq < 1) = true := by simp; omega
  have HE : Hid (encB seq l = ([], 10)) := hid (by unfold encB; rw [if_pos h1])
  go_enter Tryz.func12, Tryz.ntmps12
  go_wp2_with (fail)
  exact bodyPost_ret (results_tmp2 rfl _ _ _) rfl ⟨_, by rw [HE.out]; rfl, by rw [HE.out]; exact HF0⟩
 have t0 : decide (seq < 1) = false := by simp; omega
 have HC := hid (st_check (w := w) HR.out HL.out)
 by_cases h2 : chkB l ≠ 0
 ·have HE : Hid (encB seq l = ([], chkB l)) := hid (by unfold encB; rw [if_neg h1, if_pos h2])
  obtain ⟨er, her⟩ : ∃ x : Int, x = (chkB l : Int) := ⟨_, rfl⟩
  have t1 : (er != 0) = true := by simp; omega
  rw [← her] at HC
  have HER := hid her
  clear h2 her
  go_enter Tryz.func12, Tryz.ntmps12
  go_wp2_with (fail)
  refine HC.out.mono ?_
  rintro e w1 ⟨rfl, hb1⟩
  have HF1 : Hid (FreshAt w w1 (.slice none 0 0) []) := hid (HF0.out.read hb1)
  clear hb1
  go_wp2_with (fail)
  exact bodyPost_ret (results_tmp2 rfl _ _ _) rfl ⟨_, by rw [HE.out, HER.out]; rfl, by rw [HE.out]; exact HF1⟩
 have hc0 : chkB l = 0 := by omega
 have HC0 := hid hc0
 obtain ⟨N, rfl⟩ : ∃ N : Nat, seq = (N : Int) := ⟨seq.toNat, by omega⟩
 have HN : Hid (N < 9223372036854775808) := hid (by omega)
 have HE : Hid (encB (N : Int) l = if 1048576 < (batB N l).length then ([], 8) else (batB N l, 0)) := hid (by unfold encB; rw [if_neg h1, if_neg h2, Int.toNat_natCast])
 have hl5 : (l.length : Int) ≤ 500 := by have := (chkB_ok hc0).1; omega
 rw [hc0] at HC
 clear h2 hc0 h1
 go_enter Tryz.func12, Tryz.ntmps12
 go_wp2_with (fail)
 refine HC.out.mono ?_
 rintro e w1 ⟨rfl, hb1⟩
 have HF1 : Hid (FreshAt w w1 (.slice none 0 0) []) := hid (HF0.out.read hb1)
 clear hb1 HC
 go_wp2_with (fail)
 refine (st_number HF1.out.sl (by simp) N HN.out 8 (by decide)).mono ?_
 rintro e w2 ⟨v2, rfl, hg2⟩
 have HF2 : Hid (FreshAt w w2 v2 (lowN 8 N)) := hid (HF1.out.grow hg2)
 clear hg2 HF1
 go_wp2_with (fail)
 refine (st_number HF2.out.sl (by rw [lowN_len]; omega) l.length (by have := HL.out; omega) 2 (by decide)).mono ?_
 rintro e w3 ⟨v3, rfl, hg3⟩
 have HF3 : Hid (FreshAt w w3 v3 (lowN 8 N ++ lowN 2 l.length)) := hid (HF2.out.grow hg3)
 clear hg3 HF2
 go_wp2_with (fail)
 go_loopw [7, 25] (fun bv iv wr => ∃ i : Nat, i ≤ l.length ∧ iv = .int .i64 (i : Int) ∧ Hid (FreshAt w wr bv (lowN 8 N ++ lowN 2 l.length ++ (l.take i).flatMap chgB))) (fun _ iv _ => l.length - (intOf iv).toNat)
 case atStart => exact ⟨0, Nat.zero_le _, rfl, by simpa using HF3⟩
 case round =>
  obtain ⟨i, hi, rfl, HF⟩ := hrel
  by_cases hlt : i < l.length
  ·have q1 : (0 : Int) ≤ (i : Int) := by omega
   have q2 : (i : Int) < (l.length : Int) := by omega
   obtain ⟨c, hc⟩ : ∃ c, l[i]? = some c := ⟨_, List.getElem?_eq_getElem hlt⟩
   obtain ⟨g, off, rfl, d0, d1, d2⟩ := chg_cells (HR.out.below HF.out.below) hc
   have HLT := hid hlt
   have HTK : Hid ((l.take (i + 1)).flatMap chgB = (l.take i).flatMap chgB ++ chgB c) := hid (by rw [List.take_add_one, hc]; simp)
   have HOK := hid ((chkB_ok HC0.out).2 c (List.mem_of_getElem? hc))
   have HBD := hid (chg_bound HC0.out i)
   have HBE := hid (chg_bound HC0.out (i + 1))
   obtain ⟨k, u, dr⟩ := c
   simp only at d0 d1 d2
   clear hc hlt hi
   go_upto_region 10 with (fail)
   obtain ⟨W1, hW1⟩ : ∃ x, x = wr.alloc (.cells #[.string k, .string u, .bool dr] 42) := ⟨_, rfl⟩
   rw [← hW1]
   have hb1 : Below wr.heap.size wr W1 := by rw [hW1]; exact (Below.refl _ _).alloc (Nat.le_refl _) _
   have hx1 : IsBlk W1 wr.heap.size #[.string k, .string u, .bool dr] 42 := by rw [hW1]; exact blk_new _ _
   obtain ⟨xb, hxb⟩ : ∃ x, x = wr.heap.size := ⟨_, rfl⟩
   rw [← hxb]
   rw [← hxb] at hx1
   have HXB := hid hxb
   have HX1 := hid hx1
   have HF1 := hid (HF.out.read hb1)
   have HOUT : Hid (¬ u7.ownBlock = some xb) := hid fun hg => by
    obtain ⟨cur, hcur⟩ := HF.out.sl.own _ hg
    have := lt_of_block hcur
    omega
   obtain ⟨Z, hZ⟩ : ∃ Z, Z = lowN 8 N ++ lowN 2 l.length ++ (l.take i).flatMap chgB := ⟨_, rfl⟩
   rw [← hZ] at HF1
   have HZ := hid hZ
   have HZL : Hid (Z.length ≤ 33000010) := hid (by rw [hZ, List.length_append, List.length_append, lowN_len, lowN_len]; have := HBD.out; omega)
   have HG1 : Hid (GrowAt W1 u7 W1 u7 Z) := hid (GrowAt.refl HF1.out.sl)
   have HX1 := hid hx1
   have x0 : W1.cell? ⟨xb, 0, none⟩ = some (.string k) := blk_cell hx1 0
   have x2 : W1.cell? ⟨xb, 2, none⟩ = some (.bool dr) := blk_cell hx1 2
   have ks : (k.size : Int) ≤ 200 := by have := HOK.out.2.1; simp only at this; omega
   have HKS : Hid (k.size ≤ 200) := hid (by omega)
   clear hW1 hb1 hx1 hxb d0 d1 d2 HF hZ
   cases dr with
   | true =>
     obtain ⟨v4, w4, hrun4, hg4⟩ := HG1.out.two (by have := HZL.out; omega) (2 : UInt8) (UInt8.ofNat k.size) 23
     rw [show ((((2 : UInt8).toNat : Nat)) : Int) = 2 from rfl, show (((UInt8.ofNat k.size).toNat : Nat) : Int) = (k.size : Int) from by rw [UInt8.toNat_ofNat']; omega] at hrun4
     have hx4 := hg4.keeps.obj HX1.out HOUT.out
     have y0 : w4.cell? ⟨xb, 0, none⟩ = some (.string k) := blk_cell hx4 0
     obtain ⟨v5, w5, hrun5, hg5⟩ := hg4.str k (by rw [List.length_append]; simp only [List.length_cons, List.length_nil]; have := HZL.out; have := HKS.out; omega) 23
     have hx5 := hg5.keeps.obj HX1.out HOUT.out
     have y2 : w5.cell? ⟨xb, 2, none⟩ = some (.bool true) := blk_cell hx5 2
     have HX5 := hid hx5
     have HG5 := hid hg5
     clear hg4 hg5 hx4 hx5
     have HNX : Hid (Z ++ [(2 : UInt8), UInt8.ofNat k.size] ++ tx k = lowN 8 N ++ lowN 2 l.length ++ (l.take (i + 1)).flatMap chgB) := hid (by
      rw [HZ.out, HTK.out]
      simp [chgB])
     go_wp2_with (first | (at_builtin; refine wpList_append_run rfl (.tmp 31) (.tmp 37) 23 rfl _ _ rfl rfl _ _ hrun4 ?_) | (at_builtin; refine wpList_append_run2 rfl (.tmp 39) (.tmp 41) 23 9 rfl _ _ rfl rfl _ _ hrun5 ?_))
     go_roundw
     case rel => exact ⟨i + 1, HLT.out, by go_num, hid (by rw [← HNX.out]; exact HF1.out.grow HG5.out)⟩
     case measure => have := HLT.out; simp [intOf]; omega
   | false =>
     obtain ⟨v4, w4, hrun4, hg4⟩ := HG1.out.two (by have := HZL.out; omega) (1 : UInt8) (UInt8.ofNat k.size) 23
     rw [show ((((1 : UInt8).toNat : Nat)) : Int) = 1 from rfl, show (((UInt8.ofNat k.size).toNat : Nat) : Int) = (k.size : Int) from by rw [UInt8.toNat_ofNat']; omega] at hrun4
     have hx4 := hg4.keeps.obj HX1.out HOUT.out
     have y0 : w4.cell? ⟨xb, 0, none⟩ = some (.string k) := blk_cell hx4 0
     obtain ⟨v5, w5, hrun5, hg5⟩ := hg4.str k (by rw [List.length_append]; simp only [List.length_cons, List.length_nil]; have := HZL.out; have := HKS.out; omega) 23
     have hx5 := hg5.keeps.obj HX1.out HOUT.out
     have y2 : w5.cell? ⟨xb, 2, none⟩ = some (.bool false) := blk_cell hx5 2
     have HX5 := hid hx5
     have HG5 := hid hg5
     clear hg4 hg5 hx4 hx5
     have hu1 : u.size ≤ 65536 := HOK.out.2.2 rfl
     have us : (u.size : Int) ≤ 65536 := by omega
     have HUS := hid hu1
     clear hu1
     go_upto_region 16 with (first | (at_builtin; refine wpList_append_run rfl (.tmp 31) (.tmp 37) 23 rfl _ _ rfl rfl _ _ hrun4 ?_) | (at_builtin; refine wpList_append_run2 rfl (.tmp 39) (.tmp 41) 23 9 rfl _ _ rfl rfl _ _ hrun5 ?_))
     clear x0 x2 y0 y2 hrun4 hrun5
     have hT0 : (fun W : World => W.cell? ⟨xb, 1, none⟩ = some (.string u)) w5.drew := blk_cell HX5.out 1
     refine wp_region_B (T := fun W : World => W.cell? ⟨xb, 1, none⟩ = some (.string u)) (B := fun _ => true) (by kernel_rfl) ?_
     have HG6 : Hid (GrowAt W1 u7 w5.drew v5 (Z ++ [(1 : UInt8), UInt8.ofNat k.size] ++ tx k)) := hid (HG5.out.below (Below.refl _ _).drew)
     generalize w5.drew = V at hT0 HG6 ⊢
     refine wpAnyB_take (i := 0) (v := ?mv0) rfl (by kernel_rfl) (by kernel_rfl) (by kernel_rfl) (fun _ _ _ h => h) (Or.inl ⟨by kernel_rfl, ?my0⟩) ?ms0
     case my0 => (intro w; go_simp) <;> with_reducible rfl
     try go_frame
     refine wpAnyB_take (i := 1) (v := ?mv1) rfl (by kernel_rfl) (by kernel_rfl) (by kernel_rfl) (fun _ _ _ h => h) (Or.inl ⟨by kernel_rfl, ?my1⟩) ?ms1
     case my1 => (intro w; go_simp) <;> with_reducible rfl
     try go_frame
     refine wpAnyB_load (i := 2) (v := ?mv2) rfl (by kernel_rfl) (by kernel_rfl) (by kernel_rfl) (by kernel_rfl) (fun _ _ _ h => h) (Or.inl ⟨by kernel_rfl, ?my2⟩) (by assumption) ?ms2
     case my2 => (intro w hSw; have hSw2 := hSw; go_simp) <;> with_reducible rfl
     try go_frame
     refine wpAnyB_take (i := 3) (v := ?mv3) rfl (by kernel_rfl) (by kernel_rfl) (by kernel_rfl) (fun _ _ _ h => h) (Or.inl ⟨by kernel_rfl, ?my3⟩) ?ms3
     case my3 => (intro w; go_simp) <;> with_reducible rfl
     try go_frame
     refine wpAnyB_take (i := 5) (v := ?mv5) rfl (by kernel_rfl) (by kernel_rfl) (by kernel_rfl) (fun _ _ _ h => h) (Or.inl ⟨by kernel_rfl, ?my5⟩) ?ms5
     case my5 => (intro w; go_simp) <;> with_reducible rfl
     try go_frame
     refine wpAnyB_load (i := 6) (v := ?mv6) rfl (by kernel_rfl) (by kernel_rfl) (by kernel_rfl) (by kernel_rfl) (fun _ _ _ h => h) (Or.inl ⟨by kernel_rfl, ?my6⟩) (by assumption) ?ms6
     case my6 => (intro w hSw; have hSw2 := hSw; go_simp) <;> with_reducible rfl
     try go_frame
     have HNB := hid (st_number HG6.out.sl (by rw [List.length_append, List.length_append]; simp only [List.length_cons, List.length_nil]; have := HZL.out; have := HKS.out; have e : (tx k).length = k.size := rfl; omega) u.size (by have := HUS.out; omega) 4 (by decide))
     refine wpAnyB_ready (rs := [4]) (by kernel_rfl) (by simp) ?_
     refine AllReadyB.cons (o := ⟨some 50,.call ⟨.value (.func 48),#[.tmp 46, .tmp 49, .const (.int .i64 4)],#[23, 3, 3]⟩,23,"batch.go:86",#[⟨0,.data⟩,⟨3,.data⟩],none⟩) rfl (fun K hK => ?_) AllReadyB.nil
     go_simp
     go_at_call 48
     refine HNB.out.mono ?_
     rintro e V2 ⟨v6, rfl, hg6⟩
     have HG7 : Hid (GrowAt W1 u7 V2 v6 (Z ++ [(1 : UInt8), UInt8.ofNat k.size] ++ tx k ++ lowN 4 u.size)) := hid (HG6.out.trans hg6)
     clear hg6 hT0
     refine hK.out _ _ (fun _ _ => blk_cell (HG7.out.keeps.obj HX1.out HOUT.out) 1) ?_
     clear hK K
     try go_frame
     obtain ⟨v7, w7, hrun7, hg7⟩ := HG7.out.str u (by rw [List.length_append, List.length_append, List.length_append, lowN_len]; simp only [List.length_cons, List.length_nil]; have := HZL.out; have := HKS.out; have := HUS.out; have e : (tx k).length = k.size := rfl; omega) 23
     have HG8 := hid hg7
     clear hg7
     refine wpAnyB_ready (rs := [7]) (by kernel_rfl) (by simp) ?_
     refine AllReadyB.cons (o := ⟨some 53,.call ⟨.builtin .append,#[.tmp 50, .tmp 52],#[23, 9]⟩,23,"batch.go:86",#[⟨4,.data⟩,⟨6,.data⟩,⟨4,.chain⟩],none⟩) rfl (fun K hK => ?_) AllReadyB.nil
     refine step_append_run2 rfl (.tmp 50) (.tmp 52) 23 9 rfl _ _ rfl rfl _ _ hrun7 ?_
     refine hK.out _ _ (fun _ _ => blk_cell (HG8.out.keeps.obj HX1.out HOUT.out) 1) ?_
     clear hK K
     try go_frame
     refine wpAnyB_take (i := 8) (v := ?mv8) rfl (by kernel_rfl) (by kernel_rfl) (by kernel_rfl) (fun _ _ _ h => h) (Or.inl ⟨by kernel_rfl, ?my8⟩) ?ms8
     case my8 => (intro w; go_simp) <;> with_reducible rfl
     try go_frame
     refine wpAnyB_done (by kernel_rfl) ?_ _
     have HNX : Hid (Z ++ [(1 : UInt8), UInt8.ofNat k.size] ++ tx k ++ lowN 4 u.size ++ tx u = lowN 8 N ++ lowN 2 l.length ++ (l.take (i + 1)).flatMap chgB) := hid (by
      rw [HZ.out, HTK.out]
      simp [chgB])
     clear hrun7
     go_wp2_with (fail)
     go_roundw
     case rel => exact ⟨i + 1, HLT.out, by go_num, hid (by rw [← HNX.out]; exact HF1.out.grow HG8.out)⟩
     case measure => have := HLT.out; simp [intOf]; omega
  ·have q2 : ¬ (i : Int) < (l.length : Int) := by omega
   obtain rfl : i = l.length := by omega
   obtain ⟨BB, hBB⟩ : ∃ x, x = batB N l := ⟨_, rfl⟩
   have HF2 : Hid (FreshAt w wr u7 BB) := hid (by rw [hBB, batB_take]; exact HF.out)
   have HE2 : Hid (encB (N : Int) l = if 1048576 < BB.length then ([], 8) else (BB, 0)) := hid (by rw [HE.out, hBB])
   have hbl : (BB.length : Int) ≤ 40000000 := by
    have := chg_bound HC0.out l.length
    rw [hBB, batB_take, List.length_append, List.length_append, lowN_len, lowN_len]
    omega
   obtain ⟨ba, bc, hbv⟩ := HF2.out.sl.shape
   subst hbv
   clear hBB HF HE hlt hi
   by_cases hbig : 1048576 < BB.length
   ·have t5 : (1048576 : Int) < (BB.length : Int) := by omega
    have t6 : decide ((1048576 : Int) < (BB.length : Int)) = true := by simp; omega
    have HF3 : Hid (FreshAt w wr (.slice none 0 0) []) := hid ⟨SlAt.nil, fun k hk => by simp [Value.ownBlock] at hk, HF2.out.below⟩
    have HE3 : Hid (encB (N : Int) l = ([], 8)) := hid (by rw [HE2.out, if_pos hbig])
    clear hbig
    go_wp2_with (fail)
    exact bodyPost_ret (results_tmp2 rfl _ _ _) rfl ⟨_, by rw [HE3.out]; rfl, by rw [HE3.out]; exact HF3⟩
   ·have t5 : ¬ (1048576 : Int) < (BB.length : Int) := by omega
    have t6 : decide ((1048576 : Int) < (BB.length : Int)) = false := by simp; omega
    have HE3 : Hid (encB (N : Int) l = (BB, 0)) := hid (by rw [HE2.out, if_neg hbig])
    clear hbig
    go_wp2_with (fail)
    exact bodyPost_ret (results_tmp2 rfl _ _ _) rfl ⟨_, by rw [HE3.out]; rfl, by rw [HE3.out]; exact HF2⟩
end
end Go.Proofs.YtagdchgkjjpacaaGreat
