/- The walk of the statement WalWrites. -/
import Derived.Deep.CutBlock
import Derived.Deep.DeepCutAuto
import Derived.Test.YthbfkjmpaifblaaWxb
import Derived.Test.YthbfkjmpaifblaaWArn
namespace Go.Proofs.Ythbfkjmpaifblaa
open Go.RowKit Go.Shelf

section
variable {w : World}
/-- WalWrites between two steps. -/
structure WrI (w wr : World) (fb lb : Nat) (size : Int) (l : List (List UInt8)) (j fi n : Nat) (v : Value) (F : FsS) (L : LogS) (S : Nat → Prop) (segs : List (List UInt8)) : Prop where
  lg : Lg w wr fb F (3 + 1001 * j) S lb L
  pl : WrP F L fi size l j segs
  tab : TabAt w S wr v segs
  len : n = segs.length
theorem WrI.below {wr w' : World} {fb lb : Nat} {size : Int} {l : List (List UInt8)} {j fi n : Nat} {v : Value} {F : FsS} {L : LogS} {S : Nat → Prop} {segs : List (List UInt8)} (h : WrI w wr fb lb size l j fi n v F L S segs) (hb : Below wr.heap.size wr w') : WrI w w' fb lb size l j fi n v F L S segs :=
  ⟨h.lg.below hb, h.pl, h.tab.below hb, h.len⟩
theorem Lg.up {wr : World} {fb lb k k' : Nat} {F : FsS} {L : LogS} {S : Nat → Prop} (h : Lg w wr fb F k S lb L) (hk : k ≤ k') : Lg w wr fb F k' S lb L :=
  ⟨⟨h.hd.fs, h.hd.low, h.hd.below, h.hd.ok.mono hk⟩, h.log⟩
set_option maxRecDepth 100000 in
set_option maxHeartbeats 16000000 in
theorem l_walWrites {u kv : Value} {l : List (List UInt8)} {ks : List Int} (size : Int) (hl : ListsAt w u l 1048576) (hk : IntsAt w kv ks) (hkl : ks.length ≤ maxLen) :
    Calls Try.prog 4 #[.int .i64 size, u, kv] w fun e w' => e = .returned (.bool true) ∧ Below w.heap.size w w' := by
  obtain ⟨a0, c0, rfl⟩ := hl.rd.shape
  obtain ⟨a1, c1, rfl, hcell⟩ := hk
  have HL := Lib.hid hl
  have HKC := Lib.hid hcell
  have hks : (ks.length : Int) ≤ 9223372036854775807 := by unfold maxLen at hkl; omega
  clear hl hcell hkl
  go_enter Try.func4, Try.ntmps4
  go_wp2_with (fail)
  refine (x_wfirst (w := w)).mono ?_
  rintro e w1 ⟨rfl, hb1⟩
  have HB1 := Lib.hid hb1
  clear hb1
  go_wp2_with (fail)
  refine (x_wfew (HL.out.below HB1.out)).mono ?_
  rintro e w2 ⟨bb, rfl, hbf, hb2⟩
  have HB2 : Hid (Below w.heap.size w w2) := Lib.hid (HB1.out.trans (hb2.mono HB1.out.size))
  clear hb2
  cases bb with
  | false =>
    clear hbf
    go_wp2_with (fail)
    go_ret
    exact ⟨rfl, HB2.out⟩
  | true =>
    have hle : l.length ≤ 60 := hbf rfl
    have HLE := Lib.hid hle
    have hm : (l.length : Int) ≤ 60 := by omega
    clear hbf hle
    go_wp2_with (fail)
    refine (f_new 67108864 (by decide) (by decide)).mono ?_
    rintro e w3 ⟨fb, rfl, hf, hb⟩
    have HF : Hid (Hd w w3 fb (FsS.new 67108864) 0 (New w2 w3 fun _ => False)) := Lib.hid ⟨hf, fun i e => by rcases e with e | e; exact e.elim; have := HB2.out.size; omega, HB2.out.trans (hb.mono HB2.out.size), FsOk.new0 67108864⟩
    clear hf hb
    go_wp2_with (fail)
    refine (w_open HF.out (by omega) nmW (by decide) size (fun f l _ => by show (l + 1 - f) * 0 ≤ _; omega)).mono ?_
    by_cases hsz : size < 16 ∨ 1048576 < size
    · have ho : openL (FsS.new 67108864) nmW size = (FsS.new 67108864, ⟨nmW, size, 0, 0, 0, false⟩, [], 6) := by
        unfold openL
        rw [if_neg (by simp [okName_seg dirOk_w 1]), if_pos hsz]
      rw [ho]
      rintro e w4 ⟨lv, x1, rfl, hO⟩
      obtain ⟨rfl, rfl, T, _, hd⟩ := hO.bad (show (6 : Int) ≠ 0 by decide)
      have HB4 := Lib.hid hd.below
      clear hO hd ho
      rcases hsz with h1 | h1
      · go_wp2_with (first | (go_at_call 27; refine (r_num _ _).mono ?_; rintro e w' ⟨rfl, rfl⟩))
        go_ret
        exact ⟨rfl, HB4.out⟩
      · by_cases h2 : size < 16
        · go_wp2_with (first | (go_at_call 27; refine (r_num _ _).mono ?_; rintro e w' ⟨rfl, rfl⟩))
          go_ret
          exact ⟨rfl, HB4.out⟩
        · go_wp2_with (first | (go_at_call 27; refine (r_num _ _).mono ?_; rintro e w' ⟨rfl, rfl⟩))
          go_ret
          exact ⟨rfl, HB4.out⟩
    · have HSZ : Hid (16 ≤ size ∧ size ≤ 1048576) := Lib.hid (by omega)
      have h16 : ¬ size < 16 := by omega
      have h20 : ¬ 1048576 < size := by omega
      clear hsz
      obtain ⟨G, ho, hlog, hcalm, hroom, hused, hfiles⟩ := open_none (F := FsS.new 67108864) (dir := nmW) (size := size) (segs_new _ _) dirOk_w HSZ.out.1 HSZ.out.2 rfl rfl (by show (0 : Nat) < 400; decide)
      have HPL := Lib.hid (WrP.new l HSZ.out.1 HSZ.out.2 ho hlog hcalm hroom hused hfiles)
      rw [ho]
      rintro e w4 ⟨lv, x1, rfl, hO⟩
      obtain ⟨lb, rfl, -, T, -, hlg, hx⟩ := hO.good rfl
      have HLG := Lib.hid hlg
      obtain ⟨au, cu, rfl⟩ := hx.shape
      have HI : Hid (∃ F L S segs, WrI w ((w4.alloc (.cells #[] 5)).alloc (.cells #[.slice (some ⟨w4.heap.size, 0, none⟩) 0 0] 22)) fb lb size l 0 1 1 (.slice (some ⟨w4.heap.size + 1, 0, none⟩) 1 1) F L S segs) := Lib.hid
        ⟨_, _, _, _, (HLG.out.below ((Below.refl _ _).alloc (Nat.le_refl _) _)).below ((Below.refl _ _).alloc (Nat.le_refl _) _), HPL.out, TabAt.first HLG.out.hd.below.size HLG.out.hd.fs.lt, rfl⟩
      clear hO hlg hx hlog ho hcalm hroom hused hfiles HF
      go_wp2_with (first | (go_at_call 27; refine (r_num _ _).mono ?_; rintro e w' ⟨rfl, rfl⟩))
      go_loopw [13, 14, 15] (fun fv sv iv wr => ∃ j fi n : Nat, iv = .int .i64 (j : Int) ∧ fv = .int .i64 (fi : Int) ∧ j ≤ l.length ∧ Hid (∃ F L S segs, WrI w wr fb lb size l j fi n sv F L S segs)) (fun _ _ iv _ => l.length - (intOf iv).toNat)
      case atStart => exact ⟨0, 1, 1, rfl, rfl, Nat.zero_le _, HI⟩
      case round =>
        obtain ⟨j, fi, n, rfl, rfl, hj, HX⟩ := hrel
        obtain ⟨F, L, S, segs, hI⟩ := HX.out
        obtain ⟨hn1, hn2, hn3, hn4⟩ := hI.pl.len
        obtain ⟨pre, b, rfl⟩ : ∃ pre b, segs = pre ++ [b] := ⟨segs.dropLast, segs.getLast hn2, (List.dropLast_concat_getLast hn2).symm⟩
        obtain ⟨sg, soff, scap, sa, sc, hv, hsc1, hsc2, hcell, hfz, hsb⟩ := hI.tab.at_ (i := pre.length) (b := b) (by simp)
        have hlen := hI.len
        rw [← hlen] at hv hsc1 hn1 hn3
        obtain ⟨m, rfl⟩ : ∃ m, n = m + 1 := ⟨pre.length, by rw [hlen]; simp⟩
        have hm' : m = pre.length := by simp at hlen; omega
        subst hv
        have HI := Lib.hid hI
        have HSB := Lib.hid hsb
        have HM := Lib.hid hm'
        rw [← hm'] at hcell hfz
        have HNB := Lib.hid (And.intro hn1 (And.intro hn3 (And.intro hn4 (And.intro hsc1 hsc2))))
        have HJ0 := Lib.hid hj
        have hk1 : (0 : Int) ≤ (j : Int) := by omega
        have hk2 : (0 : Int) ≤ (fi : Int) := by omega
        have hk3 : (0 : Int) ≤ (m : Int) := by omega
        have hk4 : (m : Int) ≤ 61 := by have := HLE.out; omega
        have hk5 : (fi : Int) ≤ 100 := by have := HLE.out; have := hI.pl.last; omega
        clear hI hn1 hn2 hn3 hn4 hlen hm' hsb hj hsc1 hsc2
        by_cases hlt : (j : Int) < (l.length : Int)
        · have HJ : Hid (j < l.length ∧ j < 60) := Lib.hid (by have := HLE.out; omega)
          obtain ⟨r, hr⟩ : ∃ r, l[j]? = some r := ⟨_, List.getElem?_eq_getElem HJ.out.1⟩
          obtain ⟨lg, loff, lcap, ra, rc, hv, hcx, hrd, -, -, hrn⟩ := HL.out.at_ hr
          injection hv with hv _ hv3
          subst hv hv3
          have HRD := Lib.hid hrd
          have HRN := Lib.hid hrn
          have HRR := Lib.hid hr
          have CELL : Hid (∀ W, Below w.heap.size w W → W.cell? ⟨lg, loff + j, none⟩ = some (.slice ra r.length rc)) := Lib.hid fun W hW => (hW.cell (p := ⟨lg, loff + j, none⟩) (World.block_lt_of_cell? w _ hcx)).trans hcx
          have hc0 := CELL.out wr HI.out.lg.hd.below
          clear hr hcx hrd hrn
          go_upto_if 79 with (fail)
          go_cut [16] from 70 to 178 (fun kv wc => wc = wr ∧ ∃ kd : Nat, kv = .int .i64 (kd : Int) ∧ kd < 5)
          case first =>
            by_cases hkk : (j : Int) < (ks.length : Int)
            · obtain ⟨x, hx⟩ : ∃ x, ks[j]? = some x := ⟨_, List.getElem?_eq_getElem (by omega)⟩
              obtain ⟨kg, koff, rfl, d0⟩ := HKC.out j x hx
              have e0 := (HI.out.lg.hd.below.cell (p := ⟨kg, koff + j, none⟩) (World.block_lt_of_cell? w _ d0)).trans d0
              obtain ⟨kd, hkd, hkd2⟩ : ∃ kd : Nat, (wrap64 (x.tmod 5 + 5)).tmod 5 = (kd : Int) ∧ kd < 5 := by
                have t1 : -5 < x.tmod 5 ∧ x.tmod 5 < 5 := ⟨by have := Int.lt_tmod_of_pos x (show (0 : Int) < 5 by omega); omega, Int.tmod_lt_of_pos x (by omega)⟩
                have e1 : wrap64 (x.tmod 5 + 5) = x.tmod 5 + 5 := IntWalk.wrap64_in _ (by omega)
                have t2 : 0 ≤ (x.tmod 5 + 5).tmod 5 ∧ (x.tmod 5 + 5).tmod 5 < 5 := ⟨Int.tmod_nonneg _ (by omega), Int.tmod_lt_of_pos _ (by omega)⟩
                rw [e1]
                exact ⟨((x.tmod 5 + 5).tmod 5).toNat, by omega, by omega⟩
              have HKD := Lib.hid (And.intro hkd hkd2)
              clear d0 hx hkd hkd2
              go_wp2_with (fail)
              go_meet
              exact ⟨rfl, kd, by rw [HKD.out.1], HKD.out.2⟩
            · go_wp2_with (fail)
              go_meet
              exact ⟨rfl, 0, rfl, by decide⟩
          case rest =>
            obtain ⟨hw, kd, rfl, hkd⟩ := hcut
            subst hw
            have HKD := Lib.hid hkd
            clear hkd
            have hwm : wrap64 (((m + 1 : Nat) : Int) - 1) = (m : Int) := by rw [IntWalk.wrap64_in _ (by omega)]; omega
            go_upto_block 2 with (fail)
            go_cut [13, 14, 17, 18, 19] from 70 to 178 (fun fv sv _ _ _ wd => ∃ fi n : Nat, fv = .int .i64 (fi : Int) ∧ Hid (∃ F L S segs, WrI w wd fb lb size l (j + 1) fi n sv F L S segs))
            case first =>
              by_cases hk3' : kd = 3
              · subst hk3'
                obtain ⟨v8, w8, hrun, hp8⟩ := HI.out.tab.push HI.out.lg (by have := HNB.out; have := HJ.out; have := HI.out.len; omega) 25
                have HP8 := hp8
                have HR2 := Lib.hid (HI.out.pl.rotate HJ.out.2 HRR.out)
                clear hp8
                go_wp2_with (first | (at_builtin; refine wpList_append_run rfl (.tmp 126) (.tmp 127) 25 rfl _ _ rfl rfl _ _ hrun ?_))
                refine (w_rotate HP8.out.2 (by have := HJ.out; omega) (by rw [HI.out.pl.dir]; decide)).mono ?_
                rintro e w9 ⟨rfl, hP⟩
                have HFIN : Hid (∃ F L S segs, WrI w w9 fb lb size l (j + 1) fi (m + 2) v8 F L S segs) := Lib.hid
                  ⟨_, _, _, _, hP.lg.up (by omega), HR2.out.2, HP8.out.1.post HP8.out.2 hP, by rw [List.length_append, ← HI.out.len]; rfl⟩
                rw [HR2.out.1]
                clear hP hrun
                go_wp2_with (first | (go_at_call 27; refine (r_num _ _).mono ?_; rintro e w' ⟨rfl, rfl⟩))
                go_meet
                exact ⟨fi, m + 2, rfl, HFIN⟩
              by_cases hk4' : kd = 4
              · subst hk4'
                obtain ⟨d, hd⟩ : ∃ d, d = r.length % (m + 1 + 2) := ⟨_, rfl⟩
                have hdl : d < m + 1 + 2 := by rw [hd]; exact Nat.mod_lt _ (by omega)
                obtain ⟨bl, hbl⟩ : ∃ bl, bl = fi + d := ⟨_, rfl⟩
                have HBEL : Hid (wrap64 ((fi : Int) + (r.length : Int) % ((m : Int) + 1 + 2)) = (bl : Int)) := Lib.hid (by
                  have h0 : ((m : Int) + 1 + 2) = ((m + 1 + 2 : Nat) : Int) := by omega
                  have h1 : (r.length : Int) % ((m : Int) + 1 + 2) = (d : Int) := by rw [h0, hd, Int.natCast_emod]
                  rw [h1, IntWalk.wrap64_in _ (by omega)]
                  omega)
                have HBL := Lib.hid hbl
                have HDL := Lib.hid hdl
                clear hd
                go_wp2_with (fail)
                rw [HBEL.out]
                refine (w_drop HI.out.lg (by have := HJ.out; omega) (by rw [HI.out.pl.dir]; decide) (by have := HI.out.pl.last; have := HJ.out; omega) _).mono ?_
                rintro e w9 ⟨rfl, hP⟩
                have htab := HI.out.tab.post HI.out.lg hP
                rcases HI.out.pl.drop HRR.out d with ⟨h1, h2, h3⟩ | ⟨h1, h2, h3⟩
                · rw [← HBL.out] at h2
                  rw [h2] at hP ⊢
                  have HFIN : Hid (∃ F L S segs, WrI w w9 fb lb size l (j + 1) fi (m + 1) (.slice (some ⟨sg, soff, none⟩) (m + 1) scap) F L S segs) := Lib.hid ⟨_, _, _, _, hP.lg.up (by omega), h3, htab, HI.out.len⟩
                  have hgt : (fi : Int) + (m : Int) < (bl : Int) := by rw [← HI.out.len] at h1; omega
                  clear hP h1 h2 h3 htab hbl hdl
                  go_wp2_with (first | (go_at_call 27; refine (r_num _ _).mono ?_; rintro e w' ⟨rfl, rfl⟩))
                  go_meet
                  exact ⟨fi, m + 1, rfl, HFIN⟩
                · rw [← HBL.out] at h2 h3
                  have h1 : d < m + 1 := by rw [HI.out.len]; exact h1
                  have hdd : bl - fi = d := by omega
                  have HFIN : Hid (∃ F L S segs, WrI w w9 fb lb size l (j + 1) bl (m + 1 - (bl - fi)) (.slice (some ⟨sg, soff + (bl - fi), none⟩) (m + 1 - (bl - fi)) (scap - (bl - fi))) F L S segs) := Lib.hid (by
                    rw [hdd]
                    exact ⟨_, _, _, _, hP.lg.up (by omega), h3, htab.drop (by rw [← HI.out.len]; omega), by rw [List.length_drop, ← HI.out.len]⟩)
                  rw [h2]
                  have hgt : ¬ (fi : Int) + (m : Int) < (bl : Int) := by omega
                  have hdm : fi ≤ bl ∧ (bl : Int) - (fi : Int) ≤ (m : Int) + 1 := by omega
                  have hds : ¬ scap = bl - fi := by have := HNB.out; omega
                  clear hP h2 h3 htab hbl hdl hdd h1
                  go_wp2_with (first | (go_at_call 27; refine (r_num _ _).mono ?_; rintro e w' ⟨rfl, rfl⟩))
                  go_meet
                  exact ⟨bl, m + 1 - (bl - fi), rfl, HFIN⟩
              · obtain ⟨fy, hfy⟩ : ∃ fy, fy = frameOf r := ⟨_, rfl⟩
                have HFY := Lib.hid hfy
                have HBN : Hid (b.length ≤ 67108864) := Lib.hid (by
                  have h1 := HI.out.pl.find (i := pre.length) (b := b) (by simp)
                  have h2 := (HI.out.lg.hd.ok.len h1).1
                  have h3 : (b.length : Int) ≤ 67108864 := h2
                  omega)
                clear hfy
                go_upto_if 97 with (fail)
                go_cut [14, 17] from 70 to 178 (fun sv lv wd => ∃ (g off cap i : Nat) (pre2 : List (List UInt8)) (b2 : List UInt8), sv = .slice (some ⟨g, off, none⟩) (i + 1) cap ∧ lv = .int .i64 (i : Int) ∧ i ≤ 62 ∧ i + 1 ≤ cap ∧ cap ≤ 9223372036854775807 ∧ Hid (Lg w wd fb F (3 + 1001 * j) S lb L ∧ TabAt w S wd (.slice (some ⟨g, off, none⟩) (i + 1) cap) (pre2 ++ [b2]) ∧ i = pre2.length ∧ b2.length ≤ 67108864 ∧ (if size ≤ (b.length : Int) then pre ++ [b] ++ [fy] else pre ++ [b ++ fy]) = pre2 ++ [b2 ++ fy]))
                case first =>
                  by_cases hs : size ≤ (b.length : Int)
                  · obtain ⟨v8, w8, hrun, hp8⟩ := HI.out.tab.push HI.out.lg (by have := HNB.out; have := HJ.out; have := HI.out.len; omega) 25
                    obtain ⟨g8, o8, c8, a8, d8, hv8, hx1, hx2, _⟩ := hp8.out.1.at_ (i := (pre ++ [b]).length) (b := []) (by simp)
                    have hl8 : (pre ++ [b] ++ [[]]).length = m + 1 + 1 := by rw [List.length_append, ← HI.out.len]; rfl
                    rw [hl8] at hv8 hx1
                    have HP8 : Hid (Lg w w8 fb F (3 + 1001 * j) S lb L ∧ TabAt w S w8 (.slice (some ⟨g8, o8, none⟩) (m + 1 + 1) c8) ((pre ++ [b]) ++ [[]]) ∧ m + 1 = (pre ++ [b]).length ∧ ([] : List UInt8).length ≤ 67108864 ∧ (if size ≤ (b.length : Int) then pre ++ [b] ++ [fy] else pre ++ [b ++ fy]) = (pre ++ [b]) ++ [[] ++ fy]) := Lib.hid
                      ⟨hp8.out.2, by rw [← hv8]; exact hp8.out.1, HI.out.len, Nat.zero_le _, by rw [if_pos hs, List.nil_append]⟩
                    have HXX := Lib.hid (And.intro hx1 hx2)
                    subst hv8
                    clear hp8 hl8 hx1 hx2
                    go_wp2_with (first | (at_builtin; refine wpList_append_run rfl (.tmp 98) (.tmp 99) 25 rfl _ _ rfl rfl _ _ hrun ?_))
                    go_meet
                    exact ⟨g8, o8, c8, m + 1, pre ++ [b], [], rfl, by go_num, by omega, HXX.out.1, HXX.out.2, HP8⟩
                  · have HP8 : Hid (Lg w wc fb F (3 + 1001 * j) S lb L ∧ TabAt w S wc (.slice (some ⟨sg, soff, none⟩) (m + 1) scap) (pre ++ [b]) ∧ m = pre.length ∧ b.length ≤ 67108864 ∧ (if size ≤ (b.length : Int) then pre ++ [b] ++ [fy] else pre ++ [b ++ fy]) = pre ++ [b ++ fy]) := Lib.hid
                      ⟨HI.out.lg, HI.out.tab, HM.out, HBN.out, by rw [if_neg hs]⟩
                    go_wp2_with (fail)
                    go_meet
                    exact ⟨sg, soff, scap, m, pre, b, rfl, rfl, by omega, HNB.out.2.2.2.1, HNB.out.2.2.2.2, HP8⟩
                case rest =>
                  obtain ⟨g, off, cap, i, pre2, b2, rfl, rfl, hi62, hcap1, hcap2, HG⟩ := hcut
                  rename World => wd
                  have hlg := HG.out.1.hd.below
                  obtain ⟨a2, c2, hseg, hsegk, hgrow⟩ := HG.out.2.1.grow HG.out.1 (i := i) (b := b2) (by rw [HG.out.2.2.1]; simp)
                  have hset : (pre2 ++ [b2]).set i (b2 ++ fy) = pre2 ++ [b2 ++ fy] := by rw [HG.out.2.2.1]; simp
                  have HFRM : Hid (∀ W1, Below wd.heap.size wd W1 → Calls Try.prog 18 #[.slice ra r.length rc] W1 fun e w2 => ∃ va vc a3 c3 w3, e = .returned (.slice va fy.length vc) ∧ (w2.cell? ⟨lg, loff + j, none⟩ = some (.slice ra r.length rc)) ∧ (w2.cell? ⟨g, off + i, none⟩ = some (.slice a2 b2.length c2)) ∧
                      ((Builtin.append_ #[22, 22] 22 #[.slice a2 b2.length c2, .slice va fy.length vc]).run Try.prog w2 = .ok (.slice a3 (b2.length + fy.length) c3) w3) ∧ (w3.cell? ⟨lg, loff + j, none⟩ = some (.slice ra r.length rc)) ∧ (w3.cell? ⟨g, off + i, none⟩ = some (.slice a2 b2.length c2) ∧ w3.frozen? ⟨g, off + i, none⟩ = false) ∧
                      Hid (TabAt w S (w3.setCell ⟨g, off + i, none⟩ (.slice a3 (b2.length + fy.length) c3)) (.slice (some ⟨g, off, none⟩) (i + 1) cap) (pre2 ++ [b2 ++ fy]) ∧ Lg w (w3.setCell ⟨g, off + i, none⟩ (.slice a3 (b2.length + fy.length) c3)) fb F (3 + 1001 * j) S lb L)) := Lib.hid fun W1 hW1 => by
                    have hb1 := HG.out.1.hd.below.trans (hW1.mono HG.out.1.hd.below.size)
                    refine (h_frame (HRD.out.below hb1) (by have := HRN.out; omega)).mono ?_
                    rintro e w2 ⟨v, rfl, hfr⟩
                    rw [← HFY.out] at hfr
                    obtain ⟨va, vc, rfl⟩ := hfr.sl.shape
                    have hb2 : Below wd.heap.size wd w2 := hW1.trans (hfr.below.mono hW1.size)
                    obtain ⟨a3, c3, w3, hrun, q1, q2, q3, q4⟩ := hgrow w2 _ fy 22 hb2 hfr.sl.rd (by have := HG.out.2.2.2.1; have h9 := congrArg List.length HFY.out; rw [frameOf_len] at h9; have := HRN.out; omega)
                    rw [hset] at q4
                    have hbw2 := HG.out.1.hd.below.trans (hb2.mono HG.out.1.hd.below.size)
                    exact ⟨va, vc, a3, c3, w3, rfl, CELL.out _ hbw2, hsegk _ hb2, hrun, CELL.out _ (hbw2.trans q3), ⟨q1, q2⟩, q4⟩
                  have HB0 : Hid (Below wd.heap.size wd wd.drew) := Lib.hid (Below.refl _ _).drew
                  have hcl := CELL.out _ hlg
                  have hgl : ¬ g = lg := fun e => by
                    have h1 := (HG.out.2.1.out g rfl).2
                    have h2 := (HL.out.at_ HRR.out)
                    obtain ⟨g3, _, _, _, _, e3, d3, _⟩ := h2
                    injection e3 with e3 _ _
                    injection e3 with e3
                    injection e3 with e3 _ _
                    have h4 := World.block_lt_of_cell? w _ d3
                    simp only at h4
                    omega
                  have hgl2 : ¬ lg = g := fun e => hgl e.symm
                  have hi0 : (0 : Int) ≤ (i : Int) := by omega
                  have hii : (i : Int) < (i : Int) + 1 := by omega
                  clear hlg hset hgrow hsegk
                  go_upto_region 24 with (fail)
                  go_cut [] from 70 to 178 (fun wx => Hid (TabAt w S wx (.slice (some ⟨g, off, none⟩) (i + 1) cap) (pre2 ++ [b2 ++ fy]) ∧ Lg w wx fb F (3 + 1001 * j) S lb L))
                  case first =>
                    refine wp_region_held_drew (S := fun w' => w'.cell? ⟨lg, loff + j, none⟩ = some (.slice ra r.length rc)) (by kernel_rfl) ?_ (fun hHeld => ?_)
                    · go_keep
                    refine wpAnyH_take (i := 0) (oi := { dst := some 103, op := Op.move (Operand.tmp 14), type := 25, pos := "law.go:105", after := #[], guard := none }) (v := ?vv0) rfl (by kernel_rfl) (by kernel_rfl) (by kernel_rfl) (fun _ _ _ h => h) (Or.inl ⟨by rfl, ?hy0⟩) (by assumption) ?rs0
                    case hy0 => (intro w hSw; (try dsimp only at hSw); go_simp) <;> with_reducible rfl
                    try simp only [Act.put, List.setIfInBounds_toArray, List.set_cons_zero, List.set_cons_succ]
                    refine wpAnyH_take (i := 1) (oi := { dst := some 104, op := Op.move (Operand.tmp 17), type := 3, pos := "law.go:105", after := #[], guard := none }) (v := ?vv1) rfl (by kernel_rfl) (by kernel_rfl) (by kernel_rfl) (fun _ _ _ h => h) (Or.inl ⟨by rfl, ?hy1⟩) (by assumption) ?rs1
                    case hy1 => (intro w hSw; (try dsimp only at hSw); go_simp) <;> with_reducible rfl
                    try simp only [Act.put, List.setIfInBounds_toArray, List.set_cons_zero, List.set_cons_succ]
                    refine wpAnyH_take (i := 2) (oi := { dst := some 105, op := Op.move (Operand.tmp 14), type := 25, pos := "law.go:105", after := #[], guard := none }) (v := ?vv2) rfl (by kernel_rfl) (by kernel_rfl) (by kernel_rfl) (fun _ _ _ h => h) (Or.inl ⟨by rfl, ?hy2⟩) (by assumption) ?rs2
                    case hy2 => (intro w hSw; (try dsimp only at hSw); go_simp) <;> with_reducible rfl
                    try simp only [Act.put, List.setIfInBounds_toArray, List.set_cons_zero, List.set_cons_succ]
                    refine wpAnyH_take (i := 3) (oi := { dst := some 106, op := Op.move (Operand.tmp 17), type := 3, pos := "law.go:105", after := #[], guard := none }) (v := ?vv3) rfl (by kernel_rfl) (by kernel_rfl) (by kernel_rfl) (fun _ _ _ h => h) (Or.inl ⟨by rfl, ?hy3⟩) (by assumption) ?rs3
                    case hy3 => (intro w hSw; (try dsimp only at hSw); go_simp) <;> with_reducible rfl
                    try simp only [Act.put, List.setIfInBounds_toArray, List.set_cons_zero, List.set_cons_succ]
                    refine wpAnyH_take (i := 4) (oi := { dst := some 107, op := Op.indexAddr 25 (Operand.tmp 105) (Operand.tmp 106), type := 0, pos := "law.go:105", after := #[{ on := 2, ground := Ground.data }, { on := 3, ground := Ground.data }], guard := none }) (v := ?vv4) rfl (by kernel_rfl) (by kernel_rfl) (by kernel_rfl) (fun _ _ _ h => h) (Or.inl ⟨by rfl, ?hy4⟩) (by assumption) ?rs4
                    case hy4 => (intro w hSw; (try dsimp only at hSw); go_simp) <;> with_reducible rfl
                    try simp only [Act.put, List.setIfInBounds_toArray, List.set_cons_zero, List.set_cons_succ]
                    refine wpAnyH_take (i := 6) (oi := { dst := some 109, op := Op.move (Operand.tmp 1), type := 25, pos := "law.go:105", after := #[], guard := none }) (v := ?vv6) rfl (by kernel_rfl) (by kernel_rfl) (by kernel_rfl) (fun _ _ _ h => h) (Or.inl ⟨by rfl, ?hy6⟩) (by assumption) ?rs6
                    case hy6 => (intro w hSw; (try dsimp only at hSw); go_simp) <;> with_reducible rfl
                    try simp only [Act.put, List.setIfInBounds_toArray, List.set_cons_zero, List.set_cons_succ]
                    refine wpAnyH_take (i := 7) (oi := { dst := some 110, op := Op.move (Operand.tmp 15), type := 3, pos := "law.go:105", after := #[], guard := none }) (v := ?vv7) rfl (by kernel_rfl) (by kernel_rfl) (by kernel_rfl) (fun _ _ _ h => h) (Or.inl ⟨by rfl, ?hy7⟩) (by assumption) ?rs7
                    case hy7 => (intro w hSw; (try dsimp only at hSw); go_simp) <;> with_reducible rfl
                    try simp only [Act.put, List.setIfInBounds_toArray, List.set_cons_zero, List.set_cons_succ]
                    refine wpAnyH_take (i := 8) (oi := { dst := some 111, op := Op.indexAddr 25 (Operand.tmp 109) (Operand.tmp 110), type := 0, pos := "law.go:105", after := #[{ on := 6, ground := Ground.data }, { on := 7, ground := Ground.data }], guard := none }) (v := ?vv8) rfl (by kernel_rfl) (by kernel_rfl) (by kernel_rfl) (fun _ _ _ h => h) (Or.inl ⟨by rfl, ?hy8⟩) (by assumption) ?rs8
                    case hy8 => (intro w hSw; (try dsimp only at hSw); go_simp) <;> with_reducible rfl
                    try simp only [Act.put, List.setIfInBounds_toArray, List.set_cons_zero, List.set_cons_succ]
                    refine wpAnyH_take (i := 9) (oi := { dst := some 112, op := Op.load 22 (Operand.tmp 111), type := 22, pos := "law.go:105", after := #[{ on := 8, ground := Ground.data }], guard := none }) (v := ?vv9) rfl (by kernel_rfl) (by kernel_rfl) (by kernel_rfl) (fun _ _ _ h => h) (Or.inl ⟨by rfl, ?hy9⟩) (by assumption) ?rs9
                    case hy9 => (intro w hSw; (try dsimp only at hSw); go_simp) <;> with_reducible rfl
                    try simp only [Act.put, List.setIfInBounds_toArray, List.set_cons_zero, List.set_cons_succ]
                    refine wpAnyH_ready (rs := [5, 10]) (by kernel_rfl) (by simp) ?_
                    refine AllReadyH.cons (o := { dst := some 108, op := Op.load 22 (Operand.tmp 107), type := 22, pos := "law.go:105", after := #[{ on := 4, ground := Ground.data }], guard := none }) rfl (fun K hK => ?_) (AllReadyH.cons (o := { dst := some 113, op := Op.call { callee := Callee.value (Operand.func 18), args := #[Operand.tmp 112], argTypes := #[22] }, type := 22, pos := "law.go:105", after := #[{ on := 9, ground := Ground.data }], guard := none }) rfl (fun K hK => ?_) AllReadyH.nil)
                    · go_simp
                      refine hK.out _ _ ?_ (fun hHeld => ?_)
                      · assumption
                      clear hK K
                      try simp only [Act.put, List.setIfInBounds_toArray, List.set_cons_zero, List.set_cons_succ]
                      refine wpAnyH_ready (rs := [10]) (by kernel_rfl) (by simp) ?_
                      refine AllReadyH.cons (o := { dst := some 113, op := Op.call { callee := Callee.value (Operand.func 18), args := #[Operand.tmp 112], argTypes := #[22] }, type := 22, pos := "law.go:105", after := #[{ on := 9, ground := Ground.data }], guard := none }) rfl (fun K hK => ?_) AllReadyH.nil
                      go_simp
                      go_at_call 18; (with_reducible refine (HFRM.out _ ?_).mono ?_); exact HB0.out; rintro e w2 ⟨va, vc, a3, c3, w3, rfl, s1, t1, hrun, s2, ⟨s3, s4⟩, hC⟩
                      go_wp2_with fail
                      refine hK.out _ _ ?_ (fun hHeld => ?_)
                      · exact s1
                      clear hK K
                      try simp only [Act.put, List.setIfInBounds_toArray, List.set_cons_zero, List.set_cons_succ]
                      refine wpAnyH_ready (rs := [11]) (by kernel_rfl) (by simp) ?_
                      refine AllReadyH.cons (o := { dst := some 114, op := Op.call { callee := Callee.builtin Builtin.append, args := #[Operand.tmp 108, Operand.tmp 113], argTypes := #[22, 22] }, type := 22, pos := "law.go:105", after := #[{ on := 5, ground := Ground.data }, { on := 10, ground := Ground.data }, { on := 10, ground := Ground.chain }], guard := none }) rfl (fun K hK => ?_) AllReadyH.nil
                      refine step_append_run rfl (.tmp 108) (.tmp 113) 22 rfl _ _ rfl rfl _ _ hrun ?_
                      refine hK.out _ _ ?_ (fun hHeld => ?_)
                      · exact s2
                      clear hK K
                      try simp only [Act.put, List.setIfInBounds_toArray, List.set_cons_zero, List.set_cons_succ]
                      refine wpAnyH_take (i := 12) (oi := { dst := some 115, op := Op.indexAddr 25 (Operand.tmp 103) (Operand.tmp 104), type := 0, pos := "law.go:105", after := #[{ on := 0, ground := Ground.data }, { on := 1, ground := Ground.data }, { on := 0, ground := Ground.phase }, { on := 1, ground := Ground.phase }, { on := 2, ground := Ground.phase }, { on := 3, ground := Ground.phase }, { on := 4, ground := Ground.phase }, { on := 5, ground := Ground.phase }, { on := 6, ground := Ground.phase }, { on := 7, ground := Ground.phase }, { on := 8, ground := Ground.phase }, { on := 9, ground := Ground.phase }, { on := 10, ground := Ground.phase }, { on := 11, ground := Ground.phase }], guard := none }) (v := ?vv12) rfl (by kernel_rfl) (by kernel_rfl) (by kernel_rfl) (fun _ _ _ h => h) (Or.inl ⟨by rfl, ?hy12⟩) (by assumption) ?rs12
                      case hy12 => (intro w hSw; (try dsimp only at hSw); go_simp) <;> with_reducible rfl
                      try simp only [Act.put, List.setIfInBounds_toArray, List.set_cons_zero, List.set_cons_succ]
                      refine wpAnyH_ready (rs := [13]) (by kernel_rfl) (by simp) ?_
                      refine AllReadyH.cons (o := { dst := none, op := Op.store 22 (Operand.tmp 115) (Operand.tmp 114), type := 0, pos := "law.go:105", after := #[{ on := 12, ground := Ground.data }, { on := 11, ground := Ground.data }, { on := 11, ground := Ground.chain }, { on := 0, ground := Ground.phase }, { on := 1, ground := Ground.phase }, { on := 2, ground := Ground.phase }, { on := 3, ground := Ground.phase }, { on := 4, ground := Ground.phase }, { on := 5, ground := Ground.phase }, { on := 6, ground := Ground.phase }, { on := 7, ground := Ground.phase }, { on := 8, ground := Ground.phase }, { on := 9, ground := Ground.phase }, { on := 10, ground := Ground.phase }, { on := 11, ground := Ground.phase }], guard := none }) rfl (fun K hK => ?_) AllReadyH.nil
                      go_simp
                      refine hK.out _ _ ?_ (fun hHeld => ?_)
                      · go_keep
                      clear hK K
                      try simp only [Act.put, List.setIfInBounds_toArray, List.set_cons_zero, List.set_cons_succ]
                      refine wpAnyH_done (by kernel_rfl) ?_ _
                      have HC := Lib.hid hC.out
                      go_wp2_with (fail)
                      go_meet
                      exact HC
                    · go_simp
                      go_at_call 18; (with_reducible refine (HFRM.out _ ?_).mono ?_); exact HB0.out; rintro e w2 ⟨va, vc, a3, c3, w3, rfl, s1, t1, hrun, s2, ⟨s3, s4⟩, hC⟩
                      go_wp2_with fail
                      refine hK.out _ _ ?_ (fun hHeld => ?_)
                      · exact s1
                      clear hK K
                      try simp only [Act.put, List.setIfInBounds_toArray, List.set_cons_zero, List.set_cons_succ]
                      refine wpAnyH_ready (rs := [5]) (by kernel_rfl) (by simp) ?_
                      refine AllReadyH.cons (o := { dst := some 108, op := Op.load 22 (Operand.tmp 107), type := 22, pos := "law.go:105", after := #[{ on := 4, ground := Ground.data }], guard := none }) rfl (fun K hK => ?_) AllReadyH.nil
                      go_simp
                      refine hK.out _ _ ?_ (fun hHeld => ?_)
                      · assumption
                      clear hK K
                      try simp only [Act.put, List.setIfInBounds_toArray, List.set_cons_zero, List.set_cons_succ]
                      refine wpAnyH_ready (rs := [11]) (by kernel_rfl) (by simp) ?_
                      refine AllReadyH.cons (o := { dst := some 114, op := Op.call { callee := Callee.builtin Builtin.append, args := #[Operand.tmp 108, Operand.tmp 113], argTypes := #[22, 22] }, type := 22, pos := "law.go:105", after := #[{ on := 5, ground := Ground.data }, { on := 10, ground := Ground.data }, { on := 10, ground := Ground.chain }], guard := none }) rfl (fun K hK => ?_) AllReadyH.nil
                      refine step_append_run rfl (.tmp 108) (.tmp 113) 22 rfl _ _ rfl rfl _ _ hrun ?_
                      refine hK.out _ _ ?_ (fun hHeld => ?_)
                      · exact s2
                      clear hK K
                      try simp only [Act.put, List.setIfInBounds_toArray, List.set_cons_zero, List.set_cons_succ]
                      refine wpAnyH_take (i := 12) (oi := { dst := some 115, op := Op.indexAddr 25 (Operand.tmp 103) (Operand.tmp 104), type := 0, pos := "law.go:105", after := #[{ on := 0, ground := Ground.data }, { on := 1, ground := Ground.data }, { on := 0, ground := Ground.phase }, { on := 1, ground := Ground.phase }, { on := 2, ground := Ground.phase }, { on := 3, ground := Ground.phase }, { on := 4, ground := Ground.phase }, { on := 5, ground := Ground.phase }, { on := 6, ground := Ground.phase }, { on := 7, ground := Ground.phase }, { on := 8, ground := Ground.phase }, { on := 9, ground := Ground.phase }, { on := 10, ground := Ground.phase }, { on := 11, ground := Ground.phase }], guard := none }) (v := ?vv12b) rfl (by kernel_rfl) (by kernel_rfl) (by kernel_rfl) (fun _ _ _ h => h) (Or.inl ⟨by rfl, ?hy12b⟩) (by assumption) ?rs12b
                      case hy12b => (intro w hSw; (try dsimp only at hSw); go_simp) <;> with_reducible rfl
                      try simp only [Act.put, List.setIfInBounds_toArray, List.set_cons_zero, List.set_cons_succ]
                      refine wpAnyH_ready (rs := [13]) (by kernel_rfl) (by simp) ?_
                      refine AllReadyH.cons (o := { dst := none, op := Op.store 22 (Operand.tmp 115) (Operand.tmp 114), type := 0, pos := "law.go:105", after := #[{ on := 12, ground := Ground.data }, { on := 11, ground := Ground.data }, { on := 11, ground := Ground.chain }, { on := 0, ground := Ground.phase }, { on := 1, ground := Ground.phase }, { on := 2, ground := Ground.phase }, { on := 3, ground := Ground.phase }, { on := 4, ground := Ground.phase }, { on := 5, ground := Ground.phase }, { on := 6, ground := Ground.phase }, { on := 7, ground := Ground.phase }, { on := 8, ground := Ground.phase }, { on := 9, ground := Ground.phase }, { on := 10, ground := Ground.phase }, { on := 11, ground := Ground.phase }], guard := none }) rfl (fun K hK => ?_) AllReadyH.nil
                      go_simp
                      refine hK.out _ _ ?_ (fun hHeld => ?_)
                      · go_keep
                      clear hK K
                      try simp only [Act.put, List.setIfInBounds_toArray, List.set_cons_zero, List.set_cons_succ]
                      refine wpAnyH_done (by kernel_rfl) ?_ _
                      have HC := Lib.hid hC.out
                      go_wp2_with (fail)
                      go_meet
                      exact HC
                  case rest =>
                    have HC := hcut
                    clear hcut HFRM HB0 hseg hcl
                    rename World => wx
                    have hc9 := CELL.out _ HC.out.2.hd.below
                    have HAP := Lib.hid (by
                      have h := HI.out.pl
                      exact h.append HJ.out.2 HRR.out HL.out.bulk)
                    go_wp2_with (fail)
                    refine (w_append HC.out.2 (by have := HJ.out; omega) (by rw [HI.out.pl.dir]; decide) (by have := HI.out.pl.last; have := HJ.out; omega) (HRD.out.below HC.out.2.hd.below) (HC.out.2.arg HRD.out) (by have := HRN.out; omega)).mono ?_
                    rintro e w9 ⟨rfl, hP⟩
                    have HFIN : Hid (∃ F L S segs, WrI w w9 fb lb size l (j + 1) fi (i + 1) (.slice (some ⟨g, off, none⟩) (i + 1) cap) F L S segs) := Lib.hid
                      ⟨_, _, _, _, hP.lg.up (by omega), by have h := HAP.out.2; rw [← HFY.out, HG.out.2.2.2.2] at h; exact h, HC.out.1.post HC.out.2 hP, by rw [HG.out.2.2.1]; simp⟩
                    rw [HAP.out.1]
                    clear hP
                    go_wp2_with (first | (go_at_call 27; refine (r_num _ _).mono ?_; rintro e w' ⟨rfl, rfl⟩))
                    go_meet
                    exact ⟨fi, i + 1, rfl, HFIN⟩
            case rest =>
              obtain ⟨fi2, n2, rfl, HX2⟩ := hcut
              rename World => w9
              obtain ⟨F2, L2, S2, segs2, hI2⟩ := HX2.out
              obtain ⟨k1, k2, k3, k4⟩ := hI2.pl.len
              obtain ⟨a9, c9, hv9⟩ := hI2.tab.shape
              rw [← hI2.len] at hv9 k1 k3
              subst hv9
              have HI2 := Lib.hid hI2
              have HSE : Hid (Calls Try.prog 31 #[.pointer (some ⟨lb, 0, none⟩)] w9 fun e w' => e = .returned (.int .i64 ((fi2 : Int) + (n2 : Int) - 1)) ∧ w9 = w') := Lib.hid (by
                have h := w_segment hI2.lg
                rwa [show (L2.last : Int) = (fi2 : Int) + (n2 : Int) - 1 by omega] at h)
              have HFI : Hid (Calls Try.prog 32 #[.pointer (some ⟨lb, 0, none⟩)] w9 fun e w' => e = .returned (.int .i64 (fi2 : Int)) ∧ w9 = w') := Lib.hid (by
                have h := w_first hI2.lg
                rwa [hI2.pl.first] at h)
              have q1 : (0 : Int) ≤ (fi2 : Int) := by omega
              have q2 : (fi2 : Int) ≤ 1000 := by have := hI2.pl.last; have := HJ.out; omega
              have q3 : (0 : Int) ≤ (n2 : Int) := by omega
              have q4 : (n2 : Int) ≤ 1000 := by have := HJ.out; omega
              clear hI2 k1 k2 k3 k4
              go_wp2_with (first | (go_at_call 31; refine HSE.out.mono ?_; rintro e w' ⟨rfl, rfl⟩) | (go_at_call 32; refine HFI.out.mono ?_; rintro e w' ⟨rfl, rfl⟩))
              go_roundw
              case rel => exact ⟨j + 1, fi2, n2, by go_num, rfl, HJ.out.1, HX2⟩
              case measure => simp [intOf]; omega
        · obtain rfl : j = l.length := by have := HJ0.out; omega
          go_wp2_with (fail)
          obtain ⟨mb, rs, hfs⟩ := HI.out.lg.hd.fs
          have hrl : rs.length ≤ 1000000 := by
            have h1 := HI.out.lg.hd.ok.few
            rw [hfs.files, List.length_map] at h1
            omega
          refine (f_names hfs hrl ⟨#[]⟩).mono ?_
          rintro e w5 ⟨v5, rfl, ht⟩
          obtain ⟨nm, hnm⟩ : ∃ nm : List ByteArray, nm = (List.range' fi (m + 1)).map (segName nmW) := ⟨_, rfl⟩
          have hnames := HI.out.pl.names
          rw [← HI.out.len, ← hnm] at hnames
          rw [hnames] at ht
          have hnl : nm.length = m + 1 := by rw [hnm]; simp
          have hnat : ∀ i, i < m + 1 → nm[i]? = some (segName nmW (fi + i)) := fun i hi => by
            rw [hnm, List.getElem?_map, List.getElem?_range' hi]
            simp
          have HNA := Lib.hid hnat
          obtain ⟨va, vcap, rfl⟩ := ht.sl.shape
          rw [hnl] at ht ⊢
          have HT := Lib.hid ht
          have HI5 := Lib.hid (HI.out.below ht.below)
          have HRD5 := Lib.hid ht.sl.rd
          clear hfs hrl ht hnames hnm hnl hnat
          go_wp2_with (fail)
          go_loopw [21] (fun iv wr => ∃ i : Nat, iv = .int .i64 (i : Int) ∧ i ≤ m + 1 ∧ Hid (Below w5.heap.size w5 wr)) (fun iv _ => m + 1 - (intOf iv).toNat)
          case atStart => exact ⟨0, rfl, Nat.zero_le _, Lib.hid (Below.refl _ _)⟩
          case round =>
            obtain ⟨i, rfl, hi, HW⟩ := hrel
            have hi0 : (0 : Int) ≤ (i : Int) := by omega
            by_cases hlt2 : (i : Int) < (m : Int) + 1
            · obtain ⟨bs, hbs⟩ : ∃ bs, (pre ++ [b])[i]? = some bs := ⟨_, List.getElem?_eq_getElem (by rw [← HI.out.len]; omega)⟩
              have HI6 := Lib.hid (HI5.out.below HW.out)
              obtain ⟨ng, noff, hva, hncell⟩ : ∃ ng noff, va = some ⟨ng, noff, none⟩ ∧ ∀ W, Below w5.heap.size w5 W → W.cell? ⟨ng, noff + i, none⟩ = some (.string (segName nmW (fi + i))) := by
                obtain ⟨a', cap', e, hr⟩ := HRD5.out
                injection e with e1 _ _
                obtain ⟨ng, noff, e2, hc⟩ := hr i _ (HNA.out i (by omega))
                have h0 := hc 0 (by decide)
                have hs1 : textKind.size = 1 := rfl
                rw [hs1, Nat.mul_one, Nat.add_zero] at h0
                refine ⟨ng, noff, by rw [e1]; exact e2, fun W hW => ?_⟩
                exact (hW.cell (p := ⟨ng, noff + i, none⟩) (World.block_lt_of_cell? w5 _ (by rw [h0]; rfl))).trans h0
              subst hva
              obtain ⟨g7, o7, c7, a7, d7, hv7, _, _, hc7, _, hs7⟩ := HI6.out.tab.at_ hbs
              simp only [Value.slice.injEq, Option.some.injEq, Addr.mk.injEq, and_true] at hv7
              obtain ⟨⟨rfl, rfl⟩, -, rfl⟩ := hv7
              have HNC := Lib.hid hncell
              have hn6 := hncell _ HW.out
              have HS7 := Lib.hid hs7
              have HBS := Lib.hid hbs
              obtain ⟨q, hq⟩ : ∃ q, q = fi + i := ⟨_, rfl⟩
              rw [← hq] at hn6 HNC
              have HQ := Lib.hid hq
              clear hs7 hncell hbs hq
              go_wp2_with (fail)
              refine (d_read HI6.out.lg.hd (by rw [HQ.out]; exact HI6.out.pl.find HBS.out)).mono ?_
              rintro e w7 ⟨ar, cr, rfl, hfr, hd7⟩
              have HFR := Lib.hid hfr
              have HD7 : Hid (Below wr.heap.size wr w7) := Lib.hid hfr.below
              have HI7 := Lib.hid (HI6.out.below HD7.out)
              have hc8 := (HD7.out.cell (p := ⟨sg, soff + i, none⟩) (World.block_lt_of_cell? wr _ hc7)).trans hc7
              have HBL : Hid (bs.length ≤ 67108864) := Lib.hid (by
                have h1 := HI6.out.pl.find HBS.out
                have h2 := (HI6.out.lg.hd.ok.len h1).1
                have h3 : (bs.length : Int) ≤ 67108864 := h2
                omega)
              clear hfr hd7
              go_wp2_with (fail)
              refine (r_sameBytes HFR.out.sl.rd (HS7.out.below HD7.out).rd (by have := HBL.out; show bs.length ≤ _; omega)).mono ?_
              rintro e w8 ⟨rfl, hb8⟩
              have HB8 : Hid (Below w5.heap.size w5 w8) := Lib.hid (HW.out.trans ((HD7.out.trans (hb8.mono HD7.out.size)).mono HW.out.size))
              have hn8 := HNC.out _ HB8.out
              have HNM : Hid (∀ W1, Below w8.heap.size w8 W1 → Calls Try.prog 22 #[.string nmW, .int .i64 (q : Int)] W1 fun e w2 => e = .returned (.string (segName nmW q)) ∧ w2.cell? ⟨ng, noff + i, none⟩ = some (.string (segName nmW q)) ∧ Hid (Below w5.heap.size w5 w2)) := Lib.hid fun W1 hW1 => by
                refine (h_name W1 nmW (by decide) q (by have := HQ.out; have := HLE.out; omega)).mono fun e w2 ⟨he, hb2⟩ => ?_
                have hb3 := HB8.out.trans ((hW1.trans (hb2.mono hW1.size)).mono HB8.out.size)
                exact ⟨he, HNC.out _ hb3, Lib.hid hb3⟩
              have hwi : IntKind.i64.wrap ((fi : Int) + (i : Int)) = (q : Int) := by rw [IntWalk.i64_in _ (by omega)]; have := HQ.out; omega
              have hb0 : Below w8.heap.size w8 w8.drew := (Below.refl _ _).drew
              clear hb8
              go_wp2_with (fail)
              go_region_held3 (fun w' => w'.cell? ⟨ng, noff + i, none⟩ = some (.string (segName nmW q)))
                (first
                  | go_keep
                  | exact s1)
                (first
                  | (go_at_call 22; (with_reducible refine (HNM.out _ ?_).mono ?_); exact hb0; rintro e w9 ⟨rfl, s1, HC⟩))
              go_wp2_with (fail)
              go_roundw
              case rel => exact ⟨i + 1, by go_num, by omega, HC⟩
              case measure => simp [intOf]; omega
            · obtain rfl : i = m + 1 := by omega
              have HR : Hid (Below w.heap.size w wr) := Lib.hid (HI5.out.lg.hd.below.trans (HW.out.mono HI5.out.lg.hd.below.size))
              go_wp2_with (fail)
              go_ret
              exact ⟨rfl, HR.out⟩
end
end Go.Proofs.Ythbfkjmpaifblaa
