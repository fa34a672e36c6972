/- The walk of FsRenames. -/
import Derived.Test.YtmfiibehclbnjaaFsHe
namespace Go.Proofs.Ytmfiibehclbnjaa
open Go.RowKit Go.Shelf

section
variable {w : World}
theorem x_renames1 (keep : Int) (bx : Nat) (n : ByteArray) (m : Int) (W : World) (hb : IsBlk W bx #[.int .i64 keep] 3) :
    Calls Try.prog 25 (#[.string n, .int .i64 m] ++ #[.pointer (some ⟨bx, 0, none⟩)]) W fun e W' => e = .returned (.int .i64 keep) ∧ W = W' := by
  have c : W.cell? ⟨bx, 0, none⟩ = some (.int .i64 keep) := blk_cell hb 0
  clear hb
  show Calls Try.prog 25 #[.string n, .int .i64 m, .pointer (some ⟨bx, 0, none⟩)] W _
  go_enter Try.func25, Try.ntmps25
  go_wp2
  go_ret
  exact ⟨rfl, rfl⟩
set_option maxRecDepth 100000 in
set_option maxHeartbeats 8000000 in
theorem l_renames (v : Value) (os : List FOp) (h : FOpsAt w v os) (hm : os.length ≤ maxLen) (m keep : Int) (na nb : ByteArray) (h0 : -9223372036854775808 ≤ m) (h1 : m ≤ 9223372036854775807) (hz : na.size ≤ 9223372036854775807) (hz2 : nb.size ≤ 9223372036854775807) :
    Calls Try.prog 4 #[.int .i64 m, v, .string na, .string nb, .int .i64 keep] w (TruePost w) := by
  have eg := enters_of Try.func25 (P := Try.prog) (by kernel_rfl) rfl
  obtain ⟨HB0, HBX⟩ := box_start w keep
  have HOS := Lib.hid (h.below HB0.out)
  have HM := Lib.hid hm
  obtain ⟨a, cap, rfl, hrd⟩ := h
  have hz' : (na.size : Int) ≤ 9223372036854775807 := by omega
  have hz2' : (nb.size : Int) ≤ 9223372036854775807 := by omega
  have HM0 := Lib.hid (And.intro h0 h1)
  clear hrd hm hz h0 h1 hz2
  go_enter Try.func4, Try.ntmps4
  go_wp2_with (fail)
  refine x_first.mono ?_
  rintro e w1 ⟨rfl, hb⟩
  have HB1 := Lib.hid hb
  clear hb
  go_wp2_with (fail)
  refine (x_few w1 _ os (HOS.out.below HB1.out) HM.out).mono ?_
  rintro e w2 ⟨small, rfl, hs, hb⟩
  have HS := Lib.hid hs
  have HB2 : Hid (Below (w.alloc (.cells #[.int .i64 keep] 3)).heap.size (w.alloc (.cells #[.int .i64 keep] 3)) w2) := Lib.hid (HB1.out.trans (hb.mono HB1.out.size))
  clear hb hs
  cases small with
  | false =>
    go_wp2_with (fail)
    go_ret
    exact TruePost.hid HB0 HB2.out
  | true =>
    by_cases h200 : (200 : Int) < na.size
    · go_wp2_with (fail)
      go_ret
      exact TruePost.hid HB0 HB2.out
    by_cases h201 : (200 : Int) < nb.size
    · go_wp2_with (fail)
      go_ret
      exact TruePost.hid HB0 HB2.out
    go_wp2_with (fail)
    refine (d_made HOS.out (HS.out (by simp)) HB2.out m HM0.out.1 HM0.out.2).mono ?_
    rintro e w3 ⟨fb, rfl, hd⟩
    have HD := Lib.hid hd
    clear hd
    generalize (FsS.new m).toldAll os = F at HD
    go_wp2_with (fail)
    refine (d_crash_nil HD.out).mono ?_
    rintro e w4 ⟨rfl, hd, hk⟩
    have HP : Hid (AllSynced (F.crash fun _ _ => 0) ∧ (F.crash fun _ _ => 0).down = false ∧ (F.crash fun _ _ => 0).armed = 0) := Lib.hid ⟨crash_synced HD.out.ok _, rfl, rfl⟩
    have HD4 := Lib.hid hd
    clear hd hk
    generalize (F.crash fun _ _ => 0) = F1 at HD4 HP
    generalize New w3 w4 _ = S at HD4
    go_wp2_with (fail)
    refine (d_copy HD4.out).mono ?_
    rintro e w5 ⟨gb, rfl, hf, hg, hap, _⟩
    have HF := Lib.hid hf
    have HG := Lib.hid hg
    have HAP := Lib.hid hap
    clear hf hg hap
    generalize (New w4 w5 fun _ => False) = T at HG HAP
    cases hx : F1.find na with
    | none =>
      have HT := Lib.hid (ren_none (b := nb) HP.out.2.1 hx)
      have HX := Lib.hid hx
      clear hx
      go_wp2_with (fail)
      refine (d_read_none HF.out HX.out).mono ?_
      rintro e w6 ⟨rfl, rfl⟩
      go_wp2_with (fail)
      refine (d_rename HF.out (by omega) na nb).mono ?_
      rw [HT.out]
      rintro e w6 ⟨rfl, hd, hk⟩
      have HF6 := Lib.hid hd
      have HG6 := Lib.hid (HG.out.other hk HAP.out hd.below)
      clear hd hk
      go_wp2_with (first | (go_at_call 18; refine (r_numE _ _).mono ?_; rintro e w' ⟨rfl, rfl⟩) | (go_at_call 24; refine (d_alike HF6.out HG6.out rfl).mono ?_; rintro e w7 ⟨rfl, hb⟩; have HB := Lib.hid (HF6.out.read hb).below; clear hb))
      go_ret
      exact TruePost.hid HB0 HB.out
    | some x =>
      have HX := Lib.hid hx
      have hxl := (HD4.out.ok.len hx).1
      clear hx
      go_wp2_with (fail)
      refine (d_read HF.out HX.out).mono ?_
      rintro e w6 ⟨ba, bc, rfl, hfr, hd⟩
      have HK := Lib.hid (hfr.held HF.out.lt)
      have HF := Lib.hid hd
      have HG := Lib.hid (HG.out.read hfr.below)
      clear hd hfr
      go_wp2_with (fail)
      refine (d_rename HF.out (by omega) na nb).mono ?_
      rintro e w7 ⟨rfl, hd, hk⟩
      have HK := Lib.hid (HK.out.post hk)
      have HAP7 := Lib.hid (new_apart (w := w6) (w' := w7) HAP.out HG.out.lt)
      have HG := Lib.hid (HG.out.other hk HAP.out hd.below)
      cases hv : okName nb with
      | false =>
        rw [ren_bad HP.out.2.1 HX.out hv] at hd ⊢
        have HF7 := Lib.hid hd
        have HV : Hid (∀ W, Calls Try.prog 23 #[.string nb] W fun e w' => e = .returned (.bool false) ∧ Below W.heap.size W w') := Lib.hid fun W => by have := f_valid W nb; rwa [hv] at this
        clear hd hk hv
        go_wp2_with (first | (go_at_call 18; refine (r_numE _ _).mono ?_; rintro e w' ⟨rfl, rfl⟩) | (go_at_call 23; refine (HV.out _).mono ?_; rintro e w8 ⟨rfl, hb⟩; have HF8 := Lib.hid (HF7.out.read hb); have HG8 := Lib.hid (HG.out.read hb); clear hb) | (go_at_call 24; refine (d_alike HF8.out HG8.out rfl).mono ?_; rintro e w9 ⟨rfl, hb⟩; have HB := Lib.hid (HF8.out.read hb).below; clear hb))
        go_ret
        exact TruePost.hid HB0 HB.out
      | true =>
        obtain ⟨p1, p2, p3, p4⟩ := ren_plain HF.out.ok HP.out.1 HP.out.2.1 HP.out.2.2 HX.out hv (fun _ _ => keep)
        rw [p1]
        have HF7 := Lib.hid hd
        have HPL := Lib.hid (And.intro p2 (And.intro p3 p4))
        have HV : Hid (∀ W, Calls Try.prog 23 #[.string nb] W fun e w' => e = .returned (.bool true) ∧ Below W.heap.size W w') := Lib.hid fun W => by have := f_valid W nb; rwa [hv] at this
        clear hd hk hv p1 p2 p3 p4
        generalize (F1.rename na nb).1 = F2 at HF7 HPL
        generalize New w6 w7 S = S7 at HF7 HK HAP7
        go_wp2_with (first | (go_at_call 18; refine (r_numE _ _).mono ?_; rintro e w' ⟨rfl, rfl⟩) | (go_at_call 23; refine (HV.out _).mono ?_; rintro e w8 ⟨rfl, hb⟩; have HF8 := Lib.hid (HF7.out.read hb); have HG8 := Lib.hid (HG.out.read hb); have HK8 := Lib.hid (HK.out.read hb); clear hb))
        refine (d_crash HF8.out 25 w.heap.size eg keep HBX.out (fun n m W hW => x_renames1 keep _ n m W hW)).mono ?_
        rintro e w9 ⟨rfl, hd, hk⟩
        have HK9 := Lib.hid (HK8.out.post hk)
        have HF9 := Lib.hid hd
        have HG9 := Lib.hid (HG8.out.other hk HAP7.out hd.below)
        clear hd hk
        generalize (F2.crash fun _ _ => keep) = F3 at HF9 HPL
        generalize New w8 w9 S7 = S9 at HF9 HK9
        clear HF8 HG8 HK8 HF7 HG HK HAP7 HAP HF HD4 HD
        go_wp2_with (fail)
        refine (d_read HF9.out HPL.out.1).mono ?_
        rintro e w10 ⟨ca, cc, rfl, hfr, hd⟩
        have HC := Lib.hid (hfr.held HF9.out.lt)
        have HF10 := Lib.hid hd
        have HG10 := Lib.hid (HG9.out.read hfr.below)
        have HK10 := Lib.hid (HK9.out.read hfr.below)
        clear hd hfr
        by_cases hab : na = nb
        · subst hab
          have qab := neb_self na
          go_wp2_with (fail)
          refine (d_read HF10.out HPL.out.1).mono ?_
          rintro e w11 ⟨da, dc, rfl, hfr, hd⟩
          have HF11 := Lib.hid hd
          have HG11 := Lib.hid (HG10.out.read hfr.below)
          have HK11 := Lib.hid (HK10.out.read hfr.below)
          have HC11 := Lib.hid (HC.out.read hfr.below)
          clear hd hfr HF10 HG10 HK10 HC
          go_wp2_with (first | (go_at_call 18; refine (r_numE _ _).mono ?_; rintro e w' ⟨rfl, rfl⟩) | (go_at_call 20; refine (r_sameBytes HK11.out.sl.rd HC11.out.sl.rd (by omega)).mono ?_; rintro e w12 ⟨rfl, hb⟩; have HF12 := Lib.hid (HF11.out.read hb); have HG12 := Lib.hid (HG11.out.read hb); clear hb))
          refine (d_names HG12.out).mono ?_
          rintro e w13 ⟨sa, sc, rfl, hrd, hb⟩
          have HF13 := Lib.hid (HF12.out.read hb)
          have HG13 := Lib.hid (HG12.out.read hb)
          have HRD := Lib.hid hrd
          have hlen : (F1.files.length : Int) ≤ 400 := by have := HG13.out.ok.few; omega
          clear hrd hb HF12 HG12 HF11 HG11 HK11 HC11
          go_wp2_with (fail)
          go_loopw [23] (fun i wr => ∃ j : Nat, j ≤ F1.files.length ∧ i = .int .i64 j ∧ Hid (Below w13.heap.size w13 wr)) (fun i _ => F1.files.length - (intOf i).toNat)
          case atStart => exact ⟨0, Nat.zero_le _, rfl, Lib.hid (Below.refl _ _)⟩
          case round =>
            obtain ⟨j, hj, rfl, HJ⟩ := hrel
            by_cases hlt : j < F1.files.length
            · obtain ⟨⟨n, y⟩, hy⟩ : ∃ y, F1.files[j]? = some y := ⟨_, List.getElem?_eq_getElem hlt⟩
              have hfy := HG13.out.ok.find_at hy
              have hly := (HG13.out.ok.len hfy).1
              obtain ⟨g, off, rfl, hc⟩ := text_cell (HRD.out.below HJ.out) rfl (j := j) (n := n) (by rw [List.getElem?_map, hy]; rfl)
              have k1 : (0 : Int) ≤ (j : Int) := by omega
              have k2 : (j : Int) < (F1.files.length : Int) := by omega
              have HFY := Lib.hid hfy
              clear hy hfy
              by_cases e1 : n = na
              · subst e1
                have q1 := eqb_self n
                go_wp2_with (fail)
                go_roundw
                case rel => exact ⟨j + 1, by omega, by go_num, HJ⟩
                case measure => simp [intOf]; omega
              have q1 := eqb_ne e1
              have HFY3 : Hid (F3.find n = some y) := Lib.hid (by rw [HPL.out.2.2 n e1 e1]; exact HFY.out)
              clear e1
              go_wp2_with (fail)
              refine (d_read (HF13.out.read HJ.out) HFY3.out).mono ?_
              rintro e w14 ⟨xa, xc, rfl, hfr, hd⟩
              have hc4 := (hfr.below.cell (p := ⟨g, off + j, none⟩) (World.block_lt_of_cell? wr _ hc)).trans hc
              have HFR := Lib.hid hfr
              clear hfr hc hd
              go_wp2_with (fail)
              refine (d_read ((HG13.out.read HJ.out).read HFR.out.below) HFY.out).mono ?_
              rintro e w15 ⟨ya, yc, rfl, hfr, hd⟩
              have HFR2 := Lib.hid hfr
              clear hfr hc4 hd
              go_wp2_with (fail)
              refine (r_sameBytes (HFR.out.sl.below HFR2.out.below).rd HFR2.out.sl.rd (by omega)).mono ?_
              rintro e w16 ⟨rfl, hb⟩
              have HB16 : Hid (Below w13.heap.size w13 w16) := Lib.hid (by
                have h1 := HJ.out.trans (HFR.out.below.mono HJ.out.size)
                have h2 := h1.trans (HFR2.out.below.mono h1.size)
                exact h2.trans (hb.mono h2.size))
              clear hb
              go_wp2_with (fail)
              go_roundw
              case rel => exact ⟨j + 1, by omega, by go_num, HB16⟩
              case measure => simp [intOf]; omega
            · have k2 : ¬ (j : Int) < (F1.files.length : Int) := by omega
              go_wp2_with (fail)
              go_ret
              exact TruePost.hid HB0 (HF13.out.read HJ.out).below
        · have qab : ¬ na.toList = nb.toList := fun e => hab (str_inj e)
          have hz3 := HPL.out.2.1 hab
          have HZ3 := Lib.hid hz3
          clear hz3 hab
          go_wp2_with (fail)
          refine (d_read_none HF10.out HZ3.out).mono ?_
          rintro e w11 ⟨rfl, rfl⟩
          have HF11 := HF10
          have HG11 := HG10
          have HK11 := HK10
          have HC11 := HC
          clear HF10 HG10 HK10 HC
          go_wp2_with (first | (go_at_call 18; refine (r_numE _ _).mono ?_; rintro e w' ⟨rfl, rfl⟩) | (go_at_call 20; refine (r_sameBytes HK11.out.sl.rd HC11.out.sl.rd (by omega)).mono ?_; rintro e w12 ⟨rfl, hb⟩; have HF12 := Lib.hid (HF11.out.read hb); have HG12 := Lib.hid (HG11.out.read hb); clear hb))
          refine (d_names HG12.out).mono ?_
          rintro e w13 ⟨sa, sc, rfl, hrd, hb⟩
          have HF13 := Lib.hid (HF12.out.read hb)
          have HG13 := Lib.hid (HG12.out.read hb)
          have HRD := Lib.hid hrd
          have hlen : (F1.files.length : Int) ≤ 400 := by have := HG13.out.ok.few; omega
          clear hrd hb HF12 HG12 HF11 HG11 HK11 HC11
          go_wp2_with (fail)
          go_loopw [23] (fun i wr => ∃ j : Nat, j ≤ F1.files.length ∧ i = .int .i64 j ∧ Hid (Below w13.heap.size w13 wr)) (fun i _ => F1.files.length - (intOf i).toNat)
          case atStart => exact ⟨0, Nat.zero_le _, rfl, Lib.hid (Below.refl _ _)⟩
          case round =>
            obtain ⟨j, hj, rfl, HJ⟩ := hrel
            by_cases hlt : j < F1.files.length
            · obtain ⟨⟨n, y⟩, hy⟩ : ∃ y, F1.files[j]? = some y := ⟨_, List.getElem?_eq_getElem hlt⟩
              have hfy := HG13.out.ok.find_at hy
              have hly := (HG13.out.ok.len hfy).1
              obtain ⟨g, off, rfl, hc⟩ := text_cell (HRD.out.below HJ.out) rfl (j := j) (n := n) (by rw [List.getElem?_map, hy]; rfl)
              have k1 : (0 : Int) ≤ (j : Int) := by omega
              have k2 : (j : Int) < (F1.files.length : Int) := by omega
              have HFY := Lib.hid hfy
              clear hy hfy
              by_cases e1 : n = na
              · subst e1
                have q1 := eqb_self n
                go_wp2_with (fail)
                go_roundw
                case rel => exact ⟨j + 1, by omega, by go_num, HJ⟩
                case measure => simp [intOf]; omega
              by_cases e2 : n = nb
              · subst e2
                have q1 := eqb_self n
                have q2 := eqb_ne e1
                clear e1
                go_wp2_with (fail)
                go_roundw
                case rel => exact ⟨j + 1, by omega, by go_num, HJ⟩
                case measure => simp [intOf]; omega
              have q1 := eqb_ne e1
              have q2 := eqb_ne e2
              have HFY3 : Hid (F3.find n = some y) := Lib.hid (by rw [HPL.out.2.2 n e1 e2]; exact HFY.out)
              clear e1 e2
              go_wp2_with (fail)
              refine (d_read (HF13.out.read HJ.out) HFY3.out).mono ?_
              rintro e w14 ⟨xa, xc, rfl, hfr, hd⟩
              have hc4 := (hfr.below.cell (p := ⟨g, off + j, none⟩) (World.block_lt_of_cell? wr _ hc)).trans hc
              have HFR := Lib.hid hfr
              clear hfr hc hd
              go_wp2_with (fail)
              refine (d_read ((HG13.out.read HJ.out).read HFR.out.below) HFY.out).mono ?_
              rintro e w15 ⟨ya, yc, rfl, hfr, hd⟩
              have HFR2 := Lib.hid hfr
              clear hfr hc4 hd
              go_wp2_with (fail)
              refine (r_sameBytes (HFR.out.sl.below HFR2.out.below).rd HFR2.out.sl.rd (by omega)).mono ?_
              rintro e w16 ⟨rfl, hb⟩
              have HB16 : Hid (Below w13.heap.size w13 w16) := Lib.hid (by
                have h1 := HJ.out.trans (HFR.out.below.mono HJ.out.size)
                have h2 := h1.trans (HFR2.out.below.mono h1.size)
                exact h2.trans (hb.mono h2.size))
              clear hb
              go_wp2_with (fail)
              go_roundw
              case rel => exact ⟨j + 1, by omega, by go_num, HB16⟩
              case measure => simp [intOf]; omega
            · have k2 : ¬ (j : Int) < (F1.files.length : Int) := by omega
              go_wp2_with (fail)
              go_ret
              exact TruePost.hid HB0 (HF13.out.read HJ.out).below
end
end Go.Proofs.Ytmfiibehclbnjaa
