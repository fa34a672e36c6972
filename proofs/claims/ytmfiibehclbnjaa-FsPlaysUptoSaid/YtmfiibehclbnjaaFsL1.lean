/- The walk of FsTruncates. -/
import Derived.Test.YtmfiibehclbnjaaFsHd
namespace Go.Proofs.Ytmfiibehclbnjaa
open Go.RowKit Go.Shelf

section
variable {w : World}
theorem x_truncates1 (keep : Int) (bx : Nat) (n : ByteArray) (m : Int) (W : World) (hb : IsBlk W bx #[.int .i64 keep] 3) :
    Calls Try.prog 19 (#[.string n, .int .i64 m] ++ #[.pointer (some ⟨bx, 0, none⟩)]) W fun e W' => e = .returned (.int .i64 keep) ∧ W = W' := by
  have c : W.cell? ⟨bx, 0, none⟩ = some (.int .i64 keep) := blk_cell hb 0
  clear hb
  show Calls Try.prog 19 #[.string n, .int .i64 m, .pointer (some ⟨bx, 0, none⟩)] W _
  go_enter Try.func19, Try.ntmps19
  go_wp2
  go_ret
  exact ⟨rfl, rfl⟩
/-- Where a statement begins: its boxed number. -/
theorem box_start (w : World) (keep : Int) : Hid (Below w.heap.size w (w.alloc (.cells #[.int .i64 keep] 3))) ∧ Hid (IsBlk (w.alloc (.cells #[.int .i64 keep] 3)) w.heap.size #[.int .i64 keep] 3) :=
  ⟨Lib.hid ((Below.refl _ _).alloc (Nat.le_refl _) _), Lib.hid (blk_new w _)⟩
/-- What a statement owes. -/
def TruePost (w : World) (e : Ending) (w' : World) : Prop := e = .returned (.bool true) ∧ Below w.heap.size w w'
theorem TruePost.hid {w W0 w' : World} (h : Hid (Below w.heap.size w W0)) (k : Below W0.heap.size W0 w') : TruePost w (.returned (.bool true)) w' := ⟨rfl, h.out.trans (k.mono h.out.size)⟩
set_option maxRecDepth 100000 in
set_option maxHeartbeats 4000000 in
theorem l_truncates (v : Value) (os : List FOp) (h : FOpsAt w v os) (hm : os.length ≤ maxLen) (m n keep : Int) (name : ByteArray) (h0 : -9223372036854775808 ≤ m) (h1 : m ≤ 9223372036854775807) (hz : name.size ≤ 9223372036854775807) :
    Calls Try.prog 3 #[.int .i64 m, v, .string name, .int .i64 n, .int .i64 keep] w (TruePost w) := by
  have eg := enters_of Try.func19 (P := Try.prog) (by kernel_rfl) rfl
  obtain ⟨HB0, HBX⟩ := box_start w keep
  have HOS := Lib.hid (h.below HB0.out)
  have HM := Lib.hid hm
  obtain ⟨a, cap, rfl, hrd⟩ := h
  have hz' : (name.size : Int) ≤ 9223372036854775807 := by omega
  have HM0 := Lib.hid (And.intro h0 h1)
  clear hrd hm hz h0 h1
  go_enter Try.func3, Try.ntmps3
  go_wp2_with (fail)
  refine x_first.mono ?_
  rintro e w1 ⟨rfl, hb⟩
  have HB1 := Lib.hid hb
  clear hb
  go_wp2_with (fail)
  refine (x_few w1 _ os (HOS.out.below HB1.out) HM.out).mono ?_
  rintro e w2 ⟨small, rfl, hs, hb⟩
  have HS := Lib.hid hs
  have HB2 : Hid (Below (w.alloc (.cells #[.int .i64 keep] 3)).heap.size (w.alloc (.cells #[.int .i64 keep] 3)) w2) := Lib.hid (HB1.out.trans (hb.mono HB1.out.size))
  clear hb hs
  cases small with
  | false =>
    go_wp2_with (fail)
    go_ret
    exact TruePost.hid HB0 HB2.out
  | true =>
    by_cases h200 : (200 : Int) < name.size
    · go_wp2_with (fail)
      go_ret
      exact TruePost.hid HB0 HB2.out
    · go_wp2_with (fail)
      refine (d_made HOS.out (HS.out (by simp)) HB2.out m HM0.out.1 HM0.out.2).mono ?_
      rintro e w3 ⟨fb, rfl, hd⟩
      have HD := Lib.hid hd
      clear hd
      generalize (FsS.new m).toldAll os = F at HD
      go_wp2_with (fail)
      refine (d_crash_nil HD.out).mono ?_
      rintro e w4 ⟨rfl, hd, _⟩
      have HP : Hid (AllSynced (F.crash fun _ _ => 0) ∧ (F.crash fun _ _ => 0).down = false ∧ (F.crash fun _ _ => 0).armed = 0) := Lib.hid ⟨crash_synced HD.out.ok _, rfl, rfl⟩
      have HD4 := Lib.hid hd
      clear hd
      generalize (F.crash fun _ _ => 0) = F1 at HD4 HP
      generalize New w3 w4 _ = S1 at HD4
      cases hx : F1.find name with
      | none =>
        have HT := Lib.hid (trunc_none HP.out.2.1 hx n)
        have HX := Lib.hid hx
        clear hx
        go_wp2_with (fail)
        refine (d_read_none HD4.out HX.out).mono ?_
        rintro e w5 ⟨rfl, rfl⟩
        go_wp2_with (fail)
        refine (d_used HD4.out).mono ?_
        rintro e w5 ⟨rfl, rfl⟩
        go_wp2_with (fail)
        refine (d_truncate HD4.out (by omega) name n).mono ?_
        rw [HT.out]
        rintro e w5 ⟨rfl, hd, _⟩
        have HB := Lib.hid hd.below
        clear hd
        go_wp2_with (first | (go_at_call 18; refine (r_numE _ _).mono ?_; rintro e w' ⟨rfl, rfl⟩))
        go_ret
        exact TruePost.hid HB0 HB.out
      | some x =>
        have HX := Lib.hid hx
        have hxl := (HD4.out.ok.len hx).1
        have hxu := (HD4.out.ok.len hx).2.2
        have hu1 : F1.used ≤ 67108864 := by have := HD4.out.ok.fits; have := HD4.out.ok.room1; omega
        clear hx
        go_wp2_with (fail)
        refine (d_read HD4.out HX.out).mono ?_
        rintro e w5 ⟨ba, bc, rfl, hfr, hd⟩
        have HFR := Lib.hid hfr
        have HD5 := Lib.hid hd
        clear hd hfr
        go_wp2_with (fail)
        refine (d_used HD5.out).mono ?_
        rintro e w6 ⟨rfl, rfl⟩
        go_wp2_with (fail)
        refine (d_truncate HD5.out (by omega) name n).mono ?_
        rintro e w6 ⟨rfl, hd, hk⟩
        have HK := Lib.hid ((HFR.out.held HD4.out.fs.lt).post hk)
        clear hk
        by_cases hr : n < 0 ∨ (x.data.length : Int) < n
        · rw [trunc_range HP.out.2.1 HX.out hr] at hd ⊢
          have HD6 := Lib.hid hd
          clear hd
          by_cases hr0 : n < 0
          · clear hr
            go_wp2_with (first | (go_at_call 18; refine (r_numE _ _).mono ?_; rintro e w' ⟨rfl, rfl⟩) | (go_at_call 16; refine (d_used HD6.out).mono ?_; rintro e w' ⟨rfl, rfl⟩))
            go_ret
            exact TruePost.hid HB0 HD6.out.below
          · have hr1 : (x.data.length : Int) < n := by omega
            clear hr
            go_wp2_with (first | (go_at_call 18; refine (r_numE _ _).mono ?_; rintro e w' ⟨rfl, rfl⟩) | (go_at_call 16; refine (d_used HD6.out).mono ?_; rintro e w' ⟨rfl, rfl⟩))
            go_ret
            exact TruePost.hid HB0 HD6.out.below
        · obtain ⟨q, rfl⟩ : ∃ q : Nat, n = (q : Int) := ⟨n.toNat, by omega⟩
          have hq : q ≤ x.data.length := by omega
          obtain ⟨e1, e2, e3⟩ := trunc_plain HD5.out.ok HP.out.1 HP.out.2.1 HP.out.2.2 HX.out hq (fun _ _ => keep)
          rw [e1]
          have HD6 := Lib.hid hd
          have HE := Lib.hid (And.intro e2 e3)
          clear hd e1 e2 e3
          generalize (F1.truncate name q).1 = F2 at HD6 HE
          generalize New w5 w6 S1 = S2 at HD6 HK
          have r1 : ¬ ((q : Int) < 0) := by omega
          have r2 : ¬ ((x.data.length : Int) < (q : Int)) := by omega
          have r3 : (0 : Int) ≤ (q : Int) := by omega
          have r4 : (q : Int) ≤ (x.data.length : Int) := by omega
          clear hr
          go_wp2_with (first | (go_at_call 18; refine (r_numE _ _).mono ?_; rintro e w' ⟨rfl, rfl⟩))
          refine (d_crash HD6.out 19 w.heap.size eg keep HBX.out (fun n m W hW => x_truncates1 keep _ n m W hW)).mono ?_
          rintro e w7 ⟨rfl, hd, hk⟩
          have HK := Lib.hid (HK.out.post hk)
          have HD7 := Lib.hid hd
          have HU : Hid (F1.used - x.data.length + q ≤ 67108864 ∧ 0 ≤ F1.used - x.data.length + q) := Lib.hid (by omega)
          clear hd hk
          generalize (F2.crash fun _ _ => keep) = F3 at HD7 HE
          go_wp2_with (fail)
          refine (d_read HD7.out HE.out.1).mono ?_
          rintro e w8 ⟨ca, cc, rfl, hfr, hd⟩
          simp only at hfr ⊢
          have hlt : (x.data.take q).length = q := by rw [List.length_take]; omega
          rw [hlt] at hfr ⊢
          have HFR8 := Lib.hid hfr
          have HD8 := Lib.hid hd
          have HK8 := Lib.hid (HK.out.read hfr.below)
          obtain ⟨hc1, hc2, hcase⟩ := HK8.out.sl.room
          have hq1 : q ≤ bc := by omega
          have hq2 : (q : Int) ≤ (bc : Int) := by omega
          have hq3 : (bc : Int) ≤ 9223372036854775807 := by omega
          have HSB : Hid (∀ cap', Calls Try.prog 20 #[.slice ca q cc, .slice ba q cap'] w8 fun e w' => e = .returned (.bool true) ∧ Below w8.heap.size w8 w') := Lib.hid fun cap' => by
            have h1 := hfr.sl.rd
            have h2 := HK8.out.sl.rd.take hq cap'
            exact r_sameBytes h1 h2 (by omega)
          have HFIN : Hid (∀ w', Below w8.heap.size w8 w' → TruePost w (.returned (.bool true)) w' ∧ Calls Try.prog 16 #[.pointer (some ⟨fb, 0, none⟩)] w' fun e w'' => e = .returned (.int .i64 (F1.used - x.data.length + q)) ∧ w' = w'') := Lib.hid fun w' hb => by
            refine ⟨TruePost.hid HB0 (HD8.out.read hb).below, ?_⟩
            have := d_used (HD8.out.read hb)
            rwa [HE.out.2] at this
          obtain ⟨hu2, hu3⟩ := HU.out
          clear hd hfr hlt hc1 hc2
          rcases hcase with ⟨rfl, rfl, hl⟩ | ⟨g, off, rfl⟩
          · obtain rfl : q = 0 := by omega
            clear hl
            go_wp2_with (first | (go_at_call 18; refine (r_numE _ _).mono ?_; rintro e w' ⟨rfl, rfl⟩) | (go_at_call 20; refine (HSB.out _).mono ?_; rintro e w9 ⟨rfl, hb⟩; obtain ⟨hf1, hf2⟩ := HFIN.out _ hb; have HF1 := Lib.hid hf1; have HF2 := Lib.hid hf2; clear hf1 hf2 hb) | (go_at_call 16; refine HF2.out.mono ?_; rintro e w' ⟨rfl, rfl⟩))
            go_ret
            exact HF1.out
          · go_wp2_with (first | (go_at_call 18; refine (r_numE _ _).mono ?_; rintro e w' ⟨rfl, rfl⟩) | (go_at_call 20; refine (HSB.out _).mono ?_; rintro e w9 ⟨rfl, hb⟩; obtain ⟨hf1, hf2⟩ := HFIN.out _ hb; have HF1 := Lib.hid hf1; have HF2 := Lib.hid hf2; clear hf1 hf2 hb) | (go_at_call 16; refine HF2.out.mono ?_; rintro e w' ⟨rfl, rfl⟩))
            go_ret
            exact HF1.out
end
end Go.Proofs.Ytmfiibehclbnjaa
