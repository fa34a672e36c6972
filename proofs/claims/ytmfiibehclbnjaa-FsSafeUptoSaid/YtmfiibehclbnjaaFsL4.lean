/- The walk of FsSafe. -/
import Derived.Test.YtmfiibehclbnjaaFsHe
namespace Go.Proofs.Ytmfiibehclbnjaa
open Go.RowKit Go.Shelf

section
variable {F : FsS} {k : Nat} {n : ByteArray} {x : FileS}
theorem find_map {l : List (ByteArray × FileS)} (g : ByteArray → FileS → FileS) : findL slt (l.map fun x => (x.1, g x.1 x.2)) n = (findL slt l n).map (g n) := by
  induction l with
  | nil => rfl
  | cons y l ih =>
    unfold findL at ih ⊢
    rw [List.map_cons, List.find?_cons, List.find?_cons]
    simp only
    cases h : (!slt y.1 n && !slt n y.1) with
    | true =>
      simp only [Bool.and_eq_true, Bool.not_eq_true'] at h
      have e := slt_ord.eq _ _ h.1 h.2
      simp only [Option.map_some, e]
    | false => exact ih
theorem crash_find (kf : ByteArray → Int → Int) : (F.crash kf).find n = (F.find n).map (crashFile kf n) := by
  show findL slt (F.crash kf).files n = _
  rw [crash_files]
  exact find_map (crashFile kf)
/-- It is up, and not armed. -/
structure Up (F : FsS) : Prop where
  down : F.down = false
  armed : F.armed = 0
theorem safe_remove (h : FsOk F k) (hu : Up F) : Up (F.remove n).1 ∧ (F.remove n).1.find n = none := by
  cases hx : F.find n with
  | none =>
    unfold FsS.remove
    rw [on_none hu.down hx]
    exact ⟨hu, hx⟩
  | some x =>
    unfold FsS.remove
    rw [on_some hu.down hx, write_of hu.armed]
    exact ⟨⟨hu.down, hu.armed⟩, findL_dropL h.rise⟩
theorem safe_create (h : FsOk F k) (hu : Up F) (hx : F.find n = none) : Up (F.create n).1 ∧ ((F.create n).1.find n = none ∨ (F.create n).1.find n = some ⟨[], 0⟩) := by
  unfold FsS.create
  rw [if_neg (by simp [hu.down])]
  split
  · exact ⟨hu, .inl hx⟩
  split
  · exact ⟨hu, .inl hx⟩
  split
  · exact ⟨hu, .inl hx⟩
  · rw [write_of hu.armed]
    exact ⟨⟨hu.down, hu.armed⟩, .inr (findL_putL h.rise)⟩
theorem safe_append (h : FsOk F k) (hu : Up F) (hx : F.find n = some x) (ys : List UInt8) : F.append n ys = (F, 4) ∨ ((F.append n ys).2 = 0 ∧ Up (F.append n ys).1 ∧ (F.append n ys).1.find n = some ⟨x.data ++ ys, x.synced⟩) := by
  unfold FsS.append
  rw [on_some hu.down hx]
  split
  · exact .inl rfl
  · rw [write_of hu.armed]
    exact .inr ⟨rfl, ⟨hu.down, hu.armed⟩, findL_putL h.rise⟩
theorem safe_sync (h : FsOk F k) (hu : Up F) (hx : F.find n = some x) : (F.sync n).2 = 0 ∧ Up (F.sync n).1 ∧ (F.sync n).1.find n = some ⟨x.data, x.data.length⟩ := by
  unfold FsS.sync
  rw [on_some hu.down hx, write_of hu.armed]
  exact ⟨rfl, ⟨hu.down, hu.armed⟩, findL_putL h.rise⟩
theorem crash_left (b more : List UInt8) (keep : Int) {c : Nat} (hc : min (max keep 0) (more.length : Int) = (c : Int)) : crashFile (fun _ _ => keep) n ⟨b ++ more, b.length⟩ = ⟨(b ++ more).take (b.length + c), b.length + c⟩ := by
  unfold crashFile leftOfFile
  simp only [List.length_append]
  have e : ((b.length + more.length : Nat) : Int) - (b.length : Int) = (more.length : Int) := by omega
  rw [e]
  by_cases h0 : (more.length : Int) ≤ 0
  · rw [if_pos h0]
    have : c = 0 := by omega
    subst this
    rw [Nat.add_zero]
    congr 1
    rw [List.length_take, List.length_append]; omega
  · rw [if_neg h0, hc, Int.toNat_natCast]
    congr 1
    rw [List.length_take, List.length_append]; omega
theorem crash_left0 (b : List UInt8) (keep : Int) : crashFile (fun _ _ => keep) n ⟨b, b.length⟩ = ⟨b, b.length⟩ := crashFile_synced rfl
end
section
variable {w : World}
theorem x_safe1 (keep : Int) (bx : Nat) (n : ByteArray) (m : Int) (W : World) (hb : IsBlk W bx #[.int .i64 keep] 3) :
    Calls Try.prog 34 (#[.string n, .int .i64 m] ++ #[.pointer (some ⟨bx, 0, none⟩)]) W fun e W' => e = .returned (.int .i64 keep) ∧ W = W' := by
  have c : W.cell? ⟨bx, 0, none⟩ = some (.int .i64 keep) := blk_cell hb 0
  clear hb
  show Calls Try.prog 34 #[.string n, .int .i64 m, .pointer (some ⟨bx, 0, none⟩)] W _
  go_enter Try.func34, Try.ntmps34
  go_wp2
  go_ret
  exact ⟨rfl, rfl⟩
theorem x_safe2 (keep : Int) (bx : Nat) (n : ByteArray) (m : Int) (W : World) (hb : IsBlk W bx #[.int .i64 keep] 3) :
    Calls Try.prog 36 (#[.string n, .int .i64 m] ++ #[.pointer (some ⟨bx, 0, none⟩)]) W fun e W' => e = .returned (.int .i64 keep) ∧ W = W' := by
  have c : W.cell? ⟨bx, 0, none⟩ = some (.int .i64 keep) := blk_cell hb 0
  clear hb
  show Calls Try.prog 36 #[.string n, .int .i64 m, .pointer (some ⟨bx, 0, none⟩)] W _
  go_enter Try.func36, Try.ntmps36
  go_wp2
  go_ret
  exact ⟨rfl, rfl⟩
theorem box_start2 (w : World) (keep again : Int) : Hid (Below w.heap.size w ((w.alloc (.cells #[.int .i64 keep] 3)).alloc (.cells #[.int .i64 again] 3))) ∧ Hid (IsBlk ((w.alloc (.cells #[.int .i64 keep] 3)).alloc (.cells #[.int .i64 again] 3)) w.heap.size #[.int .i64 keep] 3) ∧ Hid (IsBlk ((w.alloc (.cells #[.int .i64 keep] 3)).alloc (.cells #[.int .i64 again] 3)) (w.heap.size + 1) #[.int .i64 again] 3) := by
  obtain ⟨h1, h2, h3, _⟩ := alloc2 w (.cells #[.int .i64 keep] 3) (.cells #[.int .i64 again] 3)
  exact ⟨Lib.hid h1, Lib.hid h2, Lib.hid h3⟩
set_option maxRecDepth 100000 in
set_option maxHeartbeats 16000000 in
theorem l_safe (v : Value) (os : List FOp) (h : FOpsAt w v os) (hm : os.length ≤ maxLen) (m : Int) (name : ByteArray) (h0 : -9223372036854775808 ≤ m) (h1 : m ≤ 9223372036854775807) (hz : name.size ≤ 9223372036854775807)
    (ua : Option Addr) (uc : Nat) (b : List UInt8) (hu : RdAt byteKind w (.slice ua b.length uc) b) (hbl : b.length ≤ 9223372036854775807) (va : Option Addr) (vc : Nat) (more : List UInt8) (hv : RdAt byteKind w (.slice va more.length vc) more) (hml : more.length ≤ 9223372036854775807)
    (keep again : Int) (hk0 : -9223372036854775808 ≤ keep ∧ keep ≤ 9223372036854775807) (hk1 : -9223372036854775808 ≤ again ∧ again ≤ 9223372036854775807) :
    Calls Try.prog 6 #[.int .i64 m, v, .string name, .slice ua b.length uc, .slice va more.length vc, .int .i64 keep, .int .i64 again] w (TruePost w) := by
  have eg := enters_of Try.func34 (P := Try.prog) (by kernel_rfl) rfl
  have eg2 := enters_of Try.func36 (P := Try.prog) (by kernel_rfl) rfl
  obtain ⟨HB0, HBX, HBY⟩ := box_start2 w keep again
  have HOS := Lib.hid (h.below HB0.out)
  have HU := Lib.hid (hu.below HB0.out)
  have HV := Lib.hid (hv.below HB0.out)
  have HM := Lib.hid hm
  obtain ⟨a, cap, rfl, hrd⟩ := h
  have hz' : (name.size : Int) ≤ 9223372036854775807 := by omega
  have hbl' : (b.length : Int) ≤ 9223372036854775807 := by omega
  have hml' : (more.length : Int) ≤ 9223372036854775807 := by omega
  have HLB := Lib.hid hbl
  have HLM := Lib.hid hml
  have HM0 := Lib.hid (And.intro h0 h1)
  obtain ⟨hk2, hk3⟩ := hk0
  clear hrd hm hz h0 h1 hu hv hbl hml hk1
  go_enter Try.func6, Try.ntmps6
  go_wp2_with (fail)
  refine x_first.mono ?_
  rintro e w1 ⟨rfl, hb⟩
  have HB1 := Lib.hid hb
  clear hb
  go_wp2_with (fail)
  refine (x_few w1 _ os (HOS.out.below HB1.out) HM.out).mono ?_
  rintro e w2 ⟨small, rfl, hs, hb⟩
  have HS := Lib.hid hs
  have HB2 : Hid (Below ((w.alloc (.cells #[.int .i64 keep] 3)).alloc (.cells #[.int .i64 again] 3)).heap.size ((w.alloc (.cells #[.int .i64 keep] 3)).alloc (.cells #[.int .i64 again] 3)) w2) := Lib.hid (HB1.out.trans (hb.mono HB1.out.size))
  clear hb hs
  cases small with
  | false =>
    go_wp2_with (fail)
    go_ret
    exact TruePost.hid HB0 HB2.out
  | true =>
  by_cases hb20 : (20000 : Int) < b.length
  · go_wp2_with (fail)
    go_ret
    exact TruePost.hid HB0 HB2.out
  by_cases hm20 : (20000 : Int) < more.length
  · go_wp2_with (fail)
    go_ret
    exact TruePost.hid HB0 HB2.out
  by_cases h200 : (200 : Int) < name.size
  · go_wp2_with (fail)
    go_ret
    exact TruePost.hid HB0 HB2.out
  go_wp2_with (fail)
  refine (d_made HOS.out (HS.out (by simp)) HB2.out m HM0.out.1 HM0.out.2).mono ?_
  rintro e w3 ⟨fb, rfl, hd⟩
  have HD := Lib.hid hd
  clear hd
  generalize (FsS.new m).toldAll os = F at HD
  generalize (New w2 w3 fun _ => False) = S at HD
  go_wp2_with (fail)
  refine (d_crash_nil HD.out).mono ?_
  rintro e w4 ⟨rfl, hd, _⟩
  have HUP : Hid (Up (F.crash fun _ _ => 0)) := Lib.hid ⟨rfl, rfl⟩
  have HD := Lib.hid hd
  clear hd
  generalize (F.crash fun _ _ => 0) = F1 at HD HUP
  generalize New w3 w4 S = S at HD
  go_wp2_with (fail)
  refine (d_remove HD.out (by omega) name).mono ?_
  rintro e w5 ⟨rfl, hd, _⟩
  have hp := safe_remove (n := name) HD.out.ok HUP.out
  have HUP := Lib.hid hp.1
  have HX := Lib.hid hp.2
  have HD := Lib.hid hd
  clear hd hp
  generalize (F1.remove name).1 = F2 at HD HUP HX
  generalize (F1.remove name).2 = e2
  generalize New w4 w5 S = S at HD
  go_wp2_with (fail)
  refine (d_create HD.out (by omega) name).mono ?_
  rintro e w6 ⟨rfl, hd, _⟩
  have hp := safe_create (n := name) HD.out.ok HUP.out HX.out
  have HUP := Lib.hid hp.1
  have hcase := hp.2
  have HD := Lib.hid hd
  clear hd hp HX
  generalize (F2.create name).1 = F3 at HD HUP hcase
  generalize (F2.create name).2 = e3
  generalize New w5 w6 S = S at HD
  rcases hcase with hx | hx
  · have HX := Lib.hid hx
    clear hx
    go_wp2_with (fail)
    refine (d_append HD.out (by omega) name HU.out HLB.out).mono ?_
    rw [show F3.append name b = (F3, 2) from on_none HUP.out.down HX.out]
    rintro e w7 ⟨rfl, hd, _⟩
    have HD := Lib.hid hd
    clear hd
    go_wp2_with (fail)
    refine (d_sync HD.out (by omega) name).mono ?_
    rw [show F3.sync name = (F3, 2) from on_none HUP.out.down HX.out]
    rintro e w8 ⟨rfl, hd, _⟩
    have HD := Lib.hid hd
    clear hd
    go_wp2_with (fail)
    refine (d_append HD.out (by omega) name HV.out HLM.out).mono ?_
    rw [show F3.append name more = (F3, 2) from on_none HUP.out.down HX.out]
    rintro e w9 ⟨rfl, hd, _⟩
    have HD := Lib.hid hd
    clear hd
    go_wp2_with (first | (go_at_call 18; refine (r_numE _ _).mono ?_; rintro e w' ⟨rfl, rfl⟩))
    go_ret
    exact TruePost.hid HB0 HD.out.below
  · have HX := Lib.hid hx
    have hap := safe_append HD.out.ok HUP.out hx b
    clear hx
    go_wp2_with (fail)
    refine (d_append HD.out (by omega) name HU.out HLB.out).mono ?_
    rintro e w7 ⟨rfl, hd, _⟩
    rcases hap with hap | ⟨q1, q2, q3⟩
    · rw [hap] at hd ⊢
      have hsy := safe_sync HD.out.ok HUP.out HX.out
      have HD := Lib.hid hd
      clear hd hap
      go_wp2_with (fail)
      refine (d_sync HD.out (by omega) name).mono ?_
      rw [hsy.1]
      rintro e w8 ⟨rfl, hd, _⟩
      have HD := Lib.hid hd
      clear hd hsy
      go_wp2_with (fail)
      refine (d_append HD.out (by omega) name HV.out HLM.out).mono ?_
      rintro e w9 ⟨rfl, hd, _⟩
      have HD := Lib.hid hd
      clear hd
      generalize ((F3.sync name).1.append name more).2 = e9
      go_wp2_with (first | (go_at_call 18; refine (r_numE _ _).mono ?_; rintro e w' ⟨rfl, rfl⟩))
      go_ret
      exact TruePost.hid HB0 HD.out.below
    · rw [q1]
      have HD := Lib.hid hd
      have HUP := Lib.hid q2
      have HX := Lib.hid q3
      clear hd q1 q2 q3
      generalize (F3.append name b).1 = F4 at HD HUP HX
      generalize New w6 w7 S = S at HD
      have hsy := safe_sync HD.out.ok HUP.out HX.out
      go_wp2_with (fail)
      refine (d_sync HD.out (by omega) name).mono ?_
      rw [hsy.1]
      rintro e w8 ⟨rfl, hd, _⟩
      have HD := Lib.hid hd
      have HUP := Lib.hid hsy.2.1
      have hx : (F4.sync name).1.find name = some ⟨b, b.length⟩ := by rw [hsy.2.2]; rfl
      have HX := Lib.hid hx
      clear hd hsy hx
      generalize (F4.sync name).1 = F5 at HD HUP HX
      generalize New w7 w8 S = S at HD
      have hap := safe_append HD.out.ok HUP.out HX.out more
      go_wp2_with (fail)
      refine (d_append HD.out (by omega) name HV.out HLM.out).mono ?_
      rintro e w9 ⟨rfl, hd, _⟩
      rcases hap with hap | ⟨q1, q2, q3⟩
      · rw [hap] at hd ⊢
        have HD := Lib.hid hd
        clear hd hap
        generalize New w8 w9 S = S at HD
        obtain ⟨F6, hF6⟩ : ∃ F6, F6 = F5 := ⟨_, rfl⟩
        obtain ⟨D, hD⟩ : ∃ D, D = b := ⟨_, rfl⟩
        obtain ⟨q, hq⟩ : ∃ q, q = b.length := ⟨_, rfl⟩
        have hqi : (b.length : Int) = (q : Int) := by omega
        have HQ : Hid (q ≤ D.length) := Lib.hid (by rw [hD, hq]; exact Nat.le_refl _)
        have HCF : Hid (crashFile (fun _ _ => keep) name ⟨D, b.length⟩ = ⟨D.take q, q⟩) := Lib.hid (by rw [hD, hq, List.take_length]; exact crash_left0 b keep)
        rw [← hF6] at HD
        replace HX : Hid (F6.find name = some ⟨D, b.length⟩) := Lib.hid (by rw [hF6, hD]; exact HX.out)
        have hQD := HQ.out
        clear hF6 hD hq
        have hxl := (HD.out.ok.len HX.out).1
        have hxl : (D.length : Int) ≤ 67108864 := hxl
        go_wp2_with (first | (go_at_call 18; refine (r_numE _ _).mono ?_; rintro e w' ⟨rfl, rfl⟩))
        refine (d_read HD.out HX.out).mono ?_
        rintro e w10 ⟨xa, xc, rfl, hfr, hd⟩
        have HK := Lib.hid (hfr.held HD.out.lt)
        have HD := Lib.hid hd
        clear hd hfr
        go_wp2_with (fail)
        refine (d_crash HD.out 34 w.heap.size eg keep HBX.out (fun n m W hW => x_safe1 keep _ n m W hW)).mono ?_
        rintro e w11 ⟨rfl, hd, hk⟩
        have HK := Lib.hid (HK.out.post hk)
        have HD11 := Lib.hid hd
        have HSY := Lib.hid (crash_synced HD.out.ok fun _ _ => keep)
        have HDN : Hid ((F6.crash fun _ _ => keep).down = false) := Lib.hid rfl
        have HX7 : Hid ((F6.crash fun _ _ => keep).find name = some ⟨D.take q, q⟩) := Lib.hid (by rw [crash_find, HX.out]; exact congrArg some HCF.out)
        clear hd hk HCF
        generalize (F6.crash fun _ _ => keep) = F7 at HD11 HSY HX7 HDN
        generalize New w10 w11 S = S at HD11 HK
        go_wp2_with (fail)
        refine (d_read HD11.out HX7.out).mono ?_
        rintro e w12 ⟨ya, yc, rfl, hfr, hd⟩
        simp only at hfr ⊢
        have hlt : (D.take q).length = q := by rw [List.length_take]; omega
        rw [hlt] at hfr ⊢
        have HFR := Lib.hid hfr
        have HD12 := Lib.hid hd
        have HK12 := Lib.hid (HK.out.read hfr.below)
        obtain ⟨hc1, hc2, hroom⟩ := HK12.out.sl.room
        have hq1 : q ≤ xc := by omega
        have hq2 : (q : Int) ≤ (xc : Int) := by omega
        have hq3 : (xc : Int) ≤ 9223372036854775807 := by omega
        have hq4 : (q : Int) ≤ (D.length : Int) := by omega
        have hq5 : (0 : Int) ≤ (q : Int) := by omega
        have HSB : Hid (∀ cap', Calls Try.prog 20 #[.slice ya q yc, .slice xa q cap'] w12 fun e w' => e = .returned (.bool true) ∧ Below w12.heap.size w12 w') := Lib.hid fun cap' => by
          have h2 := HK12.out.sl.rd.take (q := q) (by omega) cap'
          exact r_sameBytes hfr.sl.rd h2 (by omega)
        have ck : w12.cell? ⟨w.heap.size, 0, none⟩ = some (.int .i64 keep) := by
          have hb : IsBlk w12 w.heap.size #[.int .i64 keep] 3 := (HD12.out.below.block _ (lt_of_block HBX.out)).trans HBX.out
          exact blk_cell hb 0
        clear hd hfr hlt hc1 hc2
        rcases hroom with ⟨rfl, rfl, hl⟩ | ⟨g, off, rfl⟩
        · have hq0 : q = 0 := by omega
          have hq0i : (q : Int) = 0 := by omega
          subst hq0
          clear hl
          simp only [Int.natCast_zero] at *
          go_wp2_with (first | (go_at_call 18; refine (r_numE _ _).mono ?_; rintro e w' ⟨rfl, rfl⟩) | (go_at_call 20; refine (HSB.out _).mono ?_; rintro e w13 ⟨rfl, hb13⟩; have HD13 := Lib.hid (HD12.out.read hb13); clear hb13) | (go_at_call 35; (with_reducible refine (d_down HD13.out).mono ?_); rw [HDN.out]; rintro e w' ⟨rfl, rfl⟩))
          refine (d_copy HD13.out).mono ?_
          rintro e w14 ⟨gb, rfl, hf, hg, hap2, _⟩
          have HF14 := Lib.hid hf
          have HG14 := Lib.hid hg
          have HAP := Lib.hid hap2
          clear hf hg hap2
          go_wp2_with (fail)
          refine (d_crash HF14.out 36 (w.heap.size + 1) eg2 again HBY.out (fun n m W hW => x_safe2 again _ n m W hW)).mono ?_
          rintro e w15 ⟨rfl, hd, hk⟩
          have HG15 := Lib.hid (HG14.out.other hk HAP.out hd.below)
          have HF15 := Lib.hid hd
          have HDT : Hid ((F7.crash fun _ _ => again).dataOf = F7.dataOf) := Lib.hid (by rw [crash_all HD13.out.ok HSY.out]; rfl)
          clear hd hk
          go_wp2_with (first | (go_at_call 24; (with_reducible refine (d_alike HF15.out HG15.out HDT.out).mono ?_); rintro e w16 ⟨rfl, hb16⟩; have HF16 := Lib.hid (HF15.out.read hb16); clear hb16))
          go_ret
          exact TruePost.hid HB0 HF16.out.below
        · skip
          go_wp2_with (first | (go_at_call 18; refine (r_numE _ _).mono ?_; rintro e w' ⟨rfl, rfl⟩) | (go_at_call 20; refine (HSB.out _).mono ?_; rintro e w13 ⟨rfl, hb13⟩; have HD13 := Lib.hid (HD12.out.read hb13); clear hb13) | (go_at_call 35; (with_reducible refine (d_down HD13.out).mono ?_); rw [HDN.out]; rintro e w' ⟨rfl, rfl⟩))
          refine (d_copy HD13.out).mono ?_
          rintro e w14 ⟨gb, rfl, hf, hg, hap2, _⟩
          have HF14 := Lib.hid hf
          have HG14 := Lib.hid hg
          have HAP := Lib.hid hap2
          clear hf hg hap2
          go_wp2_with (fail)
          refine (d_crash HF14.out 36 (w.heap.size + 1) eg2 again HBY.out (fun n m W hW => x_safe2 again _ n m W hW)).mono ?_
          rintro e w15 ⟨rfl, hd, hk⟩
          have HG15 := Lib.hid (HG14.out.other hk HAP.out hd.below)
          have HF15 := Lib.hid hd
          have HDT : Hid ((F7.crash fun _ _ => again).dataOf = F7.dataOf) := Lib.hid (by rw [crash_all HD13.out.ok HSY.out]; rfl)
          clear hd hk
          go_wp2_with (first | (go_at_call 24; (with_reducible refine (d_alike HF15.out HG15.out HDT.out).mono ?_); rintro e w16 ⟨rfl, hb16⟩; have HF16 := Lib.hid (HF15.out.read hb16); clear hb16))
          go_ret
          exact TruePost.hid HB0 HF16.out.below
      · rw [q1]
        have HD := Lib.hid hd
        clear hd
        generalize New w8 w9 S = S at HD
        obtain ⟨F6, hF6⟩ : ∃ F6, F6 = (F5.append name more).1 := ⟨_, rfl⟩
        obtain ⟨D, hD⟩ : ∃ D, D = b ++ more := ⟨_, rfl⟩
        obtain ⟨c, hc⟩ : ∃ c : Nat, min (max keep 0) (more.length : Int) = (c : Int) := ⟨(min (max keep 0) (more.length : Int)).toNat, by omega⟩
        obtain ⟨q, hq⟩ : ∃ q, q = b.length + c := ⟨_, rfl⟩
        have hqi : (b.length : Int) + (c : Int) = (q : Int) := by omega
        have HQ : Hid (q ≤ D.length) := Lib.hid (by rw [hD, hq, List.length_append]; omega)
        have HCF : Hid (crashFile (fun _ _ => keep) name ⟨D, b.length⟩ = ⟨D.take q, q⟩) := Lib.hid (by rw [hD, hq]; exact crash_left b more keep hc)
        rw [← hF6] at HD q3
        rw [← hD] at q3
        have HX : Hid (F6.find name = some ⟨D, b.length⟩) := Lib.hid q3
        have hQD := HQ.out
        clear hF6 hD hq q1 q2 q3
        have hxl := (HD.out.ok.len HX.out).1
        have hxl : (D.length : Int) ≤ 67108864 := hxl
        go_wp2_with (first | (go_at_call 18; refine (r_numE _ _).mono ?_; rintro e w' ⟨rfl, rfl⟩))
        refine (d_read HD.out HX.out).mono ?_
        rintro e w10 ⟨xa, xc, rfl, hfr, hd⟩
        have HK := Lib.hid (hfr.held HD.out.lt)
        have HD := Lib.hid hd
        clear hd hfr
        go_wp2_with (fail)
        refine (d_crash HD.out 34 w.heap.size eg keep HBX.out (fun n m W hW => x_safe1 keep _ n m W hW)).mono ?_
        rintro e w11 ⟨rfl, hd, hk⟩
        have HK := Lib.hid (HK.out.post hk)
        have HD11 := Lib.hid hd
        have HSY := Lib.hid (crash_synced HD.out.ok fun _ _ => keep)
        have HDN : Hid ((F6.crash fun _ _ => keep).down = false) := Lib.hid rfl
        have HX7 : Hid ((F6.crash fun _ _ => keep).find name = some ⟨D.take q, q⟩) := Lib.hid (by rw [crash_find, HX.out]; exact congrArg some HCF.out)
        clear hd hk HCF
        generalize (F6.crash fun _ _ => keep) = F7 at HD11 HSY HX7 HDN
        generalize New w10 w11 S = S at HD11 HK
        go_wp2_with (fail)
        refine (d_read HD11.out HX7.out).mono ?_
        rintro e w12 ⟨ya, yc, rfl, hfr, hd⟩
        simp only at hfr ⊢
        have hlt : (D.take q).length = q := by rw [List.length_take]; omega
        rw [hlt] at hfr ⊢
        have HFR := Lib.hid hfr
        have HD12 := Lib.hid hd
        have HK12 := Lib.hid (HK.out.read hfr.below)
        obtain ⟨hc1, hc2, hroom⟩ := HK12.out.sl.room
        have hq1 : q ≤ xc := by omega
        have hq2 : (q : Int) ≤ (xc : Int) := by omega
        have hq3 : (xc : Int) ≤ 9223372036854775807 := by omega
        have hq4 : (q : Int) ≤ (D.length : Int) := by omega
        have hq5 : (0 : Int) ≤ (q : Int) := by omega
        have HSB : Hid (∀ cap', Calls Try.prog 20 #[.slice ya q yc, .slice xa q cap'] w12 fun e w' => e = .returned (.bool true) ∧ Below w12.heap.size w12 w') := Lib.hid fun cap' => by
          have h2 := HK12.out.sl.rd.take (q := q) (by omega) cap'
          exact r_sameBytes hfr.sl.rd h2 (by omega)
        have ck : w12.cell? ⟨w.heap.size, 0, none⟩ = some (.int .i64 keep) := by
          have hb : IsBlk w12 w.heap.size #[.int .i64 keep] 3 := (HD12.out.below.block _ (lt_of_block HBX.out)).trans HBX.out
          exact blk_cell hb 0
        clear hd hfr hlt hc1 hc2
        rcases hroom with ⟨rfl, rfl, hl⟩ | ⟨g, off, rfl⟩
        · have hq0 : q = 0 := by omega
          have hq0i : (q : Int) = 0 := by omega
          subst hq0
          clear hl
          simp only [Int.natCast_zero] at *
          go_wp2_with (first | (go_at_call 18; refine (r_numE _ _).mono ?_; rintro e w' ⟨rfl, rfl⟩) | (go_at_call 20; refine (HSB.out _).mono ?_; rintro e w13 ⟨rfl, hb13⟩; have HD13 := Lib.hid (HD12.out.read hb13); clear hb13) | (go_at_call 35; (with_reducible refine (d_down HD13.out).mono ?_); rw [HDN.out]; rintro e w' ⟨rfl, rfl⟩))
          refine (d_copy HD13.out).mono ?_
          rintro e w14 ⟨gb, rfl, hf, hg, hap2, _⟩
          have HF14 := Lib.hid hf
          have HG14 := Lib.hid hg
          have HAP := Lib.hid hap2
          clear hf hg hap2
          go_wp2_with (fail)
          refine (d_crash HF14.out 36 (w.heap.size + 1) eg2 again HBY.out (fun n m W hW => x_safe2 again _ n m W hW)).mono ?_
          rintro e w15 ⟨rfl, hd, hk⟩
          have HG15 := Lib.hid (HG14.out.other hk HAP.out hd.below)
          have HF15 := Lib.hid hd
          have HDT : Hid ((F7.crash fun _ _ => again).dataOf = F7.dataOf) := Lib.hid (by rw [crash_all HD13.out.ok HSY.out]; rfl)
          clear hd hk
          go_wp2_with (first | (go_at_call 24; (with_reducible refine (d_alike HF15.out HG15.out HDT.out).mono ?_); rintro e w16 ⟨rfl, hb16⟩; have HF16 := Lib.hid (HF15.out.read hb16); clear hb16))
          go_ret
          exact TruePost.hid HB0 HF16.out.below
        · skip
          go_wp2_with (first | (go_at_call 18; refine (r_numE _ _).mono ?_; rintro e w' ⟨rfl, rfl⟩) | (go_at_call 20; refine (HSB.out _).mono ?_; rintro e w13 ⟨rfl, hb13⟩; have HD13 := Lib.hid (HD12.out.read hb13); clear hb13) | (go_at_call 35; (with_reducible refine (d_down HD13.out).mono ?_); rw [HDN.out]; rintro e w' ⟨rfl, rfl⟩))
          refine (d_copy HD13.out).mono ?_
          rintro e w14 ⟨gb, rfl, hf, hg, hap2, _⟩
          have HF14 := Lib.hid hf
          have HG14 := Lib.hid hg
          have HAP := Lib.hid hap2
          clear hf hg hap2
          go_wp2_with (fail)
          refine (d_crash HF14.out 36 (w.heap.size + 1) eg2 again HBY.out (fun n m W hW => x_safe2 again _ n m W hW)).mono ?_
          rintro e w15 ⟨rfl, hd, hk⟩
          have HG15 := Lib.hid (HG14.out.other hk HAP.out hd.below)
          have HF15 := Lib.hid hd
          have HDT : Hid ((F7.crash fun _ _ => again).dataOf = F7.dataOf) := Lib.hid (by rw [crash_all HD13.out.ok HSY.out]; rfl)
          clear hd hk
          go_wp2_with (first | (go_at_call 24; (with_reducible refine (d_alike HF15.out HG15.out HDT.out).mono ?_); rintro e w16 ⟨rfl, hb16⟩; have HF16 := Lib.hid (HF15.out.read hb16); clear hb16))
          go_ret
          exact TruePost.hid HB0 HF16.out.below
end
end Go.Proofs.Ytmfiibehclbnjaa
