/- The walk of a JSON reader's array. -/
import Derived.Test.YthjcolehccbihaaGreatDoorz13
import Derived.Deep.RegionLaw
import Derived.RegionDies
namespace Go.Proofs.YthjcolehccbihaaGreatDoor
open Go.RowKit Go.Shelf
section
variable {w : World} {rb : Nat} {bv : Value} {bs l : List UInt8}
set_option maxRecDepth 100000 in
set_option maxHeartbeats 4000000 in
theorem j_array (dep : Int) (hd0 : 0 ≤ dep) (hd1 : dep ≤ 100) (val : List UInt8 → Out JV) (hfit : ∀ l, (val l).Fits 1 l)
    (hval : ∀ W l, Rdr W rb bv bs l → Calls Tryz.prog 39 #[.pointer (some ⟨rb, 0, none⟩), .int .i64 (dep + 1)] W (ROut rb bv bs W (VJ W.heap.size) (val l))) (h : Rdr w rb bv bs l) :
    Calls Tryz.prog 73 #[.pointer (some ⟨rb, 0, none⟩), .int .i64 dep] w (ROut rb bv bs w (VJ w.heap.size) (array val l)) := by
  obtain ⟨RES, hres⟩ : ∃ o, o = array val l := ⟨_, rfl⟩
  rw [← hres]
  have HRES := Lib.hid hres
  have HVAL := Lib.hid hval
  have HFIT := Lib.hid hfit
  have HR := Lib.hid h
  obtain ⟨w1, hw1, HBX⟩ := jbox_zero w
  obtain ⟨w2, hw2, HBV⟩ := jbox_new w1 (rawOf 5 ⟨#[]⟩)
  have hz1 : w1.heap.size = w.heap.size + 1 := by rw [← hw1]; simp
  have HI2 : Hid (ListI w w2 rb bv bs l (w.heap.size + 2) (w.heap.size + 1) 5 (.slice none 0 0) (.slice none 0 0) [] []) := Lib.hid (by
    have hb : Below w.heap.size w w2 := HBX.out.1.trans (HBV.out.1.mono HBX.out.1.size)
    refine ⟨h.below hb, (Keeps.refl _ _).below hb, jbox_below HBX.out.2 HBV.out.1, ?_, ⟨[], SlAt.nil, by simp only [JsAt]⟩, SlAt.nil, by simp [Value.ownBlock], by simp [Value.ownBlock], by omega, h.lt, h.glt⟩
    have := HBV.out.2
    rw [hz1] at this
    exact this)
  have HW1 := Lib.hid hw1
  have HW2 : Hid (w1.alloc (.cells #[.int .i64 5, .string ⟨#[]⟩, .slice none 0 0, .slice none 0 0] 25) = w2) := Lib.hid hw2
  have HZ1 := Lib.hid hz1
  have HZ2 : Hid (w.heap.size + 2 ≤ w2.heap.size) := Lib.hid (by rw [← hw2]; simp; omega)
  clear hw1 hw2 hz1 hres hval hfit h HBX HBV
  go_enter Tryz.func73, Tryz.ntmps73
  go_upto_region 2 with fail
  rw [show w.alloc (.cells #[.int .i64 0, .string ⟨#[]⟩, .slice none 0 0, .slice none 0 0] 25) = w1 from HW1.out, HW2.out]
  obtain ⟨vb, hvb⟩ : ∃ vb, vb = w.heap.size + 1 := ⟨_, rfl⟩
  obtain ⟨B, hB⟩ : ∃ B, B = w.heap.size + 2 := ⟨_, rfl⟩
  rw [← hvb, ← hB] at HI2
  rw [← hB] at HZ2
  rw [← hvb]
  have HVB := Lib.hid (And.intro hvb hB)
  clear hvb hB HW1 HW2 HZ1
  have HBL := Lib.hid (j_blanks HI2.out.rdr)
  go_wp2_with (fail)
  refine HBL.out.mono ?_
  rintro e w3 ⟨rfl, hr3, hk3⟩
  have HI3 := Lib.hid (HI2.out.step hr3 hk3)
  have HZ3 : Hid (B ≤ w3.heap.size) := Lib.hid (Nat.le_trans HZ2.out hk3.size)
  obtain ⟨l1, hl1⟩ : ∃ l1, l1 = blanks l := ⟨_, rfl⟩
  rw [← hl1] at HI3
  have HRES1 : Hid (RES = if (mayBe (· == 93) l1).1 then .ok (.mk 5 ByteArray.empty [] []) (mayBe (· == 93) l1).2 else (elemsN val (l.length + 1) [] l1).andThen fun vs r => .ok (.mk 5 ByteArray.empty vs []) r) := Lib.hid (by rw [HRES.out, hl1]; rfl)
  have HL1 : Hid (l1.length ≤ l.length) := Lib.hid (by rw [hl1]; exact suf_len (blanks_suf l))
  clear hr3 hk3 hl1 HBL HI2 HRES HZ2
  have HM := Lib.hid (j_may (p := (· == 93)) (s := ⟨#[93]⟩) (one_set 93) HI3.out.rdr)
  obtain ⟨b, hb⟩ : ∃ b, b = (mayBe (· == 93) l1).1 := ⟨_, rfl⟩
  rw [← hb] at HM
  rw [← hb] at HRES1
  have HBB := Lib.hid hb
  clear hb
  go_wp2_with (fail)
  refine HM.out.mono ?_
  rintro e w4 ⟨rfl, hr4, hk4⟩
  have HI4 := Lib.hid (HI3.out.step hr4 hk4)
  have HZ4 : Hid (B ≤ w4.heap.size) := Lib.hid (Nat.le_trans HZ3.out hk4.size)
  clear hr4 hk4 HM
  cases b with
  | true =>
    obtain ⟨d0, d1, d2, d3, f2, f3⟩ := HI4.out.cells
    obtain ⟨⟨b0, b1, b2, b3⟩, z0, z1, z2, z3⟩ := jbox_cells HI4.out.res
    go_wp2_with (fail)
    have HN := jbox_set HI4.out.res (rawOf 5 ⟨#[]⟩)
    refine bodyPost_ret (v := (rawOf 5 ⟨#[]⟩).val) (jres_cell rfl HN _ rfl) rfl ?_
    rw [HRES1.out]
    refine ⟨⟨_, rfl, rawOf 5 ⟨#[]⟩, rfl, JAt.plain _ _ _ _⟩, HI4.out.rdr.above (w := w) (keeps4 w4 w.heap.size (.int .i64 5) (.string ⟨#[]⟩) (.slice none 0 0) (.slice none 0 0)) (Nat.le_refl _) HI4.out.rlt HI4.out.glt (fun k e => by have e : k = w.heap.size := e; omega), jbox_keep4 HI4.out.keep (Nat.le_refl _) _ _ _ _⟩
  | false =>
    have HNO := Lib.hid (mayBe_no HBB.out.symm)
    have HI5 : Hid (ListI w w4 rb bv bs l1 B vb 5 (.slice none 0 0) (.slice none 0 0) [] []) := Lib.hid (by have := HI4.out; rw [HNO.out] at this; exact this)
    have HR5 : Hid ((elemsN val (l.length + 1) [] l1).andThen (fun vs r => .ok (.mk 5 ByteArray.empty vs []) r) = RES) := Lib.hid (by rw [HRES1.out]; rfl)
    clear HRES1 HI4 HI3 HZ3
    go_wp2_with (fail)
    go_loopg [12] (l.length + 1) (fun gk _ wx => ∃ (lv : Value) (acc : List JV) (l' : List UInt8), Hid (l'.length < gk) ∧ Hid (B ≤ wx.heap.size) ∧ Hid (ListI w wx rb bv bs l' B vb 5 lv (.slice none 0 0) acc []) ∧ Hid ((elemsN val gk acc l').andThen (fun vs r => .ok (.mk 5 ByteArray.empty vs []) r) = RES) ∧ Hid (acc.length + l'.length ≤ l.length))
    case atStart => exact ⟨_, [], l1, Lib.hid (by have := HL1.out; omega), HZ4, HI5, HR5, Lib.hid (by have := HL1.out; simpa using this)⟩
    case round =>
      obtain ⟨lv, acc, l', HG, HZ, HI, HE, HA⟩ := hrel
      obtain ⟨n, rfl⟩ : ∃ n, gk = n + 1 := ⟨gk - 1, by have := HG.out; omega⟩
      have HBL := Lib.hid (j_blanks HI.out.rdr)
      go_wp2_with (fail)
      refine HBL.out.mono ?_
      rintro e w5 ⟨rfl, hr5, hk5⟩
      have HI6 := Lib.hid (HI.out.step hr5 hk5)
      have HZ6 : Hid (B ≤ w5.heap.size) := Lib.hid (Nat.le_trans HZ.out hk5.size)
      obtain ⟨l2, hl2⟩ : ∃ l2, l2 = blanks l' := ⟨_, rfl⟩
      rw [← hl2] at HI6
      have HL2 : Hid (l2.length ≤ l'.length) := Lib.hid (by rw [hl2]; exact suf_len (blanks_suf l'))
      have HE6 : Hid ((if acc.length = 1000 ∧ begins l2 = true then .bad l2.length 9
        else (val l2).andThen fun v l => match blanks l with
          | [] => .bad 0 11
          | c :: r => if c = 93 then .ok (acc ++ [v]) r else if c = 44 then elemsN val n (acc ++ [v]) r else .bad (r.length + 1) 11).andThen (fun vs r => .ok (.mk 5 ByteArray.empty vs []) r) = RES) := Lib.hid (by rw [← HE.out, hl2]; rfl)
      clear hr5 hk5 hl2 HBL HI HZ HE
      obtain ⟨a, cap, hlv⟩ := HI6.out.llen
      subst hlv
      go_upto_region 6 with (fail)
      go_cut [21] (fun b wx => b = .bool (decide (acc.length = 1000 ∧ begins l2 = true)) ∧ ∃ n, wx = w5.drewN n)
      case first =>
        obtain ⟨-, -, d2, -⟩ := HI6.out.cells
        by_cases hm : acc.length = 1000
        · have t0 : ((acc.length : Int) == 1000) = true := by simp; omega
          have HBG := Lib.hid (j_begins HI6.out.rdr)
          obtain ⟨q, hq⟩ : ∃ q, q = begins l2 := ⟨_, rfl⟩
          rw [← hq] at HBG
          have HM := Lib.hid hm
          have HQ := Lib.hid hq
          clear hm hq
          go_wp2_with (fail)
          refine HBG.out.mono ?_
          rintro e w6 ⟨rfl, n6, rfl⟩
          go_wp2_with (fail)
          go_meet
          exact ⟨by rw [← HQ.out]; simp [HM.out], n6, rfl⟩
        · have t0 : ((acc.length : Int) == 1000) = false := by simp; omega
          have HM := Lib.hid hm
          clear hm
          go_wp2_with (fail)
          go_meet
          exact ⟨by simp [HM.out], 0, rfl⟩
      case rest =>
        obtain ⟨rfl, n6, rfl⟩ := hcut
        obtain ⟨w6, hw6⟩ : ∃ w6, w6 = w5.drewN n6 := ⟨_, rfl⟩
        have hi7 := HI6.out.drew n6
        rw [← hw6] at hi7
        rw [← hw6]
        have HI7 := Lib.hid hi7
        have HZ7 : Hid (B ≤ w6.heap.size) := Lib.hid (by rw [hw6]; exact HZ6.out)
        clear hi7 hw6 HI6 HZ6
        obtain ⟨q, hq⟩ : ∃ q, q = decide (acc.length = 1000 ∧ begins l2 = true) := ⟨_, rfl⟩
        rw [← hq]
        have HQ := Lib.hid hq
        clear hq
        cases q with
        | true =>
          have HB : Hid (RES = .bad l2.length 9) := Lib.hid (by rw [← HE6.out, if_pos (of_decide_eq_true HQ.out.symm)]; rfl)
          obtain ⟨-, -, k, -, hk, -, -, c1, -⟩ := HI7.out.rdr.parts
          have HK := Lib.hid hk
          clear hk
          go_wp2_with (fail)
          refine (j_fail _ _ _ _).mono ?_
          rintro e w' ⟨rfl, rfl⟩
          refine leave_panic (P := Tryz.prog) (fn := Tryz.f73) rfl ?_
          rw [HB.out]
          exact ⟨by rw [HK.out]; rfl, HI7.out.keep⟩
        | false =>
          have HE7 : Hid (((val l2).andThen fun v l => match blanks l with
            | [] => .bad 0 11
            | c :: r => if c = 93 then .ok (acc ++ [v]) r else if c = 44 then elemsN val n (acc ++ [v]) r else .bad (r.length + 1) 11).andThen (fun vs r => .ok (.mk 5 ByteArray.empty vs []) r) = RES) := Lib.hid (by rw [← HE6.out, if_neg (of_decide_eq_false HQ.out.symm)])
          clear HE6
          have hdep : wrap64 (dep + 1) = dep + 1 := by unfold wrap64; omega
          have hdep2 : IntKind.i64.wrap (dep + 1) = dep + 1 := IntWalk.i64_in _ (by omega)
          obtain ⟨-, -, d2, -, f2, -⟩ := HI7.out.cells
          have HV := Lib.hid (HVAL.out w6.drew l2 (HI7.out.rdr.below (Below.refl _ _).drew))
          cases ho : val l2 with
          | bad p er =>
            have HB : Hid (RES = .bad p er) := Lib.hid (by rw [← HE7.out, ho]; rfl)
            rw [ho] at HV
            clear ho
            go_upto_region 8 with (fail)
            have HKB : Hid (∀ w7, Keeps (Only rb) w6.drew w7 → ROut rb bv bs w (VJ w.heap.size) RES (faultE ((bs.length - p : Nat) : Int) (er : Int)) w7) := Lib.hid fun w7 hk7 => by rw [HB.out]; exact ⟨rfl, HI7.out.keep.drew.trans' hk7⟩
            go_region_dies
            all_goals
              refine HV.out.mono ?_
              rintro e w7 ⟨rfl, hk7⟩
              exact leave_panic (P := Tryz.prog) (fn := Tryz.f73) rfl (HKB.out _ hk7)
          | ok v l3 =>
            rw [ho] at HV
            have HFT := Lib.hid (HFIT.out l2 v l3 ho)
            have HE8 : Hid ((match blanks l3 with
            | [] => .bad 0 11
            | c :: r => if c = 93 then .ok (acc ++ [v]) r else if c = 44 then elemsN val n (acc ++ [v]) r else .bad (r.length + 1) 11 : Out (List JV)).andThen (fun vs r => .ok (.mk 5 ByteArray.empty vs []) r) = RES) := Lib.hid (by rw [← HE7.out, ho]; rfl)
            have HV2 : Hid (Calls Tryz.prog 39 #[.pointer (some ⟨rb, 0, none⟩), .int .i64 (dep + 1)] w6.drew fun e w7 => ∃ q : RawV, e = .returned (.agg #[.int .i64 q.k, .string q.t, .slice q.la q.ll q.lc, .slice q.na q.nl q.nc]) ∧ Hid (JAt w7 (fun g => w6.drew.heap.size ≤ g) v q ∧ Rdr w7 rb bv bs l3 ∧ Keeps (Only rb) w6.drew w7) ∧ w7.cell? ⟨vb, 2, none⟩ = some (.slice a acc.length cap) ∧ (w7.alloc (.cells #[.int .i64 q.k, .string q.t, .slice q.la q.ll q.lc, .slice q.na q.nl q.nc] 25)).cell? ⟨vb, 2, none⟩ = some (.slice a acc.length cap)) := Lib.hid (HV.out.mono (by
              rintro e w7 ⟨⟨_, rfl, q, rfl, hq⟩, hr7, hk7⟩
              have hi8 := (HI7.out.below (Below.refl _ _).drew).step hr7 hk7
              exact ⟨q, rfl, Lib.hid ⟨hq, hr7, hk7⟩, hi8.cells.2.2.1, (hi8.below ((Below.refl _ _).alloc (Nat.le_refl _) _)).cells.2.2.1⟩))
            clear ho HE7 HV
            have HP : Hid (∀ wy (q : RawV), Rdr wy rb bv bs l3 → Keeps (Only rb) w6.drew wy → JAt wy (fun g => w6.drew.heap.size ≤ g) v q → ∃ v' wu, (Builtin.append_ #[22, 22] 22 #[.slice a acc.length cap, .slice (some ⟨wy.heap.size, 0, none⟩) 1 1]).run Tryz.prog (wy.alloc (.cells #[.int .i64 q.k, .string q.t, .slice q.la q.ll q.lc, .slice q.na q.nl q.nc] 25)) = .ok v' wu ∧ (∃ a cap, v' = .slice a (acc.length + 1) cap) ∧
              wu.cell? ⟨vb, 2, none⟩ = some (.slice a acc.length cap) ∧ wu.frozen? ⟨vb, 2, none⟩ = false ∧ Hid (B ≤ (wu.setCell ⟨vb, 2, none⟩ v').heap.size) ∧ Hid (ListI w (wu.setCell ⟨vb, 2, none⟩ v') rb bv bs l3 B vb 5 v' (.slice none 0 0) (acc ++ [v]) [])) := Lib.hid fun wy q h1 h2 h3 => by
              obtain ⟨v', wu, p1, p2, p5, p6, -⟩ := (HI7.out.below (Below.refl _ _).drew).push (by show B ≤ w6.heap.size; exact HZ7.out) (by have := HA.out; have := HR.out.len; have := suf_len HR.out.suf; have := HFT.out.2; have := HL2.out; omega) h1 h2 h3 #[.int .i64 q.k, .string q.t, .slice q.la q.ll q.lc, .slice q.na q.nl q.nc] rfl 22
              exact ⟨v', wu, p1, p2, p6.cells.2.2.1, p6.cells.2.2.2.2.1, Lib.hid (by have := (keeps_set wu vb 2 v').size; exact Nat.le_trans HZ7.out (Nat.le_trans p5 this)), Lib.hid (p6.set 2 v' v' (.slice none 0 0) rfl)⟩
            go_upto_region 8 with (fail)
            go_cut [] (fun wx => ∃ (a' : Option Addr) (cap' : Nat), Hid (B ≤ wx.heap.size) ∧ Hid (ListI w wx rb bv bs l3 B vb 5 (.slice a' (acc.length + 1) cap') (.slice none 0 0) (acc ++ [v]) []))
            case first =>
             go_region_law (first
               | (go_simp; go_at_call 39; refine HV2.out.mono ?_; rintro e w7 ⟨q, rfl, HQ7, s7, s8⟩)
               | (obtain ⟨v', wu, hrun, ⟨a', cap', rfl⟩, s2, g2, HZ9, HI9⟩ := HP.out w7 q HQ7.out.2.1 HQ7.out.2.2 HQ7.out.1
                  refine step_append_run (by rfl) (.tmp 29) (.tmp 34) 22 (by rfl) _ _ (by rfl) (by rfl) _ _ hrun ?_))
             all_goals
               go_wp2_with (fail)
               go_meet
               exact ⟨a', cap', HZ9, HI9⟩
            case rest =>
              obtain ⟨a', cap', HZ9, HI9⟩ := hcut
              clear HP HV2
              have HBL := Lib.hid (j_blanks HI9.out.rdr)
              go_wp2_with (fail)
              refine HBL.out.mono ?_
              rintro e w10 ⟨rfl, hr10, hk10⟩
              have HI10 := Lib.hid (HI9.out.step hr10 hk10)
              have HZ10 : Hid (B ≤ w10.heap.size) := Lib.hid (Nat.le_trans HZ9.out hk10.size)
              obtain ⟨l4, hl4⟩ : ∃ l4, l4 = blanks l3 := ⟨_, rfl⟩
              rw [← hl4] at HI10 HE8
              have HL4 : Hid (l4.length + 1 ≤ l2.length) := Lib.hid (by rw [hl4]; have := suf_len (blanks_suf l3); have := HFT.out.2; omega)
              clear hr10 hk10 hl4 HBL HI9 HZ9
              have HM := Lib.hid (j_may (p := (· == 93)) (s := ⟨#[93]⟩) (one_set 93) HI10.out.rdr)
              obtain ⟨b4, hb4⟩ : ∃ b, b = (mayBe (· == 93) l4).1 := ⟨_, rfl⟩
              rw [← hb4] at HM
              have HB4 := Lib.hid hb4
              clear hb4
              go_wp2_with (fail)
              refine HM.out.mono ?_
              rintro e w11 ⟨rfl, hr11, hk11⟩
              have HI11 := Lib.hid (HI10.out.step hr11 hk11)
              have HZ11 : Hid (B ≤ w11.heap.size) := Lib.hid (Nat.le_trans HZ10.out hk11.size)
              clear hr11 hk11 HM
              cases b4 with
              | true =>
                have HFIN : Hid (RES = .ok (.mk 5 ByteArray.empty (acc ++ [v]) []) (mayBe (· == 93) l4).2) := Lib.hid (by
                  rw [← HE8.out]
                  cases l4 with
                  | nil => have := HB4.out; simp [mayBe] at this
                  | cons c r =>
                    have hc : (c == 93) = true := by
                      have := HB4.out
                      unfold mayBe at this
                      dsimp only at this
                      split at this
                      · assumption
                      · cases this
                    have hc2 : c = 93 := by simpa using hc
                    subst hc2
                    rfl)
                obtain ⟨q, hq1, hq2, hq3, hq4, hq5⟩ := HI11.out.done
                obtain ⟨d0, d1, d2, d3, f2, f3⟩ := HI11.out.cells
                obtain ⟨⟨b0, b1, b2, b3⟩, z0, z1, z2, z3⟩ := jbox_cells HI11.out.res
                have HQ5 := Lib.hid hq5
                have HQQ : Hid (q = ⟨5, ⟨#[]⟩, a', acc.length + 1, cap', none, 0, 0⟩) := Lib.hid (by
                  cases q
                  simp only [RawV.lv, RawV.nv, Value.slice.injEq] at hq1 hq2 hq3 hq4
                  obtain ⟨h1, h2, h3⟩ := hq3
                  obtain ⟨h4, h5, h6⟩ := hq4
                  subst hq1 hq2 h1 h2 h3 h4 h5 h6
                  rfl)
                clear hq1 hq2 hq3 hq4 hq5
                go_wp2_with (fail)
                have HN := jbox_set HI11.out.res ⟨5, ⟨#[]⟩, a', acc.length + 1, cap', none, 0, 0⟩
                have hk9 := keeps4 w11 w.heap.size (.int .i64 5) (.string ⟨#[]⟩) (.slice a' (acc.length + 1) cap') (.slice none 0 0)
                refine bodyPost_ret (v := RawV.val ⟨5, ⟨#[]⟩, a', acc.length + 1, cap', none, 0, 0⟩) (jres_cell rfl HN _ rfl) rfl ?_
                rw [HFIN.out]
                have hq5 := HQ5.out
                rw [HQQ.out] at hq5
                refine ⟨⟨_, rfl, _, rfl, (hq5.keeps hk9 (fun g hg e => by have e : g = w.heap.size := e; have := HVB.out; omega)).mono (fun g hg => by have := HVB.out; omega)⟩, HI11.out.rdr.above (w := w) hk9 (Nat.le_refl _) HI11.out.rlt HI11.out.glt (fun k e => by have e : k = w.heap.size := e; omega), jbox_keep4 HI11.out.keep (Nat.le_refl _) _ _ _ _⟩
              | false =>
                have HI12 : Hid (ListI w w11 rb bv bs l4 B vb 5 (.slice a' (acc.length + 1) cap') (.slice none 0 0) (acc ++ [v]) []) := Lib.hid (by have := HI11.out; rw [mayBe_no HB4.out.symm] at this; exact this)
                have HMU := Lib.hid (j_must 44 HI12.out.rdr)
                clear HI11
                go_wp2_with (fail)
                refine HMU.out.mono ?_
                intro e w12 hp
                cases l4 with
                | nil =>
                  obtain ⟨rfl, hk⟩ := hp
                  refine leave_panic (P := Tryz.prog) (fn := Tryz.f73) rfl ?_
                  rw [← HE8.out]
                  exact ⟨rfl, HI12.out.keep.trans' hk⟩
                | cons c r =>
                  have hc93 : ¬ c = 93 := by
                    have := HB4.out
                    unfold mayBe at this
                    dsimp only at this
                    intro e
                    rw [e] at this
                    cases this
                  by_cases hc : c = 44
                  · subst hc
                    rw [show musts [44] (44 :: r) = .ok () r from by simp [musts]] at hp
                    obtain ⟨⟨_, rfl, rfl⟩, hr12, hk12⟩ := hp
                    have HI13 := Lib.hid (HI12.out.step hr12 hk12)
                    have HZ13 : Hid (B ≤ w12.heap.size) := Lib.hid (Nat.le_trans HZ11.out hk12.size)
                    have HE13 : Hid ((elemsN val n (acc ++ [v]) r).andThen (fun vs r => .ok (.mk 5 ByteArray.empty vs []) r) = RES) := Lib.hid (by rw [← HE8.out]; rfl)
                    clear hr12 hk12
                    go_wp2_with (fail)
                    go_roundg n
                    case measure => exact Nat.lt_succ_self n
                    case rel => exact ⟨_, _, r, Lib.hid (by have h1 := HG.out; have h2 := HL4.out; have h3 := HL2.out; simp only [List.length_cons] at h2; omega), HZ13, HI13, HE13, Lib.hid (by have h1 := HA.out; have h2 := HL4.out; have h3 := HL2.out; simp only [List.length_cons] at h2; simp; omega)⟩
                  · rw [show musts [44] (c :: r) = .bad (r.length + 1) 11 from by simp [musts, hc]] at hp
                    obtain ⟨rfl, hk⟩ := hp
                    refine leave_panic (P := Tryz.prog) (fn := Tryz.f73) rfl ?_
                    rw [← HE8.out]
                    dsimp only
                    rw [if_neg hc93, if_neg hc]
                    exact ⟨rfl, HI12.out.keep.trans' hk⟩
end
end Go.Proofs.YthjcolehccbihaaGreatDoor
