/- The walk of the statement WalKept. -/
import Derived.Deep.CutBlock
import Derived.Deep.DeepCutAuto
import Derived.Test.YthbfkjmpaifblaaWz
namespace Go.Proofs.Ythbfkjmpaifblaa
open Go.RowKit Go.Shelf

section
variable {w : World}
set_option maxRecDepth 100000 in
set_option maxHeartbeats 16000000 in
theorem l_walKept {u v : Value} {l : List (List UInt8)} {cs : List (Int × Int)} (hl : ListsAt w u l 1048576) (hc : CrAt w v cs) (hcl : cs.length ≤ 9223372036854775807) (size cap0 : Int) (hc1 : -9223372036854775808 ≤ cap0) (hc2 : cap0 ≤ 9223372036854775807) :
    Calls Try.prog 8 #[.int .i64 size, .int .i64 cap0, u, v] w fun e w' => e = .returned (.bool true) ∧ Below w.heap.size w w' := by
  obtain ⟨a0, c0, rfl⟩ := hl.rd.shape
  obtain ⟨a1, c1, rfl, hcell⟩ := hc
  have HL := Lib.hid hl
  have HCR := Lib.hid hcell
  have HC := Lib.hid (And.intro hc1 hc2)
  have hcl2 : (cs.length : Int) ≤ 9223372036854775807 := by omega
  clear hl hcell hc1 hc2 hcl
  go_enter Try.func8, Try.ntmps8
  go_wp2_with (fail)
  refine (x_wfirst (w := w)).mono ?_
  rintro e w1 ⟨rfl, hb1⟩
  have HB1 := Lib.hid hb1
  clear hb1
  go_wp2_with (fail)
  refine (x_wfew (HL.out.below HB1.out)).mono ?_
  rintro e w2 ⟨bb, rfl, hbf, hb2⟩
  have HB2 : Hid (Below w.heap.size w w2) := Lib.hid (HB1.out.trans (hb2.mono HB1.out.size))
  clear hb2
  cases bb with
  | false =>
    clear hbf
    go_wp2_with (fail)
    go_ret
    exact ⟨rfl, HB2.out⟩
  | true =>
    have hle : l.length ≤ 60 := hbf rfl
    have HLE := Lib.hid hle
    have hm : (l.length : Int) ≤ 60 := by omega
    clear hbf hle
    by_cases hcs : (20 : Int) < (cs.length : Int)
    · go_wp2_with (fail)
      go_ret
      exact ⟨rfl, HB2.out⟩
    by_cases h16 : size < 16
    · go_wp2_with (fail)
      go_ret
      exact ⟨rfl, HB2.out⟩
    by_cases h20 : (1048576 : Int) < size
    · go_wp2_with (fail)
      go_ret
      exact ⟨rfl, HB2.out⟩
    by_cases hc0 : cap0 < 0
    · go_wp2_with (fail)
      go_ret
      exact ⟨rfl, HB2.out⟩
    have HSZ : Hid (16 ≤ size ∧ size ≤ 1048576) := Lib.hid (by omega)
    have hcs2 : (cs.length : Int) ≤ 20 := by omega
    have HCS : Hid (cs.length ≤ 20) := Lib.hid (by omega)
    go_wp2_with (fail)
    clear h16 h20 hc0 hcs hcl2
    refine (f_new cap0 HC.out.1 HC.out.2).mono ?_
    rintro e w3 ⟨fb, rfl, hf, hb⟩
    have HF : Hid (Hd w w3 fb (FsS.new cap0) 0 (New w2 w3 fun _ => False)) := Lib.hid ⟨hf, fun i e => by rcases e with e | e; exact e.elim; have := HB2.out.size; omega, HB2.out.trans (hb.mono HB2.out.size), FsOk.new0 cap0⟩
    clear hf hb
    go_wp2_with (fail)
    refine (w_open HF.out (by omega) nmW (by decide) size (fun f l _ => by show (l + 1 - f) * 0 ≤ _; omega)).mono ?_
    obtain ⟨G, ho, hlog, hcalm, hroom, hused, hfiles⟩ := open_none (F := FsS.new cap0) (dir := nmW) (size := size) (segs_new _ _) dirOk_w HSZ.out.1 HSZ.out.2 rfl rfl (by show (0 : Nat) < 400; decide)
    rw [ho]
    rintro e w4 ⟨lv, x1, rfl, hO⟩
    obtain ⟨lb, rfl, -, T, -, hlg, hx⟩ := hO.good rfl
    have HI : Hid (∃ F L S pre b qs, KeI w w4 fb lb size l 0 0 (.slice none 0 0) F L S pre b qs) := Lib.hid
      ⟨G, _, T, [], [], [], hlg, hlog, Holds.empty, WantAt.nil _ _ _, rfl, rfl, rfl, Nat.le_refl _, by rw [hfiles]; exact Nat.le_refl _, by rw [hused]; exact Int.le_refl _, Nat.le_refl _⟩
    obtain ⟨au, cu, rfl⟩ := hx.shape
    clear hO hlg hx hlog ho hcalm hroom hused hfiles HF
    go_wp2_with (first | (go_at_call 27; refine (r_num _ _).mono ?_; rintro e w' ⟨rfl, rfl⟩))
    go_loopw [12, 15, 16, 17] (fun lv vw nv q wr => ∃ lb nx c : Nat, lv = .pointer (some ⟨lb, 0, none⟩) ∧ nv = .int .i64 (nx : Int) ∧ q = .int .i64 (c : Int) ∧ nx ≤ l.length ∧ c ≤ cs.length + 1 ∧ Hid (∃ F L S pre b qs, KeI w wr fb lb size l nx c vw F L S pre b qs)) (fun _ _ _ q _ => cs.length + 1 - (intOf q).toNat)
    case atStart => exact ⟨lb, 0, 0, rfl, rfl, rfl, Nat.zero_le _, Nat.zero_le _, HI⟩
    case round =>
      obtain ⟨lb, nx, c, rfl, rfl, rfl, hnx, hcc, HX⟩ := hrel
      obtain ⟨F, L, S, pre, b, qs, hI⟩ := HX.out
      obtain ⟨va, vc, rfl⟩ := hI.want.shape
      have HI2 := Lib.hid hI
      have HNX := Lib.hid hnx
      have hk1 : (0 : Int) ≤ (c : Int) := by omega
      have hk2 : (0 : Int) ≤ (nx : Int) := by omega
      clear hI hnx
      by_cases hle : (c : Int) ≤ (cs.length : Int)
      · have HCC : Hid (c ≤ cs.length ∧ cs.length ≤ 20) := Lib.hid ⟨by omega, HCS.out⟩
        have HARM : Hid (∀ W, Below w.heap.size w W → c < cs.length → ∃ (x : Int × Int) (g off : Nat), cs[c]? = some x ∧ a1 = some ⟨g, off, none⟩ ∧ W.cell? ⟨g, off + c * 2, none⟩ = some (.int .i64 x.1) ∧ W.cell? ⟨g, off + c * 2 + 1, none⟩ = some (.int .i64 x.2) ∧ (-9223372036854775808 ≤ x.1 ∧ x.1 ≤ 9223372036854775807)) := Lib.hid (by
          intro W hW hlt
          obtain ⟨x, hx⟩ : ∃ x, cs[c]? = some x := ⟨_, List.getElem?_eq_getElem hlt⟩
          obtain ⟨g, off, ea, d0, d1, hx1⟩ := HCR.out c x hx
          exact ⟨x, g, off, hx, ea, (hW.cell (p := ⟨g, off + c * 2 + 0, none⟩) (World.block_lt_of_cell? w _ d0)).trans d0, (hW.cell (p := ⟨g, off + c * 2 + 1, none⟩) (World.block_lt_of_cell? w _ d1)).trans d1, hx1⟩)
        clear hcc
        go_upto_if 77 with (fail)
        go_cut [] (fun wc => Hid (∃ F L S pre b qq, KeI w wc fb lb size l nx c (.slice va qs.length vc) F L S pre b qq))
        case first =>
          by_cases hlt : (c : Int) < (cs.length : Int)
          · obtain ⟨x, g, off, hx, rfl, d0, d1, hx1, hx2⟩ := HARM.out wr HI2.out.lg.hd.below (by omega)
            have HXB := Lib.hid (And.intro hx1 hx2)
            clear d1 hx hx1 hx2
            go_wp2_with (fail)
            refine (HI2.out.arm x.1 HXB.out.1 HXB.out.2).mono ?_
            rintro e w5 ⟨rfl, hI5⟩
            have HXA : Hid (∃ F L S pre b qq, KeI w w5 fb lb size l nx c (.slice va qs.length vc) F L S pre b qq) := Lib.hid ⟨_, _, _, _, _, _, hI5⟩
            clear hI5
            go_wp2_with (fail)
            go_meet
            exact HXA
          · go_wp2_with (fail)
            go_meet
            exact HX
        case rest =>
          clear HX HI2
          have HK := hcut
          clear hcut
          go_upto_if 90 with (fail)
          go_cut [19] (fun sv wd => wd = wc ∧ ∃ st : Nat, sv = .int .i64 (st : Int) ∧ st ≤ l.length)
          case first =>
            by_cases hlt : (c : Int) < (cs.length : Int)
            · obtain ⟨st, hst, hst2⟩ : ∃ st : Nat, min ((nx : Int) + 10) (l.length : Int) = (st : Int) ∧ st ≤ l.length := ⟨(min ((nx : Int) + 10) (l.length : Int)).toNat, by omega, by omega⟩
              have HST := Lib.hid hst
              have hnb : (nx : Int) ≤ 60 := by have := HNX.out; omega
              clear hst
              go_wp2_with (fail)
              go_meet
              exact ⟨rfl, st, by rw [HST.out], hst2⟩
            · go_wp2_with (fail)
              go_meet
              exact ⟨rfl, l.length, rfl, Nat.le_refl _⟩
          case rest =>
            obtain ⟨hw, st, rfl, hst2⟩ := hcut
            subst hw
            go_upto_block 2 with (fail)
            go_cut [15, 16, 18, 20] (fun vw nv mv _ wd => ∃ (nx : Nat) (mb : Int), nv = .int .i64 (nx : Int) ∧ nx ≤ l.length ∧ mv = .int .i64 mb ∧ Hid (∃ F S pre b t p qs, KeT w wd fb l nx c mb vw F S pre b t p qs))
            case first =>
              go_wp2_with (fail)
              go_loopw [15, 16, 18] (fun vw nv mv wr => ∃ nx : Nat, nv = .int .i64 (nx : Int) ∧ nx ≤ l.length ∧ mv = .int .i64 (-1) ∧ Hid (∃ F L S pre b qs, KeI w wr fb lb size l nx c vw F L S pre b qs)) (fun _ nv _ _ => l.length - (intOf nv).toNat)
              case atStart => exact ⟨nx, rfl, HNX.out, rfl, HK⟩
              case round =>
                have HST2 : Hid (st ≤ l.length) := Lib.hid hst2
                clear HK HNX hk2 hst2
                obtain ⟨nx, rfl, hnx, rfl, HX⟩ := hrel
                obtain ⟨F, L, S, pre, b, qs, hI⟩ := HX.out
                obtain ⟨va, vc, rfl⟩ := hI.want.shape
                have HI2 := Lib.hid hI
                have HNX := Lib.hid hnx
                have hk2 : (0 : Int) ≤ (nx : Int) := by omega
                by_cases hlt2 : nx < st
                · have hln : nx < l.length := by have := HST2.out; omega
                  obtain ⟨r, hr⟩ : ∃ r, l[nx]? = some r := ⟨_, List.getElem?_eq_getElem hln⟩
                  obtain ⟨lg, loff, lcap, a, ca, hv, hcx, hrd, -, -, hrn⟩ := HL.out.at_ hr
                  injection hv with hv _ hv3
                  subst hv hv3
                  have HRD := Lib.hid hrd
                  have HRN := Lib.hid hrn
                  have HRR := Lib.hid hr
                  have HJ : Hid (nx < 60) := Lib.hid (by have := HLE.out; omega)
                  have CELL : Hid (∀ W, Below w.heap.size w W → W.cell? ⟨lg, loff + nx, none⟩ = some (.slice a r.length ca)) := Lib.hid fun W hW => (hW.cell (p := ⟨lg, loff + nx, none⟩) (World.block_lt_of_cell? w _ hcx)).trans hcx
                  have hc2 := CELL.out wr hI.lg.hd.below
                  have HDN := Lib.hid (fun (w' : World) hP => hI.try_ (w' := w') hr hrn HJ.out hP)
                  have hk6 : (nx : Int) < (l.length : Int) := by omega
                  have hk7 : (nx : Int) < (st : Int) := by omega
                  clear hI hcx hrd hr hrn
                  go_wp2_with (fail)
                  refine (w_append HI2.out.lg (by have := HJ.out; have := HCC.out; omega) (by rw [HI2.out.dir]; decide) (by have := HI2.out.last; have := HJ.out; omega) (HRD.out.below HI2.out.lg.hd.below) (HI2.out.lg.arg HRD.out) (by have := HRN.out; omega)).mono ?_
                  rintro e w6 ⟨rfl, hP⟩
                  have hdn := HDN.out w6 hP
                  have HW6 := Lib.hid (HI2.out.want.post HI2.out.lg hP)
                  have HP6 := Lib.hid hP
                  obtain ⟨R, hR⟩ : ∃ R, R = appendL L F r := ⟨_, rfl⟩
                  rw [← hR] at hdn HP6 ⊢
                  obtain ⟨S6, hS6⟩ : ∃ S6, S6 = New wr w6 S := ⟨_, rfl⟩
                  rw [← hS6] at hdn HW6
                  have HL6 : Hid (Lg w w6 fb R.2.1 (3 + 3 * nx + 3 * c + 3) S6 lb R.1) := Lib.hid (by rw [hS6]; exact HP6.out.lg)
                  have HC6 := CELL.out w6 HL6.out.hd.below
                  clear hP hR hS6 hc2 HDN
                  rcases hdn with ⟨e0, hnx2⟩ | ⟨e4, hnx2⟩ | ⟨e5, hnx2⟩
                  · obtain ⟨v8, w8, hrun, hp8⟩ := HW6.out.push HL6.out HRD.out (by have := HI2.out.len; have := HJ.out; omega) 25
                    have HNX2 : Hid (∃ F L S pre b qs, KeI w w8 fb lb size l (nx + 1) c v8 F L S pre b qs) := Lib.hid (by
                      obtain ⟨pre', b', h⟩ := hnx2 w8 v8 hp8.out.2 hp8.out.1
                      exact ⟨_, _, _, pre', b', _, h⟩)
                    rw [e0]
                    clear hnx2 e0 hp8
                    go_wp2_with (first | (go_at_call 27; refine (r_num _ _).mono ?_; rintro e w' ⟨rfl, rfl⟩) | (at_builtin; refine wpList_append_run rfl (.tmp 108) (.tmp 113) 25 rfl _ _ rfl rfl _ _ hrun ?_))
                    go_roundw
                    case rel => exact ⟨nx + 1, by go_num, by omega, rfl, HNX2⟩
                    case measure => simp [intOf]; omega
                  · have HNX2 : Hid (∃ F L S pre b qq, KeI w w6 fb lb size l (nx + 1) c (.slice va qs.length vc) F L S pre b qq) := Lib.hid (by
                      obtain ⟨pre', b', h⟩ := hnx2
                      exact ⟨_, _, _, pre', b', _, h⟩)
                    rw [e4]
                    clear hnx2 e4
                    go_wp2_with (first | (go_at_call 27; refine (r_num _ _).mono ?_; rintro e w' ⟨rfl, rfl⟩))
                    go_roundw
                    case rel => exact ⟨nx + 1, by go_num, by omega, rfl, HNX2⟩
                    case measure => simp [intOf]; omega
                  · have HKT : Hid (∃ F S pre b t p qq, KeT w w6 fb l (nx + 1) c (nx : Int) (.slice va qs.length vc) F S pre b t p qq) := Lib.hid (by
                      obtain ⟨pre', b', t, h⟩ := hnx2
                      exact ⟨_, _, pre', b', t, r, _, h⟩)
                    rw [e5]
                    clear hnx2 e5 HL6 HP6 HW6 HI2 HX HC6
                    go_wp2_with (first | (go_at_call 27; refine (r_num _ _).mono ?_; rintro e w' ⟨rfl, rfl⟩))
                    go_meet
                    exact ⟨nx + 1, nx, by go_num, by omega, rfl, HKT⟩
                · have HKT : Hid (∃ F S pre b t p qq, KeT w wr fb l nx c (-1) (.slice va qs.length vc) F S pre b t p qq) := Lib.hid ⟨F, S, pre, b, [], [], _, hI.calm⟩
                  have hk7 : ¬ (nx : Int) < (st : Int) := by omega
                  clear hI HI2 HX
                  go_wp2_with (fail)
                  go_meet
                  exact ⟨nx, -1, rfl, HNX.out, rfl, HKT⟩
            case rest =>
              clear HK HNX hk2 hst2
              obtain ⟨nx, mb, rfl, hnx, rfl, HX⟩ := hcut
              obtain ⟨F, S, pre, b, t, p, qs, hT⟩ := HX.out
              obtain ⟨va, vc, rfl⟩ := hT.want.shape
              have HT := Lib.hid hT
              have HNX := Lib.hid hnx
              have HB0 : Hid (Below w.heap.size w wc) := Lib.hid hT.hd.below
              rename World => w5
              clear hT HX hnx
              go_upto_if 129 with (fail)
              go_cut [] (fun wd => Hid (Below w5.heap.size w5 wd ∧ ∃ keep : Int, IsBlk wd w5.heap.size #[.int .i64 keep] 3))
              case first =>
                have hal : Below w5.heap.size w5 (w5.alloc (Obj.cells #[Value.int IntKind.i64 0] 3)) := (Below.refl _ _).alloc (Nat.le_refl _) _
                have HAL := Lib.hid hal
                by_cases hlt : (c : Int) < (cs.length : Int)
                · obtain ⟨x, g, off, hx, rfl, d0, d1, hx1, hx2⟩ := HARM.out (w5.alloc (Obj.cells #[Value.int IntKind.i64 0] 3)) (HB0.out.trans (hal.mono HB0.out.size)) (by omega)
                  have z1 : (w5.alloc (Obj.cells #[Value.int IntKind.i64 0] 3)).frozen? ⟨w5.heap.size, 0, none⟩ = false := blk_free (blk_new w5 _) 0
                  have y1 : (w5.alloc (Obj.cells #[Value.int IntKind.i64 0] 3)).cell? ⟨w5.heap.size, 0, none⟩ = some (.int .i64 0) := blk_cell (blk_new w5 _) 0
                  clear d0 hx hx1 hx2 hal
                  go_wp2_with (fail)
                  go_meet
                  exact Lib.hid ⟨(Below.refl _ _).alloc (Nat.le_refl _) _, x.2, blk_new _ _⟩
                · clear hal
                  go_wp2_with (fail)
                  go_meet
                  exact Lib.hid ⟨HAL.out, 0, blk_new _ _⟩
              case rest =>
                have HBX := hcut
                clear hcut
                have HCR2 : Hid (∃ (G : FsS) (G' : FsS) (L' : LogS) (rs : List (List UInt8)), (Calls Try.prog 41 #[.pointer (some ⟨fb, 0, none⟩), .func (.func 42) #[] #[.pointer (some ⟨w5.heap.size, 0, none⟩)]] wc fun e w' => e = .returned (.tuple #[]) ∧ ∃ S', Hd w w' fb G (3 + 3 * nx + 3 * c) S' ∧ WantAt w S' w' (.slice va qs.length vc) qs) ∧ openL G nmW size = (G', L', rs, 0) ∧ (∀ f m, scanNums (segNums G nmW) 0 0 = some (f, m) → (m + 1 - f) * G.used.toNat ≤ 80000000) ∧
                    (rs = qs ∨ (rs = qs ++ [p] ∧ ∃ m : Nat, mb = (m : Int) ∧ l[m]? = some p ∧ qs.length + 1 ≤ nx)) ∧ (∀ (w2 : World) (lb2 : Nat) (S2 : Nat → Prop) (v2 : Value), Lg w w2 fb G' (3 + 3 * nx + 3 * c + 3) S2 lb2 L' → WantAt w S2 w2 v2 rs → ∃ pre c', KeI w w2 fb lb2 size l nx (c + 1) v2 G' L' S2 pre c' rs) ∧ qs.length ≤ nx ∧ ∀ q ∈ rs, q.length ≤ 1048576) := Lib.hid (by
                  obtain ⟨hbw, keep, hbx⟩ := HBX.out
                  have h := HT.out
                  obtain ⟨G', L', rs, h1, h2, h3, h4⟩ := h.again HSZ.out.1 HSZ.out.2 (by have := HLE.out; have := HNX.out; omega) HL.out.bulk keep
                  refine ⟨_, G', L', rs, h.crash hbw hbx, h1, h2, h3, fun w2 lb2 S2 v2 a1 a2 => ⟨pre, h4 w2 lb2 S2 v2 a1 a2⟩, h.len, fun q hq => ?_⟩
                  obtain ⟨_, _, _, hsm⟩ := h.holds
                  rcases h3 with e | ⟨e, _⟩
                  · exact hsm q (by rw [← e]; exact hq)
                  · rw [e] at hq
                    rcases List.mem_append.1 hq with e | e
                    · exact hsm q e
                    · rw [List.mem_singleton.1 e]
                      rcases h.torn with ⟨_, _, e⟩ | ⟨_, _, _, _, _, _, e⟩
                      · rw [e]; simp
                      · exact e)
                have HMB : Hid (mb = -1 ∨ ∃ m : Nat, mb = (m : Int)) := Lib.hid (by
                  rcases HT.out.torn with ⟨e, _⟩ | ⟨m, e, _⟩
                  · exact .inl e
                  · exact .inr ⟨m, e⟩)
                go_wp2_with (fail)
                obtain ⟨G, G', L', rs, hcr, ho, hus, hrs, hnext, hql, hsm⟩ := HCR2.out
                clear HCR2
                refine hcr.mono ?_
                rintro e w9 ⟨rfl, S9, hd9, hw9⟩
                have HD9 := Lib.hid hd9
                have HW9 := Lib.hid hw9
                have HO := Lib.hid (And.intro ho (And.intro hus (And.intro hnext (And.intro hql hsm))))
                have HRS := Lib.hid hrs
                clear hcr hd9 hw9 ho hus hnext hql hsm hrs
                go_wp2_with (fail)
                refine (w_open HD9.out (by have := HLE.out; have := HNX.out; have := HCC.out; omega) nmW (by decide) size HO.out.2.1).mono ?_
                rw [HO.out.1]
                rintro e w10 ⟨lv, x1, rfl, hO⟩
                obtain ⟨lb2, rfl, -, T, hT, hlg, hx⟩ := hO.good rfl
                have HL10 := Lib.hid hlg
                have HX10 := Lib.hid hx
                have HNEW := Lib.hid hO.new
                have HOWN : Hid (∀ g, (Value.slice va qs.length vc).ownBlock = some g → g < w9.heap.size) := Lib.hid (fun g hg => by
                  obtain ⟨ss, h1, _⟩ := HW9.out.ex
                  obtain ⟨cur, hb⟩ := h1.own g hg
                  exact lt_of_block hb)
                have HW10 := Lib.hid (HW9.out.keeps hO.keeps (fun i e => .inl e) hT)
                obtain ⟨a10, c10, rfl⟩ := hx.shape
                clear hO hlg hx hT HD9 HW9
                have hwq : wrap64 ((qs.length : Int) + 1) = (qs.length : Int) + 1 := IntWalk.wrap64_in _ (by have := HO.out.2.2.2.1; have := HLE.out; have := HNX.out; omega)
                rcases HRS.out with hrq | ⟨hrq, hmm⟩
                · have HX10 : Hid (LrAt w10 (.slice a10 qs.length c10) qs) := Lib.hid (by have h := HX10.out.rd; rw [hrq] at h; exact h)
                  have HWL := Lib.hid (HW10.out.lr HL10.out.hd.below)
                  have hrl : rs.length = qs.length := by rw [hrq]
                  have HRQ := Lib.hid hrq
                  rw [hrl]
                  clear hrl hrq
                  have hne : ((qs.length : Int) == (qs.length : Int) + 1) = false := beq_eq_false_iff_ne.2 (by omega)
                  rcases HMB.out with e | ⟨m, e⟩
                  · subst e
                    go_wp2_with (first | (go_at_call 27; refine (r_num _ _).mono ?_; rintro e w' ⟨rfl, rfl⟩))
                    refine (r_sameLists HX10.out HWL.out (by have := HO.out.2.2.2.1; have := HLE.out; have := HNX.out; omega) (fun q hq => Nat.le_trans (HO.out.2.2.2.2 q (by rw [HRQ.out]; exact hq)) (by omega))).mono ?_
                    rintro e w11 ⟨rfl, hb11⟩
                    have HFIN : Hid (∃ F L S pre b qq, KeI w w11 fb lb2 size l nx (c + 1) (.slice va qs.length vc) F L S pre b qq) := Lib.hid (by
                      obtain ⟨pre, c', h⟩ := HO.out.2.2.1 w11 lb2 T _ (HL10.out.below hb11) (by rw [HRQ.out]; exact HW10.out.below hb11)
                      exact ⟨_, _, _, pre, c', _, h⟩)
                    clear hb11
                    go_wp2_with (fail)
                    go_roundw
                    case rel => exact ⟨lb2, nx, c + 1, rfl, by go_num, by go_num, HNX.out, by have := HCC.out; omega, HFIN⟩
                    case measure => simp [intOf]; omega
                  · subst e
                    have hm0 : (0 : Int) ≤ (m : Int) := by omega
                    go_wp2_with (first | (go_at_call 27; refine (r_num _ _).mono ?_; rintro e w' ⟨rfl, rfl⟩))
                    refine (r_sameLists HX10.out HWL.out (by have := HO.out.2.2.2.1; have := HLE.out; have := HNX.out; omega) (fun q hq => Nat.le_trans (HO.out.2.2.2.2 q (by rw [HRQ.out]; exact hq)) (by omega))).mono ?_
                    rintro e w11 ⟨rfl, hb11⟩
                    have HFIN : Hid (∃ F L S pre b qq, KeI w w11 fb lb2 size l nx (c + 1) (.slice va qs.length vc) F L S pre b qq) := Lib.hid (by
                      obtain ⟨pre, c', h⟩ := HO.out.2.2.1 w11 lb2 T _ (HL10.out.below hb11) (by rw [HRQ.out]; exact HW10.out.below hb11)
                      exact ⟨_, _, _, pre, c', _, h⟩)
                    clear hb11
                    go_wp2_with (fail)
                    go_roundw
                    case rel => exact ⟨lb2, nx, c + 1, rfl, by go_num, by go_num, HNX.out, by have := HCC.out; omega, HFIN⟩
                    case measure => simp [intOf]; omega
                · obtain ⟨m, hm1, hm2, hm3⟩ := hmm
                  subst hm1
                  obtain ⟨lg, loff, lcap, a, ca, hv, hcx, hrd, -, -, hrn⟩ := HL.out.at_ hm2
                  injection hv with hv _ hv3
                  subst hv hv3
                  have hk8 : (m : Int) < (l.length : Int) := by have := (List.getElem?_eq_some_iff.1 hm2).1; omega
                  have hm0 : (0 : Int) ≤ (m : Int) := by omega
                  have HRD := Lib.hid hrd
                  have HC10 := (HL10.out.hd.below.cell (p := ⟨lg, loff + m, none⟩) (World.block_lt_of_cell? w _ hcx)).trans hcx
                  have HWL := Lib.hid HW10.out
                  obtain ⟨v11, w11, hrun, hp11⟩ := HW10.out.pushK HL10.out HRD.out (by have := HO.out.2.2.2.1; have := HLE.out; have := HNX.out; omega) 25
                  have HP11 := hp11
                  obtain ⟨a11, c11, rfl⟩ := HP11.out.1.shape
                  have hrl : rs.length = qs.length + 1 := by rw [hrq]; simp
                  rw [hrl]
                  have HRQ := Lib.hid hrq
                  have HRL := Lib.hid hrl
                  clear hrq hrl hm2 hm3 hcx hrd hrn hp11
                  have hne : ((((qs.length + 1 : Nat) : Int)) == (qs.length : Int) + 1) = true := by rw [beq_iff_eq]; omega
                  go_wp2_with (first | (go_at_call 27; refine (r_num _ _).mono ?_; rintro e w' ⟨rfl, rfl⟩) | (at_builtin; refine wpList_append_run rfl (.tmp 166) (.tmp 171) 25 rfl _ _ rfl rfl _ _ hrun ?_))
                  have HX11 : Hid (LrAt w11 (.slice a10 (qs.length + 1) c10) (qs ++ [p])) := Lib.hid (by
                    obtain ⟨ss, h1, h2, _⟩ := HX10.out.ex
                    have hk := HP11.out.2.2
                    have h3 : SlAt slKind 22 w11 (.slice a10 rs.length c10) ss := h1.keeps hk (fun g hg e => by have := HNEW.out g hg; have := HOWN.out g e; omega)
                    have h4 : Hold w11 ss rs := ⟨h2.1, fun j s r hs hr => (h2.2 j s r hs hr).keeps hk (fun g hg e => by
                      obtain ⟨st2, hq1, _⟩ := HWL.out.ex
                      obtain ⟨c1, hb1⟩ := hq1.own g e
                      obtain ⟨c2, hb2⟩ := (h2.2 j s r hs hr).own g hg
                      exact blk_ne_type hb2 hb1 (by decide) rfl)⟩
                    have h5 : LrAt w11 (.slice a10 rs.length c10) rs := ⟨ss, h3.rd, h4.reads⟩
                    rw [HRL.out] at h5
                    rw [HRQ.out] at h5
                    exact h5)
                  have HW11 : Hid (LrAt w11 (.slice a11 (qs.length + 1) c11) (qs ++ [p])) := Lib.hid (by
                    have h := HP11.out.1.lr HP11.out.2.1.hd.below
                    rwa [List.length_append, List.length_singleton] at h)
                  refine (r_sameLists HX11.out HW11.out (by have := HO.out.2.2.2.1; have := HLE.out; have := HNX.out; rw [List.length_append, List.length_singleton]; omega) (fun q hq => Nat.le_trans (HO.out.2.2.2.2 q (by rw [HRQ.out]; exact hq)) (by omega))).mono ?_
                  rintro e w12 ⟨rfl, hb12⟩
                  have HFIN : Hid (∃ F L S pre b qq, KeI w w12 fb lb2 size l nx (c + 1) (.slice a11 (qs.length + 1) c11) F L S pre b qq) := Lib.hid (by
                    have hw := HP11.out.1.below hb12
                    rw [List.length_append, List.length_singleton] at hw
                    obtain ⟨pre, c', h⟩ := HO.out.2.2.1 w12 lb2 T _ (HP11.out.2.1.below hb12) (by rw [HRQ.out]; exact hw)
                    exact ⟨_, _, _, pre, c', _, h⟩)
                  clear hb12
                  go_wp2_with (fail)
                  go_roundw
                  case rel => exact ⟨lb2, nx, c + 1, rfl, by go_num, by go_num, HNX.out, by have := HCC.out; omega, HFIN⟩
                  case measure => simp [intOf]; omega
      · have HR : Hid (Below w.heap.size w wr) := Lib.hid HI2.out.lg.hd.below
        go_wp2_with (fail)
        go_ret
        exact ⟨rfl, HR.out⟩
end
end Go.Proofs.Ythbfkjmpaifblaa
