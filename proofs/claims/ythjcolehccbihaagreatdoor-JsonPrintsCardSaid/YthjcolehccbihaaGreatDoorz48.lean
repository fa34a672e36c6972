/- The walks of exref7.Print and exref7.Get. -/
import Derived.Test.YthjcolehccbihaaGreatDoorz46
import Derived.Test.YthjcolehccbihaaGreatDoorz30
import Derived.Test.YthjcolehccbihaaGreatDoorz47
import Derived.Test.YthjcolehccbihaaGreatDoorz37
set_option linter.unusedSectionVars false
set_option linter.unusedSimpArgs false
set_option linter.unusedVariables false
namespace Go.Proofs.YthjcolehccbihaaGreatDoor
open Go.RowKit Go.Shelf
section
variable {w : World}
set_option maxRecDepth 100000 in
set_option maxHeartbeats 8000000 in
theorem k_print {v : JV} {q : RawV} {A : Nat → Prop} (hj : JAt w A v q) (hf : v.Fit) (hlen : chk 0 v = 0 → (lay v).length ≤ 1000000) :
    Calls Tryz.prog 24 #[.agg #[.int .i64 q.k, .string q.t, .slice q.la q.ll q.lc, .slice q.na q.nl q.nc]] w (PrintedTo w (print v)) := by
  obtain ⟨w1, hw1, HB1⟩ := kbox_new w q
  have HW1 := Lib.hid hw1
  have HC := Lib.hid (k_check v 0 q w1 A hf (hj.below HB1.out.1) (by decide))
  have HJ := Lib.hid (And.intro hj hf)
  obtain ⟨⟨b0, b1, b2, b3⟩, -⟩ := kbox_cells HB1.out.2
  obtain ⟨er, her⟩ : ∃ x : Int, x = (chk 0 v : Int) := ⟨_, rfl⟩
  rw [← her] at HC
  clear hw1 hj hf
  by_cases hz : chk 0 v = 0
  · have HLEN := Lib.hid (hlen hz)
    have HZ := Lib.hid hz
    obtain rfl : er = 0 := by rw [her, hz]; rfl
    clear her hlen hz
    go_enter Tryz.func24, Tryz.ntmps24
    go_upto_region 1 with fail
    rw [show w.alloc (.cells #[.int .i64 q.k, .string q.t, .slice q.la q.ll q.lc, .slice q.na q.nl q.nc] 40) = w1 from HW1.out]
    go_wp2_with (fail)
    refine HC.out.mono ?_
    rintro e w2 ⟨rfl, hb2⟩
    have HB2 := Lib.hid hb2
    have HX2 := Lib.hid (kbox_below HB1.out.2 hb2)
    have HB02 : Hid (Below w.heap.size w w2) := Lib.hid (HB1.out.1.trans (hb2.mono HB1.out.1.size))
    have HT := Lib.hid (k_text v 0 q w2 A HZ.out HJ.out.2 HLEN.out (HJ.out.1.below HB02.out))
    have HPR : Hid (print v = if 65536 < (lay v).length then (none, 8) else (some (lay v), 0)) := Lib.hid (by unfold print; rw [if_neg (by have := HZ.out; omega)])
    obtain ⟨L, hL⟩ : ∃ x, x = lay v := ⟨_, rfl⟩
    rw [← hL] at HT HPR HLEN
    obtain ⟨S, hS⟩ : ∃ x, x = str L := ⟨_, rfl⟩
    have hSz : S.size = L.length := by rw [hS]; exact str_len L
    have HSz := Lib.hid hSz
    rw [← hS] at HT
    have hsI : (S.size : Int) ≤ 1000000 := by have := HLEN.out; omega
    have HS := Lib.hid hS
    clear hb2 hL b0 b1 b2 b3 HC hS hSz
    obtain ⟨⟨b0, b1, b2, b3⟩, -⟩ := kbox_cells HX2.out
    go_wp2_with (fail)
    refine HT.out.mono ?_
    rintro e w3 ⟨rfl, hb3⟩
    have HB3 : Hid (Below w.heap.size w w3) := Lib.hid (HB02.out.trans (hb3.mono HB02.out.size))
    clear hb3 b0 b1 b2 b3
    by_cases hbig : 65536 < S.size
    · have ht : decide ((65536 : Int) < (S.size : Int)) = true := by simp; omega
      have HE : Hid (print v = (none, 8)) := Lib.hid (by rw [HPR.out, if_pos (by rw [← HSz.out]; exact hbig)])
      clear hbig
      go_wp2_with (fail)
      exact bodyPost_ret (results_tmp2 rfl _ _ _) rfl ⟨HB3.out, .inl (by rw [HE.out]; exact ⟨rfl, rfl⟩)⟩
    · have ht : decide ((65536 : Int) < (S.size : Int)) = false := by simp; omega
      have HE : Hid (print v = (some L, 0)) := Lib.hid (by rw [HPR.out, if_neg (by rw [← HSz.out]; exact hbig)])
      obtain ⟨cap, w4, hcv, hb4, -, hy4⟩ := conv_bytes w3 S (by have := HLEN.out; have := HSz.out; omega)
      have HB4 := Lib.hid (And.intro hb4 hy4)
      clear hbig hb4 hy4
      go_wp2_with (fail)
      refine bodyPost_ret (results_tmp2 rfl _ _ _) rfl ⟨HB3.out.trans (HB4.out.1.mono HB3.out.size), .inr ⟨L, _, by rw [HE.out], by rw [HE.out]; rfl, ?_⟩⟩
      have h1 := HB4.out.2
      have h2 : raw S = L := by rw [HS.out]; exact str_toList L
      rw [h2] at h1
      exact h1
  · have HNZ := Lib.hid hz
    have hne : er ≠ 0 := by rw [her]; omega
    have h1 : decide (er = 0) = false := by simp [hne]
    have h2 : (er != 0) = true := by simp [hne]
    have h3 : (er == 0) = false := by simp [hne]
    have HPR : Hid (print v = (none, chk 0 v)) := Lib.hid (by unfold print; rw [if_pos hz])
    have HER := Lib.hid her
    clear her hlen hz
    go_enter Tryz.func24, Tryz.ntmps24
    go_upto_region 1 with fail
    rw [show w.alloc (.cells #[.int .i64 q.k, .string q.t, .slice q.la q.ll q.lc, .slice q.na q.nl q.nc] 40) = w1 from HW1.out]
    go_wp2_with (fail)
    refine HC.out.mono ?_
    rintro e w2 ⟨rfl, hb2⟩
    have HB02 : Hid (Below w.heap.size w w2) := Lib.hid (HB1.out.1.trans (hb2.mono HB1.out.1.size))
    clear hb2 b0 b1 b2 b3 HC
    go_wp2_with (fail)
    exact bodyPost_ret (results_tmp2 rfl _ _ _) rfl ⟨HB02.out, .inl (by rw [HPR.out]; exact ⟨rfl, by rw [HER.out]; rfl⟩)⟩
set_option maxRecDepth 100000 in
theorem kget_results {W : World} {b : Nat} {q : RawV} {x : Bool} (hb : KBox W b q) (tmps : Array Value) (h4 : tmps.getD 4 undef = .pointer (some ⟨b, 0, none⟩)) (h5 : tmps.getD 5 undef = .bool x) :
    (results Tryz.f25 tmps).run Tryz.prog W = .ok (.tuple #[q.val, .bool x]) W := by
  obtain ⟨⟨e0, e1, e2, e3⟩, -⟩ := kbox_cells hb
  simp only [results, Tryz.results25]
  simp [Sem.run_bind, Result.andThen, h4, h5, -Array.getD_eq_getD_getElem?]
  go_simp
  rfl
theorem kget_boxes (w : World) (q : RawV) : ∃ w1, (w.alloc (.cells #[.int .i64 q.k, .string q.t, .slice q.la q.ll q.lc, .slice q.na q.nl q.nc] 40)).alloc (.cells #[.int .i64 0, .string ⟨#[]⟩, .slice none 0 0, .slice none 0 0] 40) = w1 ∧ KBox w1 w.heap.size q ∧ KBox w1 (w.heap.size + 1) raw0 ∧ Below w.heap.size w w1 ∧ w1.heap.size = w.heap.size + 2 := by
  refine ⟨_, rfl, ?_⟩
  have h1 : Below w.heap.size w (w.alloc (.cells #[.int .i64 q.k, .string q.t, .slice q.la q.ll q.lc, .slice q.na q.nl q.nc] 40)) := (Below.refl _ _).alloc (Nat.le_refl _) _
  have b1 : KBox (w.alloc (.cells #[.int .i64 q.k, .string q.t, .slice q.la q.ll q.lc, .slice q.na q.nl q.nc] 40)) w.heap.size q := blk_new _ _
  have hz : (w.alloc (.cells #[.int .i64 q.k, .string q.t, .slice q.la q.ll q.lc, .slice q.na q.nl q.nc] 40)).heap.size = w.heap.size + 1 := by simp
  generalize w.alloc (.cells #[.int .i64 q.k, .string q.t, .slice q.la q.ll q.lc, .slice q.na q.nl q.nc] 40) = W at h1 b1 hz ⊢
  have b2 := blk_new W (.cells #[.int .i64 0, .string ⟨#[]⟩, .slice none 0 0, .slice none 0 0] 40)
  rw [hz] at b2
  have h2 : Below (w.heap.size + 1) W (W.alloc (.cells #[.int .i64 0, .string ⟨#[]⟩, .slice none 0 0, .slice none 0 0] 40)) := by
    have := (Below.refl W.heap.size W).alloc (Nat.le_refl _) (.cells #[.int .i64 0, .string ⟨#[]⟩, .slice none 0 0, .slice none 0 0] 40)
    rw [hz] at this
    exact this
  exact ⟨(h2.block _ (by omega)).trans b1, b2, h1.trans (h2.mono (by omega)), by simp [hz]⟩
/-- What the document's Get hands back. -/
def KGotTo (w : World) (A : Nat → Prop) (k : Int) (l : List JV) (ns : List ByteArray) (s : ByteArray) (e : Ending) (w' : World) : Prop :=
  (e = .returned (.tuple #[.agg #[.int .i64 0, .string ⟨#[]⟩, .slice none 0 0, .slice none 0 0], .bool false]) ∧ Hid ((∀ j, FirstAt ns s j → k = 6 → l.length ≤ j) ∧ Below w.heap.size w w')) ∨
  ∃ (j : Nat) (x : JV) (r : RawV), e = .returned (.tuple #[.agg #[.int .i64 r.k, .string r.t, .slice r.la r.ll r.lc, .slice r.na r.nl r.nc], .bool true]) ∧ Hid (k = 6 ∧ FirstAt ns s j ∧ l[j]? = some x ∧ JAt w' A x r ∧ Below w.heap.size w w')
set_option maxRecDepth 100000 in
set_option maxHeartbeats 8000000 in
theorem k_get {k : Int} {t : ByteArray} {l : List JV} {ns : List ByteArray} {q : RawV} {A : Nat → Prop} (hf : (JV.mk k t l ns).Fit) (hA : ∀ g, A g → g < w.heap.size) (hq : JAt w A (.mk k t l ns) q) (s : ByteArray) :
    Calls Tryz.prog 25 #[.agg #[.int .i64 q.k, .string q.t, .slice q.la q.ll q.lc, .slice q.na q.nl q.nc], .string s] w (KGotTo w A k l ns s) := by
  simp only [JAt] at hq
  obtain ⟨hqk, hqt, ⟨hns, -, -⟩, rs, ⟨hrs, -⟩, hl⟩ := hq
  simp only [JV.Fit] at hf
  obtain ⟨w1, hw1, B1, B2, hbb, hzz⟩ := kget_boxes w q
  have e1 : q.ll = l.length := by
    obtain ⟨_, _, e, _⟩ := hrs
    injection e with _ e _
    rw [e, hl.length]
  have e3 : q.nl = ns.length := by obtain ⟨_, _, e, _⟩ := hns; injection e
  obtain ⟨qk, qt, la, ll, lc, na, nl, nc⟩ := q
  simp only at hqk hqt e1 e3
  subst hqk hqt e1 e3
  simp only [RawV.lv, RawV.nv] at hns hrs
  obtain ⟨⟨b0, b1, b2, b3⟩, -⟩ := kbox_cells B1
  obtain ⟨⟨p0, p1, p2, p3⟩, z0, z1, z2, z3⟩ := kbox_cells B2
  have HW1 := Lib.hid hw1
  have HBB := Lib.hid (And.intro hbb hzz)
  have HBX := Lib.hid (And.intro B1 B2)
  have HRD := Lib.hid (And.intro hns (And.intro hrs hl))
  have HF := Lib.hid hf
  have HAA := Lib.hid hA
  have hlm : (l.length : Int) ≤ 1000000 := by have := hf.2.2.2.1; omega
  have hnm : (ns.length : Int) ≤ 1000000 := by have := hf.2.1; omega
  have HNO : Hid (KBox (putJ w1 (w.heap.size + 1) raw0) (w.heap.size + 1) raw0 ∧ Below w.heap.size w (putJ w1 (w.heap.size + 1) raw0)) := Lib.hid (by
    have hk := keeps4 w1 (w.heap.size + 1) (.int .i64 0) (.string ⟨#[]⟩) (.slice none 0 0) (.slice none 0 0)
    exact ⟨kbox_set HBX.out.2 raw0, below_keeps HBB.out.1 hk (fun i e => by have e : i = w.heap.size + 1 := e; omega) HBB.out.1.size⟩)
  clear hw1 hf hns hrs hl hbb hzz B1 B2 hA
  by_cases h6 : qk = 6
  · subst h6
    go_enter Tryz.func25, Tryz.ntmps25
    go_upto_region 1 with (fail)
    rw [HW1.out]
    go_wp2_with (fail)
    go_loopw [6] (fun iv wr => ∃ i : Nat, i ≤ ns.length ∧ iv = .int .i64 (i : Int) ∧ wr = w1 ∧ Hid (∀ m, m < i → ns[m]? ≠ some s)) (fun iv _ => ns.length - (intOf iv).toNat)
    case atStart => exact ⟨0, Nat.zero_le _, rfl, rfl, Lib.hid fun m h => by omega⟩
    case round =>
      obtain ⟨i, hi, rfl, rfl, HP⟩ := hrel
      have HI := Lib.hid hi
      by_cases hn : i < ns.length
      · have q1 : (0 : Int) ≤ (i : Int) := by omega
        have q2 : (i : Int) < (ns.length : Int) := by omega
        obtain ⟨y, hy⟩ : ∃ y, ns[i]? = some y := ⟨_, List.getElem?_eq_getElem hn⟩
        obtain ⟨ng, noff, e2, hnc⟩ := text_cell (HRD.out.1.below HBB.out.1) hy
        subst e2
        have HY := Lib.hid hy
        have HN := Lib.hid hn
        clear hy hn hi
        by_cases hlt : i < l.length
        · have q3 : (i : Int) < (l.length : Int) := by omega
          by_cases hys : y = s
          · subst hys
            obtain ⟨x, hx⟩ : ∃ x, l[i]? = some x := ⟨_, List.getElem?_eq_getElem hlt⟩
            obtain ⟨r, hr, hjr⟩ := HRD.out.2.2.get hx
            obtain ⟨g, off, e1, d0, d1, d2, d3⟩ := raw_cells (HRD.out.2.1.below HBB.out.1) hr
            subst e1
            have HX := Lib.hid hx
            have HJR := Lib.hid hjr
            clear hx hr hjr hlt
            go_wp2_with (fail)
            have hk := keeps4 wr (w.heap.size + 1) (.int .i64 r.k) (.string r.t) (.slice r.la r.ll r.lc) (.slice r.na r.nl r.nc)
            have hbw := below_keeps HBB.out.1 hk (fun i e => by have e : i = w.heap.size + 1 := e; omega) HBB.out.1.size
            refine bodyPost_ret (v := .tuple #[r.val, .bool true]) (kget_results (kbox_set HBX.out.2 r) _ rfl rfl) rfl (.inr ⟨i, x, r, rfl, Lib.hid ⟨rfl, ⟨HY.out, HP.out⟩, HX.out, ?_, hbw⟩⟩)
            exact HJR.out.below hbw
          · have hn2 : (y.toList == s.toList) = false := beq_eq_false_iff_ne.2 (fun e => hys (str_inj e))
            have HP2 : Hid (∀ m, m < i + 1 → ns[m]? ≠ some s) := Lib.hid fun m hm e => by
              rcases Nat.lt_or_eq_of_le (Nat.le_of_lt_succ hm) with h | h
              · exact HP.out m h e
              · subst h
                rw [HY.out] at e
                exact hys (Option.some.inj e)
            clear hlt
            go_wp2_with (fail)
            go_roundw
            case rel => exact ⟨i + 1, HN.out, by go_num, trivial, HP2⟩
            case measure => have := HN.out; simp [intOf]; omega
        · have q3 : ¬ (i : Int) < (l.length : Int) := by omega
          have HL : Hid (l.length ≤ i) := Lib.hid (by omega)
          clear hlt
          go_wp2_with (fail)
          refine bodyPost_ret (v := .tuple #[raw0.val, .bool false]) (kget_results HNO.out.1 _ rfl rfl) rfl (.inl ⟨rfl, Lib.hid ⟨fun j hj _ => ?_, HNO.out.2⟩⟩)
          refine Nat.le_of_not_lt fun hlt => HP.out j (by have := HL.out; omega) hj.1
      · have q2 : ¬ (i : Int) < (ns.length : Int) := by omega
        have HN : Hid (¬ i < ns.length) := Lib.hid hn
        clear hn hi
        go_wp2_with (fail)
        refine bodyPost_ret (v := .tuple #[raw0.val, .bool false]) (kget_results HNO.out.1 _ rfl rfl) rfl (.inl ⟨rfl, Lib.hid ⟨fun j hj _ => ?_, HNO.out.2⟩⟩)
        have h1 := (List.getElem?_eq_some_iff.1 hj.1).1
        exact absurd hj.1 (HP.out j (by have := HN.out; omega))
  · have t0 : (qk == 6) = false := by simpa using h6
    have H6 := Lib.hid h6
    clear h6
    go_enter Tryz.func25, Tryz.ntmps25
    go_upto_region 1 with (fail)
    rw [HW1.out]
    go_wp2_with (fail)
    go_loopw [6] (fun iv wr => iv = .int .i64 0 ∧ wr = w1) (fun _ _ => 0)
    case atStart => exact ⟨rfl, rfl⟩
    case round =>
      obtain ⟨rfl, rfl⟩ := hrel
      by_cases hn : 0 < ns.length
      · have q2 : (0 : Int) < (ns.length : Int) := by omega
        by_cases hlt : 0 < l.length
        · have q3 : (0 : Int) < (l.length : Int) := by omega
          go_wp2_with (fail)
          exact bodyPost_ret (v := .tuple #[raw0.val, .bool false]) (kget_results HNO.out.1 _ rfl rfl) rfl (.inl ⟨rfl, Lib.hid ⟨fun j _ h => absurd h H6.out, HNO.out.2⟩⟩)
        · have q3 : ¬ (0 : Int) < (l.length : Int) := by omega
          go_wp2_with (fail)
          exact bodyPost_ret (v := .tuple #[raw0.val, .bool false]) (kget_results HNO.out.1 _ rfl rfl) rfl (.inl ⟨rfl, Lib.hid ⟨fun j _ h => absurd h H6.out, HNO.out.2⟩⟩)
      · have q2 : ¬ (0 : Int) < (ns.length : Int) := by omega
        go_wp2_with (fail)
        exact bodyPost_ret (v := .tuple #[raw0.val, .bool false]) (kget_results HNO.out.1 _ rfl rfl) rfl (.inl ⟨rfl, Lib.hid ⟨fun j _ h => absurd h H6.out, HNO.out.2⟩⟩)
end
end Go.Proofs.YthjcolehccbihaaGreatDoor
set_option linter.unusedSimpArgs false
set_option linter.unusedVariables false
namespace Go.Proofs.YthjcolehccbihaaGreatDoor
open Go.RowKit Go.Shelf
/-- Two slices of the same bytes are the same. -/
theorem r_sameBytesN {w : World} {u v : Value} {xs : List UInt8} (h1 : RdAt byteKind w u xs) (h2 : RdAt byteKind w v xs) (hm : xs.length ≤ 1000000000) :
    Calls Tryz.prog 14 #[u, v] w fun e w' => e = .returned (.bool true) ∧ ∃ n, w' = w.drewN n := by
  have HR1 := Lib.hid h1
  have HR2 := Lib.hid h2
  obtain ⟨a, c1, rfl, hr1⟩ := h1
  obtain ⟨b, c2, rfl, hr2⟩ := h2
  clear hr1 hr2
  have hm2 : (xs.length : Int) ≤ 1000000000 := by omega
  go_enter Tryz.func14, Tryz.ntmps14
  go_wp2_with (fail)
  go_loopw [5] (fun i wr => ∃ k : Nat, k ≤ xs.length ∧ i = .int .i64 k ∧ Hid (∃ n, wr = w.drewN n)) (fun i _ => xs.length - (intOf i).toNat)
  case atStart => exact ⟨0, Nat.zero_le _, rfl, Lib.hid ⟨0, rfl⟩⟩
  case round =>
    obtain ⟨k, hk, rfl, HN⟩ := hrel
    have HB : Hid (Below w.heap.size w wr) := Lib.hid (by obtain ⟨n, hn⟩ := HN.out; rw [hn]; exact below_drewN _ _ _)
    by_cases hlt : k < xs.length
    · have hx : xs[k]? = some xs[k] := List.getElem?_eq_getElem hlt
      generalize xs[k] = x at hx
      obtain ⟨_, _, e1, hr1⟩ := HR1.out
      injection e1 with e1 _ e3
      subst e1 e3
      obtain ⟨g, off, rfl, d1⟩ := hr1 k x hx
      obtain ⟨_, _, e1, hr2⟩ := HR2.out
      injection e1 with e1 _ e3
      subst e1 e3
      obtain ⟨g2, off2, rfl, d2⟩ := hr2 k x hx
      have d1 := d1 0 (by decide)
      have d2 := d2 0 (by decide)
      replace d1 : w.cell? ⟨g, off + k, none⟩ = some (.int .u8 (x.toNat : Int)) := by simpa [byteKind] using d1
      replace d2 : w.cell? ⟨g2, off2 + k, none⟩ = some (.int .u8 (x.toNat : Int)) := by simpa [byteKind] using d2
      have d1 := (HB.out.cell (p := ⟨g, off + k, none⟩) (World.block_lt_of_cell? w _ d1)).trans d1
      have d2 := (HB.out.cell (p := ⟨g2, off2 + k, none⟩) (World.block_lt_of_cell? w _ d2)).trans d2
      have hk0 : (0 : Int) ≤ (k : Int) := by omega
      have hk1 : (k : Int) < (xs.length : Int) := by omega
      clear hx hr1 hr2
      go_wp2_with (fail)
      go_quiet (fail)
      go_wp2_with (fail)
      go_roundw
      case rel => exact ⟨k + 1, by omega, by go_num, Lib.hid (by obtain ⟨n, hn⟩ := HN.out; exact ⟨n + nq, by rw [hn]; simp [World.drewN]; omega⟩)⟩
      case measure => simp [intOf]; omega
    · have hk1 : ¬ ((k : Int) < (xs.length : Int)) := by omega
      go_wp2_with (fail)
      go_ret
      exact ⟨rfl, HN.out⟩
theorem r_sameBytes {w : World} {u v : Value} {xs : List UInt8} (h1 : RdAt byteKind w u xs) (h2 : RdAt byteKind w v xs) (hm : xs.length ≤ 1000000000) :
    Calls Tryz.prog 14 #[u, v] w fun e w' => e = .returned (.bool true) ∧ Below w.heap.size w w' :=
  (r_sameBytesN h1 h2 hm).mono fun _ _ ⟨he, n, hn⟩ => ⟨he, by rw [hn]; exact below_drewN _ _ _⟩
/-- Two slices of the same texts are the same. -/
theorem r_sameTexts {w : World} {u v : Value} {xs : List ByteArray} (h1 : RdAt textKind w u xs) (h2 : RdAt textKind w v xs) (hm : xs.length ≤ 1000000000) :
    Calls Tryz.prog 43 #[u, v] w fun e w' => e = .returned (.bool true) ∧ Below w.heap.size w w' := by
  have HR1 := Lib.hid h1
  have HR2 := Lib.hid h2
  obtain ⟨a, c1, rfl, hr1⟩ := h1
  obtain ⟨b, c2, rfl, hr2⟩ := h2
  clear hr1 hr2
  have hm2 : (xs.length : Int) ≤ 1000000000 := by omega
  go_enter Tryz.func43, Tryz.ntmps43
  go_wp2_with (fail)
  go_loopw [5] (fun i wr => ∃ k : Nat, k ≤ xs.length ∧ i = .int .i64 k ∧ Hid (∃ n, wr = w.drewN n)) (fun i _ => xs.length - (intOf i).toNat)
  case atStart => exact ⟨0, Nat.zero_le _, rfl, Lib.hid ⟨0, rfl⟩⟩
  case round =>
    obtain ⟨k, hk, rfl, HN⟩ := hrel
    have HB : Hid (Below w.heap.size w wr) := Lib.hid (by obtain ⟨n, hn⟩ := HN.out; rw [hn]; exact below_drewN _ _ _)
    by_cases hlt : k < xs.length
    · have hx : xs[k]? = some xs[k] := List.getElem?_eq_getElem hlt
      generalize xs[k] = x at hx
      obtain ⟨_, _, e1, hr1⟩ := HR1.out
      injection e1 with e1 _ e3
      subst e1 e3
      obtain ⟨g, off, rfl, d1⟩ := hr1 k x hx
      obtain ⟨_, _, e1, hr2⟩ := HR2.out
      injection e1 with e1 _ e3
      subst e1 e3
      obtain ⟨g2, off2, rfl, d2⟩ := hr2 k x hx
      have d1 := d1 0 (by decide)
      have d2 := d2 0 (by decide)
      replace d1 : w.cell? ⟨g, off + k, none⟩ = some (.string x) := by simpa [textKind] using d1
      replace d2 : w.cell? ⟨g2, off2 + k, none⟩ = some (.string x) := by simpa [textKind] using d2
      have d1 := (HB.out.cell (p := ⟨g, off + k, none⟩) (World.block_lt_of_cell? w _ d1)).trans d1
      have d2 := (HB.out.cell (p := ⟨g2, off2 + k, none⟩) (World.block_lt_of_cell? w _ d2)).trans d2
      have hk0 : (0 : Int) ≤ (k : Int) := by omega
      have hk1 : (k : Int) < (xs.length : Int) := by omega
      have he : (x.toList == x.toList) = true := by simp
      clear hx hr1 hr2
      go_wp2_with (fail)
      go_quiet (fail)
      go_wp2_with (fail)
      go_roundw
      case rel => exact ⟨k + 1, by omega, by go_num, Lib.hid (by obtain ⟨n, hn⟩ := HN.out; exact ⟨n + nq, by rw [hn]; simp [World.drewN]; omega⟩)⟩
      case measure => simp [intOf]; omega
    · have hk1 : ¬ ((k : Int) < (xs.length : Int)) := by omega
      go_wp2_with (fail)
      go_ret
      exact ⟨rfl, HB.out⟩
end Go.Proofs.YthjcolehccbihaaGreatDoor
set_option linter.unusedSectionVars false
set_option linter.unusedSimpArgs false
set_option linter.unusedVariables false
namespace Go.Proofs.YthjcolehccbihaaGreatDoor
open Go.RowKit Go.Shelf
/-- The contract of same, at a value that is the document's. -/
def JSameOk (v : JV) : Prop := ∀ (q r : RawV) (w : World) (A B : Nat → Prop), v.Fit → JAt w A v q → JAt w B v r →
  Calls Tryz.prog 15 #[.agg #[.int .i64 q.k, .string q.t, .slice q.la q.ll q.lc, .slice q.na q.nl q.nc], .agg #[.int .i64 r.k, .string r.t, .slice r.la r.ll r.lc, .slice r.na r.nl r.nc]] w fun e w' => e = .returned (.bool true) ∧ Below w.heap.size w w'
theorem jk_boxes (w : World) (q r : RawV) : ∃ w1, (w.alloc (.cells #[.int .i64 q.k, .string q.t, .slice q.la q.ll q.lc, .slice q.na q.nl q.nc] 25)).alloc (.cells #[.int .i64 r.k, .string r.t, .slice r.la r.ll r.lc, .slice r.na r.nl r.nc] 40) = w1 ∧ JBox w1 w.heap.size q ∧ KBox w1 (w.heap.size + 1) r ∧ Below w.heap.size w w1 ∧ w1.heap.size = w.heap.size + 2 := by
  refine ⟨_, rfl, ?_⟩
  have h1 : Below w.heap.size w (w.alloc (.cells #[.int .i64 q.k, .string q.t, .slice q.la q.ll q.lc, .slice q.na q.nl q.nc] 25)) := (Below.refl _ _).alloc (Nat.le_refl _) _
  have b1 : JBox (w.alloc (.cells #[.int .i64 q.k, .string q.t, .slice q.la q.ll q.lc, .slice q.na q.nl q.nc] 25)) w.heap.size q := blk_new _ _
  have hz : (w.alloc (.cells #[.int .i64 q.k, .string q.t, .slice q.la q.ll q.lc, .slice q.na q.nl q.nc] 25)).heap.size = w.heap.size + 1 := by simp
  generalize w.alloc (.cells #[.int .i64 q.k, .string q.t, .slice q.la q.ll q.lc, .slice q.na q.nl q.nc] 25) = W at h1 b1 hz ⊢
  have b2 := blk_new W (.cells #[.int .i64 r.k, .string r.t, .slice r.la r.ll r.lc, .slice r.na r.nl r.nc] 40)
  rw [hz] at b2
  have h2 : Below (w.heap.size + 1) W (W.alloc (.cells #[.int .i64 r.k, .string r.t, .slice r.la r.ll r.lc, .slice r.na r.nl r.nc] 40)) := by
    have := (Below.refl W.heap.size W).alloc (Nat.le_refl _) (.cells #[.int .i64 r.k, .string r.t, .slice r.la r.ll r.lc, .slice r.na r.nl r.nc] 40)
    rw [hz] at this
    exact this
  exact ⟨(h2.block _ (by omega)).trans b1, b2, h1.trans (h2.mono (by omega)), by simp [hz]⟩
section
variable {w : World}
set_option maxRecDepth 100000 in
set_option maxHeartbeats 8000000 in
theorem j_jsame1 (k : Int) (t : ByteArray) (l : List JV) (ns : List ByteArray) (ih : ∀ v ∈ l, JSameOk v) : JSameOk (.mk k t l ns) := by
  intro q r w A B hf hq hr
  simp only [JAt] at hq hr
  obtain ⟨hqk, hqt, ⟨hns1, -, -⟩, rs1, ⟨hrs1, -⟩, hl1⟩ := hq
  obtain ⟨hrk, hrt, ⟨hns2, -, -⟩, rs2, ⟨hrs2, -⟩, hl2⟩ := hr
  simp only [JV.Fit] at hf
  obtain ⟨w1, hw1, B1, B2, hbb, hzz⟩ := jk_boxes w q r
  have e1 : q.ll = l.length := by
    obtain ⟨_, _, e, _⟩ := hrs1
    injection e with _ e _
    rw [e, hl1.length]
  have e3 : q.nl = ns.length := by obtain ⟨_, _, e, _⟩ := hns1; injection e
  have f1 : r.ll = l.length := by
    obtain ⟨_, _, e, _⟩ := hrs2
    injection e with _ e _
    rw [e, hl2.length]
  have f3 : r.nl = ns.length := by obtain ⟨_, _, e, _⟩ := hns2; injection e
  obtain ⟨qk, qt, la, ll, lc, na, nl, nc⟩ := q
  obtain ⟨rk, rt, la2, ll2, lc2, na2, nl2, nc2⟩ := r
  simp only at hqk hqt e1 e3 hrk hrt f1 f3
  subst hqk hqt e1 e3
  subst hrk hrt f1 f3
  simp only [RawV.lv, RawV.nv] at hns1 hrs1 hns2 hrs2
  obtain ⟨⟨b0, b1, b2, b3⟩, -⟩ := jbox_cells B1
  obtain ⟨⟨p0, p1, p2, p3⟩, -⟩ := kbox_cells B2
  simp only at b0 b1 b2 b3 p0 p1 p2 p3 hw1
  have HW1 := Lib.hid hw1
  have HBB := Lib.hid (And.intro hbb hzz)
  have HBX := Lib.hid (And.intro B1 B2)
  have HRD := Lib.hid (And.intro hrs1 hl1)
  have HRE := Lib.hid (And.intro hrs2 hl2)
  have HF := Lib.hid hf
  have HIH := Lib.hid ih
  have HST := Lib.hid (r_sameTexts (hns1.below hbb) (hns2.below hbb) (by have := hf.2.1; omega))
  have hlm : (l.length : Int) ≤ 1000000 := by have := hf.2.2.2.1; omega
  have hcells : ∀ W, Below w1.heap.size w1 W → W.cell? ⟨w.heap.size, 2, none⟩ = some (.slice la l.length lc) ∧ W.cell? ⟨w.heap.size + 1, 2, none⟩ = some (.slice la2 l.length lc2) := fun W h =>
    ⟨(jbox_cells (jbox_below HBX.out.1 h)).1.2.2.1, (kbox_cells (kbox_below HBX.out.2 h)).1.2.2.1⟩
  have HC := Lib.hid hcells
  clear hw1 hf hns1 hns2 hrs1 hrs2 hl1 hl2 hbb hzz B1 B2 ih hcells
  go_enter Tryz.func15, Tryz.ntmps15
  go_upto_region 1 with (fail)
  rw [HW1.out]
  go_wp2_with (fail)
  refine HST.out.mono ?_
  rintro e w3 ⟨rfl, hb3⟩
  have HB3 := Lib.hid hb3
  clear hb3 b0 b1 b2 b3 p0 p1 p2 p3
  obtain ⟨b2, p2⟩ := HC.out _ HB3.out
  go_wp2_with (fail)
  clear b2 p2
  go_loopw [5] (fun iv wr => ∃ i : Nat, i ≤ l.length ∧ iv = .int .i64 (i : Int) ∧ Hid (Below w1.heap.size w1 wr)) (fun iv _ => l.length - (intOf iv).toNat)
  case atStart => exact ⟨0, Nat.zero_le _, rfl, HB3⟩
  case round =>
    obtain ⟨i, hi, rfl, HBW⟩ := hrel
    obtain ⟨b2, p2⟩ := HC.out _ HBW.out
    by_cases hlt : i < l.length
    · have q1 : (0 : Int) ≤ (i : Int) := by omega
      have q2 : (i : Int) < (l.length : Int) := by omega
      obtain ⟨x, hx⟩ : ∃ x, l[i]? = some x := ⟨_, List.getElem?_eq_getElem hlt⟩
      have HBWW : Hid (Below w.heap.size w wr) := Lib.hid (HBB.out.1.trans (HBW.out.mono HBB.out.1.size))
      obtain ⟨u, hu, hju⟩ := HRD.out.2.get hx
      obtain ⟨v, hv, hjv⟩ := HRE.out.2.get hx
      obtain ⟨lg, loff, e1, d0, d1, d2, d3⟩ := raw_cells (HRD.out.1.below HBWW.out) hu
      obtain ⟨mg, moff, e2, c0, c1, c2, c3⟩ := raw_cells (HRE.out.1.below HBWW.out) hv
      subst e1 e2
      have HS := Lib.hid (HIH.out x (List.mem_of_getElem? hx) u v wr.drew A B (FitAll.mem HF.out.2.2.2.2 x (List.mem_of_getElem? hx)) (hju.below HBWW.out.drew) (hjv.below HBWW.out.drew))
      have HLT := Lib.hid hlt
      clear hx hu hv hju hjv hlt hi
      go_wp2_with (fail)
      refine wp_region_still_tail 10 (by kernel_rfl) (by kernel_rfl) ?_
      simp only [List.take_succ_cons, List.take_zero, List.drop_succ_cons, List.drop_zero]
      repeat still_step
      refine wpStill_nil ?_
      go_wp2_with (fail)
      refine HS.out.mono ?_
      rintro e w4 ⟨rfl, hb4⟩
      have HB4 : Hid (Below w1.heap.size w1 w4) := Lib.hid (HBW.out.drew.trans (hb4.mono HBW.out.drew.size))
      clear hb4 b2 p2 d0 d1 d2 d3 c0 c1 c2 c3
      go_wp2_with (fail)
      go_roundw
      case rel => exact ⟨i + 1, HLT.out, by go_num, HB4⟩
      case measure => have := HLT.out; simp [intOf]; omega
    · have q2 : ¬ (i : Int) < (l.length : Int) := by omega
      have HB4 : Hid (Below w.heap.size w wr) := Lib.hid (HBB.out.1.trans (HBW.out.mono HBB.out.1.size))
      clear hlt
      go_wp2_with (fail)
      go_ret
      exact ⟨rfl, HB4.out⟩
theorem j_jsame (v : JV) : JSameOk v := JV.ind (P := JSameOk) (fun k t l ns ih => j_jsame1 k t l ns ih) v
end
end Go.Proofs.YthjcolehccbihaaGreatDoor
