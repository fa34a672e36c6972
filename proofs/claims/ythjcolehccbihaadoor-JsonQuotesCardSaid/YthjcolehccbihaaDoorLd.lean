/- The walk of the statement JsonQuotes. -/
import Derived.Test.YthjcolehccbihaaDoorLc
namespace Go.Proofs.YthjcolehccbihaaDoor
open Go.RowKit Go.Shelf

section
variable {w : World}
set_option maxRecDepth 100000 in
theorem j_ofText (s : ByteArray) : Calls Tryd.prog 10 #[.string s] w fun e w' => e = .returned (.agg #[.int .i64 4, .string s, .slice none 0 0, .slice none 0 0]) ∧ Below w.heap.size w w' := by
  obtain ⟨w1, hw1, HBX⟩ := jbox_zero w
  have HW1 := Lib.hid hw1
  obtain ⟨⟨b0, b1, b2, b3⟩, z0, z1, z2, z3⟩ := jbox_cells HBX.out.2
  clear hw1
  go_enter Tryd.func10, Tryd.ntmps10
  go_upto_region 1 with (fail)
  rw [show w.alloc (.cells #[.int .i64 0, .string ⟨#[]⟩, .slice none 0 0, .slice none 0 0] 27) = w1 from HW1.out]
  go_wp2_with (fail)
  have hk := keeps4 w1 w.heap.size (.int .i64 4) (.string s) (.slice none 0 0) (.slice none 0 0)
  exact bodyPost_ret (v := (⟨4, s, none, 0, 0, none, 0, 0⟩ : RawV).val) (jres_cell rfl (jbox_set HBX.out.2 ⟨4, s, none, 0, 0, none, 0, 0⟩) _ rfl) rfl ⟨rfl, below_keeps HBX.out.1 hk (fun i e => by have e : i = w.heap.size := e; omega) HBX.out.1.size⟩
/-- A text printed. -/
theorem print_ofText (s : ByteArray) (hs : s.size ≤ 4000) (ht : Tabs w) : Calls Tryd.prog 9 #[.agg #[.int .i64 4, .string s, .slice none 0 0, .slice none 0 0]] w fun e w' =>
    (Hid (valid (raw s) = false) ∧ e = .returned (.tuple #[.slice none 0 0, .int .i64 10]) ∧ Hid (Below w.heap.size w w')) ∨
    (Hid (valid (raw s) = true) ∧ ∃ (a : Option Addr) (n cap : Nat), e = .returned (.tuple #[.slice a n cap, .int .i64 0]) ∧ Hid (BytesAt w' (.slice a n cap) (quote (raw s)) ∧ n = (quote (raw s)).length ∧ Below w.heap.size w w')) := by
  have hl : (raw s).length ≤ 4000 := hs
  have hf : (JV.mk 4 s [] []).Fit := by
    simp only [JV.Fit, FitAll]
    exact ⟨by omega, by simp, by simp, by simp, trivial⟩
  have hp := print_text hl
  rw [show str (raw s) = s from str_of s] at hp
  have hq := quote_size (raw s)
  refine (j_print (q := ⟨4, s, none, 0, 0, none, 0, 0⟩) (JAt.plain _ (fun _ => False) _ _) hf ht (fun g h => h.elim) (fun _ => by rw [lay_text]; omega)).mono ?_
  rw [hp]
  rintro e w' ⟨hb, h⟩
  cases hv : valid (raw s) with
  | false =>
    rw [hv, if_neg (by decide)] at h
    rcases h with ⟨-, rfl⟩ | ⟨l, bv, h, -⟩
    · exact .inl ⟨Lib.hid rfl, rfl, Lib.hid hb⟩
    · cases h
  | true =>
    rw [hv, if_pos rfl] at h
    rcases h with ⟨h, -⟩ | ⟨l, bv, h, rfl, hl⟩
    · cases h
    · cases h
      obtain ⟨a, cap, rfl, -⟩ := hl.rd
      exact .inr ⟨Lib.hid rfl, a, _, cap, rfl, Lib.hid ⟨hl, rfl, hb⟩⟩
/-- A quoted text read. -/
theorem parse_quoted {bv : Value} (s : ByteArray) (hs : s.size ≤ 4000) (hb : BytesAt w bv (quote (raw s))) (ht : Tabs w) : Calls Tryd.prog 6 #[bv] w fun e w' =>
    (Hid (valid (raw s) = false) ∧ ∃ (q : RawV) (p : Int), e = .returned (.tuple #[.agg #[.int .i64 q.k, .string q.t, .slice q.la q.ll q.lc, .slice q.na q.nl q.nc], .int .i64 p, .int .i64 11]) ∧ Hid (Below w.heap.size w w')) ∨
    (Hid (valid (raw s) = true) ∧ ∃ q : RawV, e = .returned (.tuple #[.agg #[.int .i64 4, .string s, .slice q.la q.ll q.lc, .slice q.na q.nl q.nc], .int .i64 0, .int .i64 0]) ∧ Hid (Below w.heap.size w w')) := by
  have hl : (raw s).length ≤ 4000 := hs
  refine (j_parse hb ht).mono ?_
  rintro e w' ⟨q, he, hj, hb2⟩
  cases hv : valid (raw s) with
  | false =>
    obtain ⟨p, hp⟩ := quote_spoilt hl hv
    rw [hp] at he
    exact .inl ⟨Lib.hid rfl, q, _, he, Lib.hid hb2⟩
  | true =>
    have hp := quote_valid hl hv
    rw [hp] at he hj
    simp only [JAt] at hj
    obtain ⟨h1, h2, -⟩ := hj
    rw [show str (raw s) = s from str_of s] at h2
    obtain ⟨qk, qt, la, ll, lc, na, nl, nc⟩ := q
    simp only at h1 h2
    subst h1 h2
    exact .inr ⟨Lib.hid rfl, _, he, Lib.hid hb2⟩
set_option maxRecDepth 100000 in
set_option maxHeartbeats 8000000 in
theorem l_quotes (s : ByteArray) (ht : Tabs w) : Calls Tryd.prog 4 #[.string s] w fun e w' => e = .returned (.bool true) ∧ Below w.heap.size w w' := by
  have HT := Lib.hid ht
  clear ht
  by_cases hbig : 4000 < s.size
  · have t0 : decide ((4000 : Int) < (s.size : Int)) = true := by simp; omega
    clear hbig
    go_enter Tryd.func4, Tryd.ntmps4
    go_wp2_with (fail)
    refine (x_first HT.out).mono ?_
    rintro e w1 ⟨rfl, hb1⟩
    have HB1 := Lib.hid hb1
    clear hb1
    go_wp2_with (fail)
    go_ret
    exact ⟨rfl, HB1.out⟩
  · have t0 : decide ((4000 : Int) < (s.size : Int)) = false := by simp; omega
    have HS : Hid (s.size ≤ 4000) := Lib.hid (by omega)
    clear hbig
    go_enter Tryd.func4, Tryd.ntmps4
    go_wp2_with (fail)
    refine (x_first HT.out).mono ?_
    rintro e w1 ⟨rfl, hb1⟩
    have HB1 := Lib.hid hb1
    clear hb1
    go_wp2_with (fail)
    refine (j_quote s (by have := HS.out; omega)).mono ?_
    rintro e w2 ⟨rfl, hb2⟩
    have HB2 : Hid (Below w.heap.size w w2) := Lib.hid (HB1.out.trans (hb2.mono HB1.out.size))
    obtain ⟨L, hL⟩ : ∃ x, x = str (quote (raw s)) := ⟨_, rfl⟩
    have hLz : L.size ≤ 1000000 := by
      have := quote_size (raw s)
      have h2 : (raw s).length ≤ 4000 := HS.out
      rw [hL]
      show (quote (raw s)).toArray.size ≤ 1000000
      rw [List.size_toArray]
      omega
    obtain ⟨cap, w3, hcv, hb3, -, hy3⟩ := conv_bytes w2 L hLz
    rw [← hL]
    have HY3 : Hid (BytesAt w3 (.slice (some ⟨w2.heap.size, 0, none⟩) L.size cap) (quote (raw s))) := Lib.hid (by
      have e : raw L = quote (raw s) := by rw [hL]; exact str_toList _
      rw [e] at hy3
      exact hy3)
    have HB3 : Hid (Below w.heap.size w w3) := Lib.hid (HB2.out.trans (hb3.mono HB2.out.size))
    have HL := Lib.hid hL
    clear hb2 hb3 hy3 hL hLz
    go_wp2_with (fail)
    refine (parse_quoted s HS.out HY3.out (HT.out.below HB3.out)).mono ?_
    rintro e w4 (⟨HV, q, p, rfl, HB4⟩ | ⟨HV, q, rfl, HB4⟩)
    · obtain ⟨w5, hw5, HBX⟩ := jbox_new w4 q
      have HW5 := Lib.hid hw5
      have HB5 : Hid (Below w.heap.size w w5) := Lib.hid ((HB3.out.trans (HB4.out.mono HB3.out.size)).trans (HBX.out.1.mono (by have := HB3.out.size; have := HB4.out.size; omega)))
      clear hw5 hcv
      go_upto_region 6 with fail
      rw [HW5.out]
      clear HW5 HBX
      go_wp2_with (fail)
      refine (j_ofText s).mono ?_
      rintro e w6 ⟨rfl, hb6⟩
      have HB6 : Hid (Below w.heap.size w w6) := Lib.hid (HB5.out.trans (hb6.mono HB5.out.size))
      clear hb6
      go_wp2_with (fail)
      refine (print_ofText s HS.out (HT.out.below HB6.out)).mono ?_
      rintro e w7 (⟨-, rfl, HB7⟩ | ⟨HV2, -⟩)
      · have HB8 : Hid (Below w.heap.size w w7) := Lib.hid (HB6.out.trans (HB7.out.mono HB6.out.size))
        go_wp2_with (first | (go_at_call 7; refine (r_num _ _).mono ?_; rintro e w' ⟨rfl, rfl⟩))
        go_ret
        exact ⟨rfl, HB8.out⟩
      · have := HV.out.symm.trans HV2.out
        cases this
    · obtain ⟨w5, hw5, HBX⟩ := jbox_new w4 ⟨4, s, q.la, q.ll, q.lc, q.na, q.nl, q.nc⟩
      have HW5 := Lib.hid hw5
      have HB5 : Hid (Below w.heap.size w w5) := Lib.hid ((HB3.out.trans (HB4.out.mono HB3.out.size)).trans (HBX.out.1.mono (by have := HB3.out.size; have := HB4.out.size; omega)))
      have HX5 := Lib.hid HBX.out.2
      obtain ⟨xb, hxb⟩ : ∃ x, x = w4.heap.size := ⟨_, rfl⟩
      clear hw5 hcv
      go_upto_region 6 with fail
      rw [HW5.out, ← hxb]
      rw [← hxb] at HX5
      clear HW5 HBX hxb
      go_wp2_with (fail)
      refine (j_ofText s).mono ?_
      rintro e w6 ⟨rfl, hb6⟩
      have HB6 : Hid (Below w.heap.size w w6) := Lib.hid (HB5.out.trans (hb6.mono HB5.out.size))
      have HX6 := Lib.hid (jbox_below HX5.out hb6)
      clear hb6 HX5
      go_wp2_with (fail)
      refine (print_ofText s HS.out (HT.out.below HB6.out)).mono ?_
      rintro e w7 (⟨HV2, -⟩ | ⟨-, a, n, c, rfl, HO⟩)
      · have := HV.out.symm.trans HV2.out
        cases this
      · have HB8 : Hid (Below w.heap.size w w7) := Lib.hid (HB6.out.trans (HO.out.2.2.mono HB6.out.size))
        obtain ⟨⟨b0, b1, b2, b3⟩, -⟩ := jbox_cells (jbox_below HX6.out HO.out.2.2)
        obtain ⟨hb7, rfl, -⟩ := HO.out
        have hcv7 := run_text hb7.rd
        rw [show (⟨(quote (raw s)).toArray⟩ : ByteArray) = L from HL.out.symm] at hcv7
        clear hb7
        go_wp2_with (first | (go_at_call 7; refine (r_num _ _).mono ?_; rintro e w' ⟨rfl, rfl⟩))
        go_ret
        exact ⟨rfl, HB8.out⟩
end
end Go.Proofs.YthjcolehccbihaaDoor
