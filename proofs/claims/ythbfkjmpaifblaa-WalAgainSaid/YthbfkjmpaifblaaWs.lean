/- The walk of the statement WalFrames. -/
import Derived.Test.YthbfkjmpaifblaaWr
namespace Go.Proofs.Ythbfkjmpaifblaa
open Go.RowKit Go.Shelf

/-- A slice that may be written over. -/
structure Slot (w : World) (s : SlV) : Prop where
  ex : s.len = 0 ∨ ∃ g off cur, s.a = some ⟨g, off, none⟩ ∧ IsBlk w g cur 5 ∧ off + s.len ≤ cur.size
/-- Records under way of being overwritten. -/
structure Wipe (w0 : World) (v : Value) (ss : List SlV) (wr : World) : Prop where
  sl : SlAt slKind 22 wr v ss
  slots : ∀ s ∈ ss, Slot wr s ∧ ∀ g, s.val.ownBlock = some g → w0.heap.size ≤ g
  small : ∀ s ∈ ss, s.len ≤ 1048576
  below : Below w0.heap.size w0 wr
section
variable {w0 w w' wr : World} {v : Value} {ss : List SlV} {rs : List (List UInt8)}
theorem SlAt.front1 {g off cap : Nat} {ys : List UInt8} {z : UInt8} (h : SlAt byteKind 5 w (.slice (some ⟨g, off, none⟩) (ys.length + 1) cap) (ys ++ [z])) : SlAt byteKind 5 w (.slice (some ⟨g, off, none⟩) ys.length cap) ys := by
  rcases h with ⟨e1, _⟩ | ⟨g', off', cap', cur, e1, hb, hc, hm, hs, hr⟩
  · simp at e1
  · injection e1 with e2 _ e3
    injection e2 with e2
    injection e2 with e4 e5 _
    subst e3 e4 e5
    rw [List.length_append] at hc hr
    refine .inr ⟨g, off, cap, cur, rfl, hb, by have : [z].length = 1 := rfl; omega, hm, hs, fun i hi => ?_⟩
    have hz : ys.length * byteKind.size = ys.length := by show ys.length * 1 = _; omega
    rw [hz] at hi
    rw [hr i (by show i < (ys.length + 1) * 1; omega), List.flatMap_append, List.getElem?_append_left (by rw [flat_len byteKind.len, hz]; exact hi)]
theorem LsAt.wipe (h : LsAt w0.heap.size w v rs) (hsm : ∀ r ∈ rs, r.length ≤ 1048576) (hb : Below w0.heap.size w0 w) : ∃ ss, ss.length = rs.length ∧ Wipe w0 v ss w := by
  obtain ⟨ss, h1, h2, h3⟩ := h.ex
  refine ⟨ss, h2.1, h1, fun s hs => ⟨⟨?_⟩, h3 s hs⟩, fun s hs => ?_, hb⟩
  rotate_left
  · obtain ⟨j, hj⟩ := List.getElem?_of_mem hs
    obtain ⟨r, hr⟩ : ∃ r, rs[j]? = some r := ⟨_, List.getElem?_eq_getElem (by rw [← h2.1]; exact (List.getElem?_eq_some_iff.1 hj).1)⟩
    obtain ⟨a, cap, e⟩ := (h2.2 j s r hj hr).shape
    injection e with _ e _
    rw [e]
    exact hsm r (List.mem_of_getElem? hr)
  obtain ⟨j, hj⟩ := List.getElem?_of_mem hs
  obtain ⟨r, hr⟩ : ∃ r, rs[j]? = some r := ⟨_, List.getElem?_eq_getElem (by rw [← h2.1]; exact (List.getElem?_eq_some_iff.1 hj).1)⟩
  rcases h2.2 j s r hj hr with ⟨e, _⟩ | ⟨g, off, cap, cur, e, hk, hc, hm, hsz, _⟩
  · injection e with e1 e2 e3
    exact .inl e2
  · injection e with e1 e2 e3
    have hu : byteKind.size = 1 := rfl
    rw [hu, Nat.mul_one] at hsz
    exact .inr ⟨g, off, cur, e1, hk, by omega⟩
theorem Wipe.step (h : Wipe w0 v ss wr) {s : SlV} (hs : s ∈ ss) {k : Nat} (hk : k < s.len) : ∃ g off, s.a = some ⟨g, off, none⟩ ∧ (∃ u, wr.cell? ⟨g, off + k, none⟩ = some u) ∧ wr.frozen? ⟨g, off + k, none⟩ = false ∧ Hid (Wipe w0 v ss (wr.setCell ⟨g, off + k, none⟩ (.int .u8 1))) := by
  obtain ⟨hsl, hown⟩ := h.slots s hs
  rcases hsl.ex with e | ⟨g, off, cur, ha, hb, hsz⟩
  · omega
  have hg : w0.heap.size ≤ g := hown g (by rw [SlV.val, ha]; rfl)
  refine ⟨g, off, ha, ⟨_, by rw [blk_cell hb, Array.getElem?_eq_getElem (by omega)]⟩, blk_free hb _, Lib.hid ⟨?_, fun t ht => ⟨⟨?_⟩, (h.slots t ht).2⟩, h.small, h.below.setCell (p := ⟨g, off + k, none⟩) hg _⟩⟩
  · refine h.sl.keeps (keeps_set wr g (off + k) _) (fun q hq e => ?_)
    obtain ⟨cur2, hb2⟩ := h.sl.own q hq
    have e : q = g := e
    subst e
    exact blk_ne_type hb2 hb (by decide) rfl
  · rcases (h.slots t ht).1.ex with e | ⟨g2, off2, cur2, ha2, hb2, hsz2⟩
    · exact .inl e
    · by_cases hgg : g2 = g
      · subst hgg
        exact .inr ⟨g2, off2, _, ha2, blk_set hb2 _ _, by rw [Array.size_setIfInBounds]; exact hsz2⟩
      · exact .inr ⟨g2, off2, cur2, ha2, blk_other hb2 _ _ hgg, hsz2⟩
theorem Wipe.cell {g off n cap : Nat} (h : Wipe w0 (.slice (some ⟨g, off, none⟩) n cap) ss wr) {j : Nat} {a : Option Addr} {len c : Nat} (hs : ss[j]? = some ⟨a, len, c⟩) : wr.cell? ⟨g, off + j, none⟩ = some (.slice a len c) := by
  obtain ⟨a', cap', e, hr⟩ := h.sl.rd
  injection e with e1 _ _
  obtain ⟨g', off', e2, hc⟩ := hr j _ hs
  rw [e2] at e1
  injection e1 with e1
  injection e1 with e3 e4 _
  subst e3 e4
  have := hc 0 (by decide)
  have e1 : off + j * slKind.size + 0 = off + j := by show off + j * 1 + 0 = _; omega
  rw [e1] at this
  simpa [slKind] using this
theorem Wipe.sl_cell (h : Wipe w0 v ss wr) {j : Nat} {s : SlV} (hs : ss[j]? = some s) : ∃ g off cap, v = .slice (some ⟨g, off, none⟩) ss.length cap ∧ wr.cell? ⟨g, off + j, none⟩ = some s.val := by
  obtain ⟨a, cap, rfl, hr⟩ := h.sl.rd
  obtain ⟨g, off, rfl, hc⟩ := hr j s hs
  refine ⟨g, off, cap, rfl, ?_⟩
  have := hc 0 (by decide)
  have e1 : off + j * slKind.size + 0 = off + j := by show off + j * 1 + 0 = _; omega
  rw [e1] at this
  simpa [slKind] using this
set_option maxRecDepth 100000 in
set_option maxHeartbeats 8000000 in
theorem l_walFrames {a1 a2 : Option Addr} {c1 c2 : Nat} {p b : List UInt8} (hp : RdAt byteKind w (.slice a1 p.length c1) p) (hb : RdAt byteKind w (.slice a2 b.length c2) b) (hpn : p.length ≤ 9223372036854775807) (hbc : b.length ≤ c2) (hcm : c2 ≤ 9223372036854775807) (n : Int) (_ : -9223372036854775808 ≤ n) (_ : n ≤ 9223372036854775807) :
    Calls Try.prog 3 #[.slice a1 p.length c1, .slice a2 b.length c2, .int .i64 n] w fun e w' => e = .returned (.bool true) ∧ Below w.heap.size w w' := by
  have HP := Lib.hid hp
  have HB := Lib.hid hb
  have HBC := Lib.hid hbc
  have HCM := Lib.hid hcm
  have hbn : b.length ≤ 9223372036854775807 := by omega
  clear hp hb hbc hcm
  go_enter Try.func3, Try.ntmps3
  go_wp2_with (fail)
  refine (x_wfirst (w := w)).mono ?_
  rintro e w1 ⟨rfl, hb1⟩
  have HB1 := Lib.hid hb1
  clear hb1
  by_cases h1 : 20000 < p.length
  · have h1' : (20000 : Int) < (p.length : Int) := by omega
    go_wp2_with (fail)
    go_ret
    exact ⟨rfl, HB1.out⟩
  by_cases h2 : 20000 < b.length
  · have h1' : (p.length : Int) ≤ 20000 := by omega
    have h2' : (20000 : Int) < (b.length : Int) := by omega
    go_wp2_with (fail)
    go_ret
    exact ⟨rfl, HB1.out⟩
  have h1' : (p.length : Int) ≤ 20000 := by omega
  have h2' : (b.length : Int) ≤ 20000 := by omega
  have HPN : Hid (p.length ≤ 20000) := Lib.hid (by omega)
  have HBN : Hid (b.length ≤ 20000) := Lib.hid (by omega)
  clear h1 h2 hpn hbn
  go_wp2_with (fail)
  refine (r_lent (HB.out.below HB1.out) (by have := HBN.out; omega)).mono ?_
  rintro e w2 ⟨g, off, cap, rfl, hl⟩
  have HL := Lib.hid hl
  have HB2 : Hid (Below w.heap.size w w2) := Lib.hid (HB1.out.trans (hl.below.mono HB1.out.size))
  have HRD : Hid (RdAt byteKind w2 (.slice (some ⟨g, off, none⟩) b.length cap) b) := Lib.hid (SlAt.rd (e := 5) hl.sl.front1)
  have HRM := Lib.hid (LentAt.room hl.sl)
  clear hl
  go_wp2_with (fail)
  refine (w_scan HRD.out (by have := HBN.out; omega) (by have := HRM.out.1; omega) HRM.out.2.1).mono ?_
  rintro e w3 ⟨v, rfl, hls, hb3⟩
  have HLS := Lib.hid hls
  have HB3 : Hid (Below w.heap.size w w3) := Lib.hid (HB2.out.trans (hb3.mono HB2.out.size))
  have HB23 := Lib.hid hb3
  clear hls hb3
  obtain ⟨E, hE⟩ : ∃ E, E = endOf (scanOf b) := ⟨_, rfl⟩
  obtain ⟨A, hA⟩ : ∃ A, A = decide (endOf (scanOf b) = b.length) := ⟨_, rfl⟩
  have HEA := Lib.hid (And.intro hE hA)
  rw [← hA, ← hE]
  clear hE hA
  go_wp2_with (fail)
  refine (h_scan (HB.out.below HB3.out) (by have := HBN.out; omega) HBC.out HCM.out).mono ?_
  rintro e w4 ⟨u, rfl, hls, hb4⟩
  rw [← HEA.out.2, ← HEA.out.1]
  have HLU := Lib.hid hls
  have HB34 := Lib.hid hb4
  have HLW := Lib.hid (HLS.out.below hb4)
  have HB24 : Hid (Below w2.heap.size w2 w4) := Lib.hid (HB23.out.trans (hb4.mono HB23.out.size))
  clear hls hb4
  obtain ⟨av, cv, rfl⟩ := HLW.out.rd.shape
  obtain ⟨au, cu, rfl⟩ := HLU.out.rd.shape
  go_wp2_with (fail)
  refine (r_sameLists HLW.out.rd HLU.out.rd ?_ ?_).mono ?_
  · have h1 := endOf_len (scanOf b)
    have h2 := scan_end b
    have h3 := HBN.out
    omega
  · intro r hr
    exact Nat.le_trans (scan_small b r hr) (by omega)
  rintro e w5 ⟨rfl, hb5⟩
  have HLV := Lib.hid (HLW.out.below hb5)
  have HB25 : Hid (Below w2.heap.size w2 w5) := Lib.hid (HB24.out.trans (hb5.mono HB24.out.size))
  clear hb5
  obtain ⟨ss, hss, hw⟩ := LsAt.wipe (w0 := w2) HLV.out (scan_small b) HB25.out
  have hsl : ss.length ≤ 20000 := by
    have h1 := endOf_len (scanOf b)
    have h2 := scan_end b
    have h3 := HBN.out
    omega
  have HW := Lib.hid hw
  rw [← hss] at HW ⊢
  have HSS := Lib.hid hss
  obtain ⟨N, hN⟩ : ∃ N, N = ss.length := ⟨_, rfl⟩
  have hN2 : (N : Int) ≤ 20000 := by omega
  rw [← hN] at HW ⊢
  have HNN := Lib.hid hN
  clear hss hw hsl hN
  go_wp2_with (fail)
  go_loopw [16] (fun i wr => ∃ j : Nat, j ≤ N ∧ i = .int .i64 (j : Int) ∧ Hid (Wipe w2 (.slice av N cv) ss wr)) (fun i _ => N - (intOf i).toNat)
  case atStart => exact ⟨0, Nat.zero_le _, rfl, HW⟩
  case round =>
    obtain ⟨j, hj, rfl, HX⟩ := hrel
    by_cases hlt : j < N
    · obtain ⟨⟨sa, sn, sc⟩, hs⟩ : ∃ s, ss[j]? = some s := ⟨_, List.getElem?_eq_getElem (by rw [← HNN.out]; exact hlt)⟩
      have hm := List.mem_of_getElem? hs
      obtain ⟨gl, ol, cl, hv, -⟩ := HX.out.sl_cell hs
      injection hv with hv _ _
      subst hv
      have HS := Lib.hid hs
      have HM := Lib.hid hm
      have hsn : (sn : Int) ≤ 1048576 := by have := HX.out.small _ hm; simp only at this; omega
      have hk0 : (0 : Int) ≤ (j : Int) := by omega
      have hk1 : (j : Int) < (N : Int) := by omega
      clear hs hm
      go_wp2_with (fail)
      go_loopw [17] (fun i wx => ∃ k : Nat, k ≤ sn ∧ i = .int .i64 (k : Int) ∧ Hid (Wipe w2 (.slice (some ⟨gl, ol, none⟩) N cv) ss wx)) (fun i _ => sn - (intOf i).toNat)
      case atStart => exact ⟨0, Nat.zero_le _, rfl, HX⟩
      case round =>
        obtain ⟨k, hk, rfl, HX2⟩ := hrel
        have cc := HX2.out.cell HS.out
        by_cases hlk : k < sn
        · obtain ⟨g2, o2, ha, ⟨u, hu⟩, hz, HNX⟩ := HX2.out.step HM.out hlk
          simp only at ha
          subst ha
          have hk2 : (0 : Int) ≤ (k : Int) := by omega
          have hk3 : (k : Int) < (sn : Int) := by omega
          go_wp2_with (fail)
          exact ⟨⟨k + 1, by omega, by go_num, HNX⟩, by simp [intOf]; omega⟩
        · obtain rfl : k = sn := by omega
          have hk3 : ¬ ((k : Int) < (k : Int)) := by omega
          go_wp2_with (fail)
          exact ⟨⟨j + 1, by omega, by go_num, HX2⟩, by simp [intOf]; omega⟩
    · obtain rfl : j = N := by omega
      have hk1 : ¬ ((j : Int) < (j : Int)) := by omega
      have HBX : Hid (Below w.heap.size w wr) := Lib.hid (HB2.out.trans (HX.out.below.mono HB2.out.size))
      obtain ⟨M, hM, hM1, hM2⟩ : ∃ M : Nat, wrap64 ((wrap64 (n.tmod 99999999 + 99999999)).tmod 99999999 + 1) = (M : Int) ∧ 1 ≤ M ∧ M ≤ 99999999 := by
        have t1 : -99999999 < n.tmod 99999999 ∧ n.tmod 99999999 < 99999999 := ⟨by have := Int.lt_tmod_of_pos n (show (0 : Int) < 99999999 by omega); omega, Int.tmod_lt_of_pos n (by omega)⟩
        have e1 : wrap64 (n.tmod 99999999 + 99999999) = n.tmod 99999999 + 99999999 := IntWalk.wrap64_in _ (by omega)
        have t2 : 0 ≤ (n.tmod 99999999 + 99999999).tmod 99999999 ∧ (n.tmod 99999999 + 99999999).tmod 99999999 < 99999999 := ⟨Int.tmod_nonneg _ (by omega), Int.tmod_lt_of_pos _ (by omega)⟩
        rw [e1, IntWalk.wrap64_in _ (by omega)]
        generalize (n.tmod 99999999 + 99999999).tmod 99999999 = q at t2
        exact ⟨(q + 1).toNat, by omega, by omega, by omega⟩
      have HM := Lib.hid hM
      have HM2 := Lib.hid (And.intro hM1 hM2)
      clear hM hM1 hM2
      go_wp2_with (fail)
      refine (w_frame (HP.out.below HBX.out) (by have := HPN.out; omega)).mono ?_
      rintro e w6 ⟨v6, rfl, hf6⟩
      have HF6 := Lib.hid hf6
      have HB6 : Hid (Below w2.heap.size w2 w6) := Lib.hid (HX.out.below.trans (hf6.below.mono HX.out.below.size))
      clear hf6
      go_wp2_with (fail)
      refine (h_frame (HP.out.below (HB2.out.trans (HB6.out.mono HB2.out.size))) (by have := HPN.out; omega)).mono ?_
      rintro e w7 ⟨v7, rfl, hf7⟩
      have HF7 := Lib.hid hf7
      have HB7 : Hid (Below w2.heap.size w2 w7) := Lib.hid (HB6.out.trans (hf7.below.mono HB6.out.size))
      clear hf7
      go_wp2_with (fail)
      refine (r_sameBytes (HF6.out.sl.rd.below HF7.out.below) HF7.out.sl.rd (by rw [frameOf_len]; have := HPN.out; omega)).mono ?_
      rintro e w8 ⟨rfl, hb8⟩
      have HB8 : Hid (Below w2.heap.size w2 w8) := Lib.hid (HB7.out.trans (hb8.mono HB7.out.size))
      have HP8 : Hid (RdAt byteKind w8 (.slice a1 p.length c1) p) := Lib.hid (HP.out.below (HB2.out.trans (HB8.out.mono HB2.out.size)))
      clear hb8
      go_wp2_with (first | (go_at_call 19; refine (w_sum HP8.out (by have := HPN.out; omega)).mono ?_; rintro e w' ⟨rfl, rfl⟩) | (go_at_call 20; refine (h_sum HP8.out (by have := HPN.out; omega)).mono ?_; rintro e w' ⟨rfl, rfl⟩))
      rw [HM.out]
      refine (w_name w8 nmW (by decide) M (by have := HM2.out; omega)).mono ?_
      rintro e w9 ⟨rfl, hb9⟩
      have HB9 : Hid (Below w2.heap.size w2 w9) := Lib.hid (HB8.out.trans (hb9.mono HB8.out.size))
      clear hb9
      go_wp2_with (fail)
      refine (h_name w9 nmW (by decide) M (by have := HM2.out; omega)).mono ?_
      rintro e w10 ⟨rfl, hb10⟩
      have HB10 : Hid (Below w2.heap.size w2 w10) := Lib.hid (HB9.out.trans (hb10.mono HB9.out.size))
      clear hb10
      go_wp2_with (fail)
      refine (r_kept (HL.out.sl.below HB10.out) (HB.out.below (HB2.out.trans (HB10.out.mono HB2.out.size))) (by have := HBN.out; omega)).mono ?_
      rintro e w11 ⟨rfl, hb11⟩
      have HR : Hid (Below w.heap.size w w11) := Lib.hid ((HB2.out.trans (HB10.out.mono HB2.out.size)).trans (hb11.mono (HB2.out.trans (HB10.out.mono HB2.out.size)).size))
      clear hb11
      go_wp2_with (fail)
      go_ret
      exact ⟨rfl, HR.out⟩
end
end Go.Proofs.Ythbfkjmpaifblaa
