/- The walk of the statement WalAgain. -/
import Derived.Test.YthbfkjmpaifblaaWs
namespace Go.Proofs.Ythbfkjmpaifblaa
open Go.RowKit Go.Shelf

/-- A file system of one segment. -/
def one_ (used : Int) (d : List UInt8) (st : Int) : FsS := ⟨67108864, used, [(nm01, ⟨d, d.length⟩)], st, 0, false⟩
theorem one_find (used : Int) (d : List UInt8) (st : Int) : (one_ used d st).find nm01 = some ⟨d, d.length⟩ := by kernel_rfl
theorem one_nums (used : Int) (d : List UInt8) (st : Int) : segNums (one_ used d st) nmW = [1] := by kernel_rfl
theorem one_name : segName nmW 1 = nm01 := by kernel_rfl
theorem one_scan (used : Int) (d : List UInt8) (st : Int) : scanNums (segNums (one_ used d st) nmW) 0 0 = some (1, 1) := by rw [one_nums]; rfl
/-- Open of one segment. -/
theorem open_one (used : Int) (d : List UInt8) (st : Int) : openL (one_ used d st) nmW 16 = if endOf (scanOf d) = d.length then (one_ used d st, ⟨nmW, 16, 1, 1, 0, false⟩, scanOf d, 0)
    else (one_ (used - ((d.length : Int) - endOf (scanOf d))) (d.take (endOf (scanOf d))) (st + 1 + 1), ⟨nmW, 16, 1, 1, d.length - endOf (scanOf d), false⟩, scanOf d, 0) := by
  have hle := scan_end d
  have ho : openL (one_ used d st) nmW 16 = openR (one_ used d st) nmW 16 1 1 := by
    unfold openL
    rw [if_neg (by rw [one_name]; have : okName nm01 = true := by kernel_rfl
                   rw [this]; decide), if_neg (by decide), if_neg (by show ¬ (false = true); decide), one_scan]
    rfl
  rw [ho]
  unfold openR
  rw [show (1 + 1 - 1 : Nat) = 0 + 1 from rfl]
  by_cases he : endOf (scanOf d) = d.length
  · rw [readF_whole (nm := nm01) one_name.symm (one_find used d st) he, if_pos he]
    rfl
  · have h1 : (one_ used d st).truncate nm01 (endOf (scanOf d) : Int) = ({ (one_ used d st).cut nm01 ⟨d, d.length⟩ (endOf (scanOf d)) with steps := st + 1 }, 0) := by
      unfold FsS.truncate
      rw [on_some rfl (one_find used d st)]
      rw [if_neg (by show ¬ ((endOf (scanOf d) : Int) < 0 ∨ (d.length : Int) < endOf (scanOf d)); omega)]
      rfl
    have h2 : ({ (one_ used d st).cut nm01 ⟨d, d.length⟩ (endOf (scanOf d)) with steps := st + 1 } : FsS) = ⟨67108864, used - ((d.length : Int) - endOf (scanOf d)), [(nm01, ⟨d.take (endOf (scanOf d)), min d.length (endOf (scanOf d))⟩)], st + 1, 0, false⟩ := by kernel_rfl
    have h3 : (⟨67108864, used - ((d.length : Int) - endOf (scanOf d)), [(nm01, ⟨d.take (endOf (scanOf d)), min d.length (endOf (scanOf d))⟩)], st + 1, 0, false⟩ : FsS).sync nm01 = (one_ (used - ((d.length : Int) - endOf (scanOf d))) (d.take (endOf (scanOf d))) (st + 1 + 1), 0) := by kernel_rfl
    rw [h2] at h1
    rw [readF_cut (nm := nm01) one_name.symm (one_find used d st) he (by decide) (by rw [h1]) (by rw [h1, h3]), if_neg he, h1, h3]
    rfl
/-- Open again. -/
theorem open_two (used : Int) (d : List UInt8) (st : Int) : ∃ used' d' st' c, openL (one_ used d st) nmW 16 = (one_ used' d' st', ⟨nmW, 16, 1, 1, c, false⟩, scanOf d, 0) ∧ openL (one_ used' d' st') nmW 16 = (one_ used' d' st', ⟨nmW, 16, 1, 1, 0, false⟩, scanOf d, 0) := by
  by_cases he : endOf (scanOf d) = d.length
  · have h := open_one used d st
    rw [if_pos he] at h
    exact ⟨used, d, st, 0, h, h⟩
  · have h := open_one used d st
    rw [if_neg he] at h
    refine ⟨_, _, _, _, h, ?_⟩
    rw [open_one, scan_cut, if_pos (by rw [List.length_take]; have := scan_end d; omega)]
theorem one_create : (FsS.new 67108864).create nm01 = (⟨67108864, 0, [(nm01, ⟨[], 0⟩)], 1, 0, false⟩, 0) := by kernel_rfl
theorem one_append (d : List UInt8) (hd : d.length ≤ 20000) : (⟨67108864, 0, [(nm01, ⟨[], 0⟩)], 1, 0, false⟩ : FsS).append nm01 d = (⟨67108864, (d.length : Int), [(nm01, ⟨d, 0⟩)], 2, 0, false⟩, 0) := by
  unfold FsS.append
  rw [on_some rfl (show (⟨67108864, 0, [(nm01, ⟨[], 0⟩)], 1, 0, false⟩ : FsS).find nm01 = some ⟨[], 0⟩ by kernel_rfl)]
  rw [if_neg (by show ¬ ((67108864 : Int) - 0 < (d.length : Int)); omega), write_of rfl]
  have e : (0 : Int) + (d.length : Int) = d.length := by omega
  have e2 : (⟨67108864, 0, [(nm01, ⟨[], 0⟩)], 1, 0, false⟩ : FsS).set nm01 ⟨[] ++ d, 0⟩ = ⟨67108864, 0, [(nm01, ⟨d, 0⟩)], 1, 0, false⟩ := by kernel_rfl
  simp only [e2, e]
  rfl
theorem one_sync (d : List UInt8) : (⟨67108864, (d.length : Int), [(nm01, ⟨d, 0⟩)], 2, 0, false⟩ : FsS).sync nm01 = (one_ d.length d 3, 0) := by kernel_rfl
section
variable {w0 w w' W : World} {fb k lb : Nat} {F G : FsS} {S T : Nat → Prop} {L : LogS} {v u : Value} {rs qs : List (List UInt8)}
/-- A front of a list of records. -/
theorem LrAt.front {a : Option Addr} {len cap : Nat} (h : LrAt w (.slice a len cap) rs) (m : Nat) (hm : m ≤ rs.length) : LrAt w (.slice a m cap) (rs.take m) := by
  obtain ⟨ss, ⟨a', cap', e, hr⟩, h2⟩ := h
  injection e with e1 e2 e3
  subst e1 e3
  have hl := h2.1
  refine ⟨ss.take m, ⟨a, cap, by rw [List.length_take, Nat.min_eq_left (by omega)], fun j x hx => ?_⟩, by rw [List.length_take, List.length_take, hl], fun j s r hs hr2 => ?_⟩
  · rw [List.getElem?_take] at hx
    split at hx
    · exact hr j x hx
    · cases hx
  · rw [List.getElem?_take] at hs hr2
    split at hs
    · rename_i hj
      rw [if_pos hj] at hr2
      exact h2.2 j s r hs hr2
    · cases hs
theorem RdAt.front {a : Option Addr} {len cap : Nat} {ys : List UInt8} (h : RdAt byteKind w (.slice a len cap) ys) (m : Nat) (hm : m ≤ ys.length) : RdAt byteKind w (.slice a m cap) (ys.take m) := by
  obtain ⟨a', cap', e, hr⟩ := h
  injection e with e1 e2 e3
  subst e1 e3
  refine ⟨a, cap, by rw [List.length_take, Nat.min_eq_left hm], fun j x hx => ?_⟩
  rw [List.getElem?_take] at hx
  split at hx
  · exact hr j x hx
  · cases hx
set_option maxRecDepth 100000 in
set_option maxHeartbeats 8000000 in
theorem l_walAgain {a1 : Option Addr} {c1 : Nat} {b : List UInt8} (hb : RdAt byteKind w (.slice a1 b.length c1) b) (hbc : b.length ≤ c1) (hcm : c1 ≤ 9223372036854775807) (n : Int) (hn1 : -9223372036854775808 ≤ n) (hn2 : n ≤ 9223372036854775807) :
    Calls Try.prog 5 #[.slice a1 b.length c1, .int .i64 n] w fun e w' => e = .returned (.bool true) ∧ Below w.heap.size w w' := by
  have HB := Lib.hid hb
  have HBC := Lib.hid hbc
  have HCM := Lib.hid hcm
  have HN1 := Lib.hid (And.intro hn1 hn2)
  have hbn : (b.length : Int) ≤ 9223372036854775807 := by omega
  clear hb hbc hcm hn1 hn2
  go_enter Try.func5, Try.ntmps5
  go_wp2_with (fail)
  refine (x_wfirst (w := w)).mono ?_
  rintro e w1 ⟨rfl, hb1⟩
  have HB1 := Lib.hid hb1
  clear hb1
  by_cases h1 : 20000 < b.length
  · have h1' : (20000 : Int) < (b.length : Int) := by omega
    go_wp2_with (fail)
    go_ret
    exact ⟨rfl, HB1.out⟩
  have h1' : (b.length : Int) ≤ 20000 := by omega
  have HBN : Hid (b.length ≤ 20000) := Lib.hid (by omega)
  clear h1 hbn
  go_wp2_with (fail)
  refine (f_new 67108864 (by omega) (by omega)).mono ?_
  rintro e w2 ⟨fb, rfl, hf, hb⟩
  have HF : Hid (Hd w w2 fb (FsS.new 67108864) 0 (New w1 w2 fun _ => False)) := Lib.hid ⟨hf, fun i e => by rcases e with e | e; exact e.elim; have := HB1.out.size; omega, HB1.out.trans (hb.mono HB1.out.size), FsOk.new0 67108864⟩
  clear hf hb
  go_wp2_with (fail)
  refine (d_create HF.out (by omega) nm01).mono ?_
  rw [one_create]
  rintro e w3 ⟨rfl, hd, -⟩
  have HF3 := Lib.hid hd
  clear hd HF
  go_wp2_with (fail)
  refine (d_append HF3.out (by omega) nm01 HB.out (by have := HBN.out; omega)).mono ?_
  rw [one_append b HBN.out]
  rintro e w4 ⟨rfl, hd, -⟩
  have HF4 := Lib.hid hd
  clear hd HF3
  go_wp2_with (fail)
  refine (d_sync HF4.out (by omega) nm01).mono ?_
  rw [one_sync b]
  rintro e w5 ⟨rfl, hd, -⟩
  obtain ⟨S5, hS5⟩ : ∃ S5, Hid (Hd w w5 fb (one_ b.length b 3) 3 S5) := ⟨_, Lib.hid hd⟩
  have HF5 := hS5
  clear hd hS5 HF4
  obtain ⟨us, d, st, ct, ho1, ho2⟩ := open_two (b.length : Int) b 3
  have HO1 := Lib.hid ho1
  have HO2 := Lib.hid ho2
  clear ho1 ho2
  go_wp2_with (fail)
  refine (w_open HF5.out (by omega) nmW (by decide) 16 (fun f l hfl => ?_)).mono ?_
  · rw [one_scan] at hfl
    simp only [Option.some.injEq, Prod.mk.injEq] at hfl
    obtain ⟨rfl, rfl⟩ := hfl
    have : (one_ (b.length : Int) b 3).used = b.length := rfl
    rw [this]
    have := HBN.out
    omega
  rw [HO1.out]
  rintro e w6 ⟨lv, v, rfl, ho⟩
  obtain ⟨lb, rfl, hlb, T, -, hl, hx⟩ := ho.good rfl
  have HD6 := Lib.hid hl.hd
  have HV6 := Lib.hid hx
  obtain ⟨av, cv, rfl⟩ := hx.shape
  clear ho hl hx HF5
  have hst : (one_ us d st).steps = st := rfl
  have HST := Lib.hid hst
  clear hst
  go_wp2_with (fail)
  refine (d_steps HD6.out).mono ?_
  rw [HST.out]
  rintro e w' ⟨rfl, rfl⟩
  go_wp2_with (fail)
  refine (w_open HD6.out (by omega) nmW (by decide) 16 (fun f l hfl => ?_)).mono ?_
  · rw [one_scan] at hfl
    simp only [Option.some.injEq, Prod.mk.injEq] at hfl
    obtain ⟨rfl, rfl⟩ := hfl
    have h1 := HD6.out.ok.fits
    have h2 := HD6.out.ok.room1
    omega
  rw [HO2.out]
  rintro e w7 ⟨lv, u, rfl, ho⟩
  obtain ⟨lb2, rfl, hlb2, T2, -, hl, hx⟩ := ho.good rfl
  have HL7 := Lib.hid hl
  have HU7 := Lib.hid hx
  have HV7 := Lib.hid (HV6.out.keeps ho.keeps (fun i e => .inl e))
  obtain ⟨au, cu, rfl⟩ := hx.shape
  have HB7 : Hid (Below w.heap.size w w7) := Lib.hid hl.hd.below
  clear ho hl hx HV6 HD6
  have hrl : (scanOf b).length ≤ 20000 := by
    have h1 := endOf_len (scanOf b)
    have h2 := scan_end b
    have h3 := HBN.out
    omega
  have HRL := Lib.hid hrl
  clear hrl
  go_wp2_with (first | (go_at_call 27; refine (r_num _ _).mono ?_; rintro e w' ⟨rfl, rfl⟩) | (go_at_call 39; refine (w_cut HL7.out).mono ?_; rintro e w' ⟨rfl, rfl⟩) | (go_at_call 38; refine (d_steps HL7.out.hd).mono ?_; rw [HST.out]; rintro e w' ⟨rfl, rfl⟩))
  refine (r_sameLists HV7.out.rd HU7.out.rd (by have := HRL.out; omega) (fun r hr => Nat.le_trans (scan_small b r hr) (by omega))).mono ?_
  rintro e w8 ⟨rfl, hb8⟩
  have HV8 := Lib.hid (HV7.out.below hb8)
  have HB8 : Hid (Below w.heap.size w w8) := Lib.hid (HB7.out.trans (hb8.mono HB7.out.size))
  clear hb8 HU7
  obtain ⟨M, hM, hM1⟩ : ∃ M : Nat, (n.tmod ((b.length : Int) + 1) + b.length + 1).tmod ((b.length : Int) + 1) = (M : Int) ∧ M ≤ b.length := by
    have hp : (0 : Int) < (b.length : Int) + 1 := by omega
    have t2 : 0 ≤ (n.tmod ((b.length : Int) + 1) + b.length + 1).tmod ((b.length : Int) + 1) ∧ (n.tmod ((b.length : Int) + 1) + b.length + 1).tmod ((b.length : Int) + 1) < (b.length : Int) + 1 :=
      ⟨Int.tmod_nonneg _ (by have := Int.lt_tmod_of_pos n hp; omega), Int.tmod_lt_of_pos _ hp⟩
    exact ⟨((n.tmod ((b.length : Int) + 1) + b.length + 1).tmod ((b.length : Int) + 1)).toNat, by omega, by omega⟩
  have t1 : -((b.length : Int) + 1) < n.tmod ((b.length : Int) + 1) ∧ n.tmod ((b.length : Int) + 1) < (b.length : Int) + 1 := ⟨by have := Int.lt_tmod_of_pos n (show (0 : Int) < (b.length : Int) + 1 by omega); omega, Int.tmod_lt_of_pos n (by omega)⟩
  have e1 : wrap64 ((b.length : Int) + 1) = (b.length : Int) + 1 := IntWalk.wrap64_in _ (by omega)
  have e2 : wrap64 (n.tmod ((b.length : Int) + 1) + b.length) = n.tmod ((b.length : Int) + 1) + b.length := IntWalk.wrap64_in _ (by omega)
  have e3 : wrap64 (n.tmod ((b.length : Int) + 1) + b.length + 1) = n.tmod ((b.length : Int) + 1) + b.length + 1 := IntWalk.wrap64_in _ (by omega)
  have HM := Lib.hid hM
  have HM1 := Lib.hid hM1
  have hMc : M ≤ c1 := by have := HBC.out; omega
  clear t1 hM1
  go_wp2_with (fail)
  obtain ⟨Y, hY⟩ : ∃ Y, Y = b.take M := ⟨_, rfl⟩
  have hYl : Y.length = M := by rw [hY, List.length_take]; have := HM1.out; omega
  have HY := Lib.hid hY
  have hrd : RdAt byteKind w8 (.slice a1 Y.length c1) Y := by rw [hYl, hY]; exact (HB.out.below HB8.out).front M HM1.out
  have hsc := w_scan hrd (by have := HBN.out; have := HM1.out; omega) (by omega) HCM.out
  rw [hYl] at hsc
  refine hsc.mono ?_
  rintro e w9 ⟨v9, rfl, hls, hb9⟩
  have HV9 := Lib.hid (HV8.out.below hb9)
  have HB9 : Hid (Below w.heap.size w w9) := Lib.hid (HB8.out.trans (hb9.mono HB8.out.size))
  obtain ⟨a9, c9, rfl⟩ := hls.rd.shape
  have HLS := Lib.hid hls.rd
  obtain ⟨q, hq1, hq2⟩ := scan_take b M
  rw [← hY] at hq2
  have hql : (scanOf Y).length = q := by rw [hq2, List.length_take]; omega
  have HQ := Lib.hid (And.intro hq1 (And.intro hq2 hql))
  have hfr : LrAt w9 (.slice av q cv) (scanOf Y) := by rw [hq2]; exact HV9.out.rd.front q hq1
  have HFR := Lib.hid hfr
  rw [hql] at HLS ⊢
  generalize hEY : endOf (scanOf Y) = EY
  generalize decide (EY = Y.length) = AY
  have hqi : (q : Int) ≤ ((scanOf b).length : Int) := by omega
  have hrc : (scanOf b).length ≤ cv ∧ cv ≤ 9223372036854775807 := by
    obtain ⟨ss, hs1, hs2, -⟩ := HV9.out.ex
    rw [← hs2.1] at hs1 ⊢
    rcases hs1 with ⟨e, e2⟩ | ⟨g, off, cap, cur, e, _, h1, h2, _⟩
    · injection e with _ e3 e4
      omega
    · injection e with _ e3 e4
      unfold maxLen at h2
      omega
  clear hsc hrd hls hb9 hfr hY hYl hq1 hq2 hql hEY e1 e2 e3 hM hMc
  go_wp2_with (fail)
  refine (r_sameLists HLS.out HFR.out (by have := HQ.out.2.2; have := HQ.out.1; have := HRL.out; omega) (fun r hr => Nat.le_trans (scan_small Y r hr) (by omega))).mono ?_
  rintro e w10 ⟨rfl, hb10⟩
  have HR : Hid (Below w.heap.size w w10) := Lib.hid (HB9.out.trans (hb10.mono HB9.out.size))
  clear hb10
  go_wp2_with (fail)
  go_ret
  exact ⟨rfl, HR.out⟩
end
end Go.Proofs.Ythbfkjmpaifblaa
