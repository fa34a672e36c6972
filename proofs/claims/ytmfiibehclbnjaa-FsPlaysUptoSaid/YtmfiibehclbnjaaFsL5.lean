/- The walk of FsApart. -/
import Derived.Test.YtmfiibehclbnjaaFsHe
namespace Go.Proofs.Ytmfiibehclbnjaa
open Go.RowKit Go.Shelf

section
variable {w0 w w' : World} {fb gb hb k k' : Nat} {F G : FsS} {S T U : Nat → Prop}
theorem d_told (h : Hd w0 w fb F k S) (hk : k < 1000000) (o : FOp) (u : Value) (hu : OpVal w o u) :
    Calls Try.prog 37 #[.pointer (some ⟨fb, 0, none⟩), opAgg o u] w fun e w' => e = .returned (.int .i64 (F.told o).2) ∧ Hd w0 w' fb (F.told o).1 (k + 1) (New w w' S) ∧ Keeps S w w' :=
  (x_told h.fs h.ok hk o u hu).mono fun _ _ ⟨he, hp⟩ => ⟨he, h.post hp (h.ok.told o hu.n1), hp.2⟩
theorem d_made2 {v : Value} {os : List FOp} (h : FOpsAt w0 v os) (hl : os.length ≤ 300) (hb : Below w0.heap.size w0 w) (m : Int) (h0 : -9223372036854775808 ≤ m) (h1 : m ≤ 9223372036854775807) :
    Calls Try.prog 13 #[.int .i64 m, v] w fun e w' => ∃ fb, e = .returned (.pointer (some ⟨fb, 0, none⟩)) ∧ Hd w0 w' fb ((FsS.new m).toldAll os) 300 (New w w' fun _ => False) ∧ Below w.heap.size w w' := by
  refine (x_made (h.below hb) hl m h0 h1).mono ?_
  rintro e w' ⟨fb, rfl, hm⟩
  refine ⟨fb, rfl, ⟨?_, fun i e => ?_, hb.trans (hm.below.mono hb.size), ?_⟩, hm.below⟩
  · have := hm.fs
    rwa [List.take_length] at this
  · rcases e with e | e
    · exact e.elim
    · exact Nat.le_trans hb.size e.1
  · exact ((FsOk.new0 m).toldAll os h.n1).mono (by omega)
theorem toldAll_take {os : List FOp} {j : Nat} {o : FOp} (ho : os[j]? = some o) : F.toldAll (os.take (j + 1)) = ((F.toldAll (os.take j)).told o).1 := by
  obtain ⟨hj, he⟩ := List.getElem?_eq_some_iff.1 ho
  rw [List.take_succ_eq_append_getElem hj, FsS.toldAll_snoc, he]
/-- One is told so many operations, two others stay. -/
structure Ap3 (w0 wr : World) (gb fb hb : Nat) (G F H : FsS) (kg kf kh : Nat) (S U : Nat → Prop) : Prop where
  ex : ∃ T, Hd w0 wr gb G kg T ∧ ∀ i, T i → ¬ S i ∧ ¬ U i
  f : Hd w0 wr fb F kf S
  h : Hd w0 wr hb H kh U
theorem Ap3.step {G' H : FsS} {kg kf kh : Nat} (h : Ap3 w0 w gb fb hb G F H kg kf kh S U) {T : Nat → Prop} (hT : ∀ i, T i → ¬ S i ∧ ¬ U i) {kg' : Nat} (hd : Hd w0 w' gb G' kg' (New w w' T)) (hk : Keeps T w w') : Ap3 w0 w' gb fb hb G' F H kg' kf kh S U := by
  refine ⟨⟨_, hd, fun i e => ?_⟩, h.f.other hk (fun i e => (hT i e).1) hd.below, h.h.other hk (fun i e => (hT i e).2) hd.below⟩
  exact ⟨new_apart (fun i e => (hT i e).1) h.f.lt i e, new_apart (fun i e => (hT i e).2) h.h.lt i e⟩
set_option maxRecDepth 100000 in
set_option maxHeartbeats 8000000 in
theorem l_apart (v : Value) (os : List FOp) (h : FOpsAt w v os) (hm : os.length ≤ maxLen) (u : Value) (ms : List FOp) (h2 : FOpsAt w u ms) (hm2 : ms.length ≤ maxLen) (m : Int) (h0 : -9223372036854775808 ≤ m) (h1 : m ≤ 9223372036854775807) :
    Calls Try.prog 7 #[.int .i64 m, v, u] w (TruePost w) := by
  have HOS := Lib.hid h
  have HMS := Lib.hid h2
  have HM := Lib.hid hm
  have HM2 := Lib.hid hm2
  obtain ⟨a, cap, rfl, hrd⟩ := h
  obtain ⟨a2, cap2, rfl, hrd2⟩ := h2
  have HM0 := Lib.hid (And.intro h0 h1)
  have HB0 : Hid (Below w.heap.size w w) := Lib.hid (Below.refl _ _)
  clear hrd hrd2 hm hm2 h0 h1
  go_enter Try.func7, Try.ntmps7
  go_wp2_with (fail)
  refine x_first.mono ?_
  rintro e w1 ⟨rfl, hb⟩
  have HB1 := Lib.hid hb
  clear hb
  go_wp2_with (fail)
  refine (x_few w1 _ os (HOS.out.below HB1.out) HM.out).mono ?_
  rintro e w2 ⟨small, rfl, hs, hb⟩
  have HS := Lib.hid hs
  have HB2 : Hid (Below w.heap.size w w2) := Lib.hid (HB1.out.trans (hb.mono HB1.out.size))
  clear hb hs
  cases small with
  | false =>
    go_wp2_with (fail)
    go_ret
    exact TruePost.hid HB0 HB2.out
  | true =>
  go_wp2_with (fail)
  refine (x_few w2 _ ms (HMS.out.below HB2.out) HM2.out).mono ?_
  rintro e w3 ⟨small, rfl, hs2, hb⟩
  have HS2 := Lib.hid hs2
  have HB3 : Hid (Below w.heap.size w w3) := Lib.hid (HB2.out.trans (hb.mono HB2.out.size))
  clear hb hs2
  cases small with
  | false =>
    go_wp2_with (fail)
    go_ret
    exact TruePost.hid HB0 HB3.out
  | true =>
  have HLM : Hid (ms.length ≤ 300) := Lib.hid (HS2.out (by simp))
  have hlm : (ms.length : Int) ≤ 300 := by have := HLM.out; omega
  have HN1 := Lib.hid HMS.out.n1
  go_wp2_with (fail)
  refine (d_made HOS.out (HS.out (by simp)) HB3.out m HM0.out.1 HM0.out.2).mono ?_
  rintro e w4 ⟨fb, rfl, hd⟩
  have HD := Lib.hid hd
  clear hd
  generalize (New w3 w4 fun _ => False) = S at HD
  go_wp2_with (fail)
  refine (d_copy HD.out).mono ?_
  rintro e w5 ⟨gb, rfl, hf, hg, hap, _⟩
  have HF := Lib.hid hf
  have HG := Lib.hid hg
  have HAP := Lib.hid hap
  clear hf hg hap
  generalize (New w4 w5 fun _ => False) = T at HG HAP
  go_wp2_with (fail)
  refine (d_made2 HOS.out (HS.out (by simp)) HG.out.below m HM0.out.1 HM0.out.2).mono ?_
  rintro e w6 ⟨hb, rfl, hd, hbl⟩
  have HAP3 : Hid (Ap3 w w6 gb fb hb (((FsS.new m).toldAll os).toldAll (ms.take 0)) ((FsS.new m).toldAll os) ((FsS.new m).toldAll os) (300 + 0) 300 300 S (New w5 w6 fun _ => False)) := Lib.hid
    ⟨⟨T, HG.out.read hbl, fun i e => ⟨fun e2 => HAP.out i e2 e, fun e2 => by
      rcases e2 with e2 | e2
      · exact e2
      · have := HG.out.lt i e; omega⟩⟩, HF.out.read hbl, hd⟩
  clear hd hbl
  generalize (New w5 w6 fun _ => False) = U at HAP3
  generalize (FsS.new m).toldAll os = F at HAP3 HD HF HG
  go_wp2_with (fail)
  go_loopw [12] (fun i wr => ∃ j : Nat, j ≤ ms.length ∧ i = .int .i64 j ∧ Hid (Ap3 w wr gb fb hb (F.toldAll (ms.take j)) F F (300 + j) 300 300 S U)) (fun i _ => ms.length - (intOf i).toNat)
  case atStart => exact ⟨0, Nat.zero_le _, rfl, HAP3⟩
  case round =>
    obtain ⟨j, hj, rfl, HJ⟩ := hrel
    by_cases hlt : j < ms.length
    · skip
      have hx : ms[j]? = some ms[j] := List.getElem?_eq_getElem hlt
      generalize ms[j] = o at hx
      obtain ⟨T', hT1, hT2⟩ := HJ.out.ex
      obtain ⟨_, _, ea, hrd⟩ := HMS.out.below hT1.below
      injection ea with ea _ e3
      subst ea e3
      obtain ⟨g, off, ba, bcap, rfl, ⟨c0, c1, c2, c3, c4⟩, hv, z1, z2⟩ := hrd j o hx
      have k1 : (0 : Int) ≤ (j : Int) := by omega
      have k2 : (j : Int) < (ms.length : Int) := by omega
      have HX := Lib.hid hx
      have HV := Lib.hid hv
      have HT := Lib.hid (And.intro hT1 hT2)
      clear hx hv z1 z2 hrd hT1 hT2
      go_wp2_with (fail)
      refine (d_told HT.out.1 (by have := HLM.out; omega) o _ HV.out).mono ?_
      rintro e w7 ⟨rfl, hd, hk⟩
      have HN := Lib.hid (HJ.out.step HT.out.2 hd hk)
      rw [← toldAll_take HX.out] at HN
      clear hd hk c0 c1 c2 c3 c4
      go_wp2_with (fail)
      go_roundw
      case rel => exact ⟨j + 1, by omega, by go_num, HN⟩
      case measure => simp [intOf]; omega
    · have k2 : ¬ (j : Int) < (ms.length : Int) := by omega
      have hj2 : j = ms.length := by omega
      subst hj2
      rw [List.take_length] at HJ
      generalize hG' : F.toldAll ms = G at HJ
      have HGE : Hid (F.toldAll ms = G) := Lib.hid hG'
      clear hG'
      go_wp2_with (fail)
      refine (d_alike HJ.out.f HJ.out.h rfl).mono ?_
      rintro e w8 ⟨rfl, hb8⟩
      obtain ⟨T', hT1, hT2⟩ := HJ.out.ex
      have HAP4 : Hid (Ap3 w w8 fb gb gb (F.toldAll (ms.take 0)) G G (300 + 0) (300 + ms.length) (300 + ms.length) T' T') := Lib.hid
        ⟨⟨S, HJ.out.f.read hb8, fun i e => ⟨fun e2 => (hT2 i e2).1 e, fun e2 => (hT2 i e2).1 e⟩⟩, hT1.read hb8, hT1.read hb8⟩
      clear hT1 hT2 hb8 HJ HAP3
      go_wp2_with (fail)
      go_loopw [14] (fun i wr => ∃ j : Nat, j ≤ ms.length ∧ i = .int .i64 j ∧ Hid (Ap3 w wr fb gb gb (F.toldAll (ms.take j)) G G (300 + j) (300 + ms.length) (300 + ms.length) T' T')) (fun i _ => ms.length - (intOf i).toNat)
      case atStart => exact ⟨0, Nat.zero_le _, rfl, HAP4⟩
      case round =>
        obtain ⟨j, hj, rfl, HJ⟩ := hrel
        by_cases hlt : j < ms.length
        · skip
          have hx : ms[j]? = some ms[j] := List.getElem?_eq_getElem hlt
          generalize ms[j] = o at hx
          obtain ⟨T2, hT1, hT2⟩ := HJ.out.ex
          obtain ⟨_, _, ea, hrd⟩ := HMS.out.below hT1.below
          injection ea with ea _ e3
          subst ea e3
          obtain ⟨g, off, ba, bcap, rfl, ⟨c0, c1, c2, c3, c4⟩, hv, z1, z2⟩ := hrd j o hx
          have k1 : (0 : Int) ≤ (j : Int) := by omega
          have k2 : (j : Int) < (ms.length : Int) := by omega
          have HX := Lib.hid hx
          have HV := Lib.hid hv
          have HT := Lib.hid (And.intro hT1 hT2)
          clear hx hv z1 z2 hrd hT1 hT2
          go_wp2_with (fail)
          refine (d_told HT.out.1 (by have := HLM.out; omega) o _ HV.out).mono ?_
          rintro e w7 ⟨rfl, hd, hk⟩
          have HN := Lib.hid (HJ.out.step HT.out.2 hd hk)
          rw [← toldAll_take HX.out] at HN
          clear hd hk c0 c1 c2 c3 c4
          go_wp2_with (fail)
          go_roundw
          case rel => exact ⟨j + 1, by omega, by go_num, HN⟩
          case measure => simp [intOf]; omega
        · have k2 : ¬ (j : Int) < (ms.length : Int) := by omega
          have hj2 : j = ms.length := by omega
          subst hj2
          rw [List.take_length, HGE.out] at HJ
          obtain ⟨T2, hT1, _⟩ := HJ.out.ex
          have HF9 := Lib.hid hT1
          have HG9 := Lib.hid HJ.out.f
          clear hT1 HJ
          go_wp2_with (first | (go_at_call 24; refine (d_alike HF9.out HG9.out rfl).mono ?_; rintro e w9 ⟨rfl, hb9⟩; have HF10 := Lib.hid (HF9.out.read hb9); have HG10 := Lib.hid (HG9.out.read hb9); clear hb9) | (go_at_call 38; first | ((with_reducible refine (d_steps HF10.out).mono ?_); rintro e w' ⟨rfl, rfl⟩) | ((with_reducible refine (d_steps HG10.out).mono ?_); rintro e w' ⟨rfl, rfl⟩)))
          go_ret
          exact TruePost.hid HB0 HF10.out.below
end
end Go.Proofs.Ytmfiibehclbnjaa
