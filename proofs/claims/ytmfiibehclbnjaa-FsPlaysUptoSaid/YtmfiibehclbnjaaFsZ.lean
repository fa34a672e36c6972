/- The walks of the statements' helpers: alike, Begins. -/
import Derived.Test.YtmfiibehclbnjaaFsPl
namespace Go.Proofs.Ytmfiibehclbnjaa
open Go.RowKit Go.Shelf

section
variable {w : World} {fb gb : Nat} {F G : FsS} {S T : Nat → Prop}
theorem s_read (h : FsIs w fb F S) {k : Nat} (ho : FsOk F k) {n : ByteArray} {x : FileS} (hx : F.find n = some x) :
    Calls Try.prog 15 #[.pointer (some ⟨fb, 0, none⟩), .string n] w fun e w' => ∃ a cap, e = .returned (.tuple #[.slice a x.data.length cap, .int .i64 0]) ∧ FreshAt w w' (.slice a x.data.length cap) x.data := by
  obtain ⟨mb, rs, h⟩ := h
  refine (f_read h n (fun y hy => by have := (ho.len hy).1; omega)).mono ?_
  intro e w' hr
  rw [hx] at hr
  obtain ⟨v, rfl, hf⟩ := hr
  obtain ⟨a, cap, e⟩ := hf.sl.shape
  subst e
  exact ⟨a, cap, rfl, hf⟩
theorem s_read_none (h : FsIs w fb F S) {n : ByteArray} (hx : F.find n = none) :
    Calls Try.prog 15 #[.pointer (some ⟨fb, 0, none⟩), .string n] w fun e w' => e = .returned (.tuple #[.slice none 0 0, .int .i64 2]) ∧ w = w' := by
  obtain ⟨mb, rs, h⟩ := h
  refine (f_read h n (fun y hy => by rw [hx] at hy; cases hy)).mono ?_
  intro e w' hr
  rw [hx] at hr
  exact ⟨hr.1, hr.2.symm⟩
theorem s_names (h : FsIs w fb F S) {k : Nat} (ho : FsOk F k) (front : ByteArray) : Calls Try.prog 26 #[.pointer (some ⟨fb, 0, none⟩), .string front] w fun e w' => ∃ a cap, e = .returned (.slice a (namesL front F.files).length cap) ∧ TextsAt w w' (.slice a (namesL front F.files).length cap) (namesL front F.files) := by
  obtain ⟨mb, rs, h⟩ := h
  have hl : rs.length ≤ 1000000 := by
    have := ho.few
    rw [h.files, List.length_map] at this
    omega
  refine (f_names h hl front).mono ?_
  rintro e w' ⟨v, rfl, ht⟩
  obtain ⟨a, cap, e⟩ := ht.sl.shape
  subst e
  exact ⟨a, cap, rfl, ht⟩
theorem s_allNames (h : FsIs w fb F S) {k : Nat} (ho : FsOk F k) : Calls Try.prog 26 #[.pointer (some ⟨fb, 0, none⟩), .string ⟨#[]⟩] w fun e w' => ∃ a cap, e = .returned (.slice a F.files.length cap) ∧ TextsAt w w' (.slice a F.files.length cap) (F.files.map (·.1)) := by
  have := s_names h ho ⟨#[]⟩
  rw [namesL_all] at this
  simpa only [List.length_map] using this
/-- The text at a place. -/
theorem text_cell {v : Value} {L : List ByteArray} {a : Option Addr} {len cap : Nat} (h : RdAt textKind w v L) (hv : v = .slice a len cap) {j : Nat} {n : ByteArray} (hn : L[j]? = some n) : ∃ g off, a = some ⟨g, off, none⟩ ∧ w.cell? ⟨g, off + j, none⟩ = some (.string n) := by
  obtain ⟨a', cap', e, hr⟩ := h
  rw [hv] at e
  injection e with e1 e2 e3
  subst e1
  obtain ⟨g, off, ha, hc⟩ := hr j n hn
  have := hc 0 (by decide)
  exact ⟨g, off, ha, by simpa [textKind] using this⟩
set_option maxRecDepth 100000 in
set_option maxHeartbeats 2000000 in
theorem x_alike (hf : FsIs w fb F S) (hg : FsIs w gb G T) {k k' : Nat} (ho : FsOk F k) (hog : FsOk G k') (he : F.dataOf = G.dataOf) :
    Calls Try.prog 24 #[.pointer (some ⟨fb, 0, none⟩), .pointer (some ⟨gb, 0, none⟩)] w fun e w' => e = .returned (.bool true) ∧ Below w.heap.size w w' := by
  have hnm := sum_dataOf he
  have hfew := ho.few
  have HF := Lib.hid hf
  have HG := Lib.hid hg
  have HO := Lib.hid ho
  have HOG := Lib.hid hog
  have HE := Lib.hid he
  have HNM := Lib.hid hnm
  have HLE : Hid (F.files.length = G.files.length) := Lib.hid (by have := congrArg List.length hnm; simpa using this)
  clear hf hg ho hog he hnm
  have hfew' : (F.files.length : Int) ≤ 400 := by omega
  go_enter Try.func24, Try.ntmps24
  go_wp2_with (fail)
  refine (s_allNames HF.out HO.out).mono ?_
  rintro e w1 ⟨a, cap, rfl, ht⟩
  have HT := Lib.hid ht
  clear ht
  go_wp2_with (fail)
  refine (s_allNames (HG.out.below HT.out.below) HOG.out).mono ?_
  rintro e w2 ⟨b, cap2, rfl, ht⟩
  rw [← HLE.out, ← HNM.out] at ht
  have HT2 := Lib.hid ht
  clear ht
  rw [← HLE.out]
  go_wp2_with (fail)
  refine (r_sameTexts (HT.out.sl.below HT2.out.below).rd HT2.out.sl.rd (by rw [List.length_map]; omega)).mono ?_
  rintro e w3 ⟨rfl, hb⟩
  have HB : Hid (Below w.heap.size w w3) := Lib.hid ((HT.out.below.trans (HT2.out.below.mono HT.out.below.size)).trans (hb.mono (Nat.le_trans HT.out.below.size HT2.out.below.size)))
  have HTX : Hid (RdAt textKind w3 (.slice a F.files.length cap) (F.files.map (·.1))) := Lib.hid ((HT.out.sl.below HT2.out.below).rd.below hb)
  clear hb
  go_wp2_with (fail)
  go_loopw [7] (fun i wr => ∃ j : Nat, j ≤ F.files.length ∧ i = .int .i64 j ∧ Hid (Below w3.heap.size w3 wr)) (fun i _ => F.files.length - (intOf i).toNat)
  case atStart => exact ⟨0, Nat.zero_le _, rfl, Lib.hid (Below.refl _ _)⟩
  case round =>
    obtain ⟨j, hj, rfl, HJ⟩ := hrel
    by_cases hlt : j < F.files.length
    · obtain ⟨⟨n, x⟩, hx⟩ : ∃ y, F.files[j]? = some y := ⟨_, List.getElem?_eq_getElem hlt⟩
      obtain ⟨y, hy, hyx⟩ := dataOf_at HE.out hx
      have hfx := HO.out.find_at hx
      have hfy := HOG.out.find_at hy
      have hlx := (HO.out.len hfx).1
      obtain ⟨g, off, rfl, hc⟩ := text_cell (HTX.out.below HJ.out) rfl (j := j) (n := n) (by rw [List.getElem?_map, hx]; rfl)
      have k1 : (0 : Int) ≤ (j : Int) := by omega
      have k2 : (j : Int) < (F.files.length : Int) := by omega
      have HFX := Lib.hid hfx
      have HFY := Lib.hid hfy
      have HYX := Lib.hid hyx
      clear hx hy hyx hfx hfy
      go_wp2_with (fail)
      refine (s_read ((HF.out.below HB.out).below HJ.out) HO.out HFX.out).mono ?_
      rintro e w4 ⟨xa, xc, rfl, hfr⟩
      have hc4 := (hfr.below.cell (p := ⟨g, off + j, none⟩) (World.block_lt_of_cell? wr _ hc)).trans hc
      have HFR := Lib.hid hfr
      clear hfr hc
      go_wp2_with (fail)
      refine (s_read (((HG.out.below HB.out).below HJ.out).below HFR.out.below) HOG.out HFY.out).mono ?_
      rintro e w5 ⟨ya, yc, rfl, hfr⟩
      rw [HYX.out] at hfr ⊢
      have HFR2 := Lib.hid hfr
      clear hfr hc4
      go_wp2_with (fail)
      refine (r_sameBytes (HFR.out.sl.below HFR2.out.below).rd HFR2.out.sl.rd (by omega)).mono ?_
      rintro e w6 ⟨rfl, hb⟩
      have HB6 : Hid (Below w3.heap.size w3 w6) := Lib.hid (by
        have h1 := HJ.out.trans (HFR.out.below.mono HJ.out.size)
        have h2 := h1.trans (HFR2.out.below.mono h1.size)
        exact h2.trans (hb.mono h2.size))
      clear hb
      go_wp2_with (fail)
      go_roundw
      case rel => exact ⟨j + 1, by omega, by go_num, HB6⟩
      case measure => simp [intOf]; omega
    · have k2 : ¬ (j : Int) < (F.files.length : Int) := by omega
      go_wp2_with (fail)
      go_ret
      exact ⟨rfl, HB.out.trans (HJ.out.mono HB.out.size)⟩
end
end Go.Proofs.Ytmfiibehclbnjaa
