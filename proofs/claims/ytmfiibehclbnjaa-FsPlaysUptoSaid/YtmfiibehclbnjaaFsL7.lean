/- The walk of FsRefused. -/
import Derived.Test.YtmfiibehclbnjaaFsL5
namespace Go.Proofs.Ytmfiibehclbnjaa
open Go.RowKit Go.Shelf

section
variable {F : FsS} {k : Nat}
theorem write_err {eff : FsS → FsS} (h : (F.write eff).2 ≠ 0) : (F.write eff).1.files = F.files ∧ (F.write eff).1.steps = F.steps := by
  unfold FsS.write at h ⊢
  split at h
  · split at h
    · rename_i h1 h2; rw [if_pos h1, if_pos h2]; exact ⟨rfl, rfl⟩
    · exact absurd rfl h
  · exact absurd rfl h
theorem on_err {n : ByteArray} {g : FileS → FsS × Int} (hg : ∀ x, (g x).2 ≠ 0 → (g x).1.files = F.files ∧ (g x).1.steps = F.steps) (h : (F.on n g).2 ≠ 0) : (F.on n g).1.files = F.files ∧ (F.on n g).1.steps = F.steps := by
  unfold FsS.on at h ⊢
  split at h
  · rename_i h1; rw [if_pos h1]; exact ⟨rfl, rfl⟩
  · rename_i h1
    rw [if_neg h1]
    cases hx : F.find n with
    | none => exact ⟨rfl, rfl⟩
    | some x => rw [hx] at h; exact hg x h
/-- A refused operation changes no file. -/
theorem told_err (o : FOp) (h : (F.told o).2 ≠ 0) : (F.told o).1.files = F.files ∧ (F.told o).1.steps = F.steps := by
  revert h
  unfold FsS.told
  repeat' split
  · unfold FsS.create
    repeat' split
    · exact fun _ => ⟨rfl, rfl⟩
    · exact fun _ => ⟨rfl, rfl⟩
    · exact fun _ => ⟨rfl, rfl⟩
    · exact fun _ => ⟨rfl, rfl⟩
    · exact write_err
  · refine on_err fun x => ?_
    split
    · exact fun _ => ⟨rfl, rfl⟩
    · exact write_err
  · exact on_err fun x => write_err
  · refine on_err fun x => ?_
    split
    · exact fun _ => ⟨rfl, rfl⟩
    · exact write_err
  · refine on_err fun x => ?_
    split
    · exact fun _ => ⟨rfl, rfl⟩
    · exact write_err
  · exact on_err fun x => write_err
  · exact fun h => absurd rfl h
  · exact fun h => absurd rfl h
  · exact fun h => absurd rfl h
end
section
variable {w : World}
theorem d_new {w0 w : World} (hb : Below w0.heap.size w0 w) (m : Int) (h0 : -9223372036854775808 ≤ m) (h1 : m ≤ 9223372036854775807) :
    Calls Try.prog 39 #[.int .i64 m] w fun e w' => ∃ fb, e = .returned (.pointer (some ⟨fb, 0, none⟩)) ∧ Hd w0 w' fb (FsS.new m) 0 (New w w' fun _ => False) ∧ Below w.heap.size w w' := by
  refine (f_new m h0 h1).mono ?_
  rintro e w' ⟨fb, rfl, hf, hbl⟩
  refine ⟨fb, rfl, ⟨hf, fun i e => ?_, hb.trans (hbl.mono hb.size), FsOk.new0 m⟩, hbl⟩
  rcases e with e | e
  · exact e.elim
  · exact Nat.le_trans hb.size e.1
set_option maxRecDepth 100000 in
set_option maxHeartbeats 8000000 in
theorem l_refused (v : Value) (os : List FOp) (h : FOpsAt w v os) (hm : os.length ≤ maxLen) (m : Int) (h0 : -9223372036854775808 ≤ m) (h1 : m ≤ 9223372036854775807) :
    Calls Try.prog 9 #[.int .i64 m, v] w (TruePost w) := by
  have HOS := Lib.hid h
  have HM := Lib.hid hm
  obtain ⟨a, cap, rfl, hrd⟩ := h
  have HM0 := Lib.hid (And.intro h0 h1)
  have HB0 : Hid (Below w.heap.size w w) := Lib.hid (Below.refl _ _)
  clear hrd hm h0 h1
  go_enter Try.func9, Try.ntmps9
  go_wp2_with (fail)
  refine x_first.mono ?_
  rintro e w1 ⟨rfl, hb⟩
  have HB1 := Lib.hid hb
  clear hb
  go_wp2_with (fail)
  refine (x_few w1 _ os (HOS.out.below HB1.out) HM.out).mono ?_
  rintro e w2 ⟨small, rfl, hs, hb⟩
  have HS := Lib.hid hs
  have HB2 : Hid (Below w.heap.size w w2) := Lib.hid (HB1.out.trans (hb.mono HB1.out.size))
  clear hb hs
  cases small with
  | false =>
    go_wp2_with (fail)
    go_ret
    exact TruePost.hid HB0 HB2.out
  | true =>
  have HLM : Hid (os.length ≤ 300) := Lib.hid (HS.out (by simp))
  have hlm : (os.length : Int) ≤ 300 := by have := HLM.out; omega
  go_wp2_with (fail)
  refine (d_new HB2.out m HM0.out.1 HM0.out.2).mono ?_
  rintro e w3 ⟨fb, rfl, hd, _⟩
  have HI : Hid (∃ F S, Hd w w3 fb F 0 S) := Lib.hid ⟨_, _, hd⟩
  clear hd
  go_wp2_with (fail)
  go_loopw [8] (fun i wr => ∃ j : Nat, j ≤ os.length ∧ i = .int .i64 j ∧ Hid (∃ F S, Hd w wr fb F j S)) (fun i _ => os.length - (intOf i).toNat)
  case atStart => exact ⟨0, Nat.zero_le _, rfl, HI⟩
  case round =>
    obtain ⟨j, hj, rfl, HJ⟩ := hrel
    obtain ⟨F, S, hF⟩ := HJ.out
    by_cases hlt : j < os.length
    · have HF := Lib.hid hF
      have hx : os[j]? = some os[j] := List.getElem?_eq_getElem hlt
      generalize os[j] = o at hx
      obtain ⟨_, _, ea, hrd⟩ := HOS.out
      injection ea with ea _ e3
      subst ea e3
      have HX := Lib.hid hx
      have k1 : (0 : Int) ≤ (j : Int) := by omega
      have k2 : (j : Int) < (os.length : Int) := by omega
      clear hx hrd hF
      go_wp2_with (fail)
      refine (d_copy HF.out).mono ?_
      rintro e w4 ⟨gb, rfl, hf, hg, hap, _⟩
      have HF4 := Lib.hid hf
      have HG4 := Lib.hid hg
      have HAP := Lib.hid hap
      clear hf hg hap
      generalize (New wr w4 fun _ => False) = T at HG4 HAP
      obtain ⟨_, _, ea, hrd⟩ := HOS.out.below HF4.out.below
      injection ea with ea _ e3
      subst e3
      obtain ⟨g, off, ba, bcap, e4, ⟨c0, c1, c2, c3, c4⟩, hv, z1, z2⟩ := hrd j o HX.out
      subst e4
      subst ea
      have HV := Lib.hid hv
      clear hv z1 z2 hrd
      go_wp2_with (fail)
      refine (d_told HF4.out (by have := HLM.out; omega) o _ HV.out).mono ?_
      rintro e w5 ⟨rfl, hd, hk⟩
      have HF5 := Lib.hid hd
      have HG5 := Lib.hid (HG4.out.other hk HAP.out hd.below)
      have HER : Hid ((F.told o).2 ≠ 0 → (F.told o).1.files = F.files ∧ (F.told o).1.steps = F.steps) := Lib.hid (told_err o)
      clear hd hk c0 c1 c2 c3 c4
      generalize (F.told o).2 = er at HER
      generalize (F.told o).1 = F2 at HF5 HER
      generalize New w4 w5 S = S2 at HF5
      have b1 := HF5.out.ok.fits
      have b2 := HF5.out.ok.room1
      have b3 := HF5.out.ok.used0
      have HIN : Hid (∃ F S, Hd w w5 fb F (j + 1) S) := Lib.hid ⟨_, _, HF5.out⟩
      by_cases he : er = 0
      · subst he
        go_wp2_with (first | (go_at_call 16; (with_reducible refine (d_used HF5.out).mono ?_); rintro e w' ⟨rfl, rfl⟩) | (go_at_call 41; (with_reducible refine (d_room HF5.out).mono ?_); rintro e w' ⟨rfl, rfl⟩))
        go_roundw
        case rel => exact ⟨j + 1, by omega, by go_num, HIN⟩
        case measure => simp [intOf]; omega
      · have hee : (er == 0) = false := beq_eq_false_iff_ne.2 he
        have her := HER.out he
        have HDT : Hid (F2.dataOf = F.dataOf) := Lib.hid (by unfold FsS.dataOf; rw [her.1])
        have hst := her.2
        have HST : Hid (F2.steps = F.steps) := Lib.hid hst
        clear her hst
        go_wp2_with (first | (go_at_call 24; (with_reducible refine (d_alike HF5.out HG5.out HDT.out).mono ?_); rintro e w6 ⟨rfl, hb6⟩; have HF6 := Lib.hid (HF5.out.read hb6); have HG6 := Lib.hid (HG5.out.read hb6); clear hb6) | (go_at_call 38; first | ((with_reducible refine (d_steps HF6.out).mono ?_); rw [HST.out]; rintro e w' ⟨rfl, rfl⟩) | ((with_reducible refine (d_steps HG6.out).mono ?_); rintro e w' ⟨rfl, rfl⟩)) | (go_at_call 16; (with_reducible refine (d_used HF6.out).mono ?_); rintro e w' ⟨rfl, rfl⟩) | (go_at_call 41; (with_reducible refine (d_room HF6.out).mono ?_); rintro e w' ⟨rfl, rfl⟩))
        have HIN : Hid (∃ F S, Hd w w6 fb F (j + 1) S) := Lib.hid ⟨_, _, HF6.out⟩
        go_roundw
        case rel => exact ⟨j + 1, by omega, by go_num, HIN⟩
        case measure => simp [intOf]; omega
    · have HF := Lib.hid hF
      have k2 : ¬ (j : Int) < (os.length : Int) := by omega
      clear hF
      go_wp2_with (fail)
      go_ret
      exact TruePost.hid HB0 HF.out.below
end
end Go.Proofs.Ytmfiibehclbnjaa
