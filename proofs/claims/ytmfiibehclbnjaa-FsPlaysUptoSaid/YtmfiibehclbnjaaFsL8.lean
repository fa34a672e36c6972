/- The walk of FsPlays. -/
import Derived.Test.YtmfiibehclbnjaaRfX
import Derived.Test.YtmfiibehclbnjaaFsL6
import Derived.Test.YtmfiibehclbnjaaFsL3
namespace Go.Proofs.Ytmfiibehclbnjaa
open Go.RowKit Go.Shelf

section
variable {w0 w w' : World} {fb rb k k' : Nat} {F G : FsS} {S R T : Nat → Prop}
/-- Both at their beginning. -/
theorem mid_new {w1 w2 : World} (h : Hd w0 w1 fb F k S) (hr : RefAt w2 rb F (New w1 w2 fun _ => False) (.slice none 0 0) []) (hb : Below w1.heap.size w1 w2) : Mid w0 w2 fb rb F F k S (New w1 w2 fun _ => False) :=
  ⟨h.read hb, ⟨_, _, hr⟩, fun i hi e => by
    rcases e with e | e
    · exact e
    · have := h.fs.lt i hi; omega, fun i e => by
    rcases e with e | e
    · exact e.elim
    · have := h.below.size; omega⟩
/-- A copy takes its place. -/
theorem mid_copy {w1 w2 w3 : World} {hb : Nat} (h : Mid w0 w fb rb F F k S R) (hh : Hd w0 w1 hb F k (New w w1 fun _ => False)) (hap : ∀ i, S i → ¬ New w w1 (fun _ => False) i) (hbl : Below w.heap.size w w1)
    (hS1 : ∀ i, S i → i < w1.heap.size) (hk1 : Keeps S w1 w2) (hk2 : Keeps (New w1 w2 S) w2 w3) (hlow : ∀ i, S i → w0.heap.size ≤ i) (hb3 : Below w0.heap.size w0 w3) : Mid w0 w3 hb rb F F k (New w w1 fun _ => False) R := by
  have hap2 : ∀ i, New w1 w2 S i → ¬ New w w1 (fun _ => False) i := new_apart hap hh.fs.lt
  have hsz := h.fs.below.size
  obtain ⟨lv, rs, hr⟩ := (h.read hbl).ref
  have hr2 := hr.keeps hk1 h.apart
  have hr3 := hr2.keeps hk2 (new_apart h.apart hr.lt)
  refine ⟨⟨(hh.fs.keeps hk1 hap).keeps hk2 hap2, hh.low, hb3, hh.ok⟩, ⟨lv, rs, hr3⟩, fun i e1 e2 => ?_, h.low⟩
  rcases e1 with e1 | e1
  · exact e1
  · have := h.rlt i e2; omega
end
section
variable {w : World}
set_option maxRecDepth 100000 in
set_option maxHeartbeats 8000000 in
theorem l_plays (v : Value) (os : List FOp) (h : FOpsAt w v os) (hm : os.length ≤ maxLen) (m : Int) (front : ByteArray) (h0 : -9223372036854775808 ≤ m) (h1 : m ≤ 9223372036854775807) (hz : front.size ≤ 9223372036854775807) (hbulk : ∀ o ∈ os, o.b.length ≤ 100000000) :
    Calls Try.prog 10 #[.int .i64 m, v, .string front] w (TruePost w) := by
  have HOS := Lib.hid h
  have HM := Lib.hid hm
  have HBK := Lib.hid hbulk
  obtain ⟨a, cap, rfl, hrd⟩ := h
  have HZ := Lib.hid hz
  have hz' : (front.size : Int) ≤ 9223372036854775807 := by omega
  have HM0 := Lib.hid (And.intro h0 h1)
  have HB0 : Hid (Below w.heap.size w w) := Lib.hid (Below.refl _ _)
  clear hrd hm hz h0 h1 hbulk
  go_enter Try.func10, Try.ntmps10
  go_wp2_with (fail)
  refine x_first.mono ?_
  rintro e w1 ⟨rfl, hb⟩
  have HB1 := Lib.hid hb
  clear hb
  go_wp2_with (fail)
  refine (x_few w1 _ os (HOS.out.below HB1.out) HM.out).mono ?_
  rintro e w2 ⟨small, rfl, hs, hb⟩
  have HS := Lib.hid hs
  have HB2 : Hid (Below w.heap.size w w2) := Lib.hid (HB1.out.trans (hb.mono HB1.out.size))
  clear hb hs
  cases small with
  | false =>
    go_wp2_with (fail)
    go_ret
    exact TruePost.hid HB0 HB2.out
  | true =>
  by_cases h200 : (20000 : Int) < front.size
  · go_wp2_with (fail)
    go_ret
    exact TruePost.hid HB0 HB2.out
  have HLM : Hid (os.length ≤ 300) := Lib.hid (HS.out (by simp))
  have hlm : (os.length : Int) ≤ 300 := by have := HLM.out; omega
  go_wp2_with (fail)
  refine (d_new HB2.out m HM0.out.1 HM0.out.2).mono ?_
  rintro e w3 ⟨fb, rfl, hd, _⟩
  have HF := Lib.hid hd
  clear hd
  go_wp2_with (fail)
  refine (g_new m HM0.out.1 HM0.out.2).mono ?_
  rintro e w4 ⟨rb, rfl, hr, hbl⟩
  have HI : Hid (∃ F S R, Mid w w4 fb rb F F 0 S R) := Lib.hid ⟨_, _, _, mid_new HF.out hr hbl⟩
  clear hr hbl
  go_wp2_with (fail)
  go_loopw [9, 11] (fun f i wr => ∃ (fb j : Nat), j ≤ os.length ∧ f = .pointer (some ⟨fb, 0, none⟩) ∧ i = .int .i64 j ∧ Hid (∃ F S R, Mid w wr fb rb F F j S R)) (fun _ i _ => os.length - (intOf i).toNat)
  case atStart => exact ⟨fb, 0, Nat.zero_le _, rfl, rfl, HI⟩
  case round =>
    obtain ⟨fb, j, hj, rfl, rfl, HJ⟩ := hrel
    obtain ⟨F, S, R, hmid⟩ := HJ.out
    have HMID := Lib.hid hmid
    clear hmid
    by_cases hlt : j < os.length
    · have hx : os[j]? = some os[j] := List.getElem?_eq_getElem hlt
      generalize os[j] = o at hx
      obtain ⟨_, _, ea, hrd⟩ := HOS.out
      injection ea with ea _ e3
      subst ea e3
      obtain ⟨g, off, ba, bcap, e4, ⟨c0, c1, c2, c3, c4⟩, hv, z1, z2⟩ := hrd j o hx
      subst e4
      have hcc : ∀ a u, w.cell? a = some u → wr.cell? a = some u := fun a u hc => (HMID.out.fs.below.cell (p := a) (World.block_lt_of_cell? w _ hc)).trans hc
      replace c0 := hcc _ _ c0
      replace c1 := hcc _ _ c1
      replace c2 := hcc _ _ c2
      replace c3 := hcc _ _ c3
      replace c4 := hcc _ _ c4
      have HV := Lib.hid (And.intro hv (And.intro z1 (And.intro z2 (HBK.out o (List.mem_of_getElem? hx)))))
      have k1 : (0 : Int) ≤ (j : Int) := by omega
      have k2 : (j : Int) < (os.length : Int) := by omega
      clear hcc hrd hv z1 z2
      by_cases h8 : o.kind = 8
      · rw [h8] at c0
        clear c1 c2 c3 c4
        go_wp2_with (fail)
        refine (d_copy HMID.out.fs).mono ?_
        rintro e w5 ⟨hb, rfl, hf, hh, hap, hbl⟩
        have HF5 := Lib.hid hf
        have HC := Lib.hid (And.intro hh (And.intro hap hbl))
        clear hf hh hap hbl c0
        go_wp2_with (fail)
        refine (d_create HF5.out (by have := HLM.out; omega) _).mono ?_
        rintro e w6 ⟨rfl, hd, hk⟩
        have HD6 := Lib.hid hd
        have HK6 := Lib.hid hk
        clear hd hk
        go_wp2_with (fail)
        refine (d_crash_nil HD6.out).mono ?_
        rintro e w7 ⟨rfl, hd, hk⟩
        have HN2 : Hid (∃ F S R, Mid w w7 hb rb F F (j + 1) S R) := Lib.hid (by
          have := mid_copy HMID.out HC.out.1 HC.out.2.1 HC.out.2.2 HF5.out.fs.lt HK6.out hk HMID.out.fs.low hd.below
          exact ⟨F, _, _, this.fs.more (Nat.le_succ j), this.ref, this.apart, this.low⟩)
        clear hd hk
        go_wp2_with (fail)
        go_roundw
        case rel => exact ⟨hb, j + 1, by omega, rfl, by go_num, HN2⟩
        case measure => simp [intOf]; omega
      · have h8' : (o.kind == 8) = false := beq_eq_false_iff_ne.2 h8
        go_wp2_with (fail)
        refine (x_does HMID.out (by have := HLM.out; omega) o ba bcap HV.out.1 HV.out.2.2.2 HV.out.2.1 HV.out.2.2.1).mono ?_
        rintro e w5 ⟨rfl, S', R', hm2, _, _, _⟩
        have HM2 := Lib.hid hm2
        have HSAME := Lib.hid (x_same hm2)
        clear hm2 c0 c1 c2 c3 c4
        go_wp2_with (first | (go_at_call 44; refine HSAME.out.mono ?_; rintro e w6 ⟨rfl, hb6⟩; have HN2 : Hid (∃ F S R, Mid w w6 fb rb F F (j + 1) S R) := Lib.hid ⟨_, _, _, HM2.out.read hb6⟩; clear hb6))
        go_roundw
        case rel => exact ⟨fb, j + 1, by omega, rfl, by go_num, HN2⟩
        case measure => simp [intOf]; omega
    · have k2 : ¬ (j : Int) < (os.length : Int) := by omega
      clear HJ HI
      rename World => wb
      have HW0 : Hid (WaI wb wb F front (.slice none 0 0) 0) := Lib.hid ⟨SlAt.nil, fun g hg => by simp [Value.ownBlock] at hg, Below.refl _ _⟩
      have hlen : (F.files.length : Int) ≤ 400 := by have := HMID.out.fs.ok.few; omega
      go_wp2_with (fail)
      go_loopw [14, 15] (fun s i wx => ∃ (j : Nat), j ≤ F.files.length ∧ i = .int .i64 j ∧ Hid (WaI wb wx F front s j)) (fun _ i _ => F.files.length - (intOf i).toNat)
      case atStart => exact ⟨0, Nat.zero_le _, rfl, HW0⟩
      case round =>
        obtain ⟨j, hj, rfl, HJ⟩ := hrel
        obtain ⟨lv, rs, hr⟩ := (HMID.out.read HJ.out.below).ref
        have c1 : wr.cell? ⟨rb, 1, none⟩ = some lv := blk_cell hr.blk 1
        have k1 : (0 : Int) ≤ (j : Int) := by omega
        by_cases hlt : j < F.files.length
        · have k2 : (j : Int) < (F.files.length : Int) := by omega
          obtain ⟨⟨n, x⟩, hx⟩ : ∃ y, F.files[j]? = some y := ⟨_, List.getElem?_eq_getElem hlt⟩
          obtain ⟨r, g, off, rc, hrj, hf, hlv, d0, d1, d2⟩ := hr.at_file hx
          subst hlv
          simp only at d0
          have hnl := okName_size2 (HMID.out.fs.ok.valid _ (List.mem_of_getElem? hx))
          have HX := Lib.hid hx
          have HNL : Hid (n.size ≤ 100) := Lib.hid hnl
          clear hrj hf d1 d2 hr hx hnl
          cases hp : Lib.hasPrefix n.data.toList front.data.toList with
          | false =>
            have HB9 : Hid (∀ W, Calls Try.prog 28 #[.string n, .string front] W fun e w' => e = .returned (.bool false) ∧ W = w') := Lib.hid fun W => by
              have := r_begins (w := W) n front (by have := HNL.out; omega) HZ.out
              rwa [hp] at this
            have HN := Lib.hid (HJ.out.skip HX.out hp)
            clear hp
            go_wp2_with (first | (go_at_call 28; refine (HB9.out _).mono ?_; rintro e w' ⟨rfl, rfl⟩))
            go_roundw
            case rel => exact ⟨j + 1, by omega, by go_num, HN⟩
            case measure => simp [intOf]; omega
          | true =>
            have HB9 : Hid (∀ W, Calls Try.prog 28 #[.string n, .string front] W fun e w' => e = .returned (.bool true) ∧ W = w') := Lib.hid fun W => by
              have := r_begins (w := W) n front (by have := HNL.out; omega) HZ.out
              rwa [hp] at this
            obtain ⟨v', w6, hrun, hN, _⟩ := HJ.out.push HMID.out.fs.ok HX.out hp
            have HN := Lib.hid hN
            clear hp hN
            go_wp2_with (first | (go_at_call 28; refine (HB9.out _).mono ?_; rintro e w' ⟨rfl, rfl⟩) | (at_builtin; refine wpList_append_run rfl (.tmp 92) (.tmp 101) 42 rfl _ _ rfl rfl _ _ hrun ?_))
            go_roundw
            case rel => exact ⟨j + 1, by omega, by go_num, HN⟩
            case measure => simp [intOf]; omega
        · have k2 : ¬ (j : Int) < (F.files.length : Int) := by omega
          have hjl : j = F.files.length := by omega
          subst hjl
          obtain ⟨ra, rc, hlv⟩ := hr.shape
          subst hlv
          have HSL : Hid (SlAt textKind 9 wr u14 (namesL front F.files)) := Lib.hid (by have := HJ.out.sl; rwa [List.take_length] at this)
          have hnl : (namesL front F.files).length ≤ 400 := by
            have := namesL_len (front := front) (j := F.files.length) HMID.out.fs.ok
            rwa [List.take_length] at this
          have HDW := Lib.hid (HMID.out.read HJ.out.below).fs
          clear HJ hr
          go_wp2_with (first | (go_at_call 26; refine (s_names HDW.out.fs HDW.out.ok front).mono ?_; rintro e w7 ⟨ta, tc, rfl, ht⟩; have HT := Lib.hid ht; clear ht) | (go_at_call 29; refine (r_sameTexts HT.out.sl.rd (HSL.out.below HT.out.below).rd (by omega)).mono ?_; rintro e w8 ⟨rfl, hb⟩; have HE := Lib.hid (((HDW.out.read HT.out.below).read hb).below); clear hb))
          go_ret
          exact TruePost.hid HB0 HE.out
end
end Go.Proofs.Ytmfiibehclbnjaa
