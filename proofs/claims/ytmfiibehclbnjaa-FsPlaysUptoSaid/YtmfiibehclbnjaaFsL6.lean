/- The walk of FsArmed. -/
import Derived.Test.YtmfiibehclbnjaaFsL7
import Derived.IntWalk
namespace Go.Proofs.Ytmfiibehclbnjaa
open Go.RowKit Go.Shelf

section
variable {F : FsS} {k : Nat}
/-- The same, armed. -/
def FsS.arm (F : FsS) (a : Int) : FsS := { F with armed := a }
/-- What an armed one does where an unarmed one comes to P. -/
def ArmedIs (F : FsS) (a : Int) (P Q : FsS × Int) : Prop :=
  (P.1.steps = F.steps ∧ Q = (P.1.arm a, P.2) ∧ P.1.armed = 0 ∧ P.1.down = false) ∨
  (P.1.steps = F.steps + 1 ∧ P.2 = 0 ∧ P.1.armed = 0 ∧ P.1.down = false ∧ Q = if a = 1 then ({ F with armed := 0, down := true }, 5) else (P.1.arm (a - 1), 0))
theorem armed_write {eff : FsS → FsS} (h0 : F.armed = 0) (hd : F.down = false) {a : Int} (ha : 0 < a) (he : ∀ c, eff (F.arm c) = (eff F).arm c) (hs : (eff F).steps = F.steps) (hq : (eff F).down = F.down) : ArmedIs F a (F.write eff) ((F.arm a).write eff) := by
  right
  rw [write_of h0]
  have h1 : (eff F).armed = 0 := by
    have := he 0
    have e : F.arm 0 = F := by unfold FsS.arm; rw [← h0]
    rw [e] at this
    rw [this]; rfl
  refine ⟨by show (eff F).steps + 1 = _; rw [hs], rfl, h1, by show (eff F).down = false; rw [hq, hd], ?_⟩
  unfold FsS.write
  rw [if_pos (show 0 < (F.arm a).armed from ha)]
  by_cases h : a = 1
  · rw [if_pos h, if_pos (show (F.arm a).armed = 1 from h)]; rfl
  · rw [if_neg h, if_neg (show ¬ (F.arm a).armed = 1 from h)]
    have e : ({ F.arm a with armed := (F.arm a).armed - 1 } : FsS) = F.arm (a - 1) := rfl
    rw [e, he]
    rfl
theorem armed_same {a e : Int} (h0 : F.armed = 0) (hd : F.down = false) : ArmedIs F a (F, e) (F.arm a, e) := .inl ⟨rfl, rfl, h0, hd⟩
theorem armed_on {n : ByteArray} {a : Int} {g g' : FileS → FsS × Int} (h0 : F.armed = 0) (hd : F.down = false) (hg : ∀ x, F.find n = some x → ArmedIs F a (g x) (g' x)) : ArmedIs F a (F.on n g) ((F.arm a).on n g') := by
  have hd' : (F.arm a).down = false := hd
  have hf : (F.arm a).find n = F.find n := rfl
  cases hx : F.find n with
  | none =>
    rw [on_none hd hx, on_none hd' (hf.trans hx)]
    exact armed_same h0 hd
  | some x =>
    rw [on_some hd hx, on_some hd' (hf.trans hx)]
    exact hg x hx
theorem armed_told (o : FOp) (ho : o.kind ≤ 5) (h0 : F.armed = 0) (hd : F.down = false) {a : Int} (ha : 0 < a) : ArmedIs F a (F.told o) ((F.arm a).told o) := by
  unfold FsS.told
  by_cases k0 : o.kind = 0
  · rw [if_pos k0, if_pos k0]
    unfold FsS.create
    show ArmedIs F a (if F.down then (F, 5) else if okName o.name = false then (F, 1) else if (F.find o.name).isSome then (F, 3) else if 400 ≤ F.files.length then (F, 4) else F.write fun G => G.set o.name ⟨[], 0⟩)
      (if F.down then (F.arm a, 5) else if okName o.name = false then (F.arm a, 1) else if (F.find o.name).isSome then (F.arm a, 3) else if 400 ≤ F.files.length then (F.arm a, 4) else (F.arm a).write fun G => G.set o.name ⟨[], 0⟩)
    by_cases h9 : F.down = true
    · rw [hd] at h9; cases h9
    rw [if_neg h9, if_neg h9]
    by_cases h1 : okName o.name = false
    · rw [if_pos h1, if_pos h1]; exact armed_same h0 hd
    rw [if_neg h1, if_neg h1]
    by_cases h2 : (F.find o.name).isSome = true
    · rw [if_pos h2, if_pos h2]; exact armed_same h0 hd
    rw [if_neg h2, if_neg h2]
    by_cases h3 : 400 ≤ F.files.length
    · rw [if_pos h3, if_pos h3]; exact armed_same h0 hd
    rw [if_neg h3, if_neg h3]
    exact armed_write h0 hd ha (fun _ => rfl) rfl rfl
  rw [if_neg k0, if_neg k0]
  by_cases k1 : o.kind = 1
  · rw [if_pos k1, if_pos k1]
    refine armed_on h0 hd fun x hx => ?_
    show ArmedIs F a _ (if F.room - F.used < (o.b.length : Int) then _ else _)
    split
    · exact armed_same h0 hd
    · exact armed_write h0 hd ha (fun _ => rfl) rfl rfl
  rw [if_neg k1, if_neg k1]
  by_cases k2 : o.kind = 2
  · rw [if_pos k2, if_pos k2]
    exact armed_on h0 hd fun x hx => armed_write h0 hd ha (fun _ => rfl) rfl rfl
  rw [if_neg k2, if_neg k2]
  by_cases k3 : o.kind = 3
  · rw [if_pos k3, if_pos k3]
    refine armed_on h0 hd fun x hx => ?_
    split
    · exact armed_same h0 hd
    · exact armed_write h0 hd ha (fun _ => rfl) rfl rfl
  rw [if_neg k3, if_neg k3]
  by_cases k4 : o.kind = 4
  · rw [if_pos k4, if_pos k4]
    refine armed_on h0 hd fun x hx => ?_
    split
    · exact armed_same h0 hd
    · refine armed_write h0 hd ha (fun c => ?_) ?_ ?_
      · unfold FsS.moved
        by_cases e : o.name = o.to
        · rw [if_pos e, if_pos e]
        · rw [if_neg e, if_neg e]; rfl
      · unfold FsS.moved; split <;> rfl
      · unfold FsS.moved; split <;> rfl
  rw [if_neg k4, if_neg k4]
  by_cases k5 : o.kind = 5
  · rw [if_pos k5, if_pos k5]
    exact armed_on h0 hd fun x hx => armed_write h0 hd ha (fun _ => rfl) rfl rfl
  rw [if_neg k5, if_neg k5, if_neg (by omega), if_neg (by omega), if_neg (by omega), if_neg (by omega)]
  exact armed_same h0 hd
end
section
variable {w0 w w' : World} {fb k : Nat} {F : FsS} {S : Nat → Prop}
theorem d_arm (h : Hd w0 w fb F k S) (n : Int) (h0 : 1 ≤ n) (h1 : n ≤ 20) : Calls Try.prog 40 #[.pointer (some ⟨fb, 0, none⟩), .int .i64 n] w fun e w' => e = .returned (.tuple #[]) ∧ Hd w0 w' fb (F.arm n) k (New w w' S) ∧ Keeps S w w' := by
  obtain ⟨mb, rs, h2⟩ := h.fs
  refine (f_arm h2 n (by omega) (by omega)).mono ?_
  rintro e w' ⟨rfl, hp⟩
  rw [show max n 0 = n by omega] at hp
  exact ⟨rfl, h.post hp (h.ok.arm (by omega) (by omega)), hp.2⟩
theorem Hd.more (h : Hd w0 w fb F k S) {k' : Nat} (hk : k ≤ k') : Hd w0 w fb F k' S := ⟨h.fs, h.low, h.below, h.ok.mono hk⟩
/-- Two file systems go together, till the armed one goes down. -/
def ArmI (w0 wr : World) (fb gb : Nat) (N : Int) (j : Nat) : Prop :=
  ∃ F S T, Hd w0 wr fb F j S ∧ Hd w0 wr gb (F.arm (N - F.steps)) j T ∧ (∀ i, S i → ¬ T i) ∧ F.armed = 0 ∧ F.down = false ∧ F.steps < N
set_option maxRecDepth 100000 in
set_option maxHeartbeats 8000000 in
theorem l_armed (v : Value) (os : List FOp) (h : FOpsAt w v os) (hm : os.length ≤ maxLen) (m n : Int) (h0 : -9223372036854775808 ≤ m) (h1 : m ≤ 9223372036854775807) (h2 : -9223372036854775808 ≤ n) (h3 : n ≤ 9223372036854775807) :
    Calls Try.prog 8 #[.int .i64 m, v, .int .i64 n] w (TruePost w) := by
  have HOS := Lib.hid h
  have HM := Lib.hid hm
  obtain ⟨a, cap, rfl, hrd⟩ := h
  have HM0 := Lib.hid (And.intro h0 h1)
  have HB0 : Hid (Below w.heap.size w w) := Lib.hid (Below.refl _ _)
  clear hrd hm h0 h1
  go_enter Try.func8, Try.ntmps8
  go_wp2_with (fail)
  refine x_first.mono ?_
  rintro e w1 ⟨rfl, hb⟩
  have HB1 := Lib.hid hb
  clear hb
  go_wp2_with (fail)
  refine (x_few w1 _ os (HOS.out.below HB1.out) HM.out).mono ?_
  rintro e w2 ⟨small, rfl, hs, hb⟩
  have HS := Lib.hid hs
  have HB2 : Hid (Below w.heap.size w w2) := Lib.hid (HB1.out.trans (hb.mono HB1.out.size))
  clear hb hs
  cases small with
  | false =>
    go_wp2_with (fail)
    go_ret
    exact TruePost.hid HB0 HB2.out
  | true =>
  have HLM : Hid (os.length ≤ 300) := Lib.hid (HS.out (by simp))
  have hlm : (os.length : Int) ≤ 300 := by have := HLM.out; omega
  go_wp2_with (fail)
  refine (d_new HB2.out m HM0.out.1 HM0.out.2).mono ?_
  rintro e w3 ⟨fb, rfl, hd, _⟩
  have HF := Lib.hid hd
  clear hd
  go_wp2_with (fail)
  refine (d_new HF.out.below m HM0.out.1 HM0.out.2).mono ?_
  rintro e w4 ⟨gb, rfl, hd, hbl⟩
  have HG := Lib.hid hd
  have HF := Lib.hid (HF.out.read hbl)
  clear hd
  obtain ⟨N, hN, hN1, hN2⟩ : ∃ N : Int, wrap64 ((wrap64 (n.tmod 20 + 20)).tmod 20 + 1) = N ∧ 1 ≤ N ∧ N ≤ 20 := by
    have t1 : -20 < n.tmod 20 ∧ n.tmod 20 < 20 := ⟨by have := Int.lt_tmod_of_pos n (show (0 : Int) < 20 by omega); omega, Int.tmod_lt_of_pos n (by omega)⟩
    have e1 : wrap64 (n.tmod 20 + 20) = n.tmod 20 + 20 := IntWalk.wrap64_in _ (by omega)
    have t2 : 0 ≤ (n.tmod 20 + 20).tmod 20 ∧ (n.tmod 20 + 20).tmod 20 < 20 := ⟨Int.tmod_nonneg _ (by omega), Int.tmod_lt_of_pos _ (by omega)⟩
    refine ⟨_, rfl, ?_, ?_⟩
    · rw [e1, IntWalk.wrap64_in _ (by omega)]; omega
    · rw [e1, IntWalk.wrap64_in _ (by omega)]; omega
  have HN := Lib.hid hN
  clear h2 h3 hN
  go_wp2_with (fail)
  rw [HN.out]
  refine (d_arm HG.out N hN1 hN2).mono ?_
  rintro e w5 ⟨rfl, hd, hk⟩
  have HI : Hid (ArmI w w5 fb gb N 0) := Lib.hid (by
    have ha : ∀ i, New w3 w4 (fun _ => False) i → ¬ New w2 w3 (fun _ => False) i := by
      rintro i (e | e) (e2 | e2)
      · exact e
      · exact e
      · exact e2
      · omega
    refine ⟨FsS.new m, New w2 w3 (fun _ => False), New w4 w5 (New w3 w4 fun _ => False), HF.out.other hk ha hd.below, ?_, fun i hi hn => ?_, rfl, rfl, by show (0 : Int) < N; omega⟩
    · rw [show N - (FsS.new m).steps = N by show N - 0 = N; omega]; exact hd
    · exact new_apart ha HF.out.lt i hn hi)
  clear hd hk hbl
  go_wp2_with (fail)
  go_loopw [11] (fun i wr => ∃ j : Nat, j ≤ os.length ∧ i = .int .i64 j ∧ Hid (ArmI w wr fb gb N j)) (fun i _ => os.length - (intOf i).toNat)
  case atStart => exact ⟨0, Nat.zero_le _, rfl, HI⟩
  case round =>
    obtain ⟨j, hj, rfl, HJ⟩ := hrel
    obtain ⟨F, S, T, hF, hG, hST, hA, hD, hS⟩ := HJ.out
    have HF := Lib.hid hF
    have HG := Lib.hid hG
    have HST := Lib.hid hST
    have HP := Lib.hid (And.intro hA (And.intro hD hS))
    have hS0 := hF.ok.steps0
    clear hF hG hST hA hD hS
    by_cases hlt : j < os.length
    · have hx : os[j]? = some os[j] := List.getElem?_eq_getElem hlt
      generalize os[j] = o at hx
      obtain ⟨_, _, ea, hrd⟩ := HOS.out.below HF.out.below
      injection ea with ea _ e3
      subst ea e3
      obtain ⟨g, off, ba, bcap, e4, ⟨c0, c1, c2, c3, c4⟩, hv, z1, z2⟩ := hrd j o hx
      subst e4
      have HX := Lib.hid hx
      have k1 : (0 : Int) ≤ (j : Int) := by omega
      have k2 : (j : Int) < (os.length : Int) := by omega
      clear hx hrd hv z1 z2
      by_cases h5 : (5 : Int) < o.kind
      · have HN2 : Hid (ArmI w wr fb gb N (j + 1)) := Lib.hid ⟨F, S, T, HF.out.more (Nat.le_succ j), HG.out.more (Nat.le_succ j), HST.out, HP.out.1, HP.out.2.1, HP.out.2.2⟩
        clear c1 c2 c3 c4
        go_wp2_with (fail)
        go_roundw
        case rel => exact ⟨j + 1, by omega, by go_num, HN2⟩
        case measure => simp [intOf]; omega
      · clear c1 c2 c3 c4
        go_wp2_with (fail)
        refine (d_copy HG.out).mono ?_
        rintro e w6 ⟨hb, rfl, hg, hh, hap, hbl⟩
        have HG6 := Lib.hid hg
        have HH6 := Lib.hid hh
        have HF6 := Lib.hid (HF.out.read hbl)
        have HTU := Lib.hid hap
        have HSU : Hid (∀ i, S i → ¬ New wr w6 (fun _ => False) i) := Lib.hid (by
          rintro i hi (e | e)
          · exact e
          · have := HF.out.lt i hi; omega)
        clear hg hh hap hbl c0
        generalize (New wr w6 fun _ => False) = U at HH6 HTU HSU
        obtain ⟨_, _, ea, hrd⟩ := HOS.out.below HF6.out.below
        injection ea with ea _ e3
        obtain ⟨g', off', ba', bcap', e4, ⟨c0, c1, c2, c3, c4⟩, hv, z1, z2⟩ := hrd j o HX.out
        rw [← ea] at e4
        simp only [Option.some.injEq, Addr.mk.injEq, and_true] at e4
        obtain ⟨rfl, rfl⟩ := e4
        have HV := Lib.hid hv
        clear hv z1 z2 hrd ea e3
        go_wp2_with (fail)
        refine (d_told HF6.out (by have := HLM.out; omega) o _ HV.out).mono ?_
        rintro e w7 ⟨rfl, hd, hk⟩
        have HF7 := Lib.hid hd
        have HG7 := Lib.hid (HG6.out.other hk HST.out hd.below)
        have HH7 := Lib.hid (HH6.out.other hk HSU.out hd.below)
        have HST7 := Lib.hid (new_apart (w := w6) (w' := w7) HST.out HG6.out.lt)
        have HSU7 := Lib.hid (new_apart (w := w6) (w' := w7) HSU.out HH6.out.lt)
        clear hd hk c0 c1 c2 c3 c4
        generalize New w6 w7 S = S7 at HF7 HST7 HSU7
        obtain ⟨_, _, ea, hrd⟩ := HOS.out.below HF7.out.below
        injection ea with ea _ e3
        obtain ⟨g', off', ba', bcap', e4, ⟨c0, c1, c2, c3, c4⟩, hv, z1, z2⟩ := hrd j o HX.out
        rw [← ea] at e4
        simp only [Option.some.injEq, Addr.mk.injEq, and_true] at e4
        obtain ⟨rfl, rfl⟩ := e4
        have HV := Lib.hid hv
        clear hv z1 z2 hrd ea e3
        go_wp2_with (fail)
        refine (d_told HG7.out (by have := HLM.out; omega) o _ HV.out).mono ?_
        have hat := armed_told o (show o.kind ≤ 5 by omega) HP.out.1 HP.out.2.1 (show 0 < N - F.steps by have := HP.out.2.2; omega)
        rintro e w8 ⟨rfl, hd, hk⟩
        have HF8 := Lib.hid (HF7.out.other hk (fun i e1 e2 => HST7.out i e2 e1) hd.below)
        have HH8 := Lib.hid (HH7.out.other hk HTU.out hd.below)
        have HTS8 := Lib.hid (new_apart (w := w7) (w' := w8) (fun i e1 e2 => HST7.out i e2 e1) HF7.out.lt)
        generalize New w7 w8 T = T8 at hd HTS8
        generalize (F.arm (N - F.steps)).told o = Q at hat hd ⊢
        generalize F.told o = P at hat HF8 HF7 ⊢
        obtain ⟨P1, P2⟩ := P
        clear hk c0 c1 c2 c3 c4
        rcases hat with ⟨hs, rfl, ha, hdn⟩ | ⟨hs, he, ha, hdn, hQ⟩
        · simp only at hs ha hdn hd ⊢
          have HG8 := Lib.hid hd
          have HN2 : Hid (ArmI w w8 fb gb N (j + 1)) := Lib.hid ⟨P1, S7, T8, HF8.out, by rw [hs]; exact hd, fun i e1 e2 => HTS8.out i e2 e1, ha, hdn, by rw [hs]; exact HP.out.2.2⟩
          have hne : (P1.steps == N) = false := beq_eq_false_iff_ne.2 (by rw [hs]; have := HP.out.2.2; omega)
          clear hs ha hdn hd
          go_wp2_with (first | (go_at_call 38; (with_reducible refine (d_steps HF8.out).mono ?_); rintro e w' ⟨rfl, rfl⟩))
          go_roundw
          case rel => exact ⟨j + 1, by omega, by go_num, HN2⟩
          case measure => simp [intOf]; omega
        · simp only at hs he ha hdn
          subst he
          by_cases h1 : N - F.steps = 1
          · rw [if_pos h1] at hQ
            subst hQ
            have hst : P1.steps = N := by omega
            have HG8 := Lib.hid hd
            have HDN := Lib.hid hdn
            have HST := Lib.hid hst
            clear hs ha hdn hst hd
            go_wp2_with (first | (go_at_call 38; (with_reducible refine (d_steps HF8.out).mono ?_); rw [HST.out]; rintro e w' ⟨rfl, rfl⟩) | (go_at_call 24; (with_reducible refine (d_alike HG8.out HH8.out rfl).mono ?_); rintro e w9 ⟨rfl, hb9⟩; have HF9 := Lib.hid (HF8.out.read hb9); clear hb9) | (go_at_call 35; first | ((with_reducible refine (d_down HG8.out).mono ?_); rintro e w' ⟨rfl, rfl⟩) | ((with_reducible refine (d_down HF9.out).mono ?_); rw [HDN.out]; rintro e w' ⟨rfl, rfl⟩)))
            go_ret
            exact TruePost.hid HB0 HF9.out.below
          · rw [if_neg h1] at hQ
            subst hQ
            simp only at hd ⊢
            have HN2 : Hid (ArmI w w8 fb gb N (j + 1)) := Lib.hid ⟨P1, S7, T8, HF8.out, by rw [show N - P1.steps = N - F.steps - 1 by omega]; exact hd, fun i e1 e2 => HTS8.out i e2 e1, ha, hdn, by have := HP.out.2.2; omega⟩
            have hne : (P1.steps == N) = false := beq_eq_false_iff_ne.2 (by have := HP.out.2.2; omega)
            clear hs ha hdn hd
            go_wp2_with (first | (go_at_call 38; (with_reducible refine (d_steps HF8.out).mono ?_); rintro e w' ⟨rfl, rfl⟩))
            go_roundw
            case rel => exact ⟨j + 1, by omega, by go_num, HN2⟩
            case measure => simp [intOf]; omega
    · have k2 : ¬ (j : Int) < (os.length : Int) := by omega
      have HGD : Hid ((F.arm (N - F.steps)).down = false) := Lib.hid HP.out.2.1
      go_wp2_with (first | (go_at_call 35; (with_reducible refine (d_down HG.out).mono ?_); rw [HGD.out]; rintro e w' ⟨rfl, rfl⟩) | (go_at_call 24; (with_reducible refine (d_alike HF.out HG.out rfl).mono ?_); rintro e w9 ⟨rfl, hb9⟩; have HF9 := Lib.hid (HF.out.read hb9); clear hb9))
      go_ret
      exact TruePost.hid HB0 HF9.out.below
end
end Go.Proofs.Ytmfiibehclbnjaa
