/- The walks of a JSON reader's small functions: must, may, blanks, begins, some. -/
import Derived.Test.YthjcolehccbihaaGreatDoorJe
import Derived.Deep.LoopGhost
namespace Go.Proofs.YthjcolehccbihaaGreatDoor
open Go.RowKit Go.Shelf

/-- What a call on a reader comes to. -/
def ROut {α : Type} (rb : Nat) (bv : Value) (bs : List UInt8) (w : World) (V : World → Value → α → Prop) (o : Out α) (e : Ending) (w' : World) : Prop :=
  match o with
  | .ok x r => (∃ v, e = .returned v ∧ V w' v x) ∧ Rdr w' rb bv bs r ∧ Keeps (Only rb) w w'
  | .bad p er => e = faultE ((bs.length - p : Nat) : Int) (er : Int) ∧ Keeps (Only rb) w w'
/-- No result. -/
def VUnit (_ : World) (v : Value) (_ : Unit) : Prop := v = .tuple #[]
theorem tailSuf {c : UInt8} {r bs : List UInt8} (h : (c :: r) <:+ bs) : r <:+ bs := (suf_cons c r).trans h
theorem ix_neg (l : List UInt8) (c : UInt8) : decide (Lib.indexByte l c < 0) = !l.contains c := by
  induction l with
  | nil => simp [Lib.indexByte]
  | cons b l ih =>
    have hg := Lib.indexByte_ge l c
    unfold Lib.indexByte
    by_cases hb : (b == c) = true
    · have : b = c := by simpa using hb
      rw [if_pos hb]; simp [this]
    · have hb' : ¬ c = b := by intro e; exact hb (by simp [e])
      rw [if_neg hb]
      have e : (b :: l).contains c = l.contains c := by simp [hb']
      rw [e]
      by_cases h1 : (Lib.indexByte l c == -1) = true
      · have h1' : Lib.indexByte l c = -1 := by simpa using h1
        rw [if_pos h1]
        rw [h1'] at ih
        exact ih
      · have h1' : Lib.indexByte l c ≠ -1 := by simpa using h1
        rw [if_neg h1, ← ih]
        simp only [decide_eq_decide]; omega
theorem toByte (c : UInt8) : ((c.toNat : Int)).toNat.toUInt8 = c := by simp
section
variable {w : World} {rb : Nat} {bv : Value} {bs l : List UInt8}
set_option maxRecDepth 100000 in
theorem j_must (c : UInt8) (h : Rdr w rb bv bs l) : Calls Tryz.prog 76 #[.pointer (some ⟨rb, 0, none⟩), .int .u8 (c.toNat : Int)] w (ROut rb bv bs w VUnit (musts [c] l)) := by
  have HW := Lib.hid h
  obtain ⟨a, cap, k, rfl, hk, hkl, c0, c1, f1⟩ := h.parts
  cases l with
  | nil =>
    have ht : (((k : Nat) : Int) == ((bs.length : Nat) : Int)) = true := by simp at hkl ⊢; omega
    have HK := Lib.hid hk
    clear hk hkl h
    go_enter Tryz.func76, Tryz.ntmps76
    go_wp2_with (fail)
    go_quiet (fail)
    go_wp2_with (fail)
    refine (j_wrong (HW.out.below (below_drewN _ _ _))).mono ?_
    rintro e w' ⟨rfl, rfl⟩
    refine leave_panic rfl ?_
    exact ⟨rfl, (Keeps.refl _ _).drewN _⟩
  | cons d l =>
    obtain ⟨g, off, rfl, c2⟩ := h.byte hk rfl
    have ht : (((k : Nat) : Int) == ((bs.length : Nat) : Int)) = false := by simp at hkl ⊢; omega
    have hlt : (k : Int) < (bs.length : Int) := by simp at hkl; omega
    have hk1 : (k : Int) + 1 ≤ 1000000 := by have := h.len; omega
    have HK := Lib.hid hk
    have HN : Hid (((bs.length - l.length : Nat) : Int) = (k : Int) + 1) := Lib.hid (by simp at hkl; omega)
    clear hk hkl h
    by_cases hd : d = c
    · subst hd
      have hne : ((d.toNat : Int) != (d.toNat : Int)) = false := by simp
      go_enter Tryz.func76, Tryz.ntmps76
      go_wp2_with (fail)
      go_quiet (fail)
      go_wp2
      go_end0
      have e : musts [d] (d :: l) = .ok () l := by simp [musts]
      rw [e]
      exact ⟨⟨_, rfl, rfl⟩, ((HW.out.below (below_drewN _ _ _)).move (tailSuf HW.out.suf) HN.out.symm), ((Keeps.refl _ _).drewN _).trans' (keeps_set _ _ _ _)⟩
    · have hne : ((d.toNat : Int) != (c.toNat : Int)) = true := by
        have : ¬ d.toNat = c.toNat := fun e => hd (UInt8.toNat_inj.1 e)
        simp; omega
      have e : musts [c] (d :: l) = .bad (l.length + 1) 11 := by simp [musts, hd]
      rw [e]
      clear e hd
      go_enter Tryz.func76, Tryz.ntmps76
      go_wp2_with (fail)
      go_quiet (fail)
      go_wp2_with (fail)
      refine (j_wrong (HW.out.below (below_drewN _ _ _))).mono ?_
      rintro e w' ⟨rfl, rfl⟩
      refine leave_panic rfl ?_
      exact ⟨rfl, (Keeps.refl _ _).drewN _⟩
/-- May: one of some bytes. -/
theorem j_may {p : UInt8 → Bool} {s : ByteArray} (hp : ∀ c, s.data.toList.contains c = p c) (h : Rdr w rb bv bs l) : Calls Tryz.prog 69 #[.pointer (some ⟨rb, 0, none⟩), .string s] w fun e w' =>
    e = .returned (.bool (mayBe p l).1) ∧ Rdr w' rb bv bs (mayBe p l).2 ∧ Keeps (Only rb) w w' := by
  have HW := Lib.hid h
  obtain ⟨a, cap, k, rfl, hk, hkl, c0, c1, f1⟩ := h.parts
  cases l with
  | nil =>
    have ht : (((k : Nat) : Int) == ((bs.length : Nat) : Int)) = true := by simp at hkl ⊢; omega
    have HK := Lib.hid hk
    clear hk hkl h hp
    go_enter Tryz.func69, Tryz.ntmps69
    go_wp2_with (fail)
    go_quiet (fail)
    go_wp2
    go_ret
    exact ⟨rfl, HW.out.below (below_drewN _ _ _), (Keeps.refl _ _).drewN _⟩
  | cons d l =>
    obtain ⟨g, off, rfl, c2⟩ := h.byte hk rfl
    have ht : (((k : Nat) : Int) == ((bs.length : Nat) : Int)) = false := by simp at hkl ⊢; omega
    have hlt : (k : Int) < (bs.length : Int) := by simp at hkl; omega
    have hk1 : (k : Int) + 1 ≤ 1000000 := by have := h.len; omega
    have HK := Lib.hid hk
    have HN : Hid (((bs.length - l.length : Nat) : Int) = (k : Int) + 1) := Lib.hid (by simp at hkl; omega)
    obtain ⟨i, hi⟩ : ∃ i, i = Lib.indexByte s.data.toList d := ⟨_, rfl⟩
    have HX : Hid (∀ W, Calls Tryz.prog 96 #[.string s, .int .u8 (d.toNat : Int)] W fun e w' => e = .returned (.int .i64 i) ∧ w' = W) := Lib.hid fun W => by
      have := Tryz.strings_IndexByte s (d.toNat : Int) W
      rw [toByte, ← hi] at this
      exact this
    have hq : decide (i < 0) = !p d := by rw [hi, ix_neg, hp]
    have hb0 : 0 ≤ (d.toNat : Int) := by omega
    clear hi hp
    cases hpd : p d with
    | false =>
      rw [hpd] at hq
      have hq : decide (i < 0) = true := hq
      have e : mayBe p (d :: l) = (false, d :: l) := by unfold mayBe; dsimp only; rw [hpd]; rfl
      rw [e]
      clear hk hkl h e hpd
      go_enter Tryz.func69, Tryz.ntmps69
      go_wp2_with (fail)
      go_quiet ((go_at_call 96; exact Calls.quiet_of_same (HX.out _)))
      go_wp2
      go_ret
      exact ⟨rfl, HW.out.below (below_drewN _ _ _), (Keeps.refl _ _).drewN _⟩
    | true =>
      rw [hpd] at hq
      have hq : decide (i < 0) = false := hq
      have e : mayBe p (d :: l) = (true, l) := by unfold mayBe; dsimp only; rw [hpd]; rfl
      rw [e]
      clear hk hkl h e hpd
      go_enter Tryz.func69, Tryz.ntmps69
      go_wp2_with (fail)
      go_quiet ((go_at_call 96; exact Calls.quiet_of_same (HX.out _)))
      go_wp2
      go_ret
      exact ⟨rfl, ((HW.out.below (below_drewN _ _ _)).move (tailSuf HW.out.suf) HN.out.symm), ((Keeps.refl _ _).drewN _).trans' (keeps_set _ _ _ _)⟩
theorem j_begins (h : Rdr w rb bv bs l) : Calls Tryz.prog 97 #[.pointer (some ⟨rb, 0, none⟩)] w fun e w' => e = .returned (.bool (begins l)) ∧ ∃ n, w' = w.drewN n := by
  obtain ⟨a, cap, k, rfl, hk, hkl, c0, c1, f1⟩ := h.parts
  cases l with
  | nil =>
    have ht : decide (k < bs.length) = false := by simp at hkl ⊢; omega
    clear hk hkl h
    go_enter Tryz.func97, Tryz.ntmps97
    go_wp2_with (fail)
    go_quiet (fail)
    go_wp2
    go_ret
    exact ⟨rfl, _, rfl⟩
  | cons d l =>
    obtain ⟨g, off, rfl, c2⟩ := h.byte hk rfl
    have ht : decide (k < bs.length) = true := by simp at hkl ⊢; omega
    have hlt : (k : Int) < (bs.length : Int) := by simp at hkl; omega
    obtain ⟨s, hs⟩ : ∃ s : ByteArray, s = ⟨#[123, 91, 34, 45, 48, 49, 50, 51, 52, 53, 54, 55, 56, 57, 110, 102, 116]⟩ := ⟨_, rfl⟩
    obtain ⟨i, hi⟩ : ∃ i, i = Lib.indexByte s.data.toList d := ⟨_, rfl⟩
    have HX : Hid (∀ W, Calls Tryz.prog 96 #[.string s, .int .u8 (d.toNat : Int)] W fun e w' => e = .returned (.int .i64 i) ∧ w' = W) := Lib.hid fun W => by
      have := Tryz.strings_IndexByte s (d.toNat : Int) W
      rw [toByte, ← hi] at this
      exact this
    rw [hs] at HX
    have hq : decide (0 ≤ i) = begins (d :: l) := by
      have h1 : decide (i < 0) = !s.data.toList.contains d := by rw [hi, ix_neg]
      have h2 : s.data.toList.contains d = begins (d :: l) := by
        rw [hs]
        have : ∀ n : Fin 256, (([123, 91, 34, 45, 48, 49, 50, 51, 52, 53, 54, 55, 56, 57, 110, 102, 116] : List UInt8).contains (UInt8.ofNat n.val)) = begins [UInt8.ofNat n.val] := by decide +kernel
        have h3 := this ⟨d.toNat, d.toNat_lt⟩
        rw [show begins (d :: l) = begins [d] from rfl]
        simpa using h3
      rw [← h2]
      cases hc : s.data.toList.contains d with
      | true => rw [hc] at h1; simp at h1; simpa using h1
      | false => rw [hc] at h1; simp at h1; simp; omega
    obtain ⟨b, hb⟩ : ∃ b, b = begins (d :: l) := ⟨_, rfl⟩
    have HB := Lib.hid hb
    rw [← hb] at hq
    rw [← hb]
    clear hk hkl h hs hi hb
    go_enter Tryz.func97, Tryz.ntmps97
    go_wp2_with (fail)
    go_quiet ((go_at_call 96; exact Calls.quiet_of_same (HX.out _)))
    go_wp2
    go_ret
    exact ⟨rfl, _, rfl⟩
theorem by_bytes {p q : UInt8 → Bool} (h : ∀ n : Fin 256, p (UInt8.ofNat n.val) = q (UInt8.ofNat n.val)) (c : UInt8) : p c = q c := by
  have h3 := h ⟨c.toNat, c.toNat_lt⟩
  simpa using h3
theorem by_bytesP {p : UInt8 → Prop} (h : ∀ n : Fin 256, p (UInt8.ofNat n.val)) (c : UInt8) : p c := by
  have h3 := h ⟨c.toNat, c.toNat_lt⟩
  simpa using h3
theorem blank_set : ∀ c : UInt8, ([32, 9, 10, 13] : List UInt8).contains c = isBlank c := by_bytes (by decide +kernel)
theorem blanks_step {l : List UInt8} (h : (mayBe isBlank l).1 = true) : blanks (mayBe isBlank l).2 = blanks l ∧ (mayBe isBlank l).2.length < l.length := by
  cases l with
  | nil => simp [mayBe] at h
  | cons c l =>
    cases hc : isBlank c with
    | false => simp [mayBe, hc] at h
    | true => simp [mayBe, hc, blanks]
theorem blanks_stop {l : List UInt8} (h : (mayBe isBlank l).1 = false) : (mayBe isBlank l).2 = blanks l := by
  cases l with
  | nil => rfl
  | cons c l =>
    cases hc : isBlank c with
    | false => simp [mayBe, hc, blanks]
    | true => simp [mayBe, hc] at h
set_option maxRecDepth 100000 in
theorem j_blanks (h : Rdr w rb bv bs l) : Calls Tryz.prog 38 #[.pointer (some ⟨rb, 0, none⟩)] w fun e w' => e = .returned (.tuple #[]) ∧ Rdr w' rb bv bs (blanks l) ∧ Keeps (Only rb) w w' := by
  have HW := Lib.hid h
  clear h
  go_enter Tryz.func38, Tryz.ntmps38
  go_wp2_with (fail)
  go_loopg [2] l.length (fun gk _ wx => ∃ l', Hid (l'.length ≤ gk) ∧ Hid (Rdr wx rb bv bs l') ∧ Hid (blanks l' = blanks l) ∧ Hid (Keeps (Only rb) w wx))
  case atStart => exact ⟨l, Lib.hid (Nat.le_refl _), HW, Lib.hid rfl, Lib.hid (Keeps.refl _ _)⟩
  case round =>
    obtain ⟨l', HG, HR, HB, HK⟩ := hrel
    have HM := Lib.hid (j_may (p := isBlank) (s := ⟨#[32, 9, 10, 13]⟩) blank_set HR.out)
    obtain ⟨b, hb⟩ : ∃ b, b = (mayBe isBlank l').1 := ⟨_, rfl⟩
    rw [← hb] at HM
    have HBB := Lib.hid hb
    clear hb
    go_wp2_with (fail)
    refine HM.out.mono ?_
    rintro e w' ⟨rfl, hr, hk⟩
    have HR2 := Lib.hid hr
    have HK2 := Lib.hid hk
    clear hr hk
    cases b with
    | true =>
      have HS := Lib.hid (blanks_step HBB.out.symm)
      go_wp2_with (fail)
      go_roundg ((mayBe isBlank l').2.length)
      case measure => have := HS.out.2; have := HG.out; omega
      case rel => exact ⟨_, Lib.hid (Nat.le_refl _), HR2, Lib.hid (HS.out.1.trans HB.out), Lib.hid (HK.out.trans' HK2.out)⟩
    | false =>
      have HS := Lib.hid (blanks_stop HBB.out.symm)
      go_wp2_with (fail)
      go_end0
      refine ⟨rfl, ?_, HK.out.trans' HK2.out⟩
      rw [← HB.out, ← HS.out]
      exact HR2.out
theorem digit_set : ∀ c : UInt8, ([48, 49, 50, 51, 52, 53, 54, 55, 56, 57] : List UInt8).contains c = isDigit c := by_bytes (by decide +kernel)
theorem digits_step {l : List UInt8} (h : (mayBe isDigit l).1 = true) : digits (mayBe isDigit l).2 = digits l ∧ (mayBe isDigit l).2.length < l.length := by
  cases l with
  | nil => simp [mayBe] at h
  | cons c l =>
    cases hc : isDigit c with
    | false => simp [mayBe, hc] at h
    | true => simp [mayBe, hc, digits]
theorem digits_stop {l : List UInt8} (h : (mayBe isDigit l).1 = false) : (mayBe isDigit l).2 = digits l := by
  cases l with
  | nil => rfl
  | cons c l =>
    cases hc : isDigit c with
    | false => simp [mayBe, hc, digits]
    | true => simp [mayBe, hc] at h
theorem some1_eq (l : List UInt8) : some1 l = if (mayBe isDigit l).1 then .ok () (digits (mayBe isDigit l).2) else .bad l.length 11 := by
  cases l with
  | nil => rfl
  | cons c l => cases hc : isDigit c <;> simp [some1, mayBe, hc]
theorem mayBe_no {p : UInt8 → Bool} {l : List UInt8} (h : (mayBe p l).1 = false) : (mayBe p l).2 = l := by
  cases l with
  | nil => rfl
  | cons c l =>
    cases hc : p c with
    | false => simp [mayBe, hc]
    | true => simp [mayBe, hc] at h
set_option maxRecDepth 100000 in
theorem j_some (h : Rdr w rb bv bs l) : Calls Tryz.prog 102 #[.pointer (some ⟨rb, 0, none⟩)] w (ROut rb bv bs w VUnit (some1 l)) := by
  have HM := Lib.hid (j_may (p := isDigit) (s := ⟨#[48, 49, 50, 51, 52, 53, 54, 55, 56, 57]⟩) digit_set h)
  rw [some1_eq]
  obtain ⟨b, hb⟩ : ∃ b, b = (mayBe isDigit l).1 := ⟨_, rfl⟩
  rw [← hb] at HM
  have HBB := Lib.hid hb
  rw [← hb]
  clear hb h
  cases b with
  | false =>
    go_enter Tryz.func102, Tryz.ntmps102
    go_wp2_with (fail)
    refine HM.out.mono ?_
    rintro e w' ⟨rfl, hr, hk⟩
    have HR2 := Lib.hid hr
    have HK2 := Lib.hid hk
    clear hr hk
    go_wp2_with (fail)
    refine (j_wrong HR2.out).mono ?_
    rintro e w' ⟨rfl, rfl⟩
    refine leave_panic rfl ?_
    rw [mayBe_no HBB.out.symm]
    exact ⟨rfl, HK2.out⟩
  | true =>
    obtain ⟨l0, hl0⟩ : ∃ l0, l0 = (mayBe isDigit l).2 := ⟨_, rfl⟩
    rw [← hl0] at HM
    rw [if_pos rfl, ← hl0]
    clear hl0
    go_enter Tryz.func102, Tryz.ntmps102
    go_wp2_with (fail)
    refine HM.out.mono ?_
    rintro e w' ⟨rfl, hr, hk⟩
    have HR2 := Lib.hid hr
    have HK2 := Lib.hid hk
    clear hr hk
    go_wp2_with (fail)
    go_loopg [7] l0.length (fun gk _ wx => ∃ l', Hid (l'.length ≤ gk) ∧ Hid (Rdr wx rb bv bs l') ∧ Hid (digits l' = digits l0) ∧ Hid (Keeps (Only rb) w wx))
    case atStart => exact ⟨l0, Lib.hid (Nat.le_refl _), HR2, Lib.hid rfl, HK2⟩
    case round =>
      obtain ⟨l', HG, HR, HB, HK⟩ := hrel
      have HM := Lib.hid (j_may (p := isDigit) (s := ⟨#[48, 49, 50, 51, 52, 53, 54, 55, 56, 57]⟩) digit_set HR.out)
      obtain ⟨b, hb⟩ : ∃ b, b = (mayBe isDigit l').1 := ⟨_, rfl⟩
      rw [← hb] at HM
      have HBB := Lib.hid hb
      clear hb
      go_wp2_with (fail)
      refine HM.out.mono ?_
      rintro e w' ⟨rfl, hr, hk⟩
      have HR2 := Lib.hid hr
      have HK2 := Lib.hid hk
      clear hr hk
      cases b with
      | true =>
        have HS := Lib.hid (digits_step HBB.out.symm)
        go_wp2_with (fail)
        go_roundg ((mayBe isDigit l').2.length)
        case measure => have := HS.out.2; have := HG.out; omega
        case rel => exact ⟨_, Lib.hid (Nat.le_refl _), HR2, Lib.hid (HS.out.1.trans HB.out), Lib.hid (HK.out.trans' HK2.out)⟩
      | false =>
        have HS := Lib.hid (digits_stop HBB.out.symm)
        go_wp2_with (fail)
        go_end0
        refine ⟨⟨_, rfl, rfl⟩, ?_, HK.out.trans' HK2.out⟩
        rw [← HB.out, ← HS.out]
        exact HR2.out
end
end Go.Proofs.YthjcolehccbihaaGreatDoor
