/- The walks of exref7's reader of numbers. -/
import Derived.Test.YthjcolehccbihaaGreatDoorz02
import Derived.Test.YthjcolehccbihaaGreatDoorz07
import Derived.Test.YthjcolehccbihaaGreatDoorz19
set_option linter.unusedSimpArgs false
set_option linter.unusedVariables false
set_option linter.unusedSectionVars false
namespace Go.Proofs.YthjcolehccbihaaGreatDoor
open Go.RowKit Go.Shelf
/-- A reader of the document's at rb: the text bs, of which s.1 is left; s.2: given up. -/
structure KRd (w : World) (rb : Nat) (bv : Value) (bs : List UInt8) (s : DSt) : Prop where
  blk : ∃ er bd : Int, IsBlk w rb #[bv, .int .i64 ((bs.length - s.1.length : Nat) : Int), .int .i64 er, .int .i64 bd] 150 ∧ (er = 0 ↔ s.2 = false)
  rd : RdAt byteKind w bv bs
  suf : s.1 <:+ bs
  len : bs.length ≤ 1000000
  ne : ∀ g, bv.ownBlock = some g → bs ≠ [] → g ≠ rb
  room : ∀ a n cap, bv = .slice a n cap → bs.length ≤ cap ∧ cap ≤ 9223372036854775807
section
variable {w w' : World} {rb : Nat} {bv : Value} {bs : List UInt8} {s : DSt}
theorem KRd.parts (h : KRd w rb bv bs s) : ∃ (a : Option Addr) (cap k : Nat) (er : Int), bv = .slice a bs.length cap ∧ k = bs.length - s.1.length ∧ k + s.1.length = bs.length ∧ (er = 0 ↔ s.2 = false) ∧
    w.cell? ⟨rb, 0, none⟩ = some (.slice a bs.length cap) ∧ w.cell? ⟨rb, 1, none⟩ = some (.int .i64 (k : Int)) ∧ w.cell? ⟨rb, 2, none⟩ = some (.int .i64 er) ∧ w.frozen? ⟨rb, 1, none⟩ = false ∧ w.frozen? ⟨rb, 2, none⟩ = false ∧ w.frozen? ⟨rb, 3, none⟩ = false ∧ (∃ u, w.cell? ⟨rb, 3, none⟩ = some (.int .i64 u)) := by
  obtain ⟨a, cap, e, -⟩ := h.rd
  obtain ⟨er, bd, hb, he⟩ := h.blk
  have hl := h.suf.length_le
  subst e
  exact ⟨a, cap, _, er, rfl, rfl, by omega, he, blk_cell hb 0, blk_cell hb 1, blk_cell hb 2, blk_free hb 1, blk_free hb 2, blk_free hb 3, bd, blk_cell hb 3⟩
theorem KRd.byte (h : KRd w rb bv bs s) {a : Option Addr} {n cap k : Nat} (hv : bv = .slice a n cap) (hk : k = bs.length - s.1.length) {c : UInt8} {r : List UInt8} (hs : s.1 = c :: r) : ∃ g off, a = some ⟨g, off, none⟩ ∧ w.cell? ⟨g, off + k, none⟩ = some (.int .u8 (c.toNat : Int)) := by
  obtain ⟨t, ht⟩ := h.suf
  have hx : bs[k]? = some c := by
    have hl : bs.length = t.length + s.1.length := by rw [← ht, List.length_append]
    have : k = t.length := by omega
    rw [this, ← ht, hs]
    simp
  have h2 := h.rd
  rw [hv] at h2
  exact byte_cell h2 hx
theorem KRd.keeps {S : Nat → Prop} (h : KRd w rb bv bs s) (hk : Keeps S w w') (hr : ¬ S rb) (hn : ∀ g, bv.ownBlock = some g → bs ≠ [] → ¬ S g) : KRd w' rb bv bs s := by
  obtain ⟨er, bd, hb, he⟩ := h.blk
  exact ⟨⟨er, bd, hk.obj hb hr, he⟩, h.rd.keeps' hk hn, h.suf, h.len, h.ne, h.room⟩
theorem KRd.below (h : KRd w rb bv bs s) (hk : Below w.heap.size w w') : KRd w' rb bv bs s := h.keeps (Keeps.of_below hk) (fun h => h) (fun _ _ _ h => h)
/-- A place farther on. -/
theorem KRd.move (h : KRd w rb bv bs s) {r : List UInt8} (hr : r <:+ bs) {k : Int} (hk : k = ((bs.length - r.length : Nat) : Int)) :
    KRd (w.setCell ⟨rb, 1, none⟩ (.int .i64 k)) rb bv bs (r, s.2) := by
  obtain ⟨er, bd, hb, he⟩ := h.blk
  exact ⟨⟨er, bd, by have := blk_set hb 1 (.int .i64 k); rw [hk] at this ⊢; exact this, he⟩, h.rd.keeps' (keeps_set w rb 1 _) (fun g hg hb => h.ne g hg hb), hr, h.len, h.ne, h.room⟩
theorem k_digit (c : UInt8) : Calls Tryz.prog 160 #[.int .u8 (c.toNat : Int)] w fun e w' => e = .returned (.bool (isDigit c)) ∧ w = w' := by
  have hd : isDigit c = (decide ((48 : Int) ≤ (c.toNat : Int)) && decide ((c.toNat : Int) ≤ 57)) := by
    rw [dig_iff]; unfold oddP
    by_cases h1 : c.toNat < 48 <;> by_cases h2 : 57 < c.toNat <;> simp [h1, h2] <;> omega
  obtain ⟨z, hz⟩ : ∃ z : Int, z = (c.toNat : Int) := ⟨_, rfl⟩
  rw [hd, ← hz]
  clear hz hd
  by_cases h1 : (48 : Int) ≤ z
  · have t1 : decide ((48 : Int) ≤ z) = true := by simpa using h1
    go_enter Tryz.func160, Tryz.ntmps160
    go_wp2_with (fail)
    go_ret
    exact ⟨by simp [t1], rfl⟩
  · have t1 : decide ((48 : Int) ≤ z) = false := by simpa using h1
    go_enter Tryz.func160, Tryz.ntmps160
    go_wp2_with (fail)
    go_ret
    exact ⟨by simp [t1], rfl⟩
theorem k_now (h : KRd w rb bv bs s) : Calls Tryz.prog 130 #[.pointer (some ⟨rb, 0, none⟩)] w fun e w' => e = .returned (.int .u8 ((now s.1).toNat : Int)) ∧ ∃ n, w' = w.drewN n := by
  obtain ⟨a, cap, k, er, rfl, hk, hkl, -, c0, c1, -⟩ := h.parts
  cases hs : s.1 with
  | nil =>
    have ht : ¬ (k : Int) < (bs.length : Int) := by rw [hs] at hkl; simp at hkl; omega
    clear hk hkl h hs
    go_enter Tryz.func130, Tryz.ntmps130
    go_wp2_with (fail)
    go_quiet (fail)
    go_wp2_with (fail)
    go_ret
    exact ⟨rfl, _, rfl⟩
  | cons c r =>
    obtain ⟨g, off, rfl, c2⟩ := h.byte rfl hk hs
    have hlt : (k : Int) < (bs.length : Int) := by rw [hs] at hkl; simp at hkl; omega
    clear hk hkl h hs
    go_enter Tryz.func130, Tryz.ntmps130
    go_wp2_with (fail)
    go_quiet (fail)
    go_wp2_with (fail)
    go_quiet (fail)
    go_wp2
    go_ret
    exact ⟨rfl, _, World.drewN_drewN ..⟩
theorem keeps_drew (rb : Nat) (w : World) (n : Nat) : Keeps (Only rb) w (w.drewN n) := (Keeps.of_below (below_drewN _ w n)).mono fun _ _ h => h.elim
/-- A fault: the first one counts. -/
theorem k_fault (h : KRd w rb bv bs s) (p e : Int) (he : e ≠ 0) : Calls Tryz.prog 132 #[.pointer (some ⟨rb, 0, none⟩), .int .i64 p, .int .i64 e] w fun en w' => en = .returned (.tuple #[]) ∧ KRd w' rb bv bs (s.1, true) ∧ Keeps (Only rb) w w' := by
  have HH := Lib.hid h
  obtain ⟨a, cap, k, er, rfl, hk, hkl, hes, c0, c1, c2, f1, f2, f3, u, c3⟩ := h.parts
  have hst : ∀ x y : Int, x ≠ 0 → KRd ((w.setCell ⟨rb, 2, none⟩ (.int .i64 x)).setCell ⟨rb, 3, none⟩ (.int .i64 y)) rb (.slice a bs.length cap) bs (s.1, true) ∧ Keeps (Only rb) w ((w.setCell ⟨rb, 2, none⟩ (.int .i64 x)).setCell ⟨rb, 3, none⟩ (.int .i64 y)) := fun x y hx => by
    obtain ⟨er', bd, hb, -⟩ := h.blk
    have hkk : Keeps (Only rb) w ((w.setCell ⟨rb, 2, none⟩ (.int .i64 x)).setCell ⟨rb, 3, none⟩ (.int .i64 y)) := (keeps_set w rb 2 _).trans' (keeps_set _ rb 3 _)
    exact ⟨⟨⟨x, y, blk_set (blk_set hb 2 (.int .i64 x)) 3 (.int .i64 y), by simp [hx]⟩, h.rd.keeps' hkk (fun g hg hb => h.ne g hg hb), h.suf, h.len, h.ne, h.room⟩, hkk⟩
  have HST := Lib.hid hst
  have HEN := Lib.hid he
  clear hk hkl h hst he
  by_cases h0 : er = 0
  · subst h0
    clear hes
    go_enter Tryz.func132, Tryz.ntmps132
    go_wp2_with (fail)
    go_end0
    exact ⟨rfl, HST.out e p HEN.out⟩
  · have t0 : (er == 0) = false := by simpa using h0
    have HS : Hid (s = (s.1, true)) := Lib.hid (by
      obtain ⟨l, b⟩ := s
      cases b with
      | true => rfl
      | false => exact absurd (hes.2 rfl) h0)
    clear hes h0
    go_enter Tryz.func132, Tryz.ntmps132
    go_wp2_with (fail)
    go_end0
    exact ⟨rfl, by rw [← HS.out]; exact HH.out, Keeps.refl _ _⟩
set_option maxRecDepth 100000 in
/-- A place farther on, by the code's sum. -/
theorem k_step {c : UInt8} {r : List UInt8} (h : KRd w rb bv bs s) (hs : s.1 = c :: r) {k : Nat} (hk : k = bs.length - s.1.length) : KRd (w.setCell ⟨rb, 1, none⟩ (.int .i64 ((k : Int) + 1))) rb bv bs (r, s.2) ∧ Keeps (Only rb) w (w.setCell ⟨rb, 1, none⟩ (.int .i64 ((k : Int) + 1))) := by
  have hl := h.suf.length_le
  refine ⟨h.move (r := r) ?_ ?_, keeps_set w rb 1 _⟩
  · obtain ⟨t, ht⟩ := h.suf
    exact ⟨t ++ [c], by rw [← ht, hs]; simp⟩
  · rw [hs] at hl hk
    simp at hl hk
    omega
set_option maxRecDepth 100000 in
theorem k_digits (h : KRd w rb bv bs s) : Calls Tryz.prog 131 #[.pointer (some ⟨rb, 0, none⟩)] w fun e w' => e = .returned (.tuple #[]) ∧ KRd w' rb bv bs (dDigits s) ∧ Keeps (Only rb) w w' := by
  have HW := Lib.hid h
  have HN := Lib.hid (k_now h)
  obtain ⟨b, hb⟩ : ∃ b, b = isDigit (now s.1) := ⟨_, rfl⟩
  have HD := Lib.hid (fun w : World => hb ▸ (k_digit (w := w) (now s.1)))
  obtain ⟨z, hz⟩ : ∃ z : Int, z = ((now s.1).toNat : Int) := ⟨_, rfl⟩
  rw [← hz] at HN HD
  have HB := Lib.hid hb
  clear h hb hz
  have tail : ∀ (t : DSt) (w1 : World), KRd w1 rb bv bs t → Keeps (Only rb) w w1 → True := fun _ _ _ _ => trivial
  go_enter Tryz.func131, Tryz.ntmps131
  go_wp2_with (fail)
  refine HN.out.mono ?_
  rintro e w1 ⟨rfl, n1, rfl⟩
  go_wp2_with (fail)
  refine (HD.out _).mono ?_
  rintro e w1 ⟨rfl, rfl⟩
  have H1 := Lib.hid (HW.out.below (below_drewN _ w n1))
  have K1 := Lib.hid (keeps_drew rb w n1)
  generalize w.drewN n1 = w1 at H1 K1 ⊢
  clear tail HN HD
  cases b with
  | true =>
    have H2 : Hid (KRd w1 rb bv bs (s.1, s.2)) := Lib.hid H1.out
    have K2 := K1
    clear H1 K1
    go_wp2_with (fail)
    go_loopg [13] s.1.length (fun gk _ wx => ∃ l', Hid (l'.length ≤ gk) ∧ Hid (KRd wx rb bv bs (l', s.2)) ∧ Hid (digits l' = digits s.1) ∧ Hid (Keeps (Only rb) w wx))
    case atStart => exact ⟨s.1, Lib.hid (Nat.le_refl _), H2, Lib.hid rfl, K2⟩
    case round =>
      obtain ⟨l', HG, HR, HBD, HK⟩ := hrel
      have HN := Lib.hid (k_now HR.out)
      obtain ⟨b, hb⟩ : ∃ b, b = isDigit (now l') := ⟨_, rfl⟩
      have HD := Lib.hid (fun w : World => hb ▸ (k_digit (w := w) (now l')))
      obtain ⟨z, hz⟩ : ∃ z : Int, z = ((now l').toNat : Int) := ⟨_, rfl⟩
      rw [show ((now (l', s.2).1).toNat : Int) = z from hz.symm] at HN
      rw [← hz] at HD
      have HBB := Lib.hid hb
      clear hb hz
      go_wp2_with (fail)
      refine HN.out.mono ?_
      rintro e w3 ⟨rfl, n3, rfl⟩
      go_wp2_with (fail)
      refine (HD.out _).mono ?_
      rintro e w3 ⟨rfl, rfl⟩
      have H3 := Lib.hid (HR.out.below (below_drewN _ wr n3))
      have K3 := Lib.hid (HK.out.trans' (keeps_drew rb wr n3))
      clear HN HD HR HK
      generalize wr.drewN n3 = w3 at H3 K3 ⊢
      cases b with
      | true =>
        obtain ⟨c, r, hcr, hdr⟩ : ∃ c r, l' = c :: r ∧ digits r = digits l' := by
          cases hl : l' with
          | nil => rw [hl] at HBB; exact absurd HBB.out (by decide)
          | cons c r =>
            have h2 := HBB.out
            rw [hl] at h2
            exact ⟨c, r, rfl, by rw [digits, if_pos (show isDigit c = true from h2.symm)]⟩
        obtain ⟨a, cap, k, er, -, hk, hkl, -, c0, c1, c2, f1, -⟩ := H3.out.parts
        have HS := Lib.hid (k_step H3.out hcr hk)
        have kb : (0 : Int) ≤ (k : Int) ∧ (k : Int) ≤ 1000000 := by have := H3.out.len; omega
        obtain ⟨kb1, kb2⟩ := kb
        have HCR := Lib.hid (And.intro hcr hdr)
        clear hk hkl hcr hdr
        go_wp2_with (fail)
        go_roundg r.length
        case measure => have := HG.out; rw [HCR.out.1] at this; simp at this; omega
        case rel => exact ⟨r, Lib.hid (Nat.le_refl _), Lib.hid HS.out.1, Lib.hid (HCR.out.2.trans HBD.out), Lib.hid (K3.out.trans' HS.out.2)⟩
      | false =>
        have hst : digits l' = l' := by
          cases hl : l' with
          | nil => rfl
          | cons c r =>
            have h2 := HBB.out
            rw [hl] at h2
            rw [digits, if_neg (by rw [show isDigit c = false from h2.symm]; decide)]
        have HST := Lib.hid hst
        clear hst
        go_wp2_with (fail)
        go_end0
        refine ⟨rfl, ?_, K3.out⟩
        have e : dDigits s = (l', s.2) := by
          unfold dDigits
          rw [← HBD.out, HST.out, ← HB.out]
          simp
        rw [e]
        exact H3.out
  | false =>
    obtain ⟨a, cap, k, er, -, hk, hkl, -, c0, c1, c2, f1, -⟩ := H1.out.parts
    have HF := Lib.hid (k_fault H1.out (k : Int) 11 (by decide))
    clear hk hkl
    go_wp2_with (fail)
    refine HF.out.mono ?_
    rintro e w2 ⟨rfl, h2, k2⟩
    have H2 := Lib.hid h2
    have K2 := Lib.hid (K1.out.trans' k2)
    clear h2 k2 H1 K1 c0 c1 c2 f1
    go_wp2_with (fail)
    go_loopg [13] s.1.length (fun gk _ wx => ∃ l', Hid (l'.length ≤ gk) ∧ Hid (KRd wx rb bv bs (l', true)) ∧ Hid (digits l' = digits s.1) ∧ Hid (Keeps (Only rb) w wx))
    case atStart => exact ⟨s.1, Lib.hid (Nat.le_refl _), H2, Lib.hid rfl, K2⟩
    case round =>
      obtain ⟨l', HG, HR, HBD, HK⟩ := hrel
      have HN := Lib.hid (k_now HR.out)
      obtain ⟨b, hb⟩ : ∃ b, b = isDigit (now l') := ⟨_, rfl⟩
      have HD := Lib.hid (fun w : World => hb ▸ (k_digit (w := w) (now l')))
      obtain ⟨z, hz⟩ : ∃ z : Int, z = ((now l').toNat : Int) := ⟨_, rfl⟩
      rw [show ((now (l', true).1).toNat : Int) = z from hz.symm] at HN
      rw [← hz] at HD
      have HBB := Lib.hid hb
      clear hb hz
      go_wp2_with (fail)
      refine HN.out.mono ?_
      rintro e w3 ⟨rfl, n3, rfl⟩
      go_wp2_with (fail)
      refine (HD.out _).mono ?_
      rintro e w3 ⟨rfl, rfl⟩
      have H3 := Lib.hid (HR.out.below (below_drewN _ wr n3))
      have K3 := Lib.hid (HK.out.trans' (keeps_drew rb wr n3))
      clear HN HD HR HK
      generalize wr.drewN n3 = w3 at H3 K3 ⊢
      cases b with
      | true =>
        obtain ⟨c, r, hcr, hdr⟩ : ∃ c r, l' = c :: r ∧ digits r = digits l' := by
          cases hl : l' with
          | nil => rw [hl] at HBB; exact absurd HBB.out (by decide)
          | cons c r =>
            have h2 := HBB.out
            rw [hl] at h2
            exact ⟨c, r, rfl, by rw [digits, if_pos (show isDigit c = true from h2.symm)]⟩
        obtain ⟨a, cap, k, er, -, hk, hkl, -, c0, c1, c2, f1, -⟩ := H3.out.parts
        have HS := Lib.hid (k_step H3.out hcr hk)
        have kb : (0 : Int) ≤ (k : Int) ∧ (k : Int) ≤ 1000000 := by have := H3.out.len; omega
        obtain ⟨kb1, kb2⟩ := kb
        have HCR := Lib.hid (And.intro hcr hdr)
        clear hk hkl hcr hdr
        go_wp2_with (fail)
        go_roundg r.length
        case measure => have := HG.out; rw [HCR.out.1] at this; simp at this; omega
        case rel => exact ⟨r, Lib.hid (Nat.le_refl _), Lib.hid HS.out.1, Lib.hid (HCR.out.2.trans HBD.out), Lib.hid (K3.out.trans' HS.out.2)⟩
      | false =>
        have hst : digits l' = l' := by
          cases hl : l' with
          | nil => rfl
          | cons c r =>
            have h2 := HBB.out
            rw [hl] at h2
            rw [digits, if_neg (by rw [show isDigit c = false from h2.symm]; decide)]
        have HST := Lib.hid hst
        clear hst
        go_wp2_with (fail)
        go_end0
        refine ⟨rfl, ?_, K3.out⟩
        have e : dDigits s = (l', true) := by
          unfold dDigits
          rw [← HBD.out, HST.out, ← HB.out]
          simp
        rw [e]
        exact H3.out
end
end Go.Proofs.YthjcolehccbihaaGreatDoor
