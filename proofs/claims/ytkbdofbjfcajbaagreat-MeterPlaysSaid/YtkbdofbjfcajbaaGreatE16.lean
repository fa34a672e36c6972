/- Of the laws: first. -/
import Derived.Test.YtkbdofbjfcajbaaGreatE15
namespace Go.Proofs.YtkbdofbjfcajbaaGreat
open Go.RowKit Go.Shelf Go.Sort

theorem fit1 : EvFit fe1 := ⟨by decide, by decide, by decide, by decide, by decide, by decide, by decide⟩
theorem fit2 : EvFit fe2 := ⟨by decide, by decide, by decide, by decide, by decide, by decide, by decide⟩
theorem two_below {w w1 w2 : World} {mb tb : Nat} (h : Below w.heap.size w w1) (hk : Keeps (Two mb tb) w1 w2) (h1 : w.heap.size ≤ mb) (h2 : w.heap.size ≤ tb) : Below w.heap.size w w2 :=
  below_keeps h hk (fun i e => by rcases e with e | e <;> omega) h.size
theorem f_ing1 {w : World} {mb tb : Nat} (h : MtrIn w mb tb fs0) : Calls Tryz.prog 9 #[.pointer (some ⟨mb, 0, none⟩), .agg #[.string ⟨#[107, 49]⟩, .string ⟨#[97, 99, 109, 101]⟩, .string ⟨#[99, 97, 108, 108, 115]⟩, .int .i64 5, .int .i64 10]] w fun e w' => e = .returned (.tuple #[.bool false, .int .i64 0]) ∧ MtrIn w' mb tb fs1 ∧ Keeps (Two mb tb) w w' := by
  have := m_ingest w mb tb fs0 fe1 h fit1 (by decide) (by decide) (by decide) (by decide) (by decide)
  rw [fr1, ft1] at this
  exact this
theorem f_ing2 {w : World} {mb tb : Nat} (h : MtrIn w mb tb fs1) : Calls Tryz.prog 9 #[.pointer (some ⟨mb, 0, none⟩), .agg #[.string ⟨#[107, 49]⟩, .string ⟨#[97, 99, 109, 101]⟩, .string ⟨#[99, 97, 108, 108, 115]⟩, .int .i64 5, .int .i64 10]] w fun e w' => e = .returned (.tuple #[.bool true, .int .i64 0]) ∧ MtrIn w' mb tb fs2 ∧ Keeps (Two mb tb) w w' := by
  have := m_ingest w mb tb fs1 fe1 h fit1 (by decide) (by decide) (by decide) (by decide) (by decide)
  rw [fr2, ft2] at this
  exact this
theorem f_ing3 {w : World} {mb tb : Nat} (h : MtrIn w mb tb fs2) : Calls Tryz.prog 9 #[.pointer (some ⟨mb, 0, none⟩), .agg #[.string ⟨#[107, 49]⟩, .string ⟨#[97, 99, 109, 101]⟩, .string ⟨#[99, 97, 108, 108, 115]⟩, .int .i64 6, .int .i64 10]] w fun e w' => e = .returned (.tuple #[.bool false, .int .i64 24]) ∧ MtrIn w' mb tb fs2 ∧ Keeps (Two mb tb) w w' := by
  have := m_ingest w mb tb fs2 fe2 h fit2 (by decide) (by decide) (by decide) (by decide) (by decide)
  rw [fr3, ft3] at this
  exact this
theorem f_tot {w : World} {mb tb : Nat} (h : MtrIn w mb tb fs2) : Calls Tryz.prog 10 #[.pointer (some ⟨mb, 0, none⟩), .string ⟨#[97, 99, 109, 101]⟩, .int .i64 10, .int .i64 21] w fun e w' => (∃ g off cap, e = .returned (.tuple #[.slice (some ⟨g, off, none⟩) 1 cap, .int .i64 0]) ∧ w'.cell? ⟨g, off + 1, none⟩ = some (.int .i64 5)) ∧ Below w.heap.size w w' := by
  refine Calls.mono (m_totals w mb tb fs2 fa 10 21 h (by decide) (by decide) (fun x hx => ?_)) ?_
  · have : x = (fk, fe1) := by simpa [fs2, Tr.ino] using hx
    subst this
    exact ⟨by decide, by decide, by decide⟩
  · rintro e w' ⟨v, L, rfl, hp, hsl, -, hb⟩
    rw [fw, if_pos rfl, fse] at hp
    obtain rfl : L = [fe1] := List.perm_singleton.1 hp
    rw [fw]
    refine ⟨?_, hb⟩
    obtain ⟨a, cap, hv, hc⟩ := hsl.rd
    have ht : (totM [fe1]).map (·.2) = [⟨fm, 5, 1⟩] := rfl
    rw [ht] at hv hc
    obtain ⟨g, off, rfl, hcell⟩ := hc 0 ⟨fm, 5, 1⟩ rfl
    have h1 := hcell 1 (by decide)
    exact ⟨g, off, cap, by rw [hv]; rfl, h1⟩
set_option maxRecDepth 100000 in
set_option maxHeartbeats 4000000 in
theorem m_first (w : World) : Calls Tryz.prog 6 #[] w fun e w' => e = .returned (.bool true) ∧ Below w.heap.size w w' := by
  have HN := Lib.hid (m_new w)
  have HNUM := Lib.hid m_num
  go_enter Tryz.func6, Tryz.ntmps6
  go_wp2_with (fail)
  refine HN.out.mono ?_
  rintro e w1 ⟨mb, tb, rfl, hm1, hl1, hl2, hb1⟩
  have HM1 : Hid (MtrIn w1 mb tb fs0) := Lib.hid hm1
  have HL := Lib.hid (And.intro hl1 hl2)
  have HB1 := Lib.hid hb1
  clear hm1 hl1 hl2 hb1
  go_wp2_with (fail)
  refine (f_ing1 HM1.out).mono ?_
  rintro e w2 ⟨rfl, hm2, hk2⟩
  have HM2 := Lib.hid hm2
  have HB2 := Lib.hid (two_below HB1.out hk2 HL.out.1 HL.out.2)
  clear hm2 hk2
  go_wp2_with (fail)
  refine (f_ing2 HM2.out).mono ?_
  rintro e w3 ⟨rfl, hm3, hk3⟩
  have HM3 := Lib.hid hm3
  have HB3 := Lib.hid (two_below HB2.out hk3 HL.out.1 HL.out.2)
  clear hm3 hk3
  go_wp2_with (fail)
  refine (f_ing3 HM3.out).mono ?_
  rintro e w4 ⟨rfl, hm4, hk4⟩
  have HM4 := Lib.hid hm4
  have HB4 := Lib.hid (two_below HB3.out hk4 HL.out.1 HL.out.2)
  clear hm4 hk4
  go_wp2_with (fail)
  refine (f_tot HM4.out).mono ?_
  rintro e w5 ⟨⟨g, off, cap, rfl, hc5⟩, hb5⟩
  have HM5 := Lib.hid (HM4.out.below hb5)
  have HB5 := Lib.hid (HB4.out.trans (hb5.mono HB4.out.size))
  have HLN : Hid (Calls Tryz.prog 14 #[.pointer (some ⟨mb, 0, none⟩)] w5 fun e w' => e = .returned (.int .i64 1) ∧ Below w5.heap.size w5 w') := Lib.hid (m_len w5 mb tb fs2 HM5.out)
  have HRP : Hid (∀ W, Below w5.heap.size w5 W → Calls Tryz.prog 19 #[.pointer (some ⟨mb, 0, none⟩)] W fun e w' => e = .returned (.int .i64 1) ∧ W = w') := Lib.hid (fun W hW => m_repeats W mb tb fs2 (HM5.out.below hW) (by decide) (by decide))
  clear hb5
  go_wp2_with (first
    | (go_at_call 11; refine (HNUM.out _ _).mono ?_; rintro e w' ⟨rfl, rfl⟩)
    | (go_at_call 14; refine HLN.out.mono ?_; rintro e w6 ⟨rfl, hb6⟩; have HB6 := Lib.hid hb6; clear hb6)
    | (go_at_call 19; refine (HRP.out _ HB6.out).mono ?_; rintro e w' ⟨rfl, rfl⟩))
  go_ret
  exact ⟨rfl, HB5.out.trans (HB6.out.mono HB5.out.size)⟩
end Go.Proofs.YtkbdofbjfcajbaaGreat
