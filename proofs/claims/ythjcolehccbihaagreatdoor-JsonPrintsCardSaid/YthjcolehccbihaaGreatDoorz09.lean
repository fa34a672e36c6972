/- utf8.FullRune walked; what the decoder says of the letter at the front, in plain words. -/
import Derived.Test.YthjcolehccbihaaGreatDoorz07
import Derived.Test.YthjcolehccbihaaGreatDoorz00
import Derived.Lib.TrimUEq
import Derived.Lib.ValidU
import Derived.Shelf.Unicode.DecodeSlow
import Derived.Test.YthjcolehccbihaaGreatDoorz08
namespace Go.Proofs.YthjcolehccbihaaGreatDoor
open Go.RowKit Go.Shelf
set_option maxRecDepth 100000 in
theorem lead_and (c : UInt8) : bits .and .u8 (Lib.firstT c.toNat : Int) 7 = ((if c < 128 then 0 else if leadLen c = 0 then 1 else leadLen c : Nat) : Int) := by
  refine by_bytesP (p := fun c => bits .and .u8 (Lib.firstT c.toNat : Int) 7 = ((if c < 128 then 0 else if leadLen c = 0 then 1 else leadLen c : Nat) : Int)) (by decide +kernel) c
def leadOk (c : UInt8) : Bool := decide (leadLen c < 2) || (decide (Lib.firstT c.toNat / 16 < 16) && decide (Lib.accLo (Lib.firstT c.toNat / 16) = (lowSecond c).toNat) && decide (Lib.accHi (Lib.firstT c.toNat / 16) = (highSecond c).toNat))
theorem lead_acc (c : UInt8) (h : 2 ≤ leadLen c) : Lib.firstT c.toNat / 16 < 16 ∧ Lib.accLo (Lib.firstT c.toNat / 16) = (lowSecond c).toNat ∧ Lib.accHi (Lib.firstT c.toNat / 16) = (highSecond c).toNat := by
  have := by_bytes (p := leadOk) (q := fun _ => true) (by decide +kernel) c
  unfold leadOk at this
  simp only [Bool.or_eq_true, Bool.and_eq_true, decide_eq_true_eq] at this
  omega
set_option maxRecDepth 100000 in
set_option maxHeartbeats 2000000 in
theorem u_fullRune {w : World} {a : Option Addr} {cap : Nat} {l : List UInt8} (h : RdAt byteKind w (.slice a l.length cap) l) (hT : Tabs w) (hl : l.length ≤ 1000000) :
    Calls Tryz.prog 100 #[.slice a l.length cap] w fun e w' => e = .returned (.bool (!cutOff l)) ∧ Below w.heap.size w w' := by
  cases l with
  | nil =>
    go_enter Tryz.func100, Tryz.ntmps100
    go_wp2
    go_ret
    exact ⟨rfl, Below.refl _ _⟩
  | cons c l =>
    obtain ⟨g, off, rfl, c0⟩ := byte_cell h (k := 0) (x := c) rfl
    rw [Nat.add_zero] at c0
    have ct := hT.1 c.toNat c.toNat_lt
    obtain ⟨T, hTT⟩ : ∃ T : Nat, T = Lib.firstT c.toNat := ⟨_, rfl⟩
    rw [← hTT] at ct
    obtain ⟨m, hm⟩ : ∃ m : Int, m = ((if c < 128 then 0 else if leadLen c = 0 then 1 else leadLen c : Nat) : Int) := ⟨_, rfl⟩
    have hand : bits .and .u8 (T : Int) 7 = m := by rw [hTT, hm]; exact lead_and c
    have hc0 : (0 : Int) ≤ (c.toNat : Int) := by omega
    have hc1 : (c.toNat : Int) < 256 := by have := c.toNat_lt; omega
    obtain ⟨n, hn⟩ : ∃ n : Nat, n = (c :: l).length := ⟨_, rfl⟩
    have hnl : n = l.length + 1 := by rw [hn]; rfl
    rw [← hn]
    have hn0 : ((n : Int) == 0) = false := by simp; omega
    have hpos : (0 : Int) < (n : Int) := by omega
    have hm7 : 0 ≤ m ∧ m ≤ 7 := by
      rw [hm]
      have : leadLen c ≤ 4 := by unfold leadLen; split <;> (try split) <;> (try split) <;> (try split) <;> (try split) <;> omega
      split
      · omega
      · split <;> omega
    obtain ⟨hm0, hm1⟩ := hm7
    by_cases hlt : l.length + 1 < leadLen c
    · have hle : ¬ (m ≤ (n : Int)) := by
        rw [hm]
        have : ¬ c < 128 := fun h => by have := leadLen_one.2 h; omega
        rw [if_neg this, if_neg (by omega)]; omega
      have hi := lead_acc c (by omega)
      obtain ⟨i, hi0⟩ : ∃ i, i = Lib.firstT c.toNat / 16 := ⟨_, rfl⟩
      rw [← hi0] at hi
      obtain ⟨hi16, hlo, hhi⟩ := hi
      have hac := hT.2 i hi16
      rw [hlo, hhi, Nat.mul_comm 2 i] at hac
      obtain ⟨ac0, ac1⟩ := hac
      have hT16 : (T : Int) / 16 = (i : Int) := by rw [hi0, hTT]; omega
      have hT0 : (0 : Int) ≤ (T : Int) := by omega
      have HT16 := Lib.hid hT16
      have HNL := Lib.hid hnl
      have HLT := Lib.hid hlt
      have hi15 : (i : Int) < 16 := by omega
      clear hm hTT hlt hlo hhi hi0 hn hnl
      go_enter Tryz.func100, Tryz.ntmps100
      go_upto_region 8 with (fail)
      have HAB : Hid (Below w.heap.size w (w.alloc (.cells #[.int .u8 ((lowSecond c).toNat : Int), .int .u8 ((highSecond c).toNat : Int)] 125))) := Lib.hid ((Below.refl _ _).alloc (Nat.le_refl _) _)
      have hbx := blk_new w (.cells #[.int .u8 ((lowSecond c).toNat : Int), .int .u8 ((highSecond c).toNat : Int)] 125)
      obtain ⟨w1, hw1⟩ : ∃ w1, w1 = w.alloc (.cells #[.int .u8 ((lowSecond c).toNat : Int), .int .u8 ((highSecond c).toNat : Int)] 125) := ⟨_, rfl⟩
      rw [← hw1] at HAB hbx
      rw [← hw1]
      obtain ⟨bx, hbxe⟩ : ∃ bx, bx = w.heap.size := ⟨_, rfl⟩
      rw [← hbxe] at hbx
      rw [← hbxe]
      have z0 : w1.cell? ⟨bx, 0, none⟩ = some (.int .u8 ((lowSecond c).toNat : Int)) := blk_cell hbx 0
      have z1 : w1.cell? ⟨bx, 1, none⟩ = some (.int .u8 ((highSecond c).toNat : Int)) := blk_cell hbx 1
      have h1 := h.below HAB.out
      cases l with
      | nil =>
        have hn1 : decide ((1 : Int) < (n : Int)) = false := by have := HNL.out; simp at this; simp; omega
        have hn2 : decide ((2 : Int) < (n : Int)) = false := by have := HNL.out; simp at this; simp; omega
        have hcut : cutOff [c] = true := by have := HLT.out; simp [cutOff]; simpa using this
        have HC := Lib.hid hcut
        clear h1 hbxe hw1 hbx h hcut
        go_wp2_with (fail)
        go_quiet (fail)
        go_wp2_with (fail)
        go_ret
        exact ⟨by rw [HC.out]; rfl, HAB.out.trans (below_drewN _ _ _)⟩
      | cons d l =>
        obtain ⟨g', off', e, c1⟩ := byte_cell h1 (k := 1) (x := d) rfl
        injection e with e; injection e with e1 e2 _; subst e1 e2
        have hn0' : (1 : Int) < (n : Int) := by have := HNL.out; simp only [List.length_cons] at this; omega
        have hn1 : decide ((1 : Int) < (n : Int)) = true := by simp; omega
        obtain ⟨lo, hlo⟩ : ∃ lo : Int, lo = ((lowSecond c).toNat : Int) := ⟨_, rfl⟩
        obtain ⟨hi, hhi⟩ : ∃ hi : Int, hi = ((highSecond c).toNat : Int) := ⟨_, rfl⟩
        rw [← hlo] at z0
        rw [← hhi] at z1
        rw [← hlo, ← hhi]
        obtain ⟨dv, hdv⟩ : ∃ dv : Int, dv = (d.toNat : Int) := ⟨_, rfl⟩
        rw [← hdv] at c1
        have hok : okSecond c d = true ↔ (¬ dv < lo ∧ ¬ hi < dv) := by
          unfold okSecond
          simp only [Bool.and_eq_true, decide_eq_true_eq, u8le]
          omega
        cases hos : okSecond c d with
        | false =>
          have hcut : cutOff (c :: d :: l) = false := by cases l <;> simp [cutOff, hos]
          have hcase : (decide (dv < lo) = true) ∨ (decide (dv < lo) = false ∧ decide (hi < dv) = true) := by
            rw [hos] at hok
            have : ¬ (¬ dv < lo ∧ ¬ hi < dv) := fun h => by have := hok.2 h; cases this
            simp only [decide_eq_true_eq, decide_eq_false_iff_not]; omega
          have HC := Lib.hid hcut
          clear h1 hbxe hw1 hbx h hcut hok hos hlo hhi hdv
          rcases hcase with h3 | ⟨h3, h4⟩
          all_goals
            go_wp2_with (fail)
            go_quiet (fail)
            go_wp2_with (fail)
            go_ret
            exact ⟨by rw [HC.out]; rfl, HAB.out.trans (below_drewN _ _ _)⟩
        | true =>
          obtain ⟨h3, h4⟩ : decide (dv < lo) = false ∧ decide (hi < dv) = false := by have := hok.1 hos; simp only [decide_eq_false_iff_not]; exact this
          cases l with
          | nil =>
            have hn2 : decide ((2 : Int) < (n : Int)) = false := by have := HNL.out; simp only [List.length_cons, List.length_nil] at this; simp; omega
            have hcut : cutOff [c, d] = true := by have := HLT.out; simp only [List.length_cons, List.length_nil] at this; simp [cutOff, hos]; omega
            have HC := Lib.hid hcut
            clear h1 hbxe hw1 hbx h hcut hok hos hlo hhi hdv
            go_wp2_with (fail)
            go_quiet (fail)
            go_wp2_with (fail)
            go_ret
            exact ⟨by rw [HC.out]; rfl, HAB.out.trans (below_drewN _ _ _)⟩
          | cons e l =>
            obtain ⟨g', off', e', c2⟩ := byte_cell h1 (k := 2) (x := e) rfl
            injection e' with e'; injection e' with e1 e2 _; subst e1 e2
            have hn2' : (2 : Int) < (n : Int) := by have := HNL.out; simp only [List.length_cons] at this; omega
            have hn2 : decide ((2 : Int) < (n : Int)) = true := by simp; omega
            obtain ⟨ev, hev⟩ : ∃ ev : Int, ev = (e.toNat : Int) := ⟨_, rfl⟩
            rw [← hev] at c2
            have hcont : isCont e = true ↔ (¬ ev < 128 ∧ ¬ 191 < ev) := by
              unfold isCont
              have e1 : (128 : UInt8).toNat = 128 := rfl
              have e2 : (191 : UInt8).toNat = 191 := rfl
              simp only [Bool.and_eq_true, decide_eq_true_eq, u8le, e1, e2]
              omega
            cases hc : isCont e with
            | false =>
              have hcut : cutOff (c :: d :: e :: l) = false := by simp [cutOff, hc]
              have hcase : (decide (ev < 128) = true) ∨ (decide (ev < 128) = false ∧ decide (191 < ev) = true) := by
                rw [hc] at hcont
                have : ¬ (¬ ev < 128 ∧ ¬ 191 < ev) := fun h => by have := hcont.2 h; cases this
                simp only [decide_eq_true_eq, decide_eq_false_iff_not]; omega
              have HC := Lib.hid hcut
              clear h1 hbxe hw1 hbx h hcut hok hos hlo hhi hdv hev hcont hc
              rcases hcase with h5 | ⟨h5, h6⟩
              all_goals
                go_wp2_with (fail)
                go_quiet (fail)
                go_wp2_with (fail)
                go_ret
                exact ⟨by rw [HC.out]; rfl, HAB.out.trans (below_drewN _ _ _)⟩
            | true =>
              obtain ⟨h5, h6⟩ : decide (ev < 128) = false ∧ decide (191 < ev) = false := by have := hcont.1 hc; simp only [decide_eq_false_iff_not]; exact this
              have hcut : cutOff (c :: d :: e :: l) = true := by have := HLT.out; simp only [List.length_cons] at this; simp [cutOff, hc, hos]; omega
              have HC := Lib.hid hcut
              clear h1 hbxe hw1 hbx h hcut hok hos hlo hhi hdv hev hcont hc
              go_wp2_with (fail)
              go_quiet (fail)
              go_wp2_with (fail)
              go_ret
              exact ⟨by rw [HC.out]; rfl, HAB.out.trans (below_drewN _ _ _)⟩
    · have hle : m ≤ (n : Int) := by
        rw [hm, hnl]
        split
        · omega
        · split <;> omega
      have hcut : cutOff (c :: l) = false := by simp [cutOff, hlt]
      rw [hcut]
      clear hm hTT hlt hn hnl
      go_enter Tryz.func100, Tryz.ntmps100
      go_wp2_with (fail)
      go_ret
      exact ⟨rfl, Below.refl _ _⟩
end Go.Proofs.YthjcolehccbihaaGreatDoor
set_option linter.unusedSimpArgs false
set_option linter.unusedVariables false
namespace Go.Proofs.YthjcolehccbihaaGreatDoor
open Go.Lib
theorem lead_nat (c : UInt8) : leadLen c = if c.toNat < 128 then 1 else if c.toNat < 194 then 0 else if c.toNat < 224 then 2 else if c.toNat < 240 then 3 else if c.toNat < 245 then 4 else 0 := rfl
theorem second_nat (c d : UInt8) : okSecond c d = decide ((if c.toNat = 224 then 160 else if c.toNat = 240 then 144 else 128) ≤ d.toNat ∧ d.toNat ≤ if c.toNat = 237 then 159 else if c.toNat = 244 then 143 else 191) := by
  unfold okSecond lowSecond highSecond
  have e1 : (c = 224) = (c.toNat = 224) := propext (u8eq c 224)
  have e2 : (c = 240) = (c.toNat = 240) := propext (u8eq c 240)
  have e3 : (c = 237) = (c.toNat = 237) := propext (u8eq c 237)
  have e4 : (c = 244) = (c.toNat = 244) := propext (u8eq c 244)
  simp only [u8le, e1, e2, e3, e4]
  rw [Bool.eq_iff_iff]
  simp only [Bool.and_eq_true, decide_eq_true_eq]
  constructor
  · rintro ⟨h1, h2⟩
    constructor
    · split at h1
      · rename_i h; rw [if_pos h]; exact h1
      · rename_i h; rw [if_neg h]; split at h1
        · rename_i h; rw [if_pos h]; exact h1
        · rename_i h; rw [if_neg h]; exact h1
    · split at h2
      · rename_i h; rw [if_pos h]; exact h2
      · rename_i h; rw [if_neg h]; split at h2
        · rename_i h; rw [if_pos h]; exact h2
        · rename_i h; rw [if_neg h]; exact h2
  · rintro ⟨h1, h2⟩
    constructor
    · split at h1
      · rename_i h; rw [if_pos h]; exact h1
      · rename_i h; rw [if_neg h]; split at h1
        · rename_i h; rw [if_pos h]; exact h1
        · rename_i h; rw [if_neg h]; exact h1
    · split at h2
      · rename_i h; rw [if_pos h]; exact h2
      · rename_i h; rw [if_neg h]; split at h2
        · rename_i h; rw [if_pos h]; exact h2
        · rename_i h; rw [if_neg h]; exact h2
theorem cont_nat (d : UInt8) : isCont d = decide (128 ≤ d.toNat ∧ d.toNat ≤ 191) := by
  unfold isCont
  rw [Bool.eq_iff_iff]
  simp only [Bool.and_eq_true, decide_eq_true_eq, u8le]
  exact Iff.rfl
/-- What a decoder hands back, where a letter of k bytes stands at the front; 0: none does. -/
def DecOk (k : Nat) (p : Nat × Nat) : Prop := if k = 0 then p = (65533, 1) else p.2 = k ∧ p ≠ (65533, 1)
theorem dec_ok (n b0 b1 b2 b3 k : Nat) (h0 : b0 < 256) (h1 : b1 < 256) (h2 : b2 < 256) (h3 : b3 < 256) (hn : 1 ≤ n)
    (hk : k = if b0 < 128 then 1 else if b0 < 194 then 0 else if b0 < 224 then (if 2 ≤ n ∧ 128 ≤ b1 ∧ b1 ≤ 191 then 2 else 0)
      else if b0 < 240 then (if 3 ≤ n ∧ ((if b0 = 224 then 160 else 128) ≤ b1 ∧ b1 ≤ if b0 = 237 then 159 else 191) ∧ 128 ≤ b2 ∧ b2 ≤ 191 then 3 else 0)
      else if b0 < 245 then (if 4 ≤ n ∧ ((if b0 = 240 then 144 else 128) ≤ b1 ∧ b1 ≤ if b0 = 244 then 143 else 191) ∧ (128 ≤ b2 ∧ b2 ≤ 191) ∧ 128 ≤ b3 ∧ b3 ≤ 191 then 4 else 0) else 0) : DecOk k (decodeN n b0 b1 b2 b3) := by
  subst hk
  unfold decodeN
  by_cases a1 : b0 < 128
  · rw [if_pos a1, if_pos a1]
    refine ⟨rfl, fun e => ?_⟩
    injection e with e; omega
  rw [if_neg a1, if_neg a1]
  by_cases a2 : b0 < 194
  · rw [if_pos a2]
    have : ¬ (b0 / 16 = 14 ∧ (1 < n ∧ b1 / 64 = 2) ∧ (2 < n ∧ b2 / 64 = 2)) := by omega
    have : ¬ (b0 / 8 = 30 ∧ (1 < n ∧ b1 / 64 = 2) ∧ (2 < n ∧ b2 / 64 = 2) ∧ (3 < n ∧ b3 / 64 = 2)) := by omega
    rw [if_neg ‹¬ (b0 / 16 = 14 ∧ _)›, if_neg this]
    split
    · rw [if_neg (by omega)]; rfl
    · rfl
  rw [if_neg a2]
  by_cases a3 : b0 < 224
  · rw [if_pos a3]
    have b1' : ¬ (b0 / 16 = 14 ∧ (1 < n ∧ b1 / 64 = 2) ∧ (2 < n ∧ b2 / 64 = 2)) := by omega
    have b2' : ¬ (b0 / 8 = 30 ∧ (1 < n ∧ b1 / 64 = 2) ∧ (2 < n ∧ b2 / 64 = 2) ∧ (3 < n ∧ b3 / 64 = 2)) := by omega
    rw [if_neg b1', if_neg b2']
    by_cases a4 : 2 ≤ n ∧ 128 ≤ b1 ∧ b1 ≤ 191
    · rw [if_pos a4, if_pos (by omega), if_pos (by omega)]
      exact ⟨rfl, fun e => by injection e with _ e; omega⟩
    · rw [if_neg a4, if_neg (by omega)]; rfl
  rw [if_neg a3]
  by_cases a4 : b0 < 240
  · rw [if_pos a4]
    have c1 : ¬ (b0 / 32 = 6 ∧ (1 < n ∧ b1 / 64 = 2)) := by omega
    have c2 : ¬ (b0 / 8 = 30 ∧ (1 < n ∧ b1 / 64 = 2) ∧ (2 < n ∧ b2 / 64 = 2) ∧ (3 < n ∧ b3 / 64 = 2)) := by omega
    rw [if_neg c1, if_neg c2]
    by_cases a5 : 3 ≤ n ∧ ((if b0 = 224 then 160 else 128) ≤ b1 ∧ b1 ≤ if b0 = 237 then 159 else 191) ∧ 128 ≤ b2 ∧ b2 ≤ 191
    · rw [if_pos a5]
      obtain ⟨x1, ⟨x2, x3⟩, x4, x5⟩ := a5
      have y1 : 128 ≤ b1 ∧ b1 ≤ 191 ∧ (b0 = 224 → 160 ≤ b1) ∧ (b0 = 237 → b1 ≤ 159) := by
        split at x2 <;> split at x3 <;> omega
      rw [if_pos (by omega), if_pos (by omega)]
      exact ⟨rfl, fun e => by injection e with _ e; omega⟩
    · rw [if_neg a5]
      have y1 : ¬ (3 ≤ n ∧ (128 ≤ b1 ∧ b1 ≤ 191 ∧ (b0 = 224 → 160 ≤ b1) ∧ (b0 = 237 → b1 ≤ 159)) ∧ 128 ≤ b2 ∧ b2 ≤ 191) := by
        rintro ⟨z1, ⟨z2, z3, z4, z5⟩, z6, z7⟩
        exact a5 ⟨z1, ⟨by split; exact z4 ‹_›; exact z2, by split; exact z5 ‹_›; exact z3⟩, z6, z7⟩
      split
      · rw [if_neg (by omega)]; rfl
      · rfl
  rw [if_neg a4]
  have c1 : ¬ (b0 / 32 = 6 ∧ (1 < n ∧ b1 / 64 = 2)) := by omega
  have c2 : ¬ (b0 / 16 = 14 ∧ (1 < n ∧ b1 / 64 = 2) ∧ (2 < n ∧ b2 / 64 = 2)) := by omega
  rw [if_neg c1, if_neg c2]
  by_cases a5 : b0 < 245
  · rw [if_pos a5]
    by_cases a6 : 4 ≤ n ∧ ((if b0 = 240 then 144 else 128) ≤ b1 ∧ b1 ≤ if b0 = 244 then 143 else 191) ∧ (128 ≤ b2 ∧ b2 ≤ 191) ∧ 128 ≤ b3 ∧ b3 ≤ 191
    · rw [if_pos a6]
      obtain ⟨x1, ⟨x2, x3⟩, x4, x5⟩ := a6
      have y1 : 128 ≤ b1 ∧ b1 ≤ 191 ∧ (b0 = 240 → 144 ≤ b1) ∧ (b0 = 244 → b1 ≤ 143) := by
        split at x2 <;> split at x3 <;> omega
      rw [if_pos (by omega), if_pos (by omega)]
      exact ⟨rfl, fun e => by injection e with _ e; omega⟩
    · rw [if_neg a6]
      have y1 : ¬ (4 ≤ n ∧ (128 ≤ b1 ∧ b1 ≤ 191 ∧ (b0 = 240 → 144 ≤ b1) ∧ (b0 = 244 → b1 ≤ 143)) ∧ (128 ≤ b2 ∧ b2 ≤ 191) ∧ 128 ≤ b3 ∧ b3 ≤ 191) := by
        rintro ⟨z1, ⟨z2, z3, z4, z5⟩, z6, z7⟩
        exact a6 ⟨z1, ⟨by split; exact z4 ‹_›; exact z2, by split; exact z5 ‹_›; exact z3⟩, z6, z7⟩
      split
      · rw [if_neg (by omega)]; rfl
      · rfl
  · rw [if_neg a5]
    split
    · rw [if_neg (by omega)]; rfl
    · rfl
theorem decL_ok (c : UInt8) (l : List UInt8) : DecOk (seqLen (c :: l)) (decodeL (c :: l)) := by
  rw [decodeL_N]
  refine dec_ok _ _ _ _ _ _ (UInt8.toNat_lt _) (UInt8.toNat_lt _) (UInt8.toNat_lt _) (UInt8.toNat_lt _) (by simp) ?_
  have e0 : (c :: l).getD 0 0 = c := rfl
  rw [e0]
  simp only [seqLen, lead_nat]
  have hz : (0 : UInt8).toNat = 0 := rfl
  by_cases a1 : c.toNat < 128
  · simp [a1]
  by_cases a2 : c.toNat < 194
  · simp [a1, a2]
  by_cases a3 : c.toNat < 224
  · simp only [a1, a2, a3, if_false, if_true]
    cases l with
    | nil => simp
    | cons d l =>
      have e1 : (c :: d :: l).getD 1 0 = d := rfl
      simp only [e1, second_nat, List.length_cons]
      have n224 : ¬ c.toNat = 224 := by omega
      have n240 : ¬ c.toNat = 240 := by omega
      have n237 : ¬ c.toNat = 237 := by omega
      have n244 : ¬ c.toNat = 244 := by omega
      simp only [n224, n240, n237, n244, if_false]
      simp
  by_cases a4 : c.toNat < 240
  · simp only [a1, a2, a3, a4, if_false, if_true]
    match l with
    | [] => simp
    | [d] => simp
    | d :: e :: l =>
      have e1 : (c :: d :: e :: l).getD 1 0 = d := rfl
      have e2 : (c :: d :: e :: l).getD 2 0 = e := rfl
      simp only [e1, e2, second_nat, cont_nat, List.length_cons]
      have n240 : ¬ c.toNat = 240 := by omega
      have n244 : ¬ c.toNat = 244 := by omega
      simp only [n240, n244, if_false]
      simp
  by_cases a5 : c.toNat < 245
  · simp only [a1, a2, a3, a4, a5, if_false, if_true]
    match l with
    | [] => simp
    | [d] => simp
    | [d, e] => simp
    | d :: e :: f :: l =>
      have e1 : (c :: d :: e :: f :: l).getD 1 0 = d := rfl
      have e2 : (c :: d :: e :: f :: l).getD 2 0 = e := rfl
      have e3 : (c :: d :: e :: f :: l).getD 3 0 = f := rfl
      simp only [e1, e2, e3, second_nat, cont_nat, List.length_cons]
      have n224 : ¬ c.toNat = 224 := by omega
      have n237 : ¬ c.toNat = 237 := by omega
      simp only [n224, n237, if_false]
      simp [and_assoc]
  · simp [a1, a2, a3, a4, a5]
theorem decGo_ok {l : List UInt8} (h : l ≠ []) : DecOk (seqLen l) (decodeGo (str l)) := by
  cases l with
  | nil => exact absurd rfl h
  | cons c l =>
    have : decodeGo (str (c :: l)) = decodeL (c :: l) := by unfold decodeGo decodeL; rw [if_neg (by simp [str, ByteArray.size])]; rfl
    rw [this]
    exact decL_ok c l
theorem validGo_eq : ∀ (n : Nat) (l : List UInt8), l.length ≤ n → validGoD n l = validN n l
  | 0, l, h => by
    have : l = [] := List.length_eq_zero_iff.1 (by omega)
    subst this; rfl
  | n + 1, [], _ => by simp [validGoD, validN]
  | n + 1, c :: l, h => by
    have hd := decL_ok c l
    unfold DecOk at hd
    simp only [validGoD, validN]
    rw [if_neg (by simp)]
    by_cases h0 : seqLen (c :: l) = 0
    · rw [if_pos h0] at hd
      rw [hd, if_pos ⟨rfl, rfl⟩, if_pos h0]
    · rw [if_neg h0] at hd
      rw [if_neg (fun e => hd.2 (Prod.ext e.1 e.2)), if_neg h0, hd.1]
      exact validGo_eq n _ (by simp at h ⊢; omega)
/-- utf8.ValidString's answer. -/
theorem validD_eq (l : List UInt8) : validD l = valid l := validGo_eq _ _ (Nat.le_refl _)
end Go.Proofs.YthjcolehccbihaaGreatDoor
namespace Go.Proofs.YthjcolehccbihaaGreatDoor
open Go.RowKit Go.Shelf
open Go.Lib (encodeRune byteCells)
/-- A row of bytes of the call's own, newer than B. -/
def RowAt (w : World) (B : Nat) (v : Value) (out : List UInt8) : Prop := w.ownsRow B 5 1 v out.length (byteCells out)
theorem RowAt.nil (w : World) (B : Nat) : RowAt w B (.slice none 0 0) [] := World.ownsRow_nil w B 5 1
section
variable {w w' : World} {B : Nat} {v : Value} {out : List UInt8}
theorem byteCells_get (l : List UInt8) (i : Nat) : (byteCells l)[i]? = (l[i]?).map fun b => Value.int .u8 (b.toNat : Int) := by simp [byteCells]
theorem RowAt.shape (h : RowAt w B v out) : ∃ (a : Option Addr) (cap : Nat), v = .slice a out.length cap := by
  rcases h.2 with ⟨rfl, h0⟩ | ⟨g, cap, cur, rfl, _⟩
  · exact ⟨none, 0, by rw [h0]⟩
  · exact ⟨_, _, rfl⟩
theorem RowAt.rd (h : RowAt w B v out) : RdAt byteKind w v out := by
  obtain ⟨hl, h | ⟨g, cap, cur, rfl, hb, hg, hn, hm, hs, ht⟩⟩ := h
  · obtain ⟨rfl, h0⟩ := h
    have : out = [] := List.length_eq_zero_iff.1 h0
    subst this
    exact rdNil _ _
  · refine ⟨_, _, rfl, fun j x hx => ⟨g, 0, rfl, fun i hi => ?_⟩⟩
    have hi0 : i = 0 := by have : i < 1 := hi; omega
    subst hi0
    have hj := (List.getElem?_eq_some_iff.1 hx).1
    have h1 : cur.toList[j]? = some (.int .u8 (x.toNat : Int)) := by
      have h2 : (cur.toList.take (out.length * 1))[j]? = some (.int .u8 (x.toNat : Int)) := by rw [ht, byteCells_get, hx]; rfl
      rwa [List.getElem?_take_of_lt (by omega)] at h2
    show w.cell? ⟨g, 0 + j * 1 + 0, none⟩ = _
    rw [show 0 + j * 1 + 0 = j by omega]
    simp only [World.cell?, hg]
    simpa [byteKind] using h1
theorem RowAt.keeps {S : Nat → Prop} (h : RowAt w B v out) (hk : Keeps S w w') (hn : ∀ g, B ≤ g → ¬ S g) : RowAt w' B v out := by
  obtain ⟨hl, h | ⟨g, cap, cur, rfl, hb, hg, r⟩⟩ := h
  · exact ⟨hl, .inl h⟩
  · exact ⟨hl, .inr ⟨g, cap, cur, rfl, hb, hk.obj hg (hn g hb), r⟩⟩
theorem RowAt.own (h : RowAt w B v out) : ∀ k, v.ownBlock = some k → B ≤ k := by
  intro k hk
  obtain ⟨hl, ⟨rfl, _⟩ | ⟨g, cap, cur, rfl, hb, _⟩⟩ := h
  · simp [Value.ownBlock] at hk
  · obtain rfl : g = k := by simpa [Value.ownBlock] using hk
    exact hb
theorem keeps_of_grown {row : Option Nat} (h : w.grownBy w' row) : Keeps (fun k => row = some k) w w' :=
  ⟨h.os, h.tape, h.output, h.size, fun k hk hn => h.block k hk fun e => hn e.symm⟩
theorem byteCells_append (a b : List UInt8) : byteCells (a ++ b) = byteCells a ++ byteCells b := by simp [byteCells]
theorem byteCells_len (a : List UInt8) : (byteCells a).length = a.length := by simp [byteCells]
theorem flat_bytes : ∀ ys : List UInt8, ys.flatMap byteKind.enc = byteCells ys
  | [] => rfl
  | y :: ys => by rw [List.flatMap_cons, flat_bytes ys]; rfl
theorem infoByte : (Tryz.prog.info? 5).map (fun i => (i.zero, i.size, i.bytes)) = some (some (.int .u8 0), 1, 1) := by kernel_rfl
theorem u_appendRune (h : RowAt w B v out) (hB : B ≤ w.heap.size) (ho : out.length ≤ 100000000) (r : Nat) (hr : r < 0x110000) :
    Calls Tryz.prog 98 #[v, .int .i32 (r : Int)] w fun e w' => ∃ v', e = .returned v' ∧ RowAt w' B v' (out ++ encodeRune (r : Int)) ∧ Keeps (fun k => B ≤ k) w w' := by
  refine (Tryz.utf8_AppendRune_plain B v out.length (byteCells out) (r : Int) (by omega) (by omega) w h (by omega) hB).mono ?_
  rintro e w' ⟨v', rfl, ho, o, hg⟩
  refine ⟨v', rfl, ?_, ?_⟩
  · unfold RowAt
    rw [byteCells_append, List.length_append, Lib.byteCells_encodeRune, ← Lib.runeCells_length]
    exact ho
  · refine (((Keeps.refl _ w).alloc o).trans (keeps_of_grown hg) ?_)
    intro k _ hk
    exact h.own k hk
/-- append(out, u...): what comes of it. -/
theorem run_append_row (h : RowAt w B v out) (hB : B ≤ w.heap.size) {a : Option Addr} {cap : Nat} {ys : List UInt8} (hu : RdAt byteKind w (.slice a ys.length cap) ys) (hy : ys ≠ []) (hn : out.length + ys.length ≤ 1000000000) (ty : TypeId) :
    ∃ v' w', (Builtin.append_ #[26, 26] ty #[v, .slice a ys.length cap]).run Tryz.prog w = .ok v' w' ∧ RowAt w' B v' (out ++ ys) ∧ Keeps (fun k => B ≤ k) w w' := by
  obtain ⟨a', cap', e, hnil, hcell⟩ := hu.cells
  injection e with e1 _ e3
  subst e1 e3
  cases a with
  | none => exact absurd (hnil rfl) hy
  | some b =>
    obtain ⟨i, hi, hz, hs, hb⟩ := info_parts infoByte
    obtain ⟨v', w', h1, h2, h3, _⟩ := run_append_own (P := Tryz.prog) w B 26 ty 5 i _ 1 1 Tryz.underlying26 hi hz hs hb rfl (by decide) v out.length (byteCells out) h b ys.length cap (byteCells ys) (by rw [byteCells_len]; omega)
      (fun j u hu => hcell b rfl j u (by rw [flat_bytes]; exact hu)) (fun u hu => by simp only [byteCells, List.mem_map] at hu; obtain ⟨x, _, rfl⟩ := hu; rfl) (by unfold maxLen; omega) (by omega) hB
    refine ⟨v', w', h1, ?_, ?_⟩
    · unfold RowAt
      rw [byteCells_append, List.length_append]
      exact h2
    · exact (keeps_of_grown h3).mono fun k _ hk => h.own k hk
end
set_option maxRecDepth 100000 in
/-- The decoder, at a slice of bytes. -/
theorem u_decode {w : World} {g off n cap : Nat} {l : List UInt8} (h : RdAt byteKind w (.slice (some ⟨g, off, none⟩) n cap) l) (hl : n = l.length) (hT : Tabs w) :
    Calls Tryz.prog 101 #[.slice (some ⟨g, off, none⟩) n cap] w fun e w' => e = .returned (.tuple #[.int .i32 ((Lib.decodeGo (str l)).1 : Int), .int .i64 ((Lib.decodeGo (str l)).2 : Int)]) ∧ Below w.heap.size w w' := by
  have hz : (str l).size = n := by rw [hl]; simp [str, ByteArray.size]
  have := Any7.utf8_DecodeRune (P := Tryz.prog) Tryz.laysDecode (str l) g off cap w hT (fun j hj => by
    have hj' : j < l.length := by omega
    have hx : l[j]? = some l[j] := List.getElem?_eq_getElem hj'
    have := byte_at h hx rfl
    rw [this]
    congr 3
    simp [str, ByteArray.get!, getElem!_def, hx])
  rw [hz] at this
  exact this
end Go.Proofs.YthjcolehccbihaaGreatDoor
