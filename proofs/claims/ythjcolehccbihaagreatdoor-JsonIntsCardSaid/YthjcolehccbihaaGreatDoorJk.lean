/- utf8.FullRune walked; what the decoder says of the letter at the front, in plain words. -/
import Derived.Test.YthjcolehccbihaaGreatDoorJh
namespace Go.Proofs.YthjcolehccbihaaGreatDoor
open Go.RowKit Go.Shelf

set_option maxRecDepth 100000 in
theorem lead_and (c : UInt8) : bits .and .u8 (Lib.firstT c.toNat : Int) 7 = ((if c < 128 then 0 else if leadLen c = 0 then 1 else leadLen c : Nat) : Int) := by
  refine by_bytesP (p := fun c => bits .and .u8 (Lib.firstT c.toNat : Int) 7 = ((if c < 128 then 0 else if leadLen c = 0 then 1 else leadLen c : Nat) : Int)) (by decide +kernel) c
def leadOk (c : UInt8) : Bool := decide (leadLen c < 2) || (decide (Lib.firstT c.toNat / 16 < 16) && decide (Lib.accLo (Lib.firstT c.toNat / 16) = (lowSecond c).toNat) && decide (Lib.accHi (Lib.firstT c.toNat / 16) = (highSecond c).toNat))
theorem lead_acc (c : UInt8) (h : 2 ≤ leadLen c) : Lib.firstT c.toNat / 16 < 16 ∧ Lib.accLo (Lib.firstT c.toNat / 16) = (lowSecond c).toNat ∧ Lib.accHi (Lib.firstT c.toNat / 16) = (highSecond c).toNat := by
  have := by_bytes (p := leadOk) (q := fun _ => true) (by decide +kernel) c
  unfold leadOk at this
  simp only [Bool.or_eq_true, Bool.and_eq_true, decide_eq_true_eq] at this
  omega
set_option maxRecDepth 100000 in
set_option maxHeartbeats 2000000 in
theorem u_fullRune {w : World} {a : Option Addr} {cap : Nat} {l : List UInt8} (h : RdAt byteKind w (.slice a l.length cap) l) (hT : Tabs w) (hl : l.length ≤ 1000000) :
    Calls Tryz.prog 100 #[.slice a l.length cap] w fun e w' => e = .returned (.bool (!cutOff l)) ∧ Below w.heap.size w w' := by
  cases l with
  | nil =>
    go_enter Tryz.func100, Tryz.ntmps100
    go_wp2
    go_ret
    exact ⟨rfl, Below.refl _ _⟩
  | cons c l =>
    obtain ⟨g, off, rfl, c0⟩ := byte_cell h (k := 0) (x := c) rfl
    rw [Nat.add_zero] at c0
    have ct := hT.1 c.toNat c.toNat_lt
    obtain ⟨T, hTT⟩ : ∃ T : Nat, T = Lib.firstT c.toNat := ⟨_, rfl⟩
    rw [← hTT] at ct
    obtain ⟨m, hm⟩ : ∃ m : Int, m = ((if c < 128 then 0 else if leadLen c = 0 then 1 else leadLen c : Nat) : Int) := ⟨_, rfl⟩
    have hand : bits .and .u8 (T : Int) 7 = m := by rw [hTT, hm]; exact lead_and c
    have hc0 : (0 : Int) ≤ (c.toNat : Int) := by omega
    have hc1 : (c.toNat : Int) < 256 := by have := c.toNat_lt; omega
    obtain ⟨n, hn⟩ : ∃ n : Nat, n = (c :: l).length := ⟨_, rfl⟩
    have hnl : n = l.length + 1 := by rw [hn]; rfl
    rw [← hn]
    have hn0 : ((n : Int) == 0) = false := by simp; omega
    have hpos : (0 : Int) < (n : Int) := by omega
    have hm7 : 0 ≤ m ∧ m ≤ 7 := by
      rw [hm]
      have : leadLen c ≤ 4 := by unfold leadLen; split <;> (try split) <;> (try split) <;> (try split) <;> (try split) <;> omega
      split
      · omega
      · split <;> omega
    obtain ⟨hm0, hm1⟩ := hm7
    by_cases hlt : l.length + 1 < leadLen c
    · have hle : ¬ (m ≤ (n : Int)) := by
        rw [hm]
        have : ¬ c < 128 := fun h => by have := leadLen_one.2 h; omega
        rw [if_neg this, if_neg (by omega)]; omega
      have hi := lead_acc c (by omega)
      obtain ⟨i, hi0⟩ : ∃ i, i = Lib.firstT c.toNat / 16 := ⟨_, rfl⟩
      rw [← hi0] at hi
      obtain ⟨hi16, hlo, hhi⟩ := hi
      have hac := hT.2 i hi16
      rw [hlo, hhi, Nat.mul_comm 2 i] at hac
      obtain ⟨ac0, ac1⟩ := hac
      have hT16 : (T : Int) / 16 = (i : Int) := by rw [hi0, hTT]; omega
      have hT0 : (0 : Int) ≤ (T : Int) := by omega
      have HT16 := Lib.hid hT16
      have HNL := Lib.hid hnl
      have HLT := Lib.hid hlt
      have hi15 : (i : Int) < 16 := by omega
      clear hm hTT hlt hlo hhi hi0 hn hnl
      go_enter Tryz.func100, Tryz.ntmps100
      go_upto_region 8 with (fail)
      have HAB : Hid (Below w.heap.size w (w.alloc (.cells #[.int .u8 ((lowSecond c).toNat : Int), .int .u8 ((highSecond c).toNat : Int)] 125))) := Lib.hid ((Below.refl _ _).alloc (Nat.le_refl _) _)
      have hbx := blk_new w (.cells #[.int .u8 ((lowSecond c).toNat : Int), .int .u8 ((highSecond c).toNat : Int)] 125)
      obtain ⟨w1, hw1⟩ : ∃ w1, w1 = w.alloc (.cells #[.int .u8 ((lowSecond c).toNat : Int), .int .u8 ((highSecond c).toNat : Int)] 125) := ⟨_, rfl⟩
      rw [← hw1] at HAB hbx
      rw [← hw1]
      obtain ⟨bx, hbxe⟩ : ∃ bx, bx = w.heap.size := ⟨_, rfl⟩
      rw [← hbxe] at hbx
      rw [← hbxe]
      have z0 : w1.cell? ⟨bx, 0, none⟩ = some (.int .u8 ((lowSecond c).toNat : Int)) := blk_cell hbx 0
      have z1 : w1.cell? ⟨bx, 1, none⟩ = some (.int .u8 ((highSecond c).toNat : Int)) := blk_cell hbx 1
      have h1 := h.below HAB.out
      cases l with
      | nil =>
        have hn1 : decide ((1 : Int) < (n : Int)) = false := by have := HNL.out; simp at this; simp; omega
        have hn2 : decide ((2 : Int) < (n : Int)) = false := by have := HNL.out; simp at this; simp; omega
        have hcut : cutOff [c] = true := by have := HLT.out; simp [cutOff]; simpa using this
        have HC := Lib.hid hcut
        clear h1 hbxe hw1 hbx h hcut
        go_wp2_with (fail)
        go_quiet (fail)
        go_wp2_with (fail)
        go_ret
        exact ⟨by rw [HC.out]; rfl, HAB.out.trans (below_drewN _ _ _)⟩
      | cons d l =>
        obtain ⟨g', off', e, c1⟩ := byte_cell h1 (k := 1) (x := d) rfl
        injection e with e; injection e with e1 e2 _; subst e1 e2
        have hn0' : (1 : Int) < (n : Int) := by have := HNL.out; simp only [List.length_cons] at this; omega
        have hn1 : decide ((1 : Int) < (n : Int)) = true := by simp; omega
        obtain ⟨lo, hlo⟩ : ∃ lo : Int, lo = ((lowSecond c).toNat : Int) := ⟨_, rfl⟩
        obtain ⟨hi, hhi⟩ : ∃ hi : Int, hi = ((highSecond c).toNat : Int) := ⟨_, rfl⟩
        rw [← hlo] at z0
        rw [← hhi] at z1
        rw [← hlo, ← hhi]
        obtain ⟨dv, hdv⟩ : ∃ dv : Int, dv = (d.toNat : Int) := ⟨_, rfl⟩
        rw [← hdv] at c1
        have hok : okSecond c d = true ↔ (¬ dv < lo ∧ ¬ hi < dv) := by
          unfold okSecond
          simp only [Bool.and_eq_true, decide_eq_true_eq, u8le]
          omega
        cases hos : okSecond c d with
        | false =>
          have hcut : cutOff (c :: d :: l) = false := by cases l <;> simp [cutOff, hos]
          have hcase : (decide (dv < lo) = true) ∨ (decide (dv < lo) = false ∧ decide (hi < dv) = true) := by
            rw [hos] at hok
            have : ¬ (¬ dv < lo ∧ ¬ hi < dv) := fun h => by have := hok.2 h; cases this
            simp only [decide_eq_true_eq, decide_eq_false_iff_not]; omega
          have HC := Lib.hid hcut
          clear h1 hbxe hw1 hbx h hcut hok hos hlo hhi hdv
          rcases hcase with h3 | ⟨h3, h4⟩
          all_goals
            go_wp2_with (fail)
            go_quiet (fail)
            go_wp2_with (fail)
            go_ret
            exact ⟨by rw [HC.out]; rfl, HAB.out.trans (below_drewN _ _ _)⟩
        | true =>
          obtain ⟨h3, h4⟩ : decide (dv < lo) = false ∧ decide (hi < dv) = false := by have := hok.1 hos; simp only [decide_eq_false_iff_not]; exact this
          cases l with
          | nil =>
            have hn2 : decide ((2 : Int) < (n : Int)) = false := by have := HNL.out; simp only [List.length_cons, List.length_nil] at this; simp; omega
            have hcut : cutOff [c, d] = true := by have := HLT.out; simp only [List.length_cons, List.length_nil] at this; simp [cutOff, hos]; omega
            have HC := Lib.hid hcut
            clear h1 hbxe hw1 hbx h hcut hok hos hlo hhi hdv
            go_wp2_with (fail)
            go_quiet (fail)
            go_wp2_with (fail)
            go_ret
            exact ⟨by rw [HC.out]; rfl, HAB.out.trans (below_drewN _ _ _)⟩
          | cons e l =>
            obtain ⟨g', off', e', c2⟩ := byte_cell h1 (k := 2) (x := e) rfl
            injection e' with e'; injection e' with e1 e2 _; subst e1 e2
            have hn2' : (2 : Int) < (n : Int) := by have := HNL.out; simp only [List.length_cons] at this; omega
            have hn2 : decide ((2 : Int) < (n : Int)) = true := by simp; omega
            obtain ⟨ev, hev⟩ : ∃ ev : Int, ev = (e.toNat : Int) := ⟨_, rfl⟩
            rw [← hev] at c2
            have hcont : isCont e = true ↔ (¬ ev < 128 ∧ ¬ 191 < ev) := by
              unfold isCont
              have e1 : (128 : UInt8).toNat = 128 := rfl
              have e2 : (191 : UInt8).toNat = 191 := rfl
              simp only [Bool.and_eq_true, decide_eq_true_eq, u8le, e1, e2]
              omega
            cases hc : isCont e with
            | false =>
              have hcut : cutOff (c :: d :: e :: l) = false := by simp [cutOff, hc]
              have hcase : (decide (ev < 128) = true) ∨ (decide (ev < 128) = false ∧ decide (191 < ev) = true) := by
                rw [hc] at hcont
                have : ¬ (¬ ev < 128 ∧ ¬ 191 < ev) := fun h => by have := hcont.2 h; cases this
                simp only [decide_eq_true_eq, decide_eq_false_iff_not]; omega
              have HC := Lib.hid hcut
              clear h1 hbxe hw1 hbx h hcut hok hos hlo hhi hdv hev hcont hc
              rcases hcase with h5 | ⟨h5, h6⟩
              all_goals
                go_wp2_with (fail)
                go_quiet (fail)
                go_wp2_with (fail)
                go_ret
                exact ⟨by rw [HC.out]; rfl, HAB.out.trans (below_drewN _ _ _)⟩
            | true =>
              obtain ⟨h5, h6⟩ : decide (ev < 128) = false ∧ decide (191 < ev) = false := by have := hcont.1 hc; simp only [decide_eq_false_iff_not]; exact this
              have hcut : cutOff (c :: d :: e :: l) = true := by have := HLT.out; simp only [List.length_cons] at this; simp [cutOff, hc, hos]; omega
              have HC := Lib.hid hcut
              clear h1 hbxe hw1 hbx h hcut hok hos hlo hhi hdv hev hcont hc
              go_wp2_with (fail)
              go_quiet (fail)
              go_wp2_with (fail)
              go_ret
              exact ⟨by rw [HC.out]; rfl, HAB.out.trans (below_drewN _ _ _)⟩
    · have hle : m ≤ (n : Int) := by
        rw [hm, hnl]
        split
        · omega
        · split <;> omega
      have hcut : cutOff (c :: l) = false := by simp [cutOff, hlt]
      rw [hcut]
      clear hm hTT hlt hn hnl
      go_enter Tryz.func100, Tryz.ntmps100
      go_wp2_with (fail)
      go_ret
      exact ⟨rfl, Below.refl _ _⟩
end Go.Proofs.YthjcolehccbihaaGreatDoor
