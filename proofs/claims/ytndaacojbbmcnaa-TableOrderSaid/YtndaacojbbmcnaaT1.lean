/- The walks of the tree's functions, at keys that are strings and values that are ints. -/
import Derived.Test.YtndaacojbbmcnaaRows
import Derived.Test.YtndaacojbbmcnaaKeys
import Derived.WalkSpells
import Derived.WalkLawsBesides
import Derived.Deep.RegionHeld3
import Derived.Lib.MinMax
import Derived.Lib.Hide
namespace Go.Proofs.Ytndaacojbbmcnaa
open Go.RowKit

abbrev SK : ByteArray → Value := .string
abbrev SV : Int → Value := .int .i64
abbrev STree : World → Tr ByteArray Int → Option Addr → Prop := TreeAt SK SV 111

set_option maxHeartbeats 400000 in
theorem s_tall (w : World) (t : Tr ByteArray Int) (p : Option Addr) (h : STree w t p) : Calls Try.prog 87 #[.pointer p] w fun e w' => e = .returned (.int .i64 (t.tall : Int)) ∧ w = w' := by
  cases t with
  | leaf =>
    obtain rfl : p = none := h
    go_enter Try.func87, Try.ntmps87
    go_wp2
    go_ret
    exact ⟨rfl, rfl⟩
  | node k v l r =>
    obtain ⟨b, pl, pr, rfl, hb, _, _⟩ := h
    have hc : w.cell? ⟨b, 4, none⟩ = some (.int .i64 ((1 + max l.tall r.tall : Nat) : Int)) := blk_cell hb 4
    clear hb
    go_enter Try.func87, Try.ntmps87
    go_wp2
    go_ret
    exact ⟨rfl, rfl⟩
set_option maxHeartbeats 400000 in
theorem s_many (w : World) (t : Tr ByteArray Int) (p : Option Addr) (h : STree w t p) : Calls Try.prog 55 #[.pointer p] w fun e w' => e = .returned (.int .i64 (t.size : Int)) ∧ w = w' := by
  cases t with
  | leaf =>
    obtain rfl : p = none := h
    go_enter Try.func55, Try.ntmps55
    go_wp2
    go_ret
    exact ⟨rfl, rfl⟩
  | node k v l r =>
    obtain ⟨b, pl, pr, rfl, hb, _, _⟩ := h
    have hc : w.cell? ⟨b, 5, none⟩ = some (.int .i64 ((1 + l.size + r.size : Nat) : Int)) := blk_cell hb 5
    clear hb
    go_enter Try.func55, Try.ntmps55
    go_wp2
    go_ret
    exact ⟨rfl, rfl⟩
set_option maxHeartbeats 400000 in
theorem s_made (w : World) (k : ByteArray) (v : Int) (l r : Tr ByteArray Int) (pl pr : Option Addr) (hl : STree w l pl) (hr : STree w r pr) (hn : l.size + r.size < 1000000) :
    Calls Try.prog 69 #[.string k, .int .i64 v, .pointer pl, .pointer pr] w fun e w' => ∃ p, e = .returned (.pointer (some p)) ∧ STree w' (.node k v l r) (some p) ∧ Below w.heap.size w w' := by
  have htl := l.tall_le
  have htr := r.tall_le
  have b1 : ((l.tall : Nat) : Int) < 1000000 := by omega
  have b2 : ((r.tall : Nat) : Int) < 1000000 := by omega
  have b3 : ((l.size : Nat) : Int) + (r.size : Nat) < 1000000 := by omega
  go_enter Try.func69, Try.ntmps69
  go_wp2_with fail
  refine (s_tall _ l pl hl).mono ?_
  rintro e w' ⟨rfl, rfl⟩
  go_wp2_with fail
  refine (s_tall _ r pr hr).mono ?_
  rintro e w' ⟨rfl, rfl⟩
  clear htl htr hn
  go_wp2_with fail
  refine (s_many _ l pl hl).mono ?_
  rintro e w' ⟨rfl, rfl⟩
  go_wp2_with fail
  refine (s_many _ r pr hr).mono ?_
  rintro e w' ⟨rfl, rfl⟩
  go_wp2
  go_ret
  refine ⟨_, rfl, ⟨_, pl, pr, rfl, ?_, hl.alloc _, hr.alloc _⟩, (Below.refl _ _).alloc (Nat.le_refl _) _⟩
  exact (blk_new w _).trans (by rw [show (1 + max (l.tall : Int) (r.tall : Int)) = ((1 + max l.tall r.tall : Nat) : Int) from by omega, show (1 + (l.size : Int) + (r.size : Int)) = ((1 + l.size + r.size : Nat) : Int) from by omega])

theorem s_tallI {w : World} {t : Tr ByteArray Int} {p : Option Addr} (h : STree w t p) (hn : t.size < 1000000) : ∃ a : Int, Hid (a = (t.tall : Int)) ∧ 0 ≤ a ∧ a < 1000000 ∧
    Hid (∀ w', Below w.heap.size w w' → Calls Try.prog 87 #[.pointer p] w' fun e w'' => e = .returned (.int .i64 a) ∧ w' = w'') :=
  ⟨(t.tall : Int), rfl, by omega, by have := t.tall_le; omega, fun w' hb => s_tall w' t p (h.below hb)⟩

set_option maxRecDepth 100000 in
set_option maxHeartbeats 400000 in
/-- even, where no side is too tall. -/
theorem s_even0 (w : World) (k : ByteArray) (v : Int) (l r : Tr ByteArray Int) (pl pr : Option Addr) (hl : STree w l pl) (hr : STree w r pr) (hn : l.size + r.size < 1000000)
    (h1 : l.tall ≤ r.tall + 1) (h2 : r.tall ≤ l.tall + 1) :
    Calls Try.prog 70 #[.string k, .int .i64 v, .pointer pl, .pointer pr] w fun e w' => ∃ p, e = .returned (.pointer (some p)) ∧ STree w' (.node k v l r) (some p) ∧ Below w.heap.size w w' := by
  obtain ⟨a, ea, a0, a1, HA⟩ := s_tallI hl (by omega)
  obtain ⟨b, eb, b0, b1, HB⟩ := s_tallI hr (by omega)
  have c1 : a ≤ b + 1 := by rw [ea.out, eb.out]; omega
  have c2 : b ≤ a + 1 := by rw [ea.out, eb.out]; omega
  have HD := Lib.hid (s_made w k v l r pl pr hl hr hn)
  clear hn h1 h2 hl hr
  go_enter Try.func70, Try.ntmps70
  go_wp2_with fail
  refine (HA.out _ (Below.refl _ _)).mono ?_
  rintro e w' ⟨rfl, rfl⟩
  go_wp2_with fail
  refine (HB.out _ (Below.refl _ _)).mono ?_
  rintro e w' ⟨rfl, rfl⟩
  go_wp2_with fail
  refine (HB.out _ (Below.refl _ _)).mono ?_
  rintro e w' ⟨rfl, rfl⟩
  go_wp2_with fail
  refine (HA.out _ (Below.refl _ _)).mono ?_
  rintro e w' ⟨rfl, rfl⟩
  go_wp2_with fail
  refine HD.out.mono ?_
  rintro e w' ⟨p, rfl, h3, h4⟩
  go_wp2
  go_ret
  exact ⟨p, rfl, h3, h4⟩
end Go.Proofs.Ytndaacojbbmcnaa
