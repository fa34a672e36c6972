/- The walks of the table's functions at keys that are ints and values that are strings (printed by mk_order.py out of those at strings and ints). -/
import Derived.Test.YtndaacojbbmcnaaT6
namespace Go.Proofs.Ytndaacojbbmcnaa.Oi
open Go.RowKit Go.RwLone Go.Proofs.Ytndaacojbbmcnaa
abbrev SK : Int → Value := .int .i64
abbrev SV : ByteArray → Value := .string
abbrev STree : World → Tr Int ByteArray → Option Addr → Prop := TreeAt SK SV 116
set_option maxHeartbeats 400000 in
theorem s_tall (w : World) (t : Tr Int ByteArray) (p : Option Addr) (h : STree w t p) : Calls Try.prog 88 #[.pointer p] w fun e w' => e = .returned (.int .i64 (t.tall : Int)) ∧ w = w' := by
  cases t with
  | leaf =>
    obtain rfl : p = none := h
    go_enter Try.func88, Try.ntmps88
    go_wp2
    go_ret
    exact ⟨rfl, rfl⟩
  | node k v l r =>
    obtain ⟨b, pl, pr, rfl, hb, _, _⟩ := h
    have hc : w.cell? ⟨b, 4, none⟩ = some (.int .i64 ((1 + max l.tall r.tall : Nat) : Int)) := blk_cell hb 4
    clear hb
    go_enter Try.func88, Try.ntmps88
    go_wp2
    go_ret
    exact ⟨rfl, rfl⟩
set_option maxHeartbeats 400000 in
theorem s_many (w : World) (t : Tr Int ByteArray) (p : Option Addr) (h : STree w t p) : Calls Try.prog 78 #[.pointer p] w fun e w' => e = .returned (.int .i64 (t.size : Int)) ∧ w = w' := by
  cases t with
  | leaf =>
    obtain rfl : p = none := h
    go_enter Try.func78, Try.ntmps78
    go_wp2
    go_ret
    exact ⟨rfl, rfl⟩
  | node k v l r =>
    obtain ⟨b, pl, pr, rfl, hb, _, _⟩ := h
    have hc : w.cell? ⟨b, 5, none⟩ = some (.int .i64 ((1 + l.size + r.size : Nat) : Int)) := blk_cell hb 5
    clear hb
    go_enter Try.func78, Try.ntmps78
    go_wp2
    go_ret
    exact ⟨rfl, rfl⟩
set_option maxHeartbeats 400000 in
theorem s_made (w : World) (k : Int) (v : ByteArray) (l r : Tr Int ByteArray) (pl pr : Option Addr) (hl : STree w l pl) (hr : STree w r pr) (hn : l.size + r.size < 1000000) :
    Calls Try.prog 72 #[.int .i64 k, .string v, .pointer pl, .pointer pr] w fun e w' => ∃ p, e = .returned (.pointer (some p)) ∧ STree w' (.node k v l r) (some p) ∧ Below w.heap.size w w' := by
  have htl := l.tall_le
  have htr := r.tall_le
  have b1 : ((l.tall : Nat) : Int) < 1000000 := by omega
  have b2 : ((r.tall : Nat) : Int) < 1000000 := by omega
  have b3 : ((l.size : Nat) : Int) + (r.size : Nat) < 1000000 := by omega
  go_enter Try.func72, Try.ntmps72
  go_wp2_with fail
  refine (s_tall _ l pl hl).mono ?_
  rintro e w' ⟨rfl, rfl⟩
  go_wp2_with fail
  refine (s_tall _ r pr hr).mono ?_
  rintro e w' ⟨rfl, rfl⟩
  clear htl htr hn
  go_wp2_with fail
  refine (s_many _ l pl hl).mono ?_
  rintro e w' ⟨rfl, rfl⟩
  go_wp2_with fail
  refine (s_many _ r pr hr).mono ?_
  rintro e w' ⟨rfl, rfl⟩
  go_wp2
  go_ret
  refine ⟨_, rfl, ⟨_, pl, pr, rfl, ?_, hl.alloc _, hr.alloc _⟩, (Below.refl _ _).alloc (Nat.le_refl _) _⟩
  exact (blk_new w _).trans (by rw [show (1 + max (l.tall : Int) (r.tall : Int)) = ((1 + max l.tall r.tall : Nat) : Int) from by omega, show (1 + (l.size : Int) + (r.size : Int)) = ((1 + l.size + r.size : Nat) : Int) from by omega])
theorem s_tallI {w : World} {t : Tr Int ByteArray} {p : Option Addr} (h : STree w t p) (hn : t.size < 1000000) : ∃ a : Int, Hid (a = (t.tall : Int)) ∧ 0 ≤ a ∧ a < 1000000 ∧
    Hid (∀ w', Below w.heap.size w w' → Calls Try.prog 88 #[.pointer p] w' fun e w'' => e = .returned (.int .i64 a) ∧ w' = w'') :=
  ⟨(t.tall : Int), rfl, by omega, by have := t.tall_le; omega, fun w' hb => s_tall w' t p (h.below hb)⟩
set_option maxRecDepth 100000 in
set_option maxHeartbeats 400000 in
/-- even, where no side is too tall. -/
theorem s_even0 (w : World) (k : Int) (v : ByteArray) (l r : Tr Int ByteArray) (pl pr : Option Addr) (hl : STree w l pl) (hr : STree w r pr) (hn : l.size + r.size < 1000000)
    (h1 : l.tall ≤ r.tall + 1) (h2 : r.tall ≤ l.tall + 1) :
    Calls Try.prog 73 #[.int .i64 k, .string v, .pointer pl, .pointer pr] w fun e w' => ∃ p, e = .returned (.pointer (some p)) ∧ STree w' (.node k v l r) (some p) ∧ Below w.heap.size w w' := by
  obtain ⟨a, ea, a0, a1, HA⟩ := s_tallI hl (by omega)
  obtain ⟨b, eb, b0, b1, HB⟩ := s_tallI hr (by omega)
  have c1 : a ≤ b + 1 := by rw [ea.out, eb.out]; omega
  have c2 : b ≤ a + 1 := by rw [ea.out, eb.out]; omega
  have HD := Lib.hid (s_made w k v l r pl pr hl hr hn)
  clear hn h1 h2 hl hr
  go_enter Try.func73, Try.ntmps73
  go_wp2_with fail
  refine (HA.out _ (Below.refl _ _)).mono ?_
  rintro e w' ⟨rfl, rfl⟩
  go_wp2_with fail
  refine (HB.out _ (Below.refl _ _)).mono ?_
  rintro e w' ⟨rfl, rfl⟩
  go_wp2_with fail
  refine (HB.out _ (Below.refl _ _)).mono ?_
  rintro e w' ⟨rfl, rfl⟩
  go_wp2_with fail
  refine (HA.out _ (Below.refl _ _)).mono ?_
  rintro e w' ⟨rfl, rfl⟩
  go_wp2_with fail
  refine HD.out.mono ?_
  rintro e w' ⟨p, rfl, h3, h4⟩
  go_wp2
  go_ret
  exact ⟨p, rfl, h3, h4⟩
/-- made, in every later world. -/
theorem s_madeH {w : World} (k : Int) (v : ByteArray) {l r : Tr Int ByteArray} {pl pr : Option Addr} (hl : STree w l pl) (hr : STree w r pr) (hn : l.size + r.size < 1000000) :
    Hid (∀ w1, Below w.heap.size w w1 → Calls Try.prog 72 #[.int .i64 k, .string v, .pointer pl, .pointer pr] w1 fun e w' => ∃ p, e = .returned (.pointer (some p)) ∧ STree w' (.node k v l r) (some p) ∧ Below w.heap.size w w' ∧ Below w1.heap.size w1 w') :=
  Lib.hid (fun w1 hb => (s_made w1 k v l r pl pr (hl.below hb) (hr.below hb) hn).mono (fun _ _ ⟨p, he, ht, hb1⟩ => ⟨p, he, ht, hb.trans (hb1.mono hb.size), hb1⟩))
set_option maxRecDepth 100000 in
set_option maxHeartbeats 1000000 in
theorem s_evenL1 (w : World) (k : Int) (v : ByteArray) (lk : Int) (lv : ByteArray) (ll lr r : Tr Int ByteArray) (pl pr : Option Addr) (hl : STree w (.node lk lv ll lr) pl) (hr : STree w r pr)
    (hn : (Tr.node lk lv ll lr).size + r.size < 1000000) (h1 : r.tall + 1 < (Tr.node lk lv ll lr).tall) (h2 : lr.tall ≤ ll.tall) :
    Calls Try.prog 73 #[.int .i64 k, .string v, .pointer pl, .pointer pr] w fun e w' => ∃ p, e = .returned (.pointer (some p)) ∧ STree w' (.node lk lv ll (.node k v lr r)) (some p) ∧ Below w.heap.size w w' := by
  obtain ⟨a, ea, a0, a1, HA⟩ := s_tallI hl (by omega)
  obtain ⟨b, eb, b0, b1, HB⟩ := s_tallI hr (by omega)
  obtain ⟨bl, pll, plr, rfl, hbl, hll, hlr⟩ := hl
  have hs : (Tr.node lk lv ll lr).size = 1 + ll.size + lr.size := rfl
  obtain ⟨c, ec, c0, c1, HC⟩ := s_tallI hll (by omega)
  obtain ⟨d, ed, d0, d1, HE⟩ := s_tallI hlr (by omega)
  have t1 : b + 1 < a := by rw [ea.out, eb.out]; omega
  have t2 : d ≤ c := by rw [ec.out, ed.out]; omega
  have HM := s_madeH k v hlr hr (by omega)
  have HL := Lib.hid (show Below w.heap.size w w from Below.refl _ _)
  have hlt := lt_of_block hbl
  have k0 : w.cell? ⟨bl, 0, none⟩ = some (.int .i64 lk) := blk_cell hbl 0
  have k1 : w.cell? ⟨bl, 1, none⟩ = some (.string lv) := blk_cell hbl 1
  have k2 : w.cell? ⟨bl, 2, none⟩ = some (.pointer pll) := blk_cell hbl 2
  have k3 : w.cell? ⟨bl, 3, none⟩ = some (.pointer plr) := blk_cell hbl 3
  have HLL := Lib.hid hll
  have HN : Hid (ll.size + (Tr.node k v lr r).size < 1000000) := Lib.hid (by simp only [Tr.size]; omega)
  clear hn h1 h2 hs hbl hll hlr hr
  go_enter Try.func73, Try.ntmps73
  go_wp2_with fail
  refine (HA.out _ (Below.refl _ _)).mono ?_
  rintro e w' ⟨rfl, rfl⟩
  go_wp2_with fail
  refine (HB.out _ (Below.refl _ _)).mono ?_
  rintro e w' ⟨rfl, rfl⟩
  go_wp2_with fail
  go_quiet ((go_at_call 88; first | (with_reducible exact quiet_hid HC) | (with_reducible exact quiet_hid HE)))
  go_wp2_with fail
  have hq : Below w.heap.size w (w.drewN nq) := ⟨rfl, rfl, rfl, Nat.le_refl _, fun _ _ => rfl⟩
  go_region_held3 (fun w' => w'.cell? ⟨bl, 0, none⟩ = some (.int .i64 lk) ∧ w'.cell? ⟨bl, 1, none⟩ = some (.string lv) ∧ w'.cell? ⟨bl, 2, none⟩ = some (.pointer pll) ∧ w'.cell? ⟨bl, 3, none⟩ = some (.pointer plr))
    (first
      | go_keep
      | exact ⟨(g2.cell (p := ⟨bl, 0, none⟩) hlt).trans k0, (g2.cell (p := ⟨bl, 1, none⟩) hlt).trans k1, (g2.cell (p := ⟨bl, 2, none⟩) hlt).trans k2, (g2.cell (p := ⟨bl, 3, none⟩) hlt).trans k3⟩
      | exact ⟨(g1.cell (p := ⟨bl, 0, none⟩) hlt).trans k0, (g1.cell (p := ⟨bl, 1, none⟩) hlt).trans k1, (g1.cell (p := ⟨bl, 2, none⟩) hlt).trans k2, (g1.cell (p := ⟨bl, 3, none⟩) hlt).trans k3⟩)
    (first
      | (go_at_call 72; (with_reducible refine (HM.out _ ?_).mono ?_); exact hq.drew; rintro e w1 ⟨p1, rfl, t1, g1, _⟩)
      | (go_at_call 72; (with_reducible refine (s_made _ lk lv ll (.node k v lr r) pll (some p1) ?_ t1 ?_).mono ?_); exact (HLL.out).below g1; exact HN.out; rintro e w2 ⟨p2, rfl, t2, g2'⟩; have g2 := g1.trans (g2'.mono g1.size)))
  go_wp2
  go_ret
  exact ⟨p2, rfl, t2, g2⟩
set_option maxRecDepth 100000 in
set_option maxHeartbeats 2000000 in
theorem s_evenL2 (w : World) (k : Int) (v : ByteArray) (lk : Int) (lv : ByteArray) (ll : Tr Int ByteArray) (mk : Int) (mv : ByteArray) (ml mr r : Tr Int ByteArray) (pl pr : Option Addr) (hl : STree w (Tr.node lk lv ll (Tr.node mk mv ml mr)) pl) (hr : STree w r pr)
    (hn : (Tr.node lk lv ll (Tr.node mk mv ml mr)).size + r.size < 1000000) (h1 : r.tall + 1 < (Tr.node lk lv ll (Tr.node mk mv ml mr)).tall) (h2 : ll.tall < (Tr.node mk mv ml mr).tall) :
    Calls Try.prog 73 #[.int .i64 k, .string v, .pointer pl, .pointer pr] w fun e w' => ∃ p, e = .returned (.pointer (some p)) ∧ STree w' (.node mk mv (.node lk lv ll ml) (.node k v mr r)) (some p) ∧ Below w.heap.size w w' := by
  obtain ⟨a, ea, a0, a1, HA⟩ := s_tallI hl (by omega)
  obtain ⟨b, eb, b0, b1, HB⟩ := s_tallI hr (by omega)
  obtain ⟨bl, pll, plr, rfl, hbl, hll, hlr⟩ := hl
  obtain ⟨c, ec, c0, c1, HC⟩ := s_tallI hll (by simp only [Tr.size] at hn; omega)
  obtain ⟨d, ed, d0, d1, HE⟩ := s_tallI hlr (by simp only [Tr.size] at hn ⊢; omega)
  have t1 : b + 1 < a := by rw [ea.out, eb.out]; omega
  have t2 : c < d := by rw [ec.out, ed.out]; exact_mod_cast h2
  have HN : Hid ((Tr.node lk lv ll ml).size + (Tr.node k v mr r).size < 1000000) := Lib.hid (by simp only [Tr.size] at hn ⊢; omega)
  obtain ⟨bm, pml, pmr, e9, hbm, hml, hmr⟩ := hlr
  subst e9
  have HM1 := s_madeH lk lv hll hml (by simp only [Tr.size] at hn; omega)
  have HM2 := s_madeH k v hmr hr (by simp only [Tr.size] at hn; omega)
  have hltbl := lt_of_block hbl
  have hltbm := lt_of_block hbm
  have k0 : w.cell? ⟨bl, 0, none⟩ = some (.int .i64 lk) := blk_cell hbl 0
  have k1 : w.cell? ⟨bl, 1, none⟩ = some (.string lv) := blk_cell hbl 1
  have k2 : w.cell? ⟨bl, 2, none⟩ = some (.pointer pll) := blk_cell hbl 2
  have k3 : w.cell? ⟨bl, 3, none⟩ = some (.pointer (some ⟨bm, 0, none⟩)) := blk_cell hbl 3
  have k4 : w.cell? ⟨bm, 0, none⟩ = some (.int .i64 mk) := blk_cell hbm 0
  have k5 : w.cell? ⟨bm, 1, none⟩ = some (.string mv) := blk_cell hbm 1
  have k6 : w.cell? ⟨bm, 2, none⟩ = some (.pointer pml) := blk_cell hbm 2
  have k7 : w.cell? ⟨bm, 3, none⟩ = some (.pointer pmr) := blk_cell hbm 3
  clear hn h1 h2 hbl hbm hll hml hmr hr
  go_enter Try.func73, Try.ntmps73
  go_wp2_with fail
  refine (HA.out _ (Below.refl _ _)).mono ?_
  rintro e w' ⟨rfl, rfl⟩
  go_wp2_with fail
  refine (HB.out _ (Below.refl _ _)).mono ?_
  rintro e w' ⟨rfl, rfl⟩
  go_wp2_with fail
  go_quiet ((go_at_call 88; first | (with_reducible exact quiet_hid HC) | (with_reducible exact quiet_hid HE)))
  go_wp2_with fail
  have hq : Below w.heap.size w (w.drewN nq) := ⟨rfl, rfl, rfl, Nat.le_refl _, fun _ _ => rfl⟩
  go_region_held3 (fun w' => w'.cell? ⟨bl, 0, none⟩ = some (.int .i64 lk) ∧ w'.cell? ⟨bl, 1, none⟩ = some (.string lv) ∧ w'.cell? ⟨bl, 2, none⟩ = some (.pointer pll) ∧ w'.cell? ⟨bm, 0, none⟩ = some (.int .i64 mk) ∧ w'.cell? ⟨bm, 1, none⟩ = some (.string mv) ∧ w'.cell? ⟨bm, 2, none⟩ = some (.pointer pml) ∧ w'.cell? ⟨bm, 3, none⟩ = some (.pointer pmr))
    (first
      | go_keep
      | exact ⟨(g3.cell (p := ⟨bl, 0, none⟩) hltbl).trans k0, (g3.cell (p := ⟨bl, 1, none⟩) hltbl).trans k1, (g3.cell (p := ⟨bl, 2, none⟩) hltbl).trans k2, (g3.cell (p := ⟨bm, 0, none⟩) hltbm).trans k4, (g3.cell (p := ⟨bm, 1, none⟩) hltbm).trans k5, (g3.cell (p := ⟨bm, 2, none⟩) hltbm).trans k6, (g3.cell (p := ⟨bm, 3, none⟩) hltbm).trans k7⟩
      | exact ⟨(g2.cell (p := ⟨bl, 0, none⟩) hltbl).trans k0, (g2.cell (p := ⟨bl, 1, none⟩) hltbl).trans k1, (g2.cell (p := ⟨bl, 2, none⟩) hltbl).trans k2, (g2.cell (p := ⟨bm, 0, none⟩) hltbm).trans k4, (g2.cell (p := ⟨bm, 1, none⟩) hltbm).trans k5, (g2.cell (p := ⟨bm, 2, none⟩) hltbm).trans k6, (g2.cell (p := ⟨bm, 3, none⟩) hltbm).trans k7⟩
      | exact ⟨(g1.cell (p := ⟨bl, 0, none⟩) hltbl).trans k0, (g1.cell (p := ⟨bl, 1, none⟩) hltbl).trans k1, (g1.cell (p := ⟨bl, 2, none⟩) hltbl).trans k2, (g1.cell (p := ⟨bm, 0, none⟩) hltbm).trans k4, (g1.cell (p := ⟨bm, 1, none⟩) hltbm).trans k5, (g1.cell (p := ⟨bm, 2, none⟩) hltbm).trans k6, (g1.cell (p := ⟨bm, 3, none⟩) hltbm).trans k7⟩)
    (first
      | (go_at_call 72; (with_reducible refine (HM1.out _ ?_).mono ?_); exact hq.drew; rintro e w1 ⟨p1, rfl, t1, g1, _⟩)
      | (go_at_call 72; (with_reducible refine (HM2.out _ ?_).mono ?_); exact g1; rintro e w2 ⟨p2, rfl, t2, g2, g2'⟩)
      | (go_at_call 72; (with_reducible refine (s_made _ mk mv (.node lk lv ll ml) (.node k v mr r) (some p1) (some p2) ?_ t2 ?_).mono ?_); exact TreeAt.below g2' t1; exact HN.out; rintro e w3 ⟨p3, rfl, t3, g3'⟩; have g3 := g2.trans (g3'.mono g2.size)))
  go_wp2
  go_ret
  exact ⟨p3, rfl, t3, g3⟩
set_option maxRecDepth 100000 in
set_option maxHeartbeats 2000000 in
theorem s_evenR1 (w : World) (k : Int) (v : ByteArray) (rk : Int) (rv : ByteArray) (l rl rr : Tr Int ByteArray) (pl pr : Option Addr) (hl : STree w l pl) (hr : STree w (.node rk rv rl rr) pr)
    (hn : l.size + (Tr.node rk rv rl rr).size < 1000000) (h1 : l.tall + 1 < (Tr.node rk rv rl rr).tall) (h2 : rl.tall ≤ rr.tall) :
    Calls Try.prog 73 #[.int .i64 k, .string v, .pointer pl, .pointer pr] w fun e w' => ∃ p, e = .returned (.pointer (some p)) ∧ STree w' (.node rk rv (.node k v l rl) rr) (some p) ∧ Below w.heap.size w w' := by
  obtain ⟨a, ea, a0, a1, HA⟩ := s_tallI hl (by omega)
  obtain ⟨b, eb, b0, b1, HB⟩ := s_tallI hr (by omega)
  obtain ⟨bl, pll, plr, rfl, hbl, hll, hlr⟩ := hr
  obtain ⟨c, ec, c0, c1, HC⟩ := s_tallI hlr (by simp only [Tr.size] at hn; omega)
  obtain ⟨d, ed, d0, d1, HE⟩ := s_tallI hll (by simp only [Tr.size] at hn; omega)
  have t1 : a + 1 < b := by rw [ea.out, eb.out]; omega
  have t3 : a ≤ b + 1 := by omega
  have t2 : d ≤ c := by rw [ec.out, ed.out]; exact_mod_cast h2
  have HM := s_madeH k v hl hll (by simp only [Tr.size] at hn; omega)
  have HN : Hid ((Tr.node k v l rl).size + rr.size < 1000000) := Lib.hid (by simp only [Tr.size] at hn ⊢; omega)
  have HLL := Lib.hid hlr
  have hltbl := lt_of_block hbl
  have k0 : w.cell? ⟨bl, 0, none⟩ = some (.int .i64 rk) := blk_cell hbl 0
  have k1 : w.cell? ⟨bl, 1, none⟩ = some (.string rv) := blk_cell hbl 1
  have k2 : w.cell? ⟨bl, 2, none⟩ = some (.pointer pll) := blk_cell hbl 2
  have k3 : w.cell? ⟨bl, 3, none⟩ = some (.pointer plr) := blk_cell hbl 3
  clear hn h1 h2 hbl hll hlr hl
  go_enter Try.func73, Try.ntmps73
  go_wp2_with fail
  refine (HA.out _ (Below.refl _ _)).mono ?_
  rintro e w' ⟨rfl, rfl⟩
  go_wp2_with fail
  refine (HB.out _ (Below.refl _ _)).mono ?_
  rintro e w' ⟨rfl, rfl⟩
  go_wp2_with fail
  refine (HB.out _ (Below.refl _ _)).mono ?_
  rintro e w' ⟨rfl, rfl⟩
  go_wp2_with fail
  refine (HA.out _ (Below.refl _ _)).mono ?_
  rintro e w' ⟨rfl, rfl⟩
  go_wp2_with fail
  go_quiet ((go_at_call 88; first | (with_reducible exact quiet_hid HC) | (with_reducible exact quiet_hid HE)))
  go_wp2_with fail
  have hq : Below w.heap.size w (w.drewN nq) := ⟨rfl, rfl, rfl, Nat.le_refl _, fun _ _ => rfl⟩
  go_region_held3 (fun w' => w'.cell? ⟨bl, 0, none⟩ = some (.int .i64 rk) ∧ w'.cell? ⟨bl, 1, none⟩ = some (.string rv) ∧ w'.cell? ⟨bl, 2, none⟩ = some (.pointer pll) ∧ w'.cell? ⟨bl, 3, none⟩ = some (.pointer plr))
    (first
      | go_keep
      | exact ⟨(g2.cell (p := ⟨bl, 0, none⟩) hltbl).trans k0, (g2.cell (p := ⟨bl, 1, none⟩) hltbl).trans k1, (g2.cell (p := ⟨bl, 2, none⟩) hltbl).trans k2, (g2.cell (p := ⟨bl, 3, none⟩) hltbl).trans k3⟩
      | exact ⟨(g1.cell (p := ⟨bl, 0, none⟩) hltbl).trans k0, (g1.cell (p := ⟨bl, 1, none⟩) hltbl).trans k1, (g1.cell (p := ⟨bl, 2, none⟩) hltbl).trans k2, (g1.cell (p := ⟨bl, 3, none⟩) hltbl).trans k3⟩)
    (first
      | (go_at_call 72; (with_reducible refine (HM.out _ ?_).mono ?_); exact hq.drew; rintro e w1 ⟨p1, rfl, t1, g1, _⟩)
      | (go_at_call 72; (with_reducible refine (s_made _ rk rv (.node k v l rl) rr (some p1) plr t1 ?_ ?_).mono ?_); exact (HLL.out).below g1; exact HN.out; rintro e w2 ⟨p2, rfl, t2, g2'⟩; have g2 := g1.trans (g2'.mono g1.size)))
  go_wp2
  go_ret
  exact ⟨p2, rfl, t2, g2⟩
set_option maxRecDepth 100000 in
set_option maxHeartbeats 2000000 in
theorem s_evenR2 (w : World) (k : Int) (v : ByteArray) (rk : Int) (rv : ByteArray) (l : Tr Int ByteArray) (mk : Int) (mv : ByteArray) (ml mr rr : Tr Int ByteArray) (pl pr : Option Addr) (hl : STree w l pl) (hr : STree w (Tr.node rk rv (Tr.node mk mv ml mr) rr) pr)
    (hn : l.size + (Tr.node rk rv (Tr.node mk mv ml mr) rr).size < 1000000) (h1 : l.tall + 1 < (Tr.node rk rv (Tr.node mk mv ml mr) rr).tall) (h2 : rr.tall < (Tr.node mk mv ml mr).tall) :
    Calls Try.prog 73 #[.int .i64 k, .string v, .pointer pl, .pointer pr] w fun e w' => ∃ p, e = .returned (.pointer (some p)) ∧ STree w' (.node mk mv (.node k v l ml) (.node rk rv mr rr)) (some p) ∧ Below w.heap.size w w' := by
  obtain ⟨a, ea, a0, a1, HA⟩ := s_tallI hl (by omega)
  obtain ⟨b, eb, b0, b1, HB⟩ := s_tallI hr (by omega)
  obtain ⟨bl, pll, plr, rfl, hbl, hll, hlr⟩ := hr
  obtain ⟨c, ec, c0, c1, HC⟩ := s_tallI hlr (by simp only [Tr.size] at hn; omega)
  obtain ⟨d, ed, d0, d1, HE⟩ := s_tallI hll (by simp only [Tr.size] at hn ⊢; omega)
  have t1 : a + 1 < b := by rw [ea.out, eb.out]; omega
  have t3 : a ≤ b + 1 := by omega
  have t2 : c < d := by rw [ec.out, ed.out]; exact_mod_cast h2
  have HN : Hid ((Tr.node k v l ml).size + (Tr.node rk rv mr rr).size < 1000000) := Lib.hid (by simp only [Tr.size] at hn ⊢; omega)
  obtain ⟨bm, pml, pmr, e9, hbm, hml, hmr⟩ := hll
  subst e9
  have HM1 := s_madeH k v hl hml (by simp only [Tr.size] at hn; omega)
  have HM2 := s_madeH rk rv hmr hlr (by simp only [Tr.size] at hn; omega)
  have hltbl := lt_of_block hbl
  have hltbm := lt_of_block hbm
  have k0 : w.cell? ⟨bl, 0, none⟩ = some (.int .i64 rk) := blk_cell hbl 0
  have k1 : w.cell? ⟨bl, 1, none⟩ = some (.string rv) := blk_cell hbl 1
  have k2 : w.cell? ⟨bl, 2, none⟩ = some (.pointer (some ⟨bm, 0, none⟩)) := blk_cell hbl 2
  have k3 : w.cell? ⟨bl, 3, none⟩ = some (.pointer plr) := blk_cell hbl 3
  have k4 : w.cell? ⟨bm, 0, none⟩ = some (.int .i64 mk) := blk_cell hbm 0
  have k5 : w.cell? ⟨bm, 1, none⟩ = some (.string mv) := blk_cell hbm 1
  have k6 : w.cell? ⟨bm, 2, none⟩ = some (.pointer pml) := blk_cell hbm 2
  have k7 : w.cell? ⟨bm, 3, none⟩ = some (.pointer pmr) := blk_cell hbm 3
  clear hn h1 h2 hbl hbm hlr hml hmr hl
  go_enter Try.func73, Try.ntmps73
  go_wp2_with fail
  refine (HA.out _ (Below.refl _ _)).mono ?_
  rintro e w' ⟨rfl, rfl⟩
  go_wp2_with fail
  refine (HB.out _ (Below.refl _ _)).mono ?_
  rintro e w' ⟨rfl, rfl⟩
  go_wp2_with fail
  refine (HB.out _ (Below.refl _ _)).mono ?_
  rintro e w' ⟨rfl, rfl⟩
  go_wp2_with fail
  refine (HA.out _ (Below.refl _ _)).mono ?_
  rintro e w' ⟨rfl, rfl⟩
  go_wp2_with fail
  go_quiet ((go_at_call 88; first | (with_reducible exact quiet_hid HC) | (with_reducible exact quiet_hid HE)))
  go_wp2_with fail
  have hq : Below w.heap.size w (w.drewN nq) := ⟨rfl, rfl, rfl, Nat.le_refl _, fun _ _ => rfl⟩
  go_region_held3 (fun w' => w'.cell? ⟨bl, 0, none⟩ = some (.int .i64 rk) ∧ w'.cell? ⟨bl, 1, none⟩ = some (.string rv) ∧ w'.cell? ⟨bl, 3, none⟩ = some (.pointer plr) ∧ w'.cell? ⟨bm, 0, none⟩ = some (.int .i64 mk) ∧ w'.cell? ⟨bm, 1, none⟩ = some (.string mv) ∧ w'.cell? ⟨bm, 2, none⟩ = some (.pointer pml) ∧ w'.cell? ⟨bm, 3, none⟩ = some (.pointer pmr))
    (first
      | go_keep
      | exact ⟨(g3.cell (p := ⟨bl, 0, none⟩) hltbl).trans k0, (g3.cell (p := ⟨bl, 1, none⟩) hltbl).trans k1, (g3.cell (p := ⟨bl, 3, none⟩) hltbl).trans k3, (g3.cell (p := ⟨bm, 0, none⟩) hltbm).trans k4, (g3.cell (p := ⟨bm, 1, none⟩) hltbm).trans k5, (g3.cell (p := ⟨bm, 2, none⟩) hltbm).trans k6, (g3.cell (p := ⟨bm, 3, none⟩) hltbm).trans k7⟩
      | exact ⟨(g2.cell (p := ⟨bl, 0, none⟩) hltbl).trans k0, (g2.cell (p := ⟨bl, 1, none⟩) hltbl).trans k1, (g2.cell (p := ⟨bl, 3, none⟩) hltbl).trans k3, (g2.cell (p := ⟨bm, 0, none⟩) hltbm).trans k4, (g2.cell (p := ⟨bm, 1, none⟩) hltbm).trans k5, (g2.cell (p := ⟨bm, 2, none⟩) hltbm).trans k6, (g2.cell (p := ⟨bm, 3, none⟩) hltbm).trans k7⟩
      | exact ⟨(g1.cell (p := ⟨bl, 0, none⟩) hltbl).trans k0, (g1.cell (p := ⟨bl, 1, none⟩) hltbl).trans k1, (g1.cell (p := ⟨bl, 3, none⟩) hltbl).trans k3, (g1.cell (p := ⟨bm, 0, none⟩) hltbm).trans k4, (g1.cell (p := ⟨bm, 1, none⟩) hltbm).trans k5, (g1.cell (p := ⟨bm, 2, none⟩) hltbm).trans k6, (g1.cell (p := ⟨bm, 3, none⟩) hltbm).trans k7⟩)
    (first
      | (go_at_call 72; (with_reducible refine (HM1.out _ ?_).mono ?_); exact hq.drew; rintro e w1 ⟨p1, rfl, t1, g1, _⟩)
      | (go_at_call 72; (with_reducible refine (HM2.out _ ?_).mono ?_); exact g1; rintro e w2 ⟨p2, rfl, t2, g2, g2'⟩)
      | (go_at_call 72; (with_reducible refine (s_made _ mk mv (.node k v l ml) (.node rk rv mr rr) (some p1) (some p2) ?_ t2 ?_).mono ?_); exact TreeAt.below g2' t1; exact HN.out; rintro e w3 ⟨p3, rfl, t3, g3'⟩; have g3 := g2.trans (g3'.mono g2.size)))
  go_wp2
  go_ret
  exact ⟨p3, rfl, t3, g3⟩
/-- even, whatever the sides. -/
theorem s_even (w : World) (k : Int) (v : ByteArray) (l r : Tr Int ByteArray) (pl pr : Option Addr) (hl : STree w l pl) (hr : STree w r pr) (hn : l.size + r.size < 1000000) :
    Calls Try.prog 73 #[.int .i64 k, .string v, .pointer pl, .pointer pr] w fun e w' => ∃ p, e = .returned (.pointer (some p)) ∧ STree w' (Tr.even k v l r) (some p) ∧ Below w.heap.size w w' := by
  by_cases c1 : r.tall + 1 < l.tall
  · cases l with
    | leaf => simp [Tr.tall] at c1
    | node lk lv ll lr =>
      by_cases c2 : lr.tall ≤ ll.tall
      · have e : Tr.even k v (.node lk lv ll lr) r = .node lk lv ll (.node k v lr r) := by unfold Tr.even; rw [if_pos c1]; simp only; rw [if_pos c2]
        rw [e]; exact s_evenL1 w k v lk lv ll lr r pl pr hl hr hn c1 c2
      · cases lr with
        | leaf => simp [Tr.tall] at c2
        | node mk mv ml mr =>
          have e : Tr.even k v (.node lk lv ll (.node mk mv ml mr)) r = .node mk mv (.node lk lv ll ml) (.node k v mr r) := by unfold Tr.even; rw [if_pos c1]; simp only; rw [if_neg c2]
          rw [e]; exact s_evenL2 w k v lk lv ll mk mv ml mr r pl pr hl hr hn c1 (by omega)
  · by_cases c3 : l.tall + 1 < r.tall
    · cases r with
      | leaf => simp [Tr.tall] at c3
      | node rk rv rl rr =>
        by_cases c2 : rl.tall ≤ rr.tall
        · have e : Tr.even k v l (.node rk rv rl rr) = .node rk rv (.node k v l rl) rr := by unfold Tr.even; rw [if_neg c1, if_pos c3]; simp only; rw [if_pos c2]
          rw [e]; exact s_evenR1 w k v rk rv l rl rr pl pr hl hr hn c3 c2
        · cases rl with
          | leaf => simp [Tr.tall] at c2
          | node mk mv ml mr =>
            have e : Tr.even k v l (.node rk rv (.node mk mv ml mr) rr) = .node mk mv (.node k v l ml) (.node rk rv mr rr) := by unfold Tr.even; rw [if_neg c1, if_pos c3]; simp only; rw [if_neg c2]
            rw [e]; exact s_evenR2 w k v rk rv l mk mv ml mr rr pl pr hl hr hn c3 (by omega)
    · have e : Tr.even k v l r = .node k v l r := by unfold Tr.even; rw [if_neg c1, if_neg c3]
      rw [e]; exact s_even0 w k v l r pl pr hl hr hn (by omega) (by omega)
theorem s_evenH {w : World} (k : Int) (v : ByteArray) {l r : Tr Int ByteArray} {pl pr : Option Addr} (hl : STree w l pl) (hr : STree w r pr) (hn : l.size + r.size < 1000000) :
    Hid (∀ w1, Below w.heap.size w w1 → Calls Try.prog 73 #[.int .i64 k, .string v, .pointer pl, .pointer pr] w1 fun e w' => ∃ p, e = .returned (.pointer (some p)) ∧ STree w' (Tr.even k v l r) (some p) ∧ Below w.heap.size w w' ∧ Below w1.heap.size w1 w') :=
  Lib.hid (fun w1 hb => (s_even w1 k v l r pl pr (hl.below hb) (hr.below hb) hn).mono (fun _ _ ⟨p, he, ht, hb1⟩ => ⟨p, he, ht, hb.trans (hb1.mono hb.size), hb1⟩))
theorem s_later {w : World} {f : FuncId} {args : Array Value} {t : Tr Int ByteArray}
    (h : ∀ w1, Below w.heap.size w w1 → Calls Try.prog f args w1 fun e w' => ∃ q, e = .returned (.pointer (some q)) ∧ STree w' t (some q) ∧ Below w1.heap.size w1 w') :
    Hid (∀ w1, Below w.heap.size w w1 → Calls Try.prog f args w1 fun e w' => ∃ q, e = .returned (.pointer (some q)) ∧ STree w' t (some q) ∧ Below w.heap.size w w') :=
  Lib.hid (fun w1 hb => (h w1 hb).mono (fun _ _ ⟨q, he, ht, hb1⟩ => ⟨q, he, ht, hb.trans (hb1.mono hb.size)⟩))
theorem s_laterO {w : World} {f : FuncId} {args : Array Value} {t : Tr Int ByteArray}
    (h : ∀ w1, Below w.heap.size w w1 → Calls Try.prog f args w1 fun e w' => ∃ q, e = .returned (.pointer q) ∧ STree w' t q ∧ Below w1.heap.size w1 w') :
    Hid (∀ w1, Below w.heap.size w w1 → Calls Try.prog f args w1 fun e w' => ∃ q, e = .returned (.pointer q) ∧ STree w' t q ∧ Below w.heap.size w w') :=
  Lib.hid (fun w1 hb => (h w1 hb).mono (fun _ _ ⟨q, he, ht, hb1⟩ => ⟨q, he, ht, hb.trans (hb1.mono hb.size)⟩))
set_option maxRecDepth 100000 in
set_option maxHeartbeats 2000000 in
theorem s_put (k : Int) (v : ByteArray) : ∀ (t : Tr Int ByteArray) (p : Option Addr) (w : World), STree w t p → t.size < 900000 →
    Calls Try.prog 40 #[.pointer p, .int .i64 k, .string v] w fun e w' => ∃ q, e = .returned (.pointer (some q)) ∧ STree w' (t.put ilt k v) (some q) ∧ Below w.heap.size w w' := by
  intro t
  induction t with
  | leaf =>
    rintro p w rfl hn
    have HM := s_madeH (w := w) k v (l := .leaf) (r := .leaf) (pl := none) (pr := none) rfl rfl (by simp [Tr.size])
    go_enter Try.func40, Try.ntmps40
    go_wp2_with fail
    refine (HM.out _ (Below.refl _ _)).mono ?_
    rintro e w1 ⟨p1, rfl, t1, g1, _⟩
    go_wp2
    go_ret
    exact ⟨p1, rfl, t1, g1⟩
  | node k' v' l r ihl ihr =>
    rintro p w ⟨b, pl, pr, rfl, hb, hl, hr⟩ hn
    have hs : (Tr.node k' v' l r).size = 1 + l.size + r.size := rfl
    have sl := size_put (lt := ilt) l k v
    have sr := size_put (lt := ilt) r k v
    have hlt := lt_of_block hb
    have k0 : w.cell? ⟨b, 0, none⟩ = some (.int .i64 k') := blk_cell hb 0
    have k1 : w.cell? ⟨b, 1, none⟩ = some (.string v') := blk_cell hb 1
    have k2 : w.cell? ⟨b, 2, none⟩ = some (.pointer pl) := blk_cell hb 2
    have k3 : w.cell? ⟨b, 3, none⟩ = some (.pointer pr) := blk_cell hb 3
    have IHL := s_later (fun w1 (hb1 : Below w.heap.size w w1) => ihl pl w1 (hl.below hb1) (by omega))
    have IHR := s_later (fun w1 (hb1 : Below w.heap.size w w1) => ihr pr w1 (hr.below hb1) (by omega))
    have HL := Lib.hid hl
    have HR := Lib.hid hr
    have HN1 := Lib.hid (show (l.put ilt k v).size + r.size < 1000000 by omega)
    have HN2 := Lib.hid (show l.size + (r.put ilt k v).size < 1000000 by omega)
    have HM := s_madeH k v hl hr (by omega)
    clear ihl ihr hs sl sr hn hb hl hr
    cases c1 : ilt k k' with
    | true =>
      have hp : Hid (Tr.put ilt (.node k' v' l r) k v = Tr.even k' v' (l.put ilt k v) r) := Lib.hid (by show Tr.put ilt _ k v = _; rw [Tr.put]; rw [if_pos c1])
      have q1 : k < k' := by simpa [ilt] using c1
      clear c1
      go_enter Try.func40, Try.ntmps40
      go_wp2_with fail
      go_region_held3 (fun w' => w'.cell? ⟨b, 0, none⟩ = some (.int .i64 k') ∧ w'.cell? ⟨b, 1, none⟩ = some (.string v') ∧ w'.cell? ⟨b, 2, none⟩ = some (.pointer pl) ∧ w'.cell? ⟨b, 3, none⟩ = some (.pointer pr))
        (first
          | go_keep
          | exact ⟨(g2.cell (p := ⟨b, 0, none⟩) hlt).trans k0, (g2.cell (p := ⟨b, 1, none⟩) hlt).trans k1, (g2.cell (p := ⟨b, 2, none⟩) hlt).trans k2, (g2.cell (p := ⟨b, 3, none⟩) hlt).trans k3⟩
          | exact ⟨(g1.cell (p := ⟨b, 0, none⟩) hlt).trans k0, (g1.cell (p := ⟨b, 1, none⟩) hlt).trans k1, (g1.cell (p := ⟨b, 2, none⟩) hlt).trans k2, (g1.cell (p := ⟨b, 3, none⟩) hlt).trans k3⟩)
        (first
          | (go_at_call 40; (with_reducible refine (IHL.out _ ?_).mono ?_); exact (Below.refl _ _).drew; rintro e w1 ⟨p1, rfl, t1, g1⟩)
          | (go_at_call 73; (with_reducible refine (s_even _ k' v' (l.put ilt k v) r (some p1) pr t1 ?_ ?_).mono ?_); exact (HR.out).below g1; exact HN1.out; rintro e w2 ⟨p2, rfl, t2, g2'⟩; have g2 := g1.trans (g2'.mono g1.size)))
      go_wp2
      go_ret
      rw [hp.out]
      exact ⟨p2, rfl, t2, g2⟩
    | false =>
      cases c2 : ilt k' k with
      | true =>
        have hp : Hid (Tr.put ilt (.node k' v' l r) k v = Tr.even k' v' l (r.put ilt k v)) := Lib.hid (by show Tr.put ilt _ k v = _; rw [Tr.put]; rw [if_neg (by simp [c1]), if_pos c2])
        have q1 : ¬ k < k' := by simpa [ilt] using c1
        have q2 : k' < k := by simpa [ilt] using c2
        clear c1 c2
        go_enter Try.func40, Try.ntmps40
        go_wp2_with fail
        go_region_held3 (fun w' => w'.cell? ⟨b, 0, none⟩ = some (.int .i64 k') ∧ w'.cell? ⟨b, 1, none⟩ = some (.string v') ∧ w'.cell? ⟨b, 2, none⟩ = some (.pointer pl) ∧ w'.cell? ⟨b, 3, none⟩ = some (.pointer pr))
          (first
            | go_keep
            | exact ⟨(g2.cell (p := ⟨b, 0, none⟩) hlt).trans k0, (g2.cell (p := ⟨b, 1, none⟩) hlt).trans k1, (g2.cell (p := ⟨b, 2, none⟩) hlt).trans k2, (g2.cell (p := ⟨b, 3, none⟩) hlt).trans k3⟩
            | exact ⟨(g1.cell (p := ⟨b, 0, none⟩) hlt).trans k0, (g1.cell (p := ⟨b, 1, none⟩) hlt).trans k1, (g1.cell (p := ⟨b, 2, none⟩) hlt).trans k2, (g1.cell (p := ⟨b, 3, none⟩) hlt).trans k3⟩)
          (first
            | (go_at_call 40; (with_reducible refine (IHR.out _ ?_).mono ?_); exact (Below.refl _ _).drew; rintro e w1 ⟨p1, rfl, t1, g1⟩)
            | (go_at_call 73; (with_reducible refine (s_even _ k' v' l (r.put ilt k v) pl (some p1) ?_ t1 ?_).mono ?_); exact (HL.out).below g1; exact HN2.out; rintro e w2 ⟨p2, rfl, t2, g2'⟩; have g2 := g1.trans (g2'.mono g1.size)))
        go_wp2
        go_ret
        rw [hp.out]
        exact ⟨p2, rfl, t2, g2⟩
      | false =>
        obtain rfl := ilt_ord.eq _ _ c1 c2
        have hp : Hid (Tr.put ilt (.node k v' l r) k v = Tr.node k v l r) := Lib.hid (by show Tr.put ilt _ k v = _; rw [Tr.put]; rw [if_neg (by simp [c1]), if_neg (by simp [c1])])
        have q1 : True := trivial
        clear c1 c2
        go_enter Try.func40, Try.ntmps40
        go_wp2_with fail
        go_region_held3 (fun w' => w'.cell? ⟨b, 2, none⟩ = some (.pointer pl) ∧ w'.cell? ⟨b, 3, none⟩ = some (.pointer pr))
          (first
            | go_keep
            | exact ⟨(g1.cell (p := ⟨b, 2, none⟩) hlt).trans k2, (g1.cell (p := ⟨b, 3, none⟩) hlt).trans k3⟩)
          (first
            | (go_at_call 72; (with_reducible refine (HM.out _ ?_).mono ?_); exact (Below.refl _ _).drew; rintro e w1 ⟨p1, rfl, t1, g1, _⟩))
        go_wp2
        go_ret
        rw [hp.out]
        exact ⟨p1, rfl, t1, g1⟩
/-- What get hands back. -/
def getRes (o : Option ByteArray) : Value := .tuple #[.string (o.getD ByteArray.empty), .bool o.isSome]
set_option maxRecDepth 100000 in
set_option maxHeartbeats 2000000 in
theorem s_get (k : Int) (t : Tr Int ByteArray) (p : Option Addr) (w : World) (h : STree w t p) :
    Calls Try.prog 77 #[.pointer p, .int .i64 k] w fun e w' => e = .returned (getRes (t.get ilt k)) ∧ w = w' := by
  go_enter Try.func77, Try.ntmps77
  go_wp2
  go_loopg [0] (t.size + 1) (fun g s wr => ∃ (x : Tr Int ByteArray) (q : Option Addr), g = x.size + 1 ∧ s = .pointer q ∧ w = wr ∧ Hid (STree w x q) ∧ Hid (x.get ilt k = t.get ilt k))
  case atStart => exact ⟨t, p, rfl, rfl, rfl, h, rfl⟩
  case round =>
    obtain ⟨x, q, rfl, rfl, rfl, hx, he⟩ := hrel
    cases x with
    | leaf =>
      obtain rfl : q = none := hx.out
      go_wp2
      go_ret2
      exact ⟨by rw [← he.out]; rfl, rfl⟩
    | node k' v' l r =>
      obtain ⟨b, pl, pr, rfl, hb, hl, hr⟩ := hx.out
      have k0 : w.cell? ⟨b, 0, none⟩ = some (.int .i64 k') := blk_cell hb 0
      have k1 : w.cell? ⟨b, 1, none⟩ = some (.string v') := blk_cell hb 1
      have k2 : w.cell? ⟨b, 2, none⟩ = some (.pointer pl) := blk_cell hb 2
      have k3 : w.cell? ⟨b, 3, none⟩ = some (.pointer pr) := blk_cell hb 3
      have HL := Lib.hid hl
      have HR := Lib.hid hr
      clear h hb hl hr
      cases c1 : ilt k k' with
      | true =>
        have h2 : Hid (l.get ilt k = t.get ilt k) := Lib.hid (by rw [← he.out]; exact (if_pos c1).symm)
        have q1 : k < k' := by simpa [ilt] using c1
        clear c1
        go_wp2
        go_roundg (l.size + 1)
        case measure => simp [Tr.size]; omega
        case rel => exact ⟨l, pl, rfl, rfl, rfl, HL, h2⟩
      | false =>
        cases c2 : ilt k' k with
        | true =>
          have h2 : Hid (r.get ilt k = t.get ilt k) := Lib.hid (by rw [← he.out]; exact ((if_neg (by simp [c1])).trans (if_pos c2)).symm)
          have q1 : ¬ k < k' := by simpa [ilt] using c1
          have q2 : k' < k := by simpa [ilt] using c2
          clear c1 c2
          go_wp2
          go_roundg (r.size + 1)
          case measure => simp [Tr.size]; omega
          case rel => exact ⟨r, pr, rfl, rfl, rfl, HR, h2⟩
        | false =>
          obtain rfl := ilt_ord.eq _ _ c1 c2
          have h2 : Hid (some v' = t.get ilt k) := Lib.hid (by rw [← he.out]; exact ((if_neg (by simp [c1])).trans (if_neg (by simp [c1]))).symm)
          have q1 : True := trivial
          clear c1 c2
          go_wp2
          go_ret2
          exact ⟨by rw [← h2.out]; rfl, rfl⟩
/-- A table of these pairs at block tb. -/
structure STab (w : World) (tb : Nat) (t : Tr Int ByteArray) (ver : Int) : Prop where
  ex : ∃ root, IsBlk w tb (tabCells 0 0 root ver) 87 ∧ STree w t root
set_option maxHeartbeats 400000 in
theorem t_new (w : World) : Calls Try.prog 14 #[] w fun e w' => ∃ tb, e = .returned (.pointer (some ⟨tb, 0, none⟩)) ∧ STab w' tb .leaf 0 ∧ w.heap.size ≤ tb ∧ tb < w'.heap.size ∧ Below w.heap.size w w' := by
  go_enter Try.func14, Try.ntmps14
  go_wp2
  go_ret
  exact ⟨w.heap.size, rfl, ⟨none, blk_new w _, rfl⟩, Nat.le_refl _, by simp, (Below.refl _ _).alloc (Nat.le_refl _) _⟩
set_option maxRecDepth 100000 in
set_option maxHeartbeats 2000000 in
theorem t_put (w : World) (tb : Nat) (t : Tr Int ByteArray) (ver : Int) (k : Int) (v : ByteArray) (h : STab w tb t ver) (h0 : 0 ≤ ver) (h1 : ver < 1000000) (hs : t.size < 900000) :
    Calls Try.prog 15 #[.pointer (some ⟨tb, 0, none⟩), .int .i64 k, .string v] w fun e w' => e = .returned (.tuple #[]) ∧ STab w' tb (t.put ilt k v) (ver + 1) ∧ Keeps (Only tb) w w' := by
  obtain ⟨root, hb, ht⟩ := h.ex
  have H := Lib.hid h
  have HT := Lib.hid ht
  have HS := Lib.hid hs
  clear h ht hs
  go_enter_defers Try.func15, Try.ntmps15
  go_wp2_with fail
  refine (t_lock w tb root ver hb).mono ?_
  rintro e w1 ⟨rfl, hb1, hk1, hz1⟩
  have HB := Lib.hid hb
  have HK1 := Lib.hid hk1
  have HZ1 := Lib.hid hz1
  clear hb hk1 hz1
  go_wp2_with fail
  refine (t_add w1 tb _ _ root ver hb1 h0 h1).mono ?_
  rintro e w2 ⟨⟨v2, rfl⟩, hb2, hk2, hz2⟩
  have HK2 := Lib.hid (HK1.out.trans' hk2)
  have ht2 := HT.out.keepT (kept_T HB.out (by decide) HK2.out)
  have hc : w2.cell? ⟨tb, 6, none⟩ = some (.pointer root) := blk_cell hb2 6
  have HP := Lib.hid (s_put k v t root w2 ht2 HS.out)
  have HB2 := Lib.hid hb2
  clear hb1 hk2 hz2 ht2 hb2
  go_wp2_with fail
  refine HP.out.mono ?_
  rintro e w3 ⟨q, rfl, ht3, hg3⟩
  have hb3 : IsBlk w3 tb (tabCells 1 (-1073741824) root (ver + 1)) 87 := (hg3.block tb (lt_of_block HB2.out)).trans HB2.out
  have hc3 : w3.cell? ⟨tb, 6, none⟩ = some (.pointer root) := blk_cell hb3 6
  have hz3 : w3.frozen? ⟨tb, 6, none⟩ = false := blk_free hb3 6
  have HB3 := Lib.hid hb3
  have HG3 := Lib.hid hg3
  have HT3 := Lib.hid ht3
  clear hc hb3 hg3 ht3
  go_wp2_with fail
  refine leaves_cons (f := 34) (args := #[.pointer (some ⟨tb, 0, none⟩)]) (by simp) (by simp [go_sem]) ?_
  have hb4 := blk_set HB3.out 6 (.pointer (some q))
  refine (t_unlockD _ tb .returning (some q) (ver + 1) hb4).mono ?_
  rintro e u' w5 ⟨rfl, rfl, hb5, hk5, _⟩
  have hk4 : Keeps (Only tb) w3 (w3.setCell ⟨tb, 6, none⟩ (.pointer (some q))) := keeps_set _ _ _ _
  refine ⟨_, results_none rfl _ _ _, rfl, ⟨some q, hb5, ?_⟩, ?_⟩
  · exact HT3.out.keepT (kept_T HB3.out (by decide) (hk4.trans' hk5))
  · exact ((HK2.out.trans' ((Keeps.of_below HG3.out).mono (fun _ _ h => h.elim))).trans' hk4).trans' hk5
/-- A snapshot of these pairs at block sb. -/
structure SSnap (w : World) (sb : Nat) (t : Tr Int ByteArray) (ver : Int) : Prop where
  ex : ∃ root, IsBlk w sb #[.pointer root, .int .i64 ver] 118 ∧ STree w t root
theorem SSnap.keeps {S : Nat → Prop} {w w' : World} {sb : Nat} {t : Tr Int ByteArray} {ver : Int} (h : SSnap w sb t ver) (hk : Keeps S w w') (h1 : ¬ S sb) (h2 : ∀ b cs, IsBlk w b cs 116 → ¬ S b) : SSnap w' sb t ver := by
  obtain ⟨root, hb, ht⟩ := h.ex
  exact ⟨root, hk.obj hb h1, ht.keeps hk h2⟩
theorem STab.keeps {S : Nat → Prop} {w w' : World} {tb : Nat} {t : Tr Int ByteArray} {ver : Int} (h : STab w tb t ver) (hk : Keeps S w w') (h1 : ¬ S tb) (h2 : ∀ b cs, IsBlk w b cs 116 → ¬ S b) : STab w' tb t ver := by
  obtain ⟨root, hb, ht⟩ := h.ex
  exact ⟨root, hk.obj hb h1, ht.keeps hk h2⟩
theorem SSnap.below {w w' : World} {sb : Nat} {t : Tr Int ByteArray} {ver : Int} (h : SSnap w sb t ver) (hk : Below w.heap.size w w') : SSnap w' sb t ver :=
  h.keeps (Keeps.of_below hk) (fun h => h) (fun _ _ _ h => h)
theorem STab.below {w w' : World} {tb : Nat} {t : Tr Int ByteArray} {ver : Int} (h : STab w tb t ver) (hk : Below w.heap.size w w') : STab w' tb t ver :=
  h.keeps (Keeps.of_below hk) (fun h => h) (fun _ _ _ h => h)
theorem STab.lt {w : World} {tb : Nat} {t : Tr Int ByteArray} {ver : Int} (h : STab w tb t ver) : tb < w.heap.size := by obtain ⟨_, hb, _⟩ := h.ex; exact lt_of_block hb
theorem SSnap.lt {w : World} {tb : Nat} {t : Tr Int ByteArray} {ver : Int} (h : SSnap w tb t ver) : tb < w.heap.size := by obtain ⟨_, hb, _⟩ := h.ex; exact lt_of_block hb
set_option maxRecDepth 100000 in
set_option maxHeartbeats 2000000 in
theorem t_snapshot (w : World) (tb : Nat) (t : Tr Int ByteArray) (ver : Int) (h : STab w tb t ver) :
    Calls Try.prog 42 #[.pointer (some ⟨tb, 0, none⟩)] w fun e w' => ∃ sb, e = .returned (.pointer (some ⟨sb, 0, none⟩)) ∧ SSnap w' sb t ver ∧ w.heap.size ≤ sb ∧ Below w.heap.size w w' := by
  obtain ⟨root, hb, ht⟩ := h.ex
  have HT := Lib.hid ht
  clear h ht
  go_enter_defers Try.func42, Try.ntmps42
  go_wp2_with fail
  refine (t_rlock w tb root ver hb).mono ?_
  rintro e w1 ⟨rfl, hb1, hk1, hz1⟩
  have HB := Lib.hid hb
  have HK1 := Lib.hid hk1
  have HB1 := Lib.hid hb1
  have HZ := Lib.hid hz1
  have hc : w1.cell? ⟨tb, 6, none⟩ = some (.pointer root) := blk_cell hb1 6
  have HL : Hid (∀ w2, Below w1.heap.size w1 w2 → Calls Try.prog 48 #[.pointer (some ⟨tb, 7, none⟩)] w2 fun e w' => e = .returned (.int .i64 ver) ∧ w2 = w') :=
    Lib.hid (fun w2 hb2 => t_load w2 tb _ _ root ver ((hb2.block tb (lt_of_block HB1.out)).trans HB1.out))
  clear hb hk1 hb1 hz1
  go_wp2_with fail
  go_region_held3 (fun w' => w'.cell? ⟨tb, 6, none⟩ = some (.pointer root))
    (first | go_keep)
    (first
      | (go_at_call 48; (with_reducible refine (HL.out _ ?_).mono ?_); exact (Below.refl _ _).drew; rintro e w2 ⟨rfl, rfl⟩))
  go_wp2_with fail
  refine leaves_cons (f := 47) (args := #[.pointer (some ⟨tb, 0, none⟩)]) (by simp) (by simp [go_sem]) ?_
  have hA : Below w1.heap.size w1 (w1.alloc (.cells #[.pointer root, .int .i64 ver] 118)).drew := ((Below.refl _ _).alloc (Nat.le_refl _) _).drew
  have hb3 : IsBlk (w1.alloc (.cells #[.pointer root, .int .i64 ver] 118)).drew tb (tabCells 0 1 root ver) 87 := (hA.block tb (lt_of_block HB1.out)).trans HB1.out
  have hs3 : IsBlk (w1.alloc (.cells #[.pointer root, .int .i64 ver] 118)).drew w1.heap.size #[.pointer root, .int .i64 ver] 118 := blk_new w1 _
  refine (t_runlockD _ tb .returning root ver hb3).mono ?_
  rintro e u' w5 ⟨rfl, rfl, hb5, hk5, _⟩
  have ht1 := HT.out.keepT (kept_T HB.out (by decide) HK1.out)
  have ht3 := ht1.below hA
  have ht5 := ht3.keepT (kept_T hb3 (by decide) hk5)
  have hne : w1.heap.size ≠ tb := fun e => by have := lt_of_block HB1.out; omega
  exact ⟨_, results_tmp rfl _ _ _, w1.heap.size, rfl, ⟨root, hk5.obj hs3 hne, ht5⟩, by rw [HZ.out]; exact Nat.le_refl _, ((HK1.out.below (hA.mono (by rw [HZ.out]; exact Nat.le_refl _))).trans' hk5).back HB.out hb5⟩
set_option maxHeartbeats 400000 in
theorem t_sget (w : World) (sb : Nat) (t : Tr Int ByteArray) (ver : Int) (k : Int) (h : SSnap w sb t ver) :
    Calls Try.prog 44 #[.pointer (some ⟨sb, 0, none⟩), .int .i64 k] w fun e w' => e = .returned (getRes (t.get ilt k)) ∧ w = w' := by
  obtain ⟨root, hb, ht⟩ := h.ex
  have hc : w.cell? ⟨sb, 0, none⟩ = some (.pointer root) := blk_cell hb 0
  have HG := Lib.hid (s_get k t root w ht)
  clear h hb ht
  go_enter Try.func44, Try.ntmps44
  go_wp2_with fail
  refine HG.out.mono ?_
  rintro e w' ⟨rfl, rfl⟩
  simp only [getRes]
  go_wp2
  go_ret2
  exact ⟨rfl, rfl⟩
set_option maxHeartbeats 400000 in
theorem t_slen (w : World) (sb : Nat) (t : Tr Int ByteArray) (ver : Int) (h : SSnap w sb t ver) :
    Calls Try.prog 45 #[.pointer (some ⟨sb, 0, none⟩)] w fun e w' => e = .returned (.int .i64 (t.size : Int)) ∧ w = w' := by
  obtain ⟨root, hb, ht⟩ := h.ex
  have hc : w.cell? ⟨sb, 0, none⟩ = some (.pointer root) := blk_cell hb 0
  have HG := Lib.hid (s_many w t root ht)
  clear h hb ht
  go_enter Try.func45, Try.ntmps45
  go_wp2_with fail
  refine HG.out.mono ?_
  rintro e w' ⟨rfl, rfl⟩
  go_wp2
  go_ret
  exact ⟨rfl, rfl⟩
/-- The table read by Get, and by Len: a snapshot is taken first. -/
theorem t_get (w : World) (tb : Nat) (t : Tr Int ByteArray) (ver : Int) (k : Int) (h : STab w tb t ver) :
    Calls Try.prog 17 #[.pointer (some ⟨tb, 0, none⟩), .int .i64 k] w fun e w' => e = .returned (getRes (t.get ilt k)) ∧ Below w.heap.size w w' := by
  have HS := Lib.hid (t_snapshot w tb t ver h)
  clear h
  go_enter Try.func17, Try.ntmps17
  go_wp2_with fail
  refine HS.out.mono ?_
  rintro e w1 ⟨sb, rfl, hs, _, hk⟩
  have HG := Lib.hid (t_sget w1 sb t ver k hs)
  have HK := Lib.hid hk
  clear hs hk
  go_wp2_with fail
  refine HG.out.mono ?_
  rintro e w' ⟨rfl, rfl⟩
  simp only [getRes]
  go_wp2
  go_ret2
  exact ⟨rfl, HK.out⟩
theorem t_len (w : World) (tb : Nat) (t : Tr Int ByteArray) (ver : Int) (h : STab w tb t ver) :
    Calls Try.prog 19 #[.pointer (some ⟨tb, 0, none⟩)] w fun e w' => e = .returned (.int .i64 (t.size : Int)) ∧ Below w.heap.size w w' := by
  have HS := Lib.hid (t_snapshot w tb t ver h)
  clear h
  go_enter Try.func19, Try.ntmps19
  go_wp2_with fail
  refine HS.out.mono ?_
  rintro e w1 ⟨sb, rfl, hs, _, hk⟩
  have HG := Lib.hid (t_slen w1 sb t ver hs)
  have HK := Lib.hid hk
  clear hs hk
  go_wp2_with fail
  refine HG.out.mono ?_
  rintro e w' ⟨rfl, rfl⟩
  go_wp2
  go_ret
  exact ⟨rfl, HK.out⟩
end Go.Proofs.Ytndaacojbbmcnaa.Oi
