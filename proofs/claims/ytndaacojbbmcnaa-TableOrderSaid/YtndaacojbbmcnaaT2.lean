/- The walks of the tree's functions: even, where a side is too tall. -/
import Derived.Test.YtndaacojbbmcnaaT1
import Derived.BigQuiet
namespace Go.Proofs.Ytndaacojbbmcnaa
open Go.RowKit

/-- made, in every later world. -/
theorem s_madeH {w : World} (k : ByteArray) (v : Int) {l r : Tr ByteArray Int} {pl pr : Option Addr} (hl : STree w l pl) (hr : STree w r pr) (hn : l.size + r.size < 1000000) :
    Hid (∀ w1, Below w.heap.size w w1 → Calls Try.prog 69 #[.string k, .int .i64 v, .pointer pl, .pointer pr] w1 fun e w' => ∃ p, e = .returned (.pointer (some p)) ∧ STree w' (.node k v l r) (some p) ∧ Below w.heap.size w w' ∧ Below w1.heap.size w1 w') :=
  Lib.hid (fun w1 hb => (s_made w1 k v l r pl pr (hl.below hb) (hr.below hb) hn).mono (fun _ _ ⟨p, he, ht, hb1⟩ => ⟨p, he, ht, hb.trans (hb1.mono hb.size), hb1⟩))

set_option maxRecDepth 100000 in
set_option maxHeartbeats 1000000 in
theorem s_evenL1 (w : World) (k : ByteArray) (v : Int) (lk : ByteArray) (lv : Int) (ll lr r : Tr ByteArray Int) (pl pr : Option Addr) (hl : STree w (.node lk lv ll lr) pl) (hr : STree w r pr)
    (hn : (Tr.node lk lv ll lr).size + r.size < 1000000) (h1 : r.tall + 1 < (Tr.node lk lv ll lr).tall) (h2 : lr.tall ≤ ll.tall) :
    Calls Try.prog 70 #[.string k, .int .i64 v, .pointer pl, .pointer pr] w fun e w' => ∃ p, e = .returned (.pointer (some p)) ∧ STree w' (.node lk lv ll (.node k v lr r)) (some p) ∧ Below w.heap.size w w' := by
  obtain ⟨a, ea, a0, a1, HA⟩ := s_tallI hl (by omega)
  obtain ⟨b, eb, b0, b1, HB⟩ := s_tallI hr (by omega)
  obtain ⟨bl, pll, plr, rfl, hbl, hll, hlr⟩ := hl
  have hs : (Tr.node lk lv ll lr).size = 1 + ll.size + lr.size := rfl
  obtain ⟨c, ec, c0, c1, HC⟩ := s_tallI hll (by omega)
  obtain ⟨d, ed, d0, d1, HE⟩ := s_tallI hlr (by omega)
  have t1 : b + 1 < a := by rw [ea.out, eb.out]; omega
  have t2 : d ≤ c := by rw [ec.out, ed.out]; omega
  have HM := s_madeH k v hlr hr (by omega)
  have HL := Lib.hid (show Below w.heap.size w w from Below.refl _ _)
  have hlt := lt_of_block hbl
  have k0 : w.cell? ⟨bl, 0, none⟩ = some (.string lk) := blk_cell hbl 0
  have k1 : w.cell? ⟨bl, 1, none⟩ = some (.int .i64 lv) := blk_cell hbl 1
  have k2 : w.cell? ⟨bl, 2, none⟩ = some (.pointer pll) := blk_cell hbl 2
  have k3 : w.cell? ⟨bl, 3, none⟩ = some (.pointer plr) := blk_cell hbl 3
  have HLL := Lib.hid hll
  have HN : Hid (ll.size + (Tr.node k v lr r).size < 1000000) := Lib.hid (by simp only [Tr.size]; omega)
  clear hn h1 h2 hs hbl hll hlr hr
  go_enter Try.func70, Try.ntmps70
  go_wp2_with fail
  refine (HA.out _ (Below.refl _ _)).mono ?_
  rintro e w' ⟨rfl, rfl⟩
  go_wp2_with fail
  refine (HB.out _ (Below.refl _ _)).mono ?_
  rintro e w' ⟨rfl, rfl⟩
  go_wp2_with fail
  go_quiet ((go_at_call 87; first | (with_reducible exact quiet_hid HC) | (with_reducible exact quiet_hid HE)))
  go_wp2_with fail
  have hq : Below w.heap.size w (w.drewN nq) := ⟨rfl, rfl, rfl, Nat.le_refl _, fun _ _ => rfl⟩
  go_region_held3 (fun w' => w'.cell? ⟨bl, 0, none⟩ = some (.string lk) ∧ w'.cell? ⟨bl, 1, none⟩ = some (.int .i64 lv) ∧ w'.cell? ⟨bl, 2, none⟩ = some (.pointer pll) ∧ w'.cell? ⟨bl, 3, none⟩ = some (.pointer plr))
    (first
      | go_keep
      | exact ⟨(g2.cell (p := ⟨bl, 0, none⟩) hlt).trans k0, (g2.cell (p := ⟨bl, 1, none⟩) hlt).trans k1, (g2.cell (p := ⟨bl, 2, none⟩) hlt).trans k2, (g2.cell (p := ⟨bl, 3, none⟩) hlt).trans k3⟩
      | exact ⟨(g1.cell (p := ⟨bl, 0, none⟩) hlt).trans k0, (g1.cell (p := ⟨bl, 1, none⟩) hlt).trans k1, (g1.cell (p := ⟨bl, 2, none⟩) hlt).trans k2, (g1.cell (p := ⟨bl, 3, none⟩) hlt).trans k3⟩)
    (first
      | (go_at_call 69; (with_reducible refine (HM.out _ ?_).mono ?_); exact hq.drew; rintro e w1 ⟨p1, rfl, t1, g1, _⟩)
      | (go_at_call 69; (with_reducible refine (s_made _ lk lv ll (.node k v lr r) pll (some p1) ?_ t1 ?_).mono ?_); exact (HLL.out).below g1; exact HN.out; rintro e w2 ⟨p2, rfl, t2, g2'⟩; have g2 := g1.trans (g2'.mono g1.size)))
  go_wp2
  go_ret
  exact ⟨p2, rfl, t2, g2⟩

set_option maxRecDepth 100000 in
set_option maxHeartbeats 2000000 in
theorem s_evenL2 (w : World) (k : ByteArray) (v : Int) (lk : ByteArray) (lv : Int) (ll : Tr ByteArray Int) (mk : ByteArray) (mv : Int) (ml mr r : Tr ByteArray Int) (pl pr : Option Addr) (hl : STree w (Tr.node lk lv ll (Tr.node mk mv ml mr)) pl) (hr : STree w r pr)
    (hn : (Tr.node lk lv ll (Tr.node mk mv ml mr)).size + r.size < 1000000) (h1 : r.tall + 1 < (Tr.node lk lv ll (Tr.node mk mv ml mr)).tall) (h2 : ll.tall < (Tr.node mk mv ml mr).tall) :
    Calls Try.prog 70 #[.string k, .int .i64 v, .pointer pl, .pointer pr] w fun e w' => ∃ p, e = .returned (.pointer (some p)) ∧ STree w' (.node mk mv (.node lk lv ll ml) (.node k v mr r)) (some p) ∧ Below w.heap.size w w' := by
  obtain ⟨a, ea, a0, a1, HA⟩ := s_tallI hl (by omega)
  obtain ⟨b, eb, b0, b1, HB⟩ := s_tallI hr (by omega)
  obtain ⟨bl, pll, plr, rfl, hbl, hll, hlr⟩ := hl
  obtain ⟨c, ec, c0, c1, HC⟩ := s_tallI hll (by simp only [Tr.size] at hn; omega)
  obtain ⟨d, ed, d0, d1, HE⟩ := s_tallI hlr (by simp only [Tr.size] at hn ⊢; omega)
  have t1 : b + 1 < a := by rw [ea.out, eb.out]; omega
  have t2 : c < d := by rw [ec.out, ed.out]; exact_mod_cast h2
  have HN : Hid ((Tr.node lk lv ll ml).size + (Tr.node k v mr r).size < 1000000) := Lib.hid (by simp only [Tr.size] at hn ⊢; omega)
  obtain ⟨bm, pml, pmr, e9, hbm, hml, hmr⟩ := hlr
  subst e9
  have HM1 := s_madeH lk lv hll hml (by simp only [Tr.size] at hn; omega)
  have HM2 := s_madeH k v hmr hr (by simp only [Tr.size] at hn; omega)
  have hltbl := lt_of_block hbl
  have hltbm := lt_of_block hbm
  have k0 : w.cell? ⟨bl, 0, none⟩ = some (.string lk) := blk_cell hbl 0
  have k1 : w.cell? ⟨bl, 1, none⟩ = some (.int .i64 lv) := blk_cell hbl 1
  have k2 : w.cell? ⟨bl, 2, none⟩ = some (.pointer pll) := blk_cell hbl 2
  have k3 : w.cell? ⟨bl, 3, none⟩ = some (.pointer (some ⟨bm, 0, none⟩)) := blk_cell hbl 3
  have k4 : w.cell? ⟨bm, 0, none⟩ = some (.string mk) := blk_cell hbm 0
  have k5 : w.cell? ⟨bm, 1, none⟩ = some (.int .i64 mv) := blk_cell hbm 1
  have k6 : w.cell? ⟨bm, 2, none⟩ = some (.pointer pml) := blk_cell hbm 2
  have k7 : w.cell? ⟨bm, 3, none⟩ = some (.pointer pmr) := blk_cell hbm 3
  clear hn h1 h2 hbl hbm hll hml hmr hr
  go_enter Try.func70, Try.ntmps70
  go_wp2_with fail
  refine (HA.out _ (Below.refl _ _)).mono ?_
  rintro e w' ⟨rfl, rfl⟩
  go_wp2_with fail
  refine (HB.out _ (Below.refl _ _)).mono ?_
  rintro e w' ⟨rfl, rfl⟩
  go_wp2_with fail
  go_quiet ((go_at_call 87; first | (with_reducible exact quiet_hid HC) | (with_reducible exact quiet_hid HE)))
  go_wp2_with fail
  have hq : Below w.heap.size w (w.drewN nq) := ⟨rfl, rfl, rfl, Nat.le_refl _, fun _ _ => rfl⟩
  go_region_held3 (fun w' => w'.cell? ⟨bl, 0, none⟩ = some (.string lk) ∧ w'.cell? ⟨bl, 1, none⟩ = some (.int .i64 lv) ∧ w'.cell? ⟨bl, 2, none⟩ = some (.pointer pll) ∧ w'.cell? ⟨bm, 0, none⟩ = some (.string mk) ∧ w'.cell? ⟨bm, 1, none⟩ = some (.int .i64 mv) ∧ w'.cell? ⟨bm, 2, none⟩ = some (.pointer pml) ∧ w'.cell? ⟨bm, 3, none⟩ = some (.pointer pmr))
    (first
      | go_keep
      | exact ⟨(g3.cell (p := ⟨bl, 0, none⟩) hltbl).trans k0, (g3.cell (p := ⟨bl, 1, none⟩) hltbl).trans k1, (g3.cell (p := ⟨bl, 2, none⟩) hltbl).trans k2, (g3.cell (p := ⟨bm, 0, none⟩) hltbm).trans k4, (g3.cell (p := ⟨bm, 1, none⟩) hltbm).trans k5, (g3.cell (p := ⟨bm, 2, none⟩) hltbm).trans k6, (g3.cell (p := ⟨bm, 3, none⟩) hltbm).trans k7⟩
      | exact ⟨(g2.cell (p := ⟨bl, 0, none⟩) hltbl).trans k0, (g2.cell (p := ⟨bl, 1, none⟩) hltbl).trans k1, (g2.cell (p := ⟨bl, 2, none⟩) hltbl).trans k2, (g2.cell (p := ⟨bm, 0, none⟩) hltbm).trans k4, (g2.cell (p := ⟨bm, 1, none⟩) hltbm).trans k5, (g2.cell (p := ⟨bm, 2, none⟩) hltbm).trans k6, (g2.cell (p := ⟨bm, 3, none⟩) hltbm).trans k7⟩
      | exact ⟨(g1.cell (p := ⟨bl, 0, none⟩) hltbl).trans k0, (g1.cell (p := ⟨bl, 1, none⟩) hltbl).trans k1, (g1.cell (p := ⟨bl, 2, none⟩) hltbl).trans k2, (g1.cell (p := ⟨bm, 0, none⟩) hltbm).trans k4, (g1.cell (p := ⟨bm, 1, none⟩) hltbm).trans k5, (g1.cell (p := ⟨bm, 2, none⟩) hltbm).trans k6, (g1.cell (p := ⟨bm, 3, none⟩) hltbm).trans k7⟩)
    (first
      | (go_at_call 69; (with_reducible refine (HM1.out _ ?_).mono ?_); exact hq.drew; rintro e w1 ⟨p1, rfl, t1, g1, _⟩)
      | (go_at_call 69; (with_reducible refine (HM2.out _ ?_).mono ?_); exact g1; rintro e w2 ⟨p2, rfl, t2, g2, g2'⟩)
      | (go_at_call 69; (with_reducible refine (s_made _ mk mv (.node lk lv ll ml) (.node k v mr r) (some p1) (some p2) ?_ t2 ?_).mono ?_); exact TreeAt.below g2' t1; exact HN.out; rintro e w3 ⟨p3, rfl, t3, g3'⟩; have g3 := g2.trans (g3'.mono g2.size)))
  go_wp2
  go_ret
  exact ⟨p3, rfl, t3, g3⟩

set_option maxRecDepth 100000 in
set_option maxHeartbeats 2000000 in
theorem s_evenR1 (w : World) (k : ByteArray) (v : Int) (rk : ByteArray) (rv : Int) (l rl rr : Tr ByteArray Int) (pl pr : Option Addr) (hl : STree w l pl) (hr : STree w (.node rk rv rl rr) pr)
    (hn : l.size + (Tr.node rk rv rl rr).size < 1000000) (h1 : l.tall + 1 < (Tr.node rk rv rl rr).tall) (h2 : rl.tall ≤ rr.tall) :
    Calls Try.prog 70 #[.string k, .int .i64 v, .pointer pl, .pointer pr] w fun e w' => ∃ p, e = .returned (.pointer (some p)) ∧ STree w' (.node rk rv (.node k v l rl) rr) (some p) ∧ Below w.heap.size w w' := by
  obtain ⟨a, ea, a0, a1, HA⟩ := s_tallI hl (by omega)
  obtain ⟨b, eb, b0, b1, HB⟩ := s_tallI hr (by omega)
  obtain ⟨bl, pll, plr, rfl, hbl, hll, hlr⟩ := hr
  obtain ⟨c, ec, c0, c1, HC⟩ := s_tallI hlr (by simp only [Tr.size] at hn; omega)
  obtain ⟨d, ed, d0, d1, HE⟩ := s_tallI hll (by simp only [Tr.size] at hn; omega)
  have t1 : a + 1 < b := by rw [ea.out, eb.out]; omega
  have t3 : a ≤ b + 1 := by omega
  have t2 : d ≤ c := by rw [ec.out, ed.out]; exact_mod_cast h2
  have HM := s_madeH k v hl hll (by simp only [Tr.size] at hn; omega)
  have HN : Hid ((Tr.node k v l rl).size + rr.size < 1000000) := Lib.hid (by simp only [Tr.size] at hn ⊢; omega)
  have HLL := Lib.hid hlr
  have hltbl := lt_of_block hbl
  have k0 : w.cell? ⟨bl, 0, none⟩ = some (.string rk) := blk_cell hbl 0
  have k1 : w.cell? ⟨bl, 1, none⟩ = some (.int .i64 rv) := blk_cell hbl 1
  have k2 : w.cell? ⟨bl, 2, none⟩ = some (.pointer pll) := blk_cell hbl 2
  have k3 : w.cell? ⟨bl, 3, none⟩ = some (.pointer plr) := blk_cell hbl 3
  clear hn h1 h2 hbl hll hlr hl
  go_enter Try.func70, Try.ntmps70
  go_wp2_with fail
  refine (HA.out _ (Below.refl _ _)).mono ?_
  rintro e w' ⟨rfl, rfl⟩
  go_wp2_with fail
  refine (HB.out _ (Below.refl _ _)).mono ?_
  rintro e w' ⟨rfl, rfl⟩
  go_wp2_with fail
  refine (HB.out _ (Below.refl _ _)).mono ?_
  rintro e w' ⟨rfl, rfl⟩
  go_wp2_with fail
  refine (HA.out _ (Below.refl _ _)).mono ?_
  rintro e w' ⟨rfl, rfl⟩
  go_wp2_with fail
  go_quiet ((go_at_call 87; first | (with_reducible exact quiet_hid HC) | (with_reducible exact quiet_hid HE)))
  go_wp2_with fail
  have hq : Below w.heap.size w (w.drewN nq) := ⟨rfl, rfl, rfl, Nat.le_refl _, fun _ _ => rfl⟩
  go_region_held3 (fun w' => w'.cell? ⟨bl, 0, none⟩ = some (.string rk) ∧ w'.cell? ⟨bl, 1, none⟩ = some (.int .i64 rv) ∧ w'.cell? ⟨bl, 2, none⟩ = some (.pointer pll) ∧ w'.cell? ⟨bl, 3, none⟩ = some (.pointer plr))
    (first
      | go_keep
      | exact ⟨(g2.cell (p := ⟨bl, 0, none⟩) hltbl).trans k0, (g2.cell (p := ⟨bl, 1, none⟩) hltbl).trans k1, (g2.cell (p := ⟨bl, 2, none⟩) hltbl).trans k2, (g2.cell (p := ⟨bl, 3, none⟩) hltbl).trans k3⟩
      | exact ⟨(g1.cell (p := ⟨bl, 0, none⟩) hltbl).trans k0, (g1.cell (p := ⟨bl, 1, none⟩) hltbl).trans k1, (g1.cell (p := ⟨bl, 2, none⟩) hltbl).trans k2, (g1.cell (p := ⟨bl, 3, none⟩) hltbl).trans k3⟩)
    (first
      | (go_at_call 69; (with_reducible refine (HM.out _ ?_).mono ?_); exact hq.drew; rintro e w1 ⟨p1, rfl, t1, g1, _⟩)
      | (go_at_call 69; (with_reducible refine (s_made _ rk rv (.node k v l rl) rr (some p1) plr t1 ?_ ?_).mono ?_); exact (HLL.out).below g1; exact HN.out; rintro e w2 ⟨p2, rfl, t2, g2'⟩; have g2 := g1.trans (g2'.mono g1.size)))
  go_wp2
  go_ret
  exact ⟨p2, rfl, t2, g2⟩

set_option maxRecDepth 100000 in
set_option maxHeartbeats 2000000 in
theorem s_evenR2 (w : World) (k : ByteArray) (v : Int) (rk : ByteArray) (rv : Int) (l : Tr ByteArray Int) (mk : ByteArray) (mv : Int) (ml mr rr : Tr ByteArray Int) (pl pr : Option Addr) (hl : STree w l pl) (hr : STree w (Tr.node rk rv (Tr.node mk mv ml mr) rr) pr)
    (hn : l.size + (Tr.node rk rv (Tr.node mk mv ml mr) rr).size < 1000000) (h1 : l.tall + 1 < (Tr.node rk rv (Tr.node mk mv ml mr) rr).tall) (h2 : rr.tall < (Tr.node mk mv ml mr).tall) :
    Calls Try.prog 70 #[.string k, .int .i64 v, .pointer pl, .pointer pr] w fun e w' => ∃ p, e = .returned (.pointer (some p)) ∧ STree w' (.node mk mv (.node k v l ml) (.node rk rv mr rr)) (some p) ∧ Below w.heap.size w w' := by
  obtain ⟨a, ea, a0, a1, HA⟩ := s_tallI hl (by omega)
  obtain ⟨b, eb, b0, b1, HB⟩ := s_tallI hr (by omega)
  obtain ⟨bl, pll, plr, rfl, hbl, hll, hlr⟩ := hr
  obtain ⟨c, ec, c0, c1, HC⟩ := s_tallI hlr (by simp only [Tr.size] at hn; omega)
  obtain ⟨d, ed, d0, d1, HE⟩ := s_tallI hll (by simp only [Tr.size] at hn ⊢; omega)
  have t1 : a + 1 < b := by rw [ea.out, eb.out]; omega
  have t3 : a ≤ b + 1 := by omega
  have t2 : c < d := by rw [ec.out, ed.out]; exact_mod_cast h2
  have HN : Hid ((Tr.node k v l ml).size + (Tr.node rk rv mr rr).size < 1000000) := Lib.hid (by simp only [Tr.size] at hn ⊢; omega)
  obtain ⟨bm, pml, pmr, e9, hbm, hml, hmr⟩ := hll
  subst e9
  have HM1 := s_madeH k v hl hml (by simp only [Tr.size] at hn; omega)
  have HM2 := s_madeH rk rv hmr hlr (by simp only [Tr.size] at hn; omega)
  have hltbl := lt_of_block hbl
  have hltbm := lt_of_block hbm
  have k0 : w.cell? ⟨bl, 0, none⟩ = some (.string rk) := blk_cell hbl 0
  have k1 : w.cell? ⟨bl, 1, none⟩ = some (.int .i64 rv) := blk_cell hbl 1
  have k2 : w.cell? ⟨bl, 2, none⟩ = some (.pointer (some ⟨bm, 0, none⟩)) := blk_cell hbl 2
  have k3 : w.cell? ⟨bl, 3, none⟩ = some (.pointer plr) := blk_cell hbl 3
  have k4 : w.cell? ⟨bm, 0, none⟩ = some (.string mk) := blk_cell hbm 0
  have k5 : w.cell? ⟨bm, 1, none⟩ = some (.int .i64 mv) := blk_cell hbm 1
  have k6 : w.cell? ⟨bm, 2, none⟩ = some (.pointer pml) := blk_cell hbm 2
  have k7 : w.cell? ⟨bm, 3, none⟩ = some (.pointer pmr) := blk_cell hbm 3
  clear hn h1 h2 hbl hbm hlr hml hmr hl
  go_enter Try.func70, Try.ntmps70
  go_wp2_with fail
  refine (HA.out _ (Below.refl _ _)).mono ?_
  rintro e w' ⟨rfl, rfl⟩
  go_wp2_with fail
  refine (HB.out _ (Below.refl _ _)).mono ?_
  rintro e w' ⟨rfl, rfl⟩
  go_wp2_with fail
  refine (HB.out _ (Below.refl _ _)).mono ?_
  rintro e w' ⟨rfl, rfl⟩
  go_wp2_with fail
  refine (HA.out _ (Below.refl _ _)).mono ?_
  rintro e w' ⟨rfl, rfl⟩
  go_wp2_with fail
  go_quiet ((go_at_call 87; first | (with_reducible exact quiet_hid HC) | (with_reducible exact quiet_hid HE)))
  go_wp2_with fail
  have hq : Below w.heap.size w (w.drewN nq) := ⟨rfl, rfl, rfl, Nat.le_refl _, fun _ _ => rfl⟩
  go_region_held3 (fun w' => w'.cell? ⟨bl, 0, none⟩ = some (.string rk) ∧ w'.cell? ⟨bl, 1, none⟩ = some (.int .i64 rv) ∧ w'.cell? ⟨bl, 3, none⟩ = some (.pointer plr) ∧ w'.cell? ⟨bm, 0, none⟩ = some (.string mk) ∧ w'.cell? ⟨bm, 1, none⟩ = some (.int .i64 mv) ∧ w'.cell? ⟨bm, 2, none⟩ = some (.pointer pml) ∧ w'.cell? ⟨bm, 3, none⟩ = some (.pointer pmr))
    (first
      | go_keep
      | exact ⟨(g3.cell (p := ⟨bl, 0, none⟩) hltbl).trans k0, (g3.cell (p := ⟨bl, 1, none⟩) hltbl).trans k1, (g3.cell (p := ⟨bl, 3, none⟩) hltbl).trans k3, (g3.cell (p := ⟨bm, 0, none⟩) hltbm).trans k4, (g3.cell (p := ⟨bm, 1, none⟩) hltbm).trans k5, (g3.cell (p := ⟨bm, 2, none⟩) hltbm).trans k6, (g3.cell (p := ⟨bm, 3, none⟩) hltbm).trans k7⟩
      | exact ⟨(g2.cell (p := ⟨bl, 0, none⟩) hltbl).trans k0, (g2.cell (p := ⟨bl, 1, none⟩) hltbl).trans k1, (g2.cell (p := ⟨bl, 3, none⟩) hltbl).trans k3, (g2.cell (p := ⟨bm, 0, none⟩) hltbm).trans k4, (g2.cell (p := ⟨bm, 1, none⟩) hltbm).trans k5, (g2.cell (p := ⟨bm, 2, none⟩) hltbm).trans k6, (g2.cell (p := ⟨bm, 3, none⟩) hltbm).trans k7⟩
      | exact ⟨(g1.cell (p := ⟨bl, 0, none⟩) hltbl).trans k0, (g1.cell (p := ⟨bl, 1, none⟩) hltbl).trans k1, (g1.cell (p := ⟨bl, 3, none⟩) hltbl).trans k3, (g1.cell (p := ⟨bm, 0, none⟩) hltbm).trans k4, (g1.cell (p := ⟨bm, 1, none⟩) hltbm).trans k5, (g1.cell (p := ⟨bm, 2, none⟩) hltbm).trans k6, (g1.cell (p := ⟨bm, 3, none⟩) hltbm).trans k7⟩)
    (first
      | (go_at_call 69; (with_reducible refine (HM1.out _ ?_).mono ?_); exact hq.drew; rintro e w1 ⟨p1, rfl, t1, g1, _⟩)
      | (go_at_call 69; (with_reducible refine (HM2.out _ ?_).mono ?_); exact g1; rintro e w2 ⟨p2, rfl, t2, g2, g2'⟩)
      | (go_at_call 69; (with_reducible refine (s_made _ mk mv (.node k v l ml) (.node rk rv mr rr) (some p1) (some p2) ?_ t2 ?_).mono ?_); exact TreeAt.below g2' t1; exact HN.out; rintro e w3 ⟨p3, rfl, t3, g3'⟩; have g3 := g2.trans (g3'.mono g2.size)))
  go_wp2
  go_ret
  exact ⟨p3, rfl, t3, g3⟩

/-- even, whatever the sides. -/
theorem s_even (w : World) (k : ByteArray) (v : Int) (l r : Tr ByteArray Int) (pl pr : Option Addr) (hl : STree w l pl) (hr : STree w r pr) (hn : l.size + r.size < 1000000) :
    Calls Try.prog 70 #[.string k, .int .i64 v, .pointer pl, .pointer pr] w fun e w' => ∃ p, e = .returned (.pointer (some p)) ∧ STree w' (Tr.even k v l r) (some p) ∧ Below w.heap.size w w' := by
  by_cases c1 : r.tall + 1 < l.tall
  · cases l with
    | leaf => simp [Tr.tall] at c1
    | node lk lv ll lr =>
      by_cases c2 : lr.tall ≤ ll.tall
      · have e : Tr.even k v (.node lk lv ll lr) r = .node lk lv ll (.node k v lr r) := by unfold Tr.even; rw [if_pos c1]; simp only; rw [if_pos c2]
        rw [e]; exact s_evenL1 w k v lk lv ll lr r pl pr hl hr hn c1 c2
      · cases lr with
        | leaf => simp [Tr.tall] at c2
        | node mk mv ml mr =>
          have e : Tr.even k v (.node lk lv ll (.node mk mv ml mr)) r = .node mk mv (.node lk lv ll ml) (.node k v mr r) := by unfold Tr.even; rw [if_pos c1]; simp only; rw [if_neg c2]
          rw [e]; exact s_evenL2 w k v lk lv ll mk mv ml mr r pl pr hl hr hn c1 (by omega)
  · by_cases c3 : l.tall + 1 < r.tall
    · cases r with
      | leaf => simp [Tr.tall] at c3
      | node rk rv rl rr =>
        by_cases c2 : rl.tall ≤ rr.tall
        · have e : Tr.even k v l (.node rk rv rl rr) = .node rk rv (.node k v l rl) rr := by unfold Tr.even; rw [if_neg c1, if_pos c3]; simp only; rw [if_pos c2]
          rw [e]; exact s_evenR1 w k v rk rv l rl rr pl pr hl hr hn c3 c2
        · cases rl with
          | leaf => simp [Tr.tall] at c2
          | node mk mv ml mr =>
            have e : Tr.even k v l (.node rk rv (.node mk mv ml mr) rr) = .node mk mv (.node k v l ml) (.node rk rv mr rr) := by unfold Tr.even; rw [if_neg c1, if_pos c3]; simp only; rw [if_neg c2]
            rw [e]; exact s_evenR2 w k v rk rv l mk mv ml mr rr pl pr hl hr hn c3 (by omega)
    · have e : Tr.even k v l r = .node k v l r := by unfold Tr.even; rw [if_neg c1, if_neg c3]
      rw [e]; exact s_even0 w k v l r pl pr hl hr hn (by omega) (by omega)
end Go.Proofs.Ytndaacojbbmcnaa
