/- The walks of the tree's functions: drop, get. -/
import Derived.Test.YtndaacojbbmcnaaT3
import Derived.Deep.LoopGhost
namespace Go.Proofs.Ytndaacojbbmcnaa
open Go.RowKit

set_option maxRecDepth 100000 in
set_option maxHeartbeats 2000000 in
theorem s_drop (k : ByteArray) : ∀ (t : Tr ByteArray Int) (p : Option Addr) (w : World), STree w t p → t.size < 900000 →
    Calls Try.prog 39 #[.pointer p, .string k] w fun e w' => ∃ q, e = .returned (.pointer q) ∧ STree w' (t.drop slt k) q ∧ Below w.heap.size w w' := by
  intro t
  induction t with
  | leaf =>
    rintro p w rfl hn
    go_enter Try.func39, Try.ntmps39
    go_wp2
    go_ret
    exact ⟨none, rfl, rfl, Below.refl _ _⟩
  | node k' v' l r ihl ihr =>
    rintro p w ⟨b, pl, pr, rfl, hb, hl, hr⟩ hn
    have hs : (Tr.node k' v' l r).size = 1 + l.size + r.size := rfl
    have sl := size_drop (lt := slt) l k
    have sr := size_drop (lt := slt) r k
    have hlt := lt_of_block hb
    have k0 : w.cell? ⟨b, 0, none⟩ = some (.string k') := blk_cell hb 0
    have k1 : w.cell? ⟨b, 1, none⟩ = some (.int .i64 v') := blk_cell hb 1
    have k2 : w.cell? ⟨b, 2, none⟩ = some (.pointer pl) := blk_cell hb 2
    have k3 : w.cell? ⟨b, 3, none⟩ = some (.pointer pr) := blk_cell hb 3
    have IHL := s_laterO (fun w1 (hb1 : Below w.heap.size w w1) => ihl pl w1 (hl.below hb1) (by omega))
    have IHR := s_laterO (fun w1 (hb1 : Below w.heap.size w w1) => ihr pr w1 (hr.below hb1) (by omega))
    have HL := Lib.hid hl
    have HR := Lib.hid hr
    have HN1 := Lib.hid (show (l.drop slt k).size + r.size < 1000000 by omega)
    have HN2 := Lib.hid (show l.size + (r.drop slt k).size < 1000000 by omega)
    have HN := Lib.hid hn
    clear ihl ihr hs sl sr hn hb hl hr
    cases c1 : slt k k' with
    | true =>
      have hp := Lib.hid (Tr.drop_lt (v' := v') (l := l) (r := r) c1)
      have q1 : Op.bytesLess k.toList k'.toList = true := c1
      clear c1
      go_enter Try.func39, Try.ntmps39
      go_wp2_with fail
      go_region_held3 (fun w' => w'.cell? ⟨b, 0, none⟩ = some (.string k') ∧ w'.cell? ⟨b, 1, none⟩ = some (.int .i64 v') ∧ w'.cell? ⟨b, 2, none⟩ = some (.pointer pl) ∧ w'.cell? ⟨b, 3, none⟩ = some (.pointer pr))
        (first
          | go_keep
          | exact ⟨(g2.cell (p := ⟨b, 0, none⟩) hlt).trans k0, (g2.cell (p := ⟨b, 1, none⟩) hlt).trans k1, (g2.cell (p := ⟨b, 2, none⟩) hlt).trans k2, (g2.cell (p := ⟨b, 3, none⟩) hlt).trans k3⟩
          | exact ⟨(g1.cell (p := ⟨b, 0, none⟩) hlt).trans k0, (g1.cell (p := ⟨b, 1, none⟩) hlt).trans k1, (g1.cell (p := ⟨b, 2, none⟩) hlt).trans k2, (g1.cell (p := ⟨b, 3, none⟩) hlt).trans k3⟩)
        (first
          | (go_at_call 39; (with_reducible refine (IHL.out _ ?_).mono ?_); exact (Below.refl _ _).drew; rintro e w1 ⟨p1, rfl, t1, g1⟩)
          | (go_at_call 70; (with_reducible refine (s_even _ k' v' (l.drop slt k) r p1 pr t1 ?_ ?_).mono ?_); exact (HR.out).below g1; exact HN1.out; rintro e w2 ⟨p2, rfl, t2, g2'⟩; have g2 := g1.trans (g2'.mono g1.size)))
      go_wp2
      go_ret
      rw [hp.out]
      exact ⟨some p2, rfl, t2, g2⟩
    | false =>
      cases c2 : slt k' k with
      | true =>
        have hp := Lib.hid (Tr.drop_gt (v' := v') (l := l) (r := r) c1 c2)
        have q1 : Op.bytesLess k.toList k'.toList = false := c1
        have q2 : (k.toList == k'.toList) = false := slt_gt c1 c2
        clear c1 c2
        go_enter Try.func39, Try.ntmps39
        go_wp2_with fail
        go_region_held3 (fun w' => w'.cell? ⟨b, 0, none⟩ = some (.string k') ∧ w'.cell? ⟨b, 1, none⟩ = some (.int .i64 v') ∧ w'.cell? ⟨b, 2, none⟩ = some (.pointer pl) ∧ w'.cell? ⟨b, 3, none⟩ = some (.pointer pr))
          (first
            | go_keep
            | exact ⟨(g2.cell (p := ⟨b, 0, none⟩) hlt).trans k0, (g2.cell (p := ⟨b, 1, none⟩) hlt).trans k1, (g2.cell (p := ⟨b, 2, none⟩) hlt).trans k2, (g2.cell (p := ⟨b, 3, none⟩) hlt).trans k3⟩
            | exact ⟨(g1.cell (p := ⟨b, 0, none⟩) hlt).trans k0, (g1.cell (p := ⟨b, 1, none⟩) hlt).trans k1, (g1.cell (p := ⟨b, 2, none⟩) hlt).trans k2, (g1.cell (p := ⟨b, 3, none⟩) hlt).trans k3⟩)
          (first
            | (go_at_call 39; (with_reducible refine (IHR.out _ ?_).mono ?_); exact (Below.refl _ _).drew; rintro e w1 ⟨p1, rfl, t1, g1⟩)
            | (go_at_call 70; (with_reducible refine (s_even _ k' v' l (r.drop slt k) pl p1 ?_ t1 ?_).mono ?_); exact (HL.out).below g1; exact HN2.out; rintro e w2 ⟨p2, rfl, t2, g2'⟩; have g2 := g1.trans (g2'.mono g1.size)))
        go_wp2
        go_ret
        rw [hp.out]
        exact ⟨some p2, rfl, t2, g2⟩
      | false =>
        obtain rfl := slt_ord.eq _ _ c1 c2
        have q1 : Op.bytesLess k.toList k.toList = false := c1
        cases r with
        | leaf =>
          have hp := Lib.hid (Tr.drop_eq0 (v' := v') (l := l) c1)
          obtain rfl : pr = none := HR.out
          clear c1 c2
          go_enter Try.func39, Try.ntmps39
          go_wp2
          go_ret
          rw [hp.out]
          exact ⟨pl, rfl, HL.out, Below.refl _ _⟩
        | node kk2 v2 l2 r2 =>
          obtain ⟨b2, hpr⟩ : ∃ b2, pr = some ⟨b2, 0, none⟩ := by obtain ⟨b2, _, _, e, _⟩ := HR.out; exact ⟨b2, e⟩
          subst hpr
          obtain ⟨pk, pv, pl3, pr3, e1, _⟩ := Tr.first_node (Tr.node kk2 v2 l2 r2) (by simp)
          have hp := Lib.hid (Tr.drop_eq1 (v' := v') (l := l) c1 e1)
          have sf := size_first (Tr.node kk2 v2 l2 r2)
          have HF := Lib.hid (s_first _ _ w HR.out (by simp) (by have := HN.out; simp only [Tr.size] at this ⊢; omega))
          have HN3 := Lib.hid (show l.size + (Tr.first (Tr.node kk2 v2 l2 r2)).2.size < 1000000 by have := HN.out; simp only [Tr.size] at this sf ⊢; omega)
          have E1 := Lib.hid e1
          clear c1 c2 e1 sf
          go_enter Try.func39, Try.ntmps39
          go_wp2_with fail
          refine HF.out.mono ?_
          rintro e w1 ⟨q, q', rfl, t1, t2, g1⟩
          rw [E1.out] at t1
          obtain ⟨b3, x1, x2, e3, hb3, _, _⟩ := t1
          obtain rfl := Option.some.inj e3
          have k01 : w1.cell? ⟨b3, 0, none⟩ = some (.string pk) := blk_cell hb3 0
          have k11 : w1.cell? ⟨b3, 1, none⟩ = some (.int .i64 pv) := blk_cell hb3 1
          have k21 := (g1.cell (p := ⟨b, 2, none⟩) hlt).trans k2
          have hlt1 : b < w1.heap.size := Nat.lt_of_lt_of_le hlt g1.size
          have hlt3 := lt_of_block hb3
          have HE := s_evenH pk pv (HL.out.below g1) t2 HN3.out
          have G1 := Lib.hid g1
          clear k0 k1 k2 k3 t2 g1 hb3
          go_wp2_with fail
          go_region_held3 (fun w' => w'.cell? ⟨b3, 0, none⟩ = some (.string pk) ∧ w'.cell? ⟨b3, 1, none⟩ = some (.int .i64 pv) ∧ w'.cell? ⟨b, 2, none⟩ = some (.pointer pl))
            (first
              | go_keep
              | exact ⟨(g2.cell (p := ⟨b3, 0, none⟩) hlt3).trans k01, (g2.cell (p := ⟨b3, 1, none⟩) hlt3).trans k11, (g2.cell (p := ⟨b, 2, none⟩) hlt1).trans k21⟩)
            (first
              | (go_at_call 70; (with_reducible refine (HE.out _ ?_).mono ?_); exact (Below.refl _ _).drew; rintro e w2 ⟨p2, rfl, t2, g2, _⟩))
          go_wp2
          go_ret
          rw [hp.out]
          exact ⟨_, rfl, t2, G1.out.trans (g2.mono G1.out.size)⟩

/-- What get hands back. -/
def getRes (o : Option Int) : Value := .tuple #[.int .i64 (o.getD 0), .bool o.isSome]
set_option maxRecDepth 100000 in
set_option maxHeartbeats 2000000 in
theorem s_get (k : ByteArray) (t : Tr ByteArray Int) (p : Option Addr) (w : World) (h : STree w t p) :
    Calls Try.prog 38 #[.pointer p, .string k] w fun e w' => e = .returned (getRes (t.get slt k)) ∧ w = w' := by
  go_enter Try.func38, Try.ntmps38
  go_wp2
  go_loopg [0] (t.size + 1) (fun g s wr => ∃ (x : Tr ByteArray Int) (q : Option Addr), g = x.size + 1 ∧ s = .pointer q ∧ w = wr ∧ Hid (STree w x q) ∧ Hid (x.get slt k = t.get slt k))
  case atStart => exact ⟨t, p, rfl, rfl, rfl, h, rfl⟩
  case round =>
    obtain ⟨x, q, rfl, rfl, rfl, hx, he⟩ := hrel
    cases x with
    | leaf =>
      obtain rfl : q = none := hx.out
      go_wp2
      go_ret2
      exact ⟨by rw [← he.out]; rfl, rfl⟩
    | node k' v' l r =>
      obtain ⟨b, pl, pr, rfl, hb, hl, hr⟩ := hx.out
      have k0 : w.cell? ⟨b, 0, none⟩ = some (.string k') := blk_cell hb 0
      have k1 : w.cell? ⟨b, 1, none⟩ = some (.int .i64 v') := blk_cell hb 1
      have k2 : w.cell? ⟨b, 2, none⟩ = some (.pointer pl) := blk_cell hb 2
      have k3 : w.cell? ⟨b, 3, none⟩ = some (.pointer pr) := blk_cell hb 3
      have HL := Lib.hid hl
      have HR := Lib.hid hr
      clear h hb hl hr
      cases c1 : slt k k' with
      | true =>
        have h2 : Hid (l.get slt k = t.get slt k) := Lib.hid (by rw [← he.out]; exact (if_pos c1).symm)
        have q1 : Op.bytesLess k.toList k'.toList = true := c1
        clear c1
        go_wp2
        go_roundg (l.size + 1)
        case measure => simp [Tr.size]; omega
        case rel => exact ⟨l, pl, rfl, rfl, rfl, HL, h2⟩
      | false =>
        cases c2 : slt k' k with
        | true =>
          have h2 : Hid (r.get slt k = t.get slt k) := Lib.hid (by rw [← he.out]; exact ((if_neg (by simp [c1])).trans (if_pos c2)).symm)
          have q1 : Op.bytesLess k.toList k'.toList = false := c1
          have q2 : (k.toList == k'.toList) = false := slt_gt c1 c2
          clear c1 c2
          go_wp2
          go_roundg (r.size + 1)
          case measure => simp [Tr.size]; omega
          case rel => exact ⟨r, pr, rfl, rfl, rfl, HR, h2⟩
        | false =>
          obtain rfl := slt_ord.eq _ _ c1 c2
          have h2 : Hid (some v' = t.get slt k) := Lib.hid (by rw [← he.out]; exact ((if_neg (by simp [c1])).trans (if_neg (by simp [c1]))).symm)
          have q1 : Op.bytesLess k.toList k.toList = false := c1
          clear c1 c2
          go_wp2
          go_ret2
          exact ⟨by rw [← h2.out]; rfl, rfl⟩
end Go.Proofs.Ytndaacojbbmcnaa
