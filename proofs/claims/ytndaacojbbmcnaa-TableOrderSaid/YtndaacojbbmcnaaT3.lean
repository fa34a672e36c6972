/- The walks of the tree's functions: put, first, drop, get. -/
import Derived.Test.YtndaacojbbmcnaaT2
namespace Go.Proofs.Ytndaacojbbmcnaa
open Go.RowKit

section
variable {K V : Type} {lt : K → K → Bool}
theorem size_put (t : Tr K V) (k : K) (v : V) : (t.put lt k v).size ≤ t.size + 1 := by
  induction t with
  | leaf => simp [Tr.put, Tr.size]
  | node k' v' l r hl hr => unfold Tr.put; split <;> (try split) <;> simp only [Tr.size_even, Tr.size] <;> omega
theorem size_first (t : Tr K V) : (Tr.first t).2.size ≤ t.size := by
  induction t with
  | leaf => simp [Tr.first]
  | node k v l r hl hr =>
    cases l with
    | leaf => simp [Tr.first, Tr.size]
    | node k' v' l' r' => simp only [Tr.first, Tr.size_even, Tr.size] at hl ⊢; omega
theorem size_drop (t : Tr K V) (k : K) : (t.drop lt k).size ≤ t.size := by
  induction t with
  | leaf => simp [Tr.drop]
  | node k' v' l r hl hr =>
    unfold Tr.drop
    split
    · simp only [Tr.size_even, Tr.size]; omega
    · split
      · simp only [Tr.size_even, Tr.size]; omega
      · split
        · simp only [Tr.size]; omega
        · rename_i k2 v2 l2 r2
          have hf := size_first (Tr.node k2 v2 l2 r2)
          split
          · rename_i h
            rw [h] at hf
            simp only [Tr.size_even, Tr.size] at hf ⊢
            omega
          · simp only [Tr.size]; omega
end

theorem s_evenH {w : World} (k : ByteArray) (v : Int) {l r : Tr ByteArray Int} {pl pr : Option Addr} (hl : STree w l pl) (hr : STree w r pr) (hn : l.size + r.size < 1000000) :
    Hid (∀ w1, Below w.heap.size w w1 → Calls Try.prog 70 #[.string k, .int .i64 v, .pointer pl, .pointer pr] w1 fun e w' => ∃ p, e = .returned (.pointer (some p)) ∧ STree w' (Tr.even k v l r) (some p) ∧ Below w.heap.size w w' ∧ Below w1.heap.size w1 w') :=
  Lib.hid (fun w1 hb => (s_even w1 k v l r pl pr (hl.below hb) (hr.below hb) hn).mono (fun _ _ ⟨p, he, ht, hb1⟩ => ⟨p, he, ht, hb.trans (hb1.mono hb.size), hb1⟩))

theorem s_later {w : World} {f : FuncId} {args : Array Value} {t : Tr ByteArray Int}
    (h : ∀ w1, Below w.heap.size w w1 → Calls Try.prog f args w1 fun e w' => ∃ q, e = .returned (.pointer (some q)) ∧ STree w' t (some q) ∧ Below w1.heap.size w1 w') :
    Hid (∀ w1, Below w.heap.size w w1 → Calls Try.prog f args w1 fun e w' => ∃ q, e = .returned (.pointer (some q)) ∧ STree w' t (some q) ∧ Below w.heap.size w w') :=
  Lib.hid (fun w1 hb => (h w1 hb).mono (fun _ _ ⟨q, he, ht, hb1⟩ => ⟨q, he, ht, hb.trans (hb1.mono hb.size)⟩))
theorem s_laterO {w : World} {f : FuncId} {args : Array Value} {t : Tr ByteArray Int}
    (h : ∀ w1, Below w.heap.size w w1 → Calls Try.prog f args w1 fun e w' => ∃ q, e = .returned (.pointer q) ∧ STree w' t q ∧ Below w1.heap.size w1 w') :
    Hid (∀ w1, Below w.heap.size w w1 → Calls Try.prog f args w1 fun e w' => ∃ q, e = .returned (.pointer q) ∧ STree w' t q ∧ Below w.heap.size w w') :=
  Lib.hid (fun w1 hb => (h w1 hb).mono (fun _ _ ⟨q, he, ht, hb1⟩ => ⟨q, he, ht, hb.trans (hb1.mono hb.size)⟩))

theorem slt_gt {a b : ByteArray} (h1 : slt a b = false) (h2 : slt b a = true) : (a.toList == b.toList) = false := by
  cases h : a.toList == b.toList with
  | false => rfl
  | true =>
    have e := str_inj (by simpa using h : a.toList = b.toList)
    subst e; rw [slt_ord.irr] at h2; cases h2

set_option maxRecDepth 100000 in
set_option maxHeartbeats 2000000 in
theorem s_put (k : ByteArray) (v : Int) : ∀ (t : Tr ByteArray Int) (p : Option Addr) (w : World), STree w t p → t.size < 900000 →
    Calls Try.prog 36 #[.pointer p, .string k, .int .i64 v] w fun e w' => ∃ q, e = .returned (.pointer (some q)) ∧ STree w' (t.put slt k v) (some q) ∧ Below w.heap.size w w' := by
  intro t
  induction t with
  | leaf =>
    rintro p w rfl hn
    have HM := s_madeH (w := w) k v (l := .leaf) (r := .leaf) (pl := none) (pr := none) rfl rfl (by simp [Tr.size])
    go_enter Try.func36, Try.ntmps36
    go_wp2_with fail
    refine (HM.out _ (Below.refl _ _)).mono ?_
    rintro e w1 ⟨p1, rfl, t1, g1, _⟩
    go_wp2
    go_ret
    exact ⟨p1, rfl, t1, g1⟩
  | node k' v' l r ihl ihr =>
    rintro p w ⟨b, pl, pr, rfl, hb, hl, hr⟩ hn
    have hs : (Tr.node k' v' l r).size = 1 + l.size + r.size := rfl
    have sl := size_put (lt := slt) l k v
    have sr := size_put (lt := slt) r k v
    have hlt := lt_of_block hb
    have k0 : w.cell? ⟨b, 0, none⟩ = some (.string k') := blk_cell hb 0
    have k1 : w.cell? ⟨b, 1, none⟩ = some (.int .i64 v') := blk_cell hb 1
    have k2 : w.cell? ⟨b, 2, none⟩ = some (.pointer pl) := blk_cell hb 2
    have k3 : w.cell? ⟨b, 3, none⟩ = some (.pointer pr) := blk_cell hb 3
    have IHL := s_later (fun w1 (hb1 : Below w.heap.size w w1) => ihl pl w1 (hl.below hb1) (by omega))
    have IHR := s_later (fun w1 (hb1 : Below w.heap.size w w1) => ihr pr w1 (hr.below hb1) (by omega))
    have HL := Lib.hid hl
    have HR := Lib.hid hr
    have HN1 := Lib.hid (show (l.put slt k v).size + r.size < 1000000 by omega)
    have HN2 := Lib.hid (show l.size + (r.put slt k v).size < 1000000 by omega)
    have HM := s_madeH k v hl hr (by omega)
    clear ihl ihr hs sl sr hn hb hl hr
    cases c1 : slt k k' with
    | true =>
      have hp : Hid (Tr.put slt (.node k' v' l r) k v = Tr.even k' v' (l.put slt k v) r) := Lib.hid (by show Tr.put slt _ k v = _; rw [Tr.put]; rw [if_pos c1])
      have q1 : Op.bytesLess k.toList k'.toList = true := c1
      clear c1
      go_enter Try.func36, Try.ntmps36
      go_wp2_with fail
      go_region_held3 (fun w' => w'.cell? ⟨b, 0, none⟩ = some (.string k') ∧ w'.cell? ⟨b, 1, none⟩ = some (.int .i64 v') ∧ w'.cell? ⟨b, 2, none⟩ = some (.pointer pl) ∧ w'.cell? ⟨b, 3, none⟩ = some (.pointer pr))
        (first
          | go_keep
          | exact ⟨(g2.cell (p := ⟨b, 0, none⟩) hlt).trans k0, (g2.cell (p := ⟨b, 1, none⟩) hlt).trans k1, (g2.cell (p := ⟨b, 2, none⟩) hlt).trans k2, (g2.cell (p := ⟨b, 3, none⟩) hlt).trans k3⟩
          | exact ⟨(g1.cell (p := ⟨b, 0, none⟩) hlt).trans k0, (g1.cell (p := ⟨b, 1, none⟩) hlt).trans k1, (g1.cell (p := ⟨b, 2, none⟩) hlt).trans k2, (g1.cell (p := ⟨b, 3, none⟩) hlt).trans k3⟩)
        (first
          | (go_at_call 36; (with_reducible refine (IHL.out _ ?_).mono ?_); exact (Below.refl _ _).drew; rintro e w1 ⟨p1, rfl, t1, g1⟩)
          | (go_at_call 70; (with_reducible refine (s_even _ k' v' (l.put slt k v) r (some p1) pr t1 ?_ ?_).mono ?_); exact (HR.out).below g1; exact HN1.out; rintro e w2 ⟨p2, rfl, t2, g2'⟩; have g2 := g1.trans (g2'.mono g1.size)))
      go_wp2
      go_ret
      rw [hp.out]
      exact ⟨p2, rfl, t2, g2⟩
    | false =>
      cases c2 : slt k' k with
      | true =>
        have hp : Hid (Tr.put slt (.node k' v' l r) k v = Tr.even k' v' l (r.put slt k v)) := Lib.hid (by show Tr.put slt _ k v = _; rw [Tr.put]; rw [if_neg (by simp [c1]), if_pos c2])
        have q1 : Op.bytesLess k.toList k'.toList = false := c1
        have q2 : (k.toList == k'.toList) = false := slt_gt c1 c2
        clear c1 c2
        go_enter Try.func36, Try.ntmps36
        go_wp2_with fail
        go_region_held3 (fun w' => w'.cell? ⟨b, 0, none⟩ = some (.string k') ∧ w'.cell? ⟨b, 1, none⟩ = some (.int .i64 v') ∧ w'.cell? ⟨b, 2, none⟩ = some (.pointer pl) ∧ w'.cell? ⟨b, 3, none⟩ = some (.pointer pr))
          (first
            | go_keep
            | exact ⟨(g2.cell (p := ⟨b, 0, none⟩) hlt).trans k0, (g2.cell (p := ⟨b, 1, none⟩) hlt).trans k1, (g2.cell (p := ⟨b, 2, none⟩) hlt).trans k2, (g2.cell (p := ⟨b, 3, none⟩) hlt).trans k3⟩
            | exact ⟨(g1.cell (p := ⟨b, 0, none⟩) hlt).trans k0, (g1.cell (p := ⟨b, 1, none⟩) hlt).trans k1, (g1.cell (p := ⟨b, 2, none⟩) hlt).trans k2, (g1.cell (p := ⟨b, 3, none⟩) hlt).trans k3⟩)
          (first
            | (go_at_call 36; (with_reducible refine (IHR.out _ ?_).mono ?_); exact (Below.refl _ _).drew; rintro e w1 ⟨p1, rfl, t1, g1⟩)
            | (go_at_call 70; (with_reducible refine (s_even _ k' v' l (r.put slt k v) pl (some p1) ?_ t1 ?_).mono ?_); exact (HL.out).below g1; exact HN2.out; rintro e w2 ⟨p2, rfl, t2, g2'⟩; have g2 := g1.trans (g2'.mono g1.size)))
        go_wp2
        go_ret
        rw [hp.out]
        exact ⟨p2, rfl, t2, g2⟩
      | false =>
        obtain rfl := slt_ord.eq _ _ c1 c2
        have hp : Hid (Tr.put slt (.node k v' l r) k v = Tr.node k v l r) := Lib.hid (by show Tr.put slt _ k v = _; rw [Tr.put]; rw [if_neg (by simp [c1]), if_neg (by simp [c1])])
        have q1 : Op.bytesLess k.toList k.toList = false := c1
        clear c1 c2
        go_enter Try.func36, Try.ntmps36
        go_wp2_with fail
        go_region_held3 (fun w' => w'.cell? ⟨b, 2, none⟩ = some (.pointer pl) ∧ w'.cell? ⟨b, 3, none⟩ = some (.pointer pr))
          (first
            | go_keep
            | exact ⟨(g1.cell (p := ⟨b, 2, none⟩) hlt).trans k2, (g1.cell (p := ⟨b, 3, none⟩) hlt).trans k3⟩)
          (first
            | (go_at_call 69; (with_reducible refine (HM.out _ ?_).mono ?_); exact (Below.refl _ _).drew; rintro e w1 ⟨p1, rfl, t1, g1, _⟩))
        go_wp2
        go_ret
        rw [hp.out]
        exact ⟨p1, rfl, t1, g1⟩

theorem s_first_node (w : World) (t : Tr ByteArray Int) (b : Nat) (h : STree w t (some ⟨b, 0, none⟩)) : ∃ k v l r, t = .node k v l r := by
  cases t with
  | leaf => cases h
  | node k v l r => exact ⟨k, v, l, r, rfl⟩

set_option maxRecDepth 100000 in
set_option maxHeartbeats 2000000 in
theorem s_first : ∀ (t : Tr ByteArray Int) (p : Option Addr) (w : World), STree w t p → t ≠ .leaf → t.size < 900000 →
    Calls Try.prog 71 #[.pointer p] w fun e w' => ∃ q q', e = .returned (.tuple #[.pointer (some q), .pointer q']) ∧ STree w' (Tr.first t).1 (some q) ∧ STree w' (Tr.first t).2 q' ∧ Below w.heap.size w w' := by
  intro t
  induction t with
  | leaf => intro p w _ h; exact absurd rfl h
  | node k v l r ihl ihr =>
    rintro p w ht _ hn
    have HT := Lib.hid ht
    obtain ⟨b, pl, pr, rfl, hb, hl, hr⟩ := ht
    have hlt := lt_of_block hb
    have k0 : w.cell? ⟨b, 0, none⟩ = some (.string k) := blk_cell hb 0
    have k1 : w.cell? ⟨b, 1, none⟩ = some (.int .i64 v) := blk_cell hb 1
    have k2 : w.cell? ⟨b, 2, none⟩ = some (.pointer pl) := blk_cell hb 2
    have k3 : w.cell? ⟨b, 3, none⟩ = some (.pointer pr) := blk_cell hb 3
    cases l with
    | leaf =>
      obtain rfl : pl = none := hl
      have HR := Lib.hid hr
      clear ihl ihr hn hb hr
      go_enter Try.func71, Try.ntmps71
      go_wp2_with fail
      go_quiet (fail)
      go_wp2
      go_ret2
      have hq : Below w.heap.size w (w.drewN nq) := ⟨rfl, rfl, rfl, Nat.le_refl _, fun _ _ => rfl⟩
      exact ⟨_, _, rfl, HT.out.below hq, HR.out.below hq, hq⟩
    | node k' v' l' r' =>
      obtain ⟨b2, hpl⟩ : ∃ b2, pl = some ⟨b2, 0, none⟩ := by obtain ⟨b2, _, _, e, _⟩ := hl; exact ⟨b2, e⟩
      subst hpl
      have hs : (Tr.node k v (.node k' v' l' r') r).size = 1 + (Tr.node k' v' l' r').size + r.size := rfl
      have sf := size_first (Tr.node k' v' l' r')
      have IH := Lib.hid (ihl _ w hl (by simp) (by omega))
      have HR := Lib.hid hr
      have HN := Lib.hid (show (Tr.first (Tr.node k' v' l' r')).2.size + r.size < 1000000 by omega)
      clear ihl ihr hn hb hr hl hs sf
      go_enter Try.func71, Try.ntmps71
      go_wp2_with fail
      refine IH.out.mono ?_
      rintro e w1 ⟨q, q', rfl, t1, t2, g1⟩
      have k01 := (g1.cell (p := ⟨b, 0, none⟩) hlt).trans k0
      have k11 := (g1.cell (p := ⟨b, 1, none⟩) hlt).trans k1
      have k31 := (g1.cell (p := ⟨b, 3, none⟩) hlt).trans k3
      have hlt1 : b < w1.heap.size := Nat.lt_of_lt_of_le hlt g1.size
      have HE := s_evenH k v t2 (HR.out.below g1) HN.out
      have T1 := Lib.hid t1
      have G1 := Lib.hid g1
      clear k0 k1 k2 k3 t1 t2 g1
      go_wp2_with fail
      go_region_held3 (fun w' => w'.cell? ⟨b, 0, none⟩ = some (.string k) ∧ w'.cell? ⟨b, 1, none⟩ = some (.int .i64 v) ∧ w'.cell? ⟨b, 3, none⟩ = some (.pointer pr))
        (first
          | go_keep
          | exact ⟨(g2.cell (p := ⟨b, 0, none⟩) hlt1).trans k01, (g2.cell (p := ⟨b, 1, none⟩) hlt1).trans k11, (g2.cell (p := ⟨b, 3, none⟩) hlt1).trans k31⟩)
        (first
          | (go_at_call 70; (with_reducible refine (HE.out _ ?_).mono ?_); exact (Below.refl _ _).drew; rintro e w2 ⟨p2, rfl, t2, g2, _⟩))
      go_wp2
      go_ret2
      exact ⟨_, _, rfl, T1.out.below g2, t2, G1.out.trans (g2.mono G1.out.size)⟩
end Go.Proofs.Ytndaacojbbmcnaa
