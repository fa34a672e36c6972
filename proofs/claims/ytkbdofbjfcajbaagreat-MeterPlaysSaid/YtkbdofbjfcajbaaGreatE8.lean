/- The meter's order of events: the closure, and the sort. -/
import Derived.Test.YtkbdofbjfcajbaaGreatE7
import Derived.Test.YtkbdofbjfcajbaaGreatSl
import Derived.Test.YtkbdofbjfcajbaaGreatShelf2
namespace Go.Proofs.YtkbdofbjfcajbaaGreat
open Go.RowKit Go.Shelf Go.Sort

def evCells (v : Ev) : List Value := [.string v.key, .string v.acct, .string v.mtr, .int .i64 v.qty, .int .i64 v.at_]
def evKind : ElKind Ev := ⟨evCells, 5, fun _ => rfl, by decide, fun _ u hu => by
  simp only [evCells, List.mem_cons, List.not_mem_nil, or_false] at hu; rcases hu with h | h | h | h | h <;> (subst h; rfl)⟩
def cfE (a b : Ev) : Int := if Lib.compareInt a.at_ b.at_ = 0 then Lib.compareBytes a.key.data.toList b.key.data.toList else Lib.compareInt a.at_ b.at_
set_option maxHeartbeats 1000000 in
theorem m_or (w : World) (g : Nat) (x y : Int) (c : Nat) (h0 : w.cell? ⟨g, 0, none⟩ = some (.int .i64 x)) (h1 : w.cell? ⟨g, 1, none⟩ = some (.int .i64 y)) :
    Calls Tryz.prog 35 #[.slice (some ⟨g, 0, none⟩) 2 c] w fun e w' => e = .returned (.int .i64 (if x = 0 then y else x)) ∧ w' = w := by
  obtain ⟨r, hr⟩ : ∃ r, r = (if x = 0 then y else x) := ⟨_, rfl⟩
  rw [← hr]
  have HR := Lib.hid hr
  clear hr
  go_enter Tryz.func35, Tryz.ntmps35
  go_wp2
  go_loopg [8] 3 (fun m s wr => w = wr ∧ ((m = 3 ∧ s = .int .i64 0) ∨ (m = 2 ∧ s = .int .i64 1 ∧ Hid (x = 0)) ∨ (m = 1 ∧ s = .int .i64 2 ∧ Hid (x = 0 ∧ y = 0))))
  case atStart => exact ⟨rfl, .inl ⟨rfl, rfl⟩⟩
  case round =>
    obtain ⟨rfl, ⟨rfl, rfl⟩ | ⟨rfl, rfl, hx⟩ | ⟨rfl, rfl, hxy⟩⟩ := hrel
    · by_cases hx : x = 0
      · have HX := Lib.hid hx
        go_wp2
        go_roundg 2
        case measure => omega
        case rel => exact ⟨rfl, .inr (.inl ⟨rfl, rfl, HX⟩)⟩
      · have HX := Lib.hid hx
        go_wp2
        go_ret
        exact ⟨by rw [HR.out, if_neg HX.out]; rfl, rfl⟩
    · by_cases hy : y = 0
      · have HX := Lib.hid hy
        go_wp2
        go_roundg 1
        case measure => omega
        case rel => exact ⟨rfl, .inr (.inr ⟨rfl, rfl, Lib.hid ⟨hx.out, HX.out⟩⟩)⟩
      · go_wp2
        go_ret
        exact ⟨by rw [HR.out, if_pos hx.out]; rfl, rfl⟩
    · go_wp2
      go_ret
      exact ⟨by rw [HR.out, if_pos hxy.out.1, hxy.out.2]; rfl, rfl⟩
def blkE (v : Ev) : Obj := .cells #[.string v.key, .string v.acct, .string v.mtr, .int .i64 v.qty, .int .i64 v.at_] 32
set_option maxRecDepth 100000 in
set_option maxHeartbeats 2000000 in
theorem m_cmp (a b : Ev) (W : World) :
    Calls Tryz.prog 34 #[a.val, b.val] W fun e w' => e = .returned (.int .i64 (cfE a b)) ∧ ∃ q os', w' = grow (W.drewN q) os' := by
  obtain ⟨wb, hwb, HBX⟩ := Ev.boxE_new W a
  obtain ⟨bx, hbx⟩ : ∃ bx, bx = W.heap.size := ⟨_, rfl⟩
  obtain ⟨wc, hwc, HBY⟩ := Ev.boxE_new wb b
  obtain ⟨bc, hbc⟩ : ∃ bc, bc = wb.heap.size := ⟨_, rfl⟩
  have HW1 := Lib.hid (And.intro hwb hwc)
  have HBE : Hid (bx = W.heap.size ∧ bx + 1 = bc) := Lib.hid ⟨hbx, by rw [hbx, hbc, ← hwb]; simp⟩
  have HA : Hid (Ev.BoxAtE wc bx a) := Lib.hid (by rw [hbx]; exact Ev.boxE_below HBX.out.2 HBY.out.1)
  have HB : Hid (Ev.BoxAtE wc bc b) := Lib.hid (by rw [hbc]; exact HBY.out.2)
  obtain ⟨c1, hc1⟩ : ∃ c, c = Lib.compareInt a.at_ b.at_ := ⟨_, rfl⟩
  obtain ⟨c2, hc2⟩ : ∃ c, c = Lib.compareBytes a.key.data.toList b.key.data.toList := ⟨_, rfl⟩
  have hcf : cfE a b = if c1 = 0 then c2 else c1 := by unfold cfE; rw [← hc1, ← hc2]
  rw [hcf]
  obtain ⟨c3, hc3⟩ : ∃ c, c = if c1 = 0 then c2 else c1 := ⟨_, rfl⟩
  have H3 : Hid (∀ w g c, w.cell? ⟨g, 0, none⟩ = some (.int .i64 c1) → w.cell? ⟨g, 1, none⟩ = some (.int .i64 c2) → Calls Tryz.prog 35 #[.slice (some ⟨g, 0, none⟩) 2 c] w fun e w' => e = .returned (.int .i64 c3) ∧ w' = w) := Lib.hid fun w g c h0 h1 => by rw [hc3]; exact m_or w g c1 c2 c h0 h1
  rw [← hc3]
  have H1 : Hid (∀ w, Calls Tryz.prog 36 #[.int .i64 a.at_, .int .i64 b.at_] w fun e w' => e = .returned (.int .i64 c1) ∧ w' = w) := Lib.hid fun w => by rw [hc1]; exact Tryz.cmp_Compare_int a.at_ b.at_ w
  have H2 : Hid (∀ w, Calls Tryz.prog 37 #[.string a.key, .string b.key] w fun e w' => e = .returned (.int .i64 c2) ∧ w' = w) := Lib.hid fun w => by rw [hc2]; exact Tryz.strings_Compare a.key b.key w
  clear hwb hwc hbx hbc HBX HBY hc1 hc2 hcf hc3
  go_enter Tryz.func34, Tryz.ntmps34
  go_upto_region 1 with fail
  rw [HW1.out.1, HW1.out.2, ← HBE.out.1, HBE.out.2]
  obtain ⟨⟨x0, x1, x2, x3, x4⟩, -⟩ := Ev.boxE_cells HA.out
  obtain ⟨⟨y0, y1, y2, y3, y4⟩, -⟩ := Ev.boxE_cells HB.out
  clear x1 x2 x3 y1 y2 y3
  go_region_held3 (fun w' => w'.cell? ⟨bx, 0, none⟩ = some (.string a.key) ∧ w'.cell? ⟨bx, 4, none⟩ = some (.int .i64 a.at_) ∧ w'.cell? ⟨bc, 0, none⟩ = some (.string b.key) ∧ w'.cell? ⟨bc, 4, none⟩ = some (.int .i64 b.at_))
    (first
      | go_keep)
    (first
      | (go_at_call 36; (with_reducible refine (H1.out _).mono ?_); rintro e w2 ⟨rfl, rfl⟩)
      | (go_at_call 37; (with_reducible refine (H2.out _).mono ?_); rintro e w2 ⟨rfl, rfl⟩)
      | (go_at_call 35; (with_reducible refine (H3.out _ _ _ ?_ ?_).mono ?_); exact blk_cell (blk_new _ _) 0; exact blk_cell (blk_new _ _) 1; rintro e w2 ⟨rfl, rfl⟩))
  all_goals
    go_wp2
    go_ret
    exact ⟨rfl, 1, _, by rw [← HW1.out.2, ← HW1.out.1, alloc_eq_grow, alloc_eq_grow, alloc_eq_grow, grow_grow, grow_grow]; rfl⟩
end Go.Proofs.YtkbdofbjfcajbaaGreat
