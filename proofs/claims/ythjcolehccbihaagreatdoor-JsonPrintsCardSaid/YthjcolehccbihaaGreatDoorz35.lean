/- The walks of exref.BigOf and exref.BigText. -/
import Derived.Test.YthjcolehccbihaaGreatDoorz01
import Derived.Test.YthjcolehccbihaaGreatDoorz03
import Derived.Test.YthjcolehccbihaaGreatDoorz07
set_option linter.unusedSimpArgs false
set_option linter.unusedVariables false
set_option linter.unusedSectionVars false
namespace Go.Proofs.YthjcolehccbihaaGreatDoor
open Go.RowKit Go.Shelf
theorem infoNum : (Tryz.prog.info? 3).map (fun i => (i.zero, i.size, i.bytes)) = some (some (.int .i64 0), 1, 8) := by kernel_rfl
/-- A row of ints of the call's own, newer than B. -/
def IntRow (w : World) (B : Nat) (v : Value) (xs : List Int) : Prop := SlAt intElKind 3 w v xs ∧ ∀ g, v.ownBlock = some g → B ≤ g
section
variable {w w' : World} {B : Nat} {v : Value} {xs : List Int}
theorem IntRow.nil (w : World) (B : Nat) : IntRow w B (.slice none 0 0) [] := ⟨SlAt.nil, fun g h => by simp [Value.ownBlock] at h⟩
theorem IntRow.keeps {S : Nat → Prop} (h : IntRow w B v xs) (hk : Keeps S w w') (hn : ∀ g, B ≤ g → ¬ S g) : IntRow w' B v xs := ⟨h.1.keeps hk fun g hg => hn g (h.2 g hg), h.2⟩
theorem IntRow.below (h : IntRow w B v xs) (hk : Below w.heap.size w w') : IntRow w' B v xs := h.keeps (Keeps.of_below hk) (fun _ _ h => h)
theorem IntRow.mono {B' : Nat} (h : IntRow w B v xs) (hB : B' ≤ B) : IntRow w B' v xs := ⟨h.1, fun g hg => Nat.le_trans hB (h.2 g hg)⟩
theorem rd_ints (w : World) (ys : List Int) (cs : Array Value) (hc : cs = (ys.map fun y => Value.int .i64 y).toArray) (T : TypeId) : RdAt intElKind (w.alloc (.cells cs T)) (.slice (some ⟨w.heap.size, 0, none⟩) ys.length ys.length) ys := by
  refine ⟨_, _, rfl, fun j y hy => ⟨_, _, rfl, fun i hi => ?_⟩⟩
  have hi0 : i = 0 := by have : i < 1 := hi; omega
  subst hi0
  show (w.alloc (.cells cs T)).cell? ⟨w.heap.size, 0 + j * 1 + 0, none⟩ = some (.int .i64 y)
  rw [show 0 + j * 1 + 0 = j by omega, blk_cell (blk_new w _), hc, List.getElem?_toArray, List.getElem?_map, hy]
  rfl
/-- Ints appended to a row of the call's own. -/
theorem IntRow.app (h : IntRow w B v xs) (hB : B ≤ w.heap.size) {u : Value} {ys : List Int} (hu : RdAt intElKind w u ys) (hn : xs.length + ys.length ≤ 1000000) (ty : TypeId) :
    ∃ a' cap' w', (Builtin.append_ #[52, 52] ty #[v, u]).run Tryz.prog w = .ok (.slice a' (xs.length + ys.length) cap') w' ∧ Hid (IntRow w' B (.slice a' (xs.length + ys.length) cap') (xs ++ ys) ∧ Keeps (fun k => B ≤ k) w w') := by
  obtain ⟨i, hi, hz, hs, hb⟩ := info_parts infoNum
  obtain ⟨v', w', h1, h2, h3, h4, _⟩ := run_append_sl (ek := intElKind) (P := Tryz.prog) 52 ty i _ 8 Tryz.underlying52 hi hz hs hb rfl h.1 hu (by unfold maxLen; omega) (by omega)
  obtain ⟨a', cap', rfl⟩ := h2.shape
  rw [List.length_append] at h1 h2 h4
  refine ⟨a', cap', w', h1, Lib.hid ⟨⟨h2, fun g hg => ?_⟩, h3.mono fun k _ hk => h.2 k hk⟩⟩
  rcases h4 g hg with h5 | h5
  · exact h.2 g h5
  · omega
theorem IntRow.push (h : IntRow w B v xs) (hB : B ≤ w.heap.size) (hn : xs.length ≤ 1000) (x : Int) (T : TypeId) :
    ∃ a' cap' w', (Builtin.append_ #[52, 52] 52 #[v, .slice (some ⟨w.heap.size, 0, none⟩) 1 1]).run Tryz.prog (w.alloc (.cells #[.int .i64 x] T)) = .ok (.slice a' (xs.length + 1) cap') w' ∧
      Hid (IntRow w' B (.slice a' (xs.length + 1) cap') (xs ++ [x]) ∧ Keeps (fun k => B ≤ k) w w') := by
  have hal : Below w.heap.size w (w.alloc (.cells #[.int .i64 x] T)) := (Below.refl _ _).alloc (Nat.le_refl _) _
  have hk : Keeps (fun k => B ≤ k) w (w.alloc (.cells #[.int .i64 x] T)) := (Keeps.of_below hal).mono fun _ _ h => h.elim
  obtain ⟨a', cap', w', h1, H⟩ := (h.below hal).app (u := .slice (some ⟨w.heap.size, 0, none⟩) 1 1) (ys := [x]) (by have := hal.size; omega) (rd_ints w [x] _ rfl T) (by simp; omega) 52
  exact ⟨a', cap', w', h1, Lib.hid ⟨H.out.1, hk.trans' H.out.2⟩⟩
theorem IntRow.cell (h : IntRow w B v xs) {i : Nat} {x : Int} (hx : xs[i]? = some x) : ∃ g off cap, v = .slice (some ⟨g, off, none⟩) xs.length cap ∧ w.cell? ⟨g, off + i, none⟩ = some (.int .i64 x) := by
  obtain ⟨a, cap, e, hr⟩ := h.1.rd
  obtain ⟨g, off, rfl, hc⟩ := hr i x hx
  refine ⟨g, off, cap, e, ?_⟩
  have := hc 0 (by decide)
  simpa [intElKind] using this
end
section
variable {w : World}
theorem results_cell2 {fn : Func} {p : Tmp} {ty : TypeId} (h : fn.results = #[.cell p ty]) (tmps : Array Value) (P : Program) (w : World) :
    (results fn tmps).run P w = ((asAddr (tmps.getD p undef)).run P w).andThen fun a w₁ => (loadVar ty a).run P w₁ := by
  simp only [results, h]
  simp [Sem.run_bind, Result.andThen]
/-- A Big at a block. -/
def BBox (w : World) (b : Nat) (neg : Bool) (v : Value) : Prop := IsBlk w b #[.bool neg, v] 54
theorem bbox_cells {w : World} {b : Nat} {neg : Bool} {v : Value} (h : BBox w b neg v) : (w.cell? ⟨b, 0, none⟩ = some (.bool neg) ∧ w.cell? ⟨b, 1, none⟩ = some v) ∧ (w.frozen? ⟨b, 0, none⟩ = false ∧ w.frozen? ⟨b, 1, none⟩ = false) :=
  ⟨⟨blk_cell h 0, blk_cell h 1⟩, blk_free h 0, blk_free h 1⟩
theorem bbox_set {w : World} {b : Nat} {neg : Bool} {v : Value} (h : BBox w b neg v) (neg' : Bool) (v' : Value) : BBox ((w.setCell ⟨b, 0, none⟩ (.bool neg')).setCell ⟨b, 1, none⟩ v') b neg' v' :=
  blk_set (blk_set h 0 (.bool neg')) 1 v'
theorem keeps2 (w : World) (b : Nat) (x y : Value) : Keeps (fun k => k = b) w ((w.setCell ⟨b, 0, none⟩ x).setCell ⟨b, 1, none⟩ y) :=
  (((Keeps.refl (fun k => k = b) w).setCell (p := ⟨b, 0, none⟩) (fun _ => rfl) x).setCell (p := ⟨b, 1, none⟩) (fun _ => rfl) y)
theorem bres_cell {fn : Func} {p : Tmp} (hf : fn.results = #[.cell p 54]) {w : World} {b : Nat} {neg : Bool} {a : Option Addr} {n c : Nat} (h : BBox w b neg (.slice a n c)) (tmps : Array Value) (h2 : tmps.getD p undef = .pointer (some ⟨b, 0, none⟩)) :
    (results fn tmps).run Tryz.prog w = .ok (.agg #[.bool neg, .slice a n c]) w := by
  obtain ⟨⟨c0, c1⟩, -⟩ := bbox_cells h
  rw [results_cell2 hf, h2]
  go_simp
  try rfl
theorem IntRow.shape {B : Nat} {v : Value} {xs : List Int} (h : IntRow w B v xs) : ∃ a cap, v = .slice a xs.length cap ∧ xs.length ≤ cap := by
  rcases h.1 with ⟨rfl, rfl⟩ | ⟨g, off, cap, cur, rfl, _, hc, _⟩
  · exact ⟨none, 0, rfl, Nat.le_refl _⟩
  · exact ⟨_, cap, rfl, hc⟩
theorem IntRow.empty (w : World) : IntRow (w.alloc (.cells #[] 3)) w.heap.size (.slice (some ⟨w.heap.size, 0, none⟩) 0 0) [] :=
  ⟨.inr ⟨w.heap.size, 0, 0, #[], rfl, blk_new w _, Nat.le_refl _, Nat.zero_le _, by simp, fun i hi => by simp at hi⟩, fun g hg => by
    simp only [Value.ownBlock, Option.some.injEq] at hg; omega⟩
set_option maxRecDepth 100000 in
theorem r_trim {B : Nat} {neg : Bool} {a : Option Addr} {cap : Nat} {xs : List Int} (h : IntRow w B (.slice a xs.length cap) xs) (hcap : xs.length ≤ cap) (hl : xs.length ≤ 100) (htop : ∀ x, xs[xs.length - 1]? = some x → x ≠ 0) (hneg : neg = true → xs ≠ []) :
    Calls Tryz.prog 51 #[.bool neg, .slice a xs.length cap] w fun e w' => ∃ (a : Option Addr) (cap : Nat), e = .returned (.agg #[.bool neg, .slice a xs.length cap]) ∧ Hid (IntRow w' w.heap.size (.slice a xs.length cap) xs ∧ Below w.heap.size w w') := by
  obtain ⟨wb, hwb⟩ : ∃ wb, w.alloc (.cells #[.bool false, .slice none 0 0] 54) = wb := ⟨_, rfl⟩
  have hbb : Below w.heap.size w wb := by rw [← hwb]; exact (Below.refl _ _).alloc (Nat.le_refl _) _
  have hblk : IsBlk wb w.heap.size #[.bool false, .slice none 0 0] 54 := by rw [← hwb]; exact blk_new w _
  have hsz : wb.heap.size = w.heap.size + 1 := by rw [← hwb]; simp
  obtain ⟨a2, cap2, w2, hrun, H2⟩ := (IntRow.empty wb).app (by simp) (ys := xs) (u := .slice a xs.length cap) ((h.below hbb).below ((Below.refl _ _).alloc (Nat.le_refl _) _)).1.rd (by simp; omega) 52
  have HK := Lib.hid (And.intro hbb (And.intro hblk hsz))
  simp only [List.length_nil, Nat.zero_add, List.nil_append] at hrun H2
  have hblk2 : BBox w2 w.heap.size false (.slice none 0 0) := by
    have hb3 : Below wb.heap.size wb (wb.alloc (.cells #[] 3)) := (Below.refl _ _).alloc (Nat.le_refl _) _
    exact H2.out.2.obj ((hb3.block _ (by omega)).trans hblk) (fun h => by have h : wb.heap.size ≤ w.heap.size := h; omega)
  have HB2 := Lib.hid hblk2
  obtain ⟨⟨b0, b1⟩, z0, z1⟩ := bbox_cells hblk2
  have hend : ∀ a' c', H2.out.1.1.shape = H2.out.1.1.shape → a' = a2 → c' = cap2 → IntRow ((w2.setCell ⟨w.heap.size, 0, none⟩ (.bool neg)).setCell ⟨w.heap.size, 1, none⟩ (.slice a2 xs.length cap2)) w.heap.size (.slice a2 xs.length cap2) xs ∧ Below w.heap.size w ((w2.setCell ⟨w.heap.size, 0, none⟩ (.bool neg)).setCell ⟨w.heap.size, 1, none⟩ (.slice a2 xs.length cap2)) := fun _ _ _ _ _ => by
    have hk := keeps2 w2 w.heap.size (.bool neg) (.slice a2 xs.length cap2)
    have h6 := IntRow.keeps (B := wb.heap.size) H2.out.1 hk (fun g hg e => by have e : g = w.heap.size := e; have hg : wb.heap.size ≤ g := hg; omega)
    have hle : w.heap.size ≤ wb.heap.size := by rw [hsz]; exact Nat.le_succ _
    refine ⟨h6.mono hle, ?_⟩
    have hb3 : Below w.heap.size w (wb.alloc (.cells #[] 3)) := hbb.trans ((Below.refl w.heap.size wb).alloc (by omega) _)
    have h4 : Below w.heap.size w w2 := below_keeps hb3 H2.out.2 (fun i e => by have e : wb.heap.size ≤ i := e; omega) hb3.size
    exact below_keeps h4 hk (fun i e => by have e : i = w.heap.size := e; omega) h4.size
  have HEND := Lib.hid (hend a2 cap2 rfl rfl rfl)
  clear hend hblk2
  have HWB := Lib.hid hwb
  have hcap2 : (xs.length : Int) ≤ (cap : Int) := by omega
  have HBX : Hid (BBox ((w2.setCell ⟨w.heap.size, 0, none⟩ (.bool neg)).setCell ⟨w.heap.size, 1, none⟩ (.slice a2 xs.length cap2)) w.heap.size neg (.slice a2 xs.length cap2)) := Lib.hid (bbox_set HB2.out _ _)
  clear hwb hbb hblk hsz
  by_cases hx : xs = []
  · have hn : neg = false := by cases neg with
      | false => rfl
      | true => exact absurd hx (hneg rfl)
    subst hn
    have hl0 : xs.length = 0 := by rw [hx]; rfl
    rw [hl0] at hrun hcap2 HEND HBX ⊢
    clear hcap hl htop hneg hl0
    go_enter Tryz.func51, Tryz.ntmps51
    go_upto_region 1 with (fail)
    rw [HWB.out]
    go_wp2_with (fail)
    go_loopw [5] (fun nv wr => nv = .int .i64 0 ∧ wr = wb) (fun _ _ => 0)
    case atStart => exact ⟨rfl, rfl⟩
    case round =>
      obtain ⟨rfl, rfl⟩ := hrel
      go_wp2_with (first | (at_builtin; refine wpList_append_run rfl (.tmp 25) (.tmp 28) 52 rfl _ _ rfl rfl _ _ hrun ?_))
      exact bodyPost_ret (bres_cell rfl HBX.out _ rfl) rfl ⟨a2, cap2, rfl, HEND⟩
  · obtain ⟨y, hy⟩ : ∃ y, xs[xs.length - 1]? = some y := ⟨_, List.getElem?_eq_getElem (by have := List.length_pos_iff.2 hx; omega)⟩
    have hy0 : (y == 0) = false := by simpa using htop y hy
    obtain ⟨g, off, c, e1, hc⟩ := (h.below HK.out.1).cell hy
    injection e1 with e1 _ e3
    subst e1 e3
    have hp : 0 < xs.length := List.length_pos_iff.2 hx
    have hp1 : (0 : Int) < (xs.length : Int) := by omega
    have hp2 : decide ((0 : Int) < (xs.length : Int)) = true := by simp; omega
    have hp3 : (xs.length : Int) - 1 < (xs.length : Int) := by omega
    have hp4 : (0 : Int) ≤ (xs.length : Int) - 1 := by omega
    have hp5 : ((xs.length : Int) - 1).toNat = xs.length - 1 := by omega
    have hlI : (xs.length : Int) ≤ 100 := by omega
    clear hcap hl htop hneg hx hp
    cases neg with
    | true =>
      go_enter Tryz.func51, Tryz.ntmps51
      go_upto_region 1 with (fail)
      rw [HWB.out]
      go_wp2_with (fail)
      go_loopw [5] (fun nv wr => nv = .int .i64 xs.length ∧ wr = wb) (fun _ _ => 0)
      case atStart => exact ⟨rfl, rfl⟩
      case round =>
        obtain ⟨rfl, rfl⟩ := hrel
        go_wp2_with (first | (at_builtin; refine wpList_append_run rfl (.tmp 25) (.tmp 28) 52 rfl _ _ rfl rfl _ _ hrun ?_))
        exact bodyPost_ret (bres_cell rfl HBX.out _ rfl) rfl ⟨a2, cap2, rfl, HEND⟩
    | false =>
      go_enter Tryz.func51, Tryz.ntmps51
      go_upto_region 1 with (fail)
      rw [HWB.out]
      go_wp2_with (fail)
      go_loopw [5] (fun nv wr => nv = .int .i64 xs.length ∧ wr = wb) (fun _ _ => 0)
      case atStart => exact ⟨rfl, rfl⟩
      case round =>
        obtain ⟨rfl, rfl⟩ := hrel
        go_wp2_with (first | (at_builtin; refine wpList_append_run rfl (.tmp 25) (.tmp 28) 52 rfl _ _ rfl rfl _ _ hrun ?_))
        exact bodyPost_ret (bres_cell rfl HBX.out _ rfl) rfl ⟨a2, cap2, rfl, HEND⟩
/-- BigOf's rounds: so many digits are out. -/
structure BgI (w wr : World) (v : Value) (n0 n : Int) (m : Nat) : Prop where
  row : IntRow wr w.heap.size v (chunks n0.natAbs m)
  keep : Below w.heap.size w wr
  num : n.natAbs = n0.natAbs / 10000 ^ m
  neg : n < 0 → n0 < 0
  pos : 0 < n → 0 < n0
  small : m ≤ 5
  top : m ≠ 0 → n0.natAbs / 10000 ^ (m - 1) ≠ 0
set_option maxRecDepth 100000 in
theorem r_bigOf (n : Int) (h0 : -9223372036854775808 ≤ n) (h1 : n ≤ 9223372036854775807) :
    Calls Tryz.prog 22 #[.int .i64 n] w fun e w' => ∃ (a : Option Addr) (cap m : Nat), e = .returned (.agg #[.bool (decide (n < 0)), .slice a m cap]) ∧ Hid (IntRow w' w.heap.size (.slice a m cap) (chunks n.natAbs m) ∧ Below w.heap.size w w' ∧ Top n.natAbs m ∧ m ≤ 5) := by
  obtain ⟨wb, hwb⟩ : ∃ wb, w.alloc (.cells #[.bool false, .slice none 0 0] 54) = wb := ⟨_, rfl⟩
  have hbb : Below w.heap.size w wb := by rw [← hwb]; exact (Below.refl _ _).alloc (Nat.le_refl _) _
  have hblk : IsBlk wb w.heap.size #[.bool false, .slice none 0 0] 54 := by rw [← hwb]; exact blk_new w _
  have hsz : wb.heap.size = w.heap.size + 1 := by rw [← hwb]; simp
  have HB := Lib.hid hbb
  have HWB := Lib.hid hwb
  have HBK := Lib.hid (And.intro hblk hsz)
  have HN := Lib.hid (And.intro h0 h1)
  clear hwb hbb hblk hsz h0 h1
  go_enter Tryz.func22, Tryz.ntmps22
  go_upto_region 1 with (fail)
  rw [HWB.out]
  go_wp2_with (fail)
  go_loopw [0, 4, 5] (fun nv ov xv wr => ∃ (k : Int) (m : Nat) (oa : Option Addr) (oc : Nat), nv = .int .i64 k ∧ ov = .slice oa m oc ∧ Hid (BgI wb wr (.slice oa m oc) n k m) ∧ Hid (-9223372036854775808 ≤ k ∧ k ≤ 9223372036854775807)) (fun nv _ _ _ => (intOf nv).natAbs)
  case atStart => exact ⟨n, 0, none, 0, rfl, rfl, Lib.hid ⟨IntRow.nil _ _, Below.refl _ _, by simp, fun h => h, fun h => h, by omega, fun h => absurd rfl h⟩, HN⟩
  case round =>
    obtain ⟨k, m, oa, oc, rfl, rfl, HI, HK⟩ := hrel
    by_cases hk : k = 0
    · subst hk
      have hz : n.natAbs / 10000 ^ m = 0 := by have := HI.out.num; omega
      have hT : Top n.natAbs m := ⟨hz, HI.out.top⟩
      have HT := Lib.hid hT
      have hml : (chunks n.natAbs m).length = m := chunks_length _ _
      have hcap : m ≤ oc := by
        obtain ⟨a, c, e, hc⟩ := HI.out.row.shape
        injection e with _ _ e3
        omega
      have hm5 := HI.out.small
      have hcall := r_trim (w := wr) (neg := decide (n < 0)) (a := oa) (cap := oc) (xs := chunks n.natAbs m) (by rw [hml]; exact HI.out.row) (by rw [hml]; exact hcap) (by rw [hml]; omega) (fun x hx => by
        rw [hml] at hx
        have hm0 : m ≠ 0 := by
          rintro rfl
          simp [chunks] at hx
        rw [chunks_at _ _ _ (by omega)] at hx
        cases hx
        have := (hT.last hm0).1
        omega) (fun hn => by
        have hn0 : n < 0 := by simpa using hn
        intro e
        rw [e] at hml
        have : m = 0 := by simpa using hml.symm
        subst this
        have := top_nil hT
        omega)
      rw [hml] at hcall
      have HKB := Lib.hid HI.out.keep
      clear hz hT hml hcap hm5
      go_wp2_with (fail)
      refine hcall.mono ?_
      rintro e w3 ⟨a3, c3, rfl, H3⟩
      have hb3 : Below w.heap.size w wr := HB.out.trans (HKB.out.mono HB.out.size)
      have HBB : Hid (BBox w3 w.heap.size false (.slice none 0 0)) := Lib.hid ((H3.out.2.block _ (by have := HBK.out.2; have := HKB.out.size; omega)).trans ((HKB.out.block _ (by have := HBK.out.2; omega)).trans HBK.out.1))
      have HEND : Hid (BBox ((w3.setCell ⟨w.heap.size, 0, none⟩ (.bool (decide (n < 0)))).setCell ⟨w.heap.size, 1, none⟩ (.slice a3 m c3)) w.heap.size (decide (n < 0)) (.slice a3 m c3) ∧ IntRow ((w3.setCell ⟨w.heap.size, 0, none⟩ (.bool (decide (n < 0)))).setCell ⟨w.heap.size, 1, none⟩ (.slice a3 m c3)) w.heap.size (.slice a3 m c3) (chunks n.natAbs m) ∧ Below w.heap.size w ((w3.setCell ⟨w.heap.size, 0, none⟩ (.bool (decide (n < 0)))).setCell ⟨w.heap.size, 1, none⟩ (.slice a3 m c3))) := Lib.hid (by
        have hk := keeps2 w3 w.heap.size (.bool (decide (n < 0))) (.slice a3 m c3)
        have hge : w.heap.size + 1 ≤ wr.heap.size := by have := HBK.out.2; have := HKB.out.size; omega
        have h6 := IntRow.keeps (B := wr.heap.size) H3.out.1 hk (fun g hg e => by have e : g = w.heap.size := e; have hg : wr.heap.size ≤ g := hg; omega)
        have h7 : Below w.heap.size w w3 := hb3.trans (H3.out.2.mono hb3.size)
        exact ⟨bbox_set HBB.out _ _, h6.mono (Nat.le_trans (Nat.le_succ _) hge), below_keeps h7 hk (fun i e => by have e : i = w.heap.size := e; omega) h7.size⟩)
      obtain ⟨⟨d0, d1⟩, z0, z1⟩ := bbox_cells HBB.out
      clear hb3
      go_wp2_with (fail)
      exact bodyPost_ret (bres_cell rfl HEND.out.1 _ rfl) rfl ⟨a3, c3, m, rfl, Lib.hid ⟨HEND.out.2.1, HEND.out.2.2, HT.out, HI.out.small⟩⟩
    · have t0 : (k != 0) = true := by simpa using hk
      obtain ⟨k0, k1⟩ := HK.out
      have b1 : -10000 < k.tmod 10000 := by have := Int.lt_tmod_of_pos k (show (0 : Int) < 10000 by decide); omega
      have b2 : k.tmod 10000 < 10000 := Int.tmod_lt_of_pos k (by decide)
      have q1 : -9223372036854775808 ≤ k.tdiv 10000 ∧ k.tdiv 10000 ≤ 9223372036854775807 := by
        have h3 : (k.tdiv 10000).natAbs = k.natAbs / 10000 := Int.natAbs_tdiv k 10000
        have h2 : k.natAbs / 10000 ≤ 922337203685478 := by
          have : k.natAbs ≤ 9223372036854775808 := by omega
          omega
        omega
      obtain ⟨q2, q3⟩ := q1
      have hm5 : m ≤ 4 := by
        have hn := HI.out.num
        refine Nat.le_of_not_lt fun hlt => ?_
        have hm : m = 5 := by have := HI.out.small; omega
        subst hm
        have : n.natAbs / 10000 ^ 5 = 0 := Nat.div_eq_of_lt (by have := HN.out; have : (10000 : Nat) ^ 5 = 100000000000000000000 := by decide
                                                                omega)
        omega
      have hnext : ∀ (wy : World) (a' : Option Addr) (c' : Nat), IntRow wy wb.heap.size (.slice a' (m + 1) c') (chunks n.natAbs m ++ [((k.natAbs % 10000 : Nat) : Int)]) → Keeps (fun x => wb.heap.size ≤ x) wr wy → BgI wb wy (.slice a' (m + 1) c') n (k.tdiv 10000) (m + 1) := fun wy a' c' hr hy => by
        have hn := HI.out.num
        refine ⟨by rw [chunks_succ, ← hn]; exact hr, below_keeps HI.out.keep hy (fun i e => e) HI.out.keep.size, ?_, fun h => HI.out.neg ?_, fun h => HI.out.pos ?_, by omega, fun _ => by rw [Nat.add_sub_cancel, ← hn]; omega⟩
        · rw [Int.natAbs_tdiv, hn, Nat.pow_succ, ← Nat.div_div_eq_div_mul]; rfl
        · refine Int.not_le.1 fun hge => ?_
          have := Int.tdiv_nonneg hge (show (0 : Int) ≤ 10000 by decide)
          omega
        · refine Int.not_le.1 fun hge => ?_
          obtain ⟨j, hj⟩ : ∃ j : Nat, k = -(j : Int) := ⟨k.natAbs, by omega⟩
          rw [hj, Int.neg_tdiv] at h
          have := Int.tdiv_nonneg (show (0 : Int) ≤ (j : Int) by omega) (show (0 : Int) ≤ 10000 by decide)
          omega
      have hmeas : (k.tdiv 10000).natAbs < k.natAbs := by
        rw [Int.natAbs_tdiv]
        exact Nat.div_lt_self (by omega) (by decide)
      have HNX := Lib.hid (And.intro hnext hmeas)
      by_cases hneg : k.tmod 10000 < 0
      · have t1 : decide (k.tmod 10000 < 0) = true := by simpa using hneg
        have hx : -(k.tmod 10000) = ((k.natAbs % 10000 : Nat) : Int) := by
          have : (k.tmod 10000).natAbs = k.natAbs % 10000 := Int.natAbs_tmod k 10000
          omega
        obtain ⟨a', c', wy, hrun, HY⟩ := IntRow.push (w := wr) (B := wb.heap.size) (v := .slice oa m oc) (xs := chunks n.natAbs m) HI.out.row HI.out.keep.size (by rw [chunks_length]; omega) (-(k.tmod 10000)) 3
        rw [chunks_length] at hrun HY
        rw [hx] at HY
        clear hnext hmeas hx hm5
        go_wp2_with (first | (at_builtin; refine wpList_append_run rfl (.tmp 16) (.tmp 18) 52 rfl _ _ rfl rfl _ _ hrun ?_))
        go_roundw
        case rel => exact ⟨k.tdiv 10000, m + 1, a', c', rfl, rfl, Lib.hid (HNX.out.1 _ _ _ HY.out.1 HY.out.2), Lib.hid ⟨q2, q3⟩⟩
        case measure => simpa [intOf] using HNX.out.2
      · have t1 : decide (k.tmod 10000 < 0) = false := by simpa using hneg
        have hx : k.tmod 10000 = ((k.natAbs % 10000 : Nat) : Int) := by
          have : (k.tmod 10000).natAbs = k.natAbs % 10000 := Int.natAbs_tmod k 10000
          omega
        obtain ⟨a', c', wy, hrun, HY⟩ := IntRow.push (w := wr) (B := wb.heap.size) (v := .slice oa m oc) (xs := chunks n.natAbs m) HI.out.row HI.out.keep.size (by rw [chunks_length]; omega) (k.tmod 10000) 3
        rw [chunks_length] at hrun HY
        rw [hx] at HY
        clear hnext hmeas hx hm5
        go_wp2_with (first | (at_builtin; refine wpList_append_run rfl (.tmp 16) (.tmp 18) 52 rfl _ _ rfl rfl _ _ hrun ?_))
        go_roundw
        case rel => exact ⟨k.tdiv 10000, m + 1, a', c', rfl, rfl, Lib.hid (HNX.out.1 _ _ _ HY.out.1 HY.out.2), Lib.hid ⟨q2, q3⟩⟩
        case measure => simpa [intOf] using HNX.out.2
theorem str_add (a b : List UInt8) : str a ++ str b = str (a ++ b) := by
  apply ByteArray.ext
  simp [str]
theorem rd_byte1 (w : World) (x : UInt8) (T : TypeId) : RdAt byteKind (w.alloc (.cells #[.int .u8 (x.toNat : Int)] T)) (.slice (some ⟨w.heap.size, 0, none⟩) 1 1) [x] := by
  refine ⟨_, 1, rfl, fun j y hy => ⟨w.heap.size, 0, rfl, fun i hi => ?_⟩⟩
  match j, hy with
  | 0, hy =>
    simp only [List.getElem?_cons_zero, Option.some.injEq] at hy
    subst hy
    have hi0 : i = 0 := by have : i < 1 := hi; omega
    subst hi0
    exact blk_cell (cs := #[.int .u8 (x.toNat : Int)]) (heap_alloc_new w _) 0
set_option maxRecDepth 100000 in
theorem r_bigText {B : Nat} {neg : Bool} {a : Option Addr} {cap u m : Nat} (h : IntRow w B (.slice a m cap) (chunks u m)) (hT : Top u m) (hm : m ≤ 100) (hneg : neg = true → u ≠ 0) (hT2 : u < 18446744073709551616) :
    Calls Tryz.prog 21 #[.agg #[.bool neg, .slice a m cap]] w fun e w' => e = .returned (.string (str ((if neg then [45] else []) ++ Lib.decDigits u))) ∧ Below w.heap.size w w' := by
  obtain ⟨wb, hwb⟩ : ∃ wb, w.alloc (.cells #[.bool neg, .slice a m cap] 54) = wb := ⟨_, rfl⟩
  have hbb : Below w.heap.size w wb := by rw [← hwb]; exact (Below.refl _ _).alloc (Nat.le_refl _) _
  have hblk : BBox wb w.heap.size neg (.slice a m cap) := by rw [← hwb]; exact blk_new w _
  obtain ⟨⟨b0, b1⟩, z0, z1⟩ := bbox_cells hblk
  have HB := Lib.hid (And.intro hbb hblk)
  have HWB := Lib.hid hwb
  have HR := Lib.hid (h.below hbb)
  have HT := Lib.hid hT
  obtain ⟨L, hL⟩ : ∃ L, L = str ((if neg then [45] else []) ++ Lib.decDigits u) := ⟨_, rfl⟩
  rw [← hL]
  have HL := Lib.hid hL
  have HNEG := Lib.hid hneg
  have HU : Hid ((Lib.decDigits u).length ≤ 20) := Lib.hid (by rw [Lib.decDigits_length]; exact Lib.nDigits_le20 u hT2)
  clear hwb hbb hblk h hT hL hneg hT2
  by_cases hm0 : m = 0
  · subst hm0
    go_enter Tryz.func21, Tryz.ntmps21
    have hu : u = 0 := top_nil HT.out
    have hn : neg = false := by cases neg with
      | false => rfl
      | true => exact absurd hu (HNEG.out rfl)
    have hL : L = ⟨#[48]⟩ := by
      rw [HL.out, hu, hn, Lib.decDigits_one (by decide)]
      rfl
    rw [hL]
    clear hL hn hu
    go_upto_region 1 with (fail)
    rw [HWB.out]
    go_wp2_with (fail)
    go_ret
    exact ⟨rfl, HB.out.1⟩
  · have hmI : (m : Int) ≤ 100 := by omega
    have t0 : decide ((m : Int) = 0) = false := by simpa using hm0
    have t1 : ((m : Int) == 0) = false := by simpa using hm0
    go_enter Tryz.func21, Tryz.ntmps21
    go_upto_region 1 with (fail)
    rw [HWB.out]
    go_wp2_with (fail)
    have HBB := Lib.hid (Below.refl wb.heap.size wb)
    clear b0 b1 z0 z1
    go_loopw [3, 4, 5, 6] (fun sv iv xv kv wr => ∃ (i : Nat) (l : ByteArray), i ≤ m ∧ iv = .int .i64 i ∧ sv = .string l ∧ Hid (Below wb.heap.size wb wr) ∧ Hid (l = str (if i = m then Lib.decDigits u else lowD u (4 * i)))) (fun _ iv _ _ _ => m - (intOf iv).toNat)
    case atStart => exact ⟨0, ⟨#[]⟩, Nat.zero_le _, rfl, rfl, HBB, Lib.hid (by rw [if_neg (fun e => hm0 e.symm)]; rfl)⟩
    case round =>
      obtain ⟨i, l, hi, rfl, rfl, HBW, HLW⟩ := hrel
      have hbox : BBox wr w.heap.size neg (.slice a m cap) := (HBW.out.block _ (by have := HB.out.2; exact lt_of_block this)).trans HB.out.2
      obtain ⟨⟨b0, b1⟩, z0, z1⟩ := bbox_cells hbox
      clear hbox
      by_cases hlt : i < m
      · have j1 : (i : Int) < (m : Int) := by omega
        have j0 : (0 : Int) ≤ (i : Int) := by omega
        obtain ⟨X, hX⟩ : ∃ X, X = u / 10000 ^ i % 10000 := ⟨_, rfl⟩
        obtain ⟨g, off, c, e1, hc⟩ := (HR.out.below HBW.out).cell (by rw [chunks_at _ _ _ hlt, ← hX])
        rw [chunks_length] at e1
        injection e1 with e1 _ e3
        subst e1 e3
        have hXl : X < 10000 := by rw [hX]; exact Nat.mod_lt _ (by decide)
        have HX := Lib.hid (And.intro hX hXl)
        have HL0 : Hid (l = str (lowD u (4 * i + 0))) := Lib.hid (by rw [HLW.out, if_neg (by omega)]; rfl)
        clear HLW hX hXl
        go_wp2_with (fail)
        go_loopw [3, 5, 6] (fun sv xv kv wy => ∃ (k : Nat) (l : ByteArray), k ≤ 4 ∧ kv = .int .i64 k ∧ xv = .int .i64 ((X / 10 ^ k : Nat) : Int) ∧ sv = .string l ∧ Hid (Below wb.heap.size wb wy) ∧ Hid (l = str (lowD u (4 * i + k))) ∧ Hid (k ≠ 0 → i = m - 1 → X / 10 ^ (k - 1) ≠ 0)) (fun _ _ kv _ => 4 - (intOf kv).toNat)
        case atStart => exact ⟨0, l, by omega, rfl, by simp, rfl, HBW, HL0, Lib.hid (fun h => absurd rfl h)⟩
        case round =>
          obtain ⟨k, l, hk, rfl, rfl, rfl, HBY, HLY, HKY⟩ := hrel
          have hbox : BBox wr w.heap.size neg (.slice _ m cap) := (HBY.out.block _ (by have := HB.out.2; exact lt_of_block this)).trans HB.out.2
          clear b0 b1 z0 z1 hc
          obtain ⟨⟨b0, b1⟩, z0, z1⟩ := bbox_cells hbox
          clear hbox
          obtain ⟨Y, hY⟩ : ∃ Y, Y = X / 10 ^ k := ⟨_, rfl⟩
          rw [← hY]
          have HYX := Lib.hid hY
          clear hY
          by_cases hk4 : k = 4
          · subst hk4
            have hY0 : Y = 0 := by rw [HYX.out]; exact chunk_end X HX.out.2
            have HO : Hid (l = str (if i + 1 = m then Lib.decDigits u else lowD u (4 * (i + 1)))) := Lib.hid (by
              by_cases he : i + 1 = m
              · rw [if_pos he, ← top_digits (k := 4) HT.out (by omega) (Nat.le_refl _) (by rw [← he, Nat.add_sub_cancel, ← HX.out.1, ← HYX.out, hY0]) (fun _ => by rw [← he, Nat.add_sub_cancel, ← HX.out.1]; exact HKY.out (by decide) (by omega)), ← he, Nat.add_sub_cancel]
                exact HLY.out
              · rw [if_neg he, Nat.mul_add]; exact HLY.out)
            clear hY0
            go_wp2_with (fail)
            refine ⟨⟨i + 1, l, by omega, by go_num, rfl, HBY, HO⟩, ?_⟩
            simp [intOf]; omega
          · have k4 : (k : Int) < 4 := by omega
            have k4t : decide ((k : Int) < 4) = true := by simpa using k4
            by_cases hstop : i = m - 1 ∧ Y = 0
            · have hY0 : Y = 0 := hstop.2
              have j2 : decide ((i : Int) < (m : Int) - 1) = false := by simp; omega
              have j3 : decide (0 < Y) = false := by simp; omega
              have HO : Hid (l = str (if i + 1 = m then Lib.decDigits u else lowD u (4 * (i + 1)))) := Lib.hid (by
                have he : i + 1 = m := by omega
                rw [if_pos he, ← top_digits (k := k) HT.out (by omega) hk (by rw [← he, Nat.add_sub_cancel, ← HX.out.1, ← HYX.out, hY0]) (fun hk0 => by rw [← he, Nat.add_sub_cancel, ← HX.out.1]; exact HKY.out hk0 (by omega)), ← he, Nat.add_sub_cancel]
                exact HLY.out)
              clear hstop hY0 hk4
              go_wp2_with (fail)
              refine ⟨⟨i + 1, l, by omega, by go_num, rfl, HBY, HO⟩, ?_⟩
              simp [intOf]; omega
            · have hYl : Y < 10000 := by
                rw [HYX.out]
                exact Nat.lt_of_le_of_lt (Nat.div_le_self _ _) HX.out.2
              have hYI : (Y : Int) < 10000 := by omega
              have hY0 : (0 : Int) ≤ (Y : Int) := by omega
              have hlz : (l.size : Int) ≤ 1000 := by
                have h2 : l.size = 4 * i + k := by rw [HLY.out]; show (lowD u (4 * i + k)).toArray.size = _; rw [List.size_toArray, lowD_length]
                omega
              have hcv : (convert 26 9 (.slice (some ⟨wr.heap.size, 0, none⟩) 1 1)).run Tryz.prog (wr.alloc (.cells #[.int .u8 (48 + (Y : Int) % 10)] 5)) = .ok (.string (str [UInt8.ofNat (48 + Y % 10)])) (wr.alloc (.cells #[.int .u8 (48 + (Y : Int) % 10)] 5)) := by
                have hd : ((UInt8.ofNat (48 + Y % 10)).toNat : Int) = 48 + (Y : Int) % 10 := by rw [UInt8.toNat_ofNat']; omega
                have h1 := rd_byte1 wr (UInt8.ofNat (48 + Y % 10)) 5
                rw [hd] at h1
                exact run_text (ys := [UInt8.ofNat (48 + Y % 10)]) h1
              have hs1 : ((str [UInt8.ofNat (48 + Y % 10)]).size : Int) ≤ 1000 := by show ((1 : Nat) : Int) ≤ _; omega
              have HL2 : Hid (str [UInt8.ofNat (48 + Y % 10)] ++ l = str (lowD u (4 * i + (k + 1)))) := Lib.hid (by
                rw [HLY.out, str_add, ← Nat.add_assoc, lowD_succ]
                congr 2
                unfold Lib.dg
                rw [← chunk_dg u i k (by omega), ← HX.out.1, ← HYX.out]
                rfl)
              generalize str [UInt8.ofNat (48 + Y % 10)] = d at hcv hs1 HL2
              have HK2 : Hid (k + 1 ≠ 0 → i = m - 1 → X / 10 ^ (k + 1 - 1) ≠ 0) := Lib.hid (fun _ hi1 => by
                rw [Nat.add_sub_cancel, ← HYX.out]
                exact fun e => hstop ⟨hi1, e⟩)
              have hY2 : Y / 10 = X / 10 ^ (k + 1) := by rw [HYX.out]; exact chunk_next X k
              have HY2 := Lib.hid hY2
              have HBN : Hid (Below wb.heap.size wb (wr.alloc (.cells #[.int .u8 (48 + (Y : Int) % 10)] 5))) := Lib.hid (HBY.out.alloc HBY.out.size _)
              have hkn : k + 1 ≤ 4 := by omega
              by_cases him : i = m - 1
              · have j2 : decide ((i : Int) < (m : Int) - 1) = false := by simp; omega
                have hYp : Y ≠ 0 := fun e => hstop ⟨him, e⟩
                have j3 : decide (0 < Y) = true := by simp; omega
                clear hstop him hYp hk4 hY2
                go_wp2_with (fail)
                go_roundw
                case rel => exact ⟨k + 1, _, hkn, by go_num, by rw [← HY2.out]; go_num, rfl, HBN, Lib.hid (by rw [HL2.out]), HK2⟩
                case measure => simp [intOf]; omega
              · have j2 : decide ((i : Int) < (m : Int) - 1) = true := by simp; omega
                clear hstop hk4 hY2
                go_wp2_with (fail)
                go_roundw
                case rel => exact ⟨k + 1, _, hkn, by go_num, by rw [← HY2.out]; go_num, rfl, HBN, Lib.hid (by rw [HL2.out]), HK2⟩
                case measure => simp [intOf]; omega
      · have hi2 : i = m := by omega
        have hf : ¬ (i : Int) < (m : Int) := by omega
        have HF : Hid (l = str (Lib.decDigits u)) := Lib.hid (by rw [HLW.out, if_pos hi2])
        have HW : Hid (Below w.heap.size w wr) := Lib.hid (HB.out.1.trans (HBW.out.mono HB.out.1.size))
        have hnd : (Lib.decDigits u).length ≤ 20 := HU.out
        clear hi2
        cases neg with
        | true =>
          have hlz : (l.size : Int) ≤ 1000 := by
            rw [HF.out]; show ((Lib.decDigits u).toArray.size : Int) ≤ _; rw [List.size_toArray]; omega
          have HE : Hid ((⟨#[45]⟩ : ByteArray) ++ l = L) := Lib.hid (by rw [HL.out, HF.out, if_pos rfl]; exact str_add [45] _)
          go_wp2_with (fail)
          go_ret
          exact ⟨by rw [HE.out]; rfl, HW.out⟩
        | false =>
          have HE : Hid (l = L) := Lib.hid (by rw [HL.out, HF.out, if_neg (by decide)]; rfl)
          go_wp2_with (fail)
          go_ret
          exact ⟨by rw [HE.out]; rfl, HW.out⟩
end
end Go.Proofs.YthjcolehccbihaaGreatDoor
