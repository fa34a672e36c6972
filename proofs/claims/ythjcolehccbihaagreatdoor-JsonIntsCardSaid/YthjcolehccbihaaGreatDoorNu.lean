/- Of the law's own words: SameBytes, SameTexts of the same; the value of nothing is the document's. -/
import Derived.Test.YthjcolehccbihaaGreatDoorNt
set_option linter.unusedSimpArgs false
set_option linter.unusedVariables false
namespace Go.Proofs.YthjcolehccbihaaGreatDoor
open Go.RowKit Go.Shelf

/-- Two slices of the same bytes are the same. -/
theorem r_sameBytesN {w : World} {u v : Value} {xs : List UInt8} (h1 : RdAt byteKind w u xs) (h2 : RdAt byteKind w v xs) (hm : xs.length ≤ 1000000000) :
    Calls Tryz.prog 14 #[u, v] w fun e w' => e = .returned (.bool true) ∧ ∃ n, w' = w.drewN n := by
  have HR1 := Lib.hid h1
  have HR2 := Lib.hid h2
  obtain ⟨a, c1, rfl, hr1⟩ := h1
  obtain ⟨b, c2, rfl, hr2⟩ := h2
  clear hr1 hr2
  have hm2 : (xs.length : Int) ≤ 1000000000 := by omega
  go_enter Tryz.func14, Tryz.ntmps14
  go_wp2_with (fail)
  go_loopw [5] (fun i wr => ∃ k : Nat, k ≤ xs.length ∧ i = .int .i64 k ∧ Hid (∃ n, wr = w.drewN n)) (fun i _ => xs.length - (intOf i).toNat)
  case atStart => exact ⟨0, Nat.zero_le _, rfl, Lib.hid ⟨0, rfl⟩⟩
  case round =>
    obtain ⟨k, hk, rfl, HN⟩ := hrel
    have HB : Hid (Below w.heap.size w wr) := Lib.hid (by obtain ⟨n, hn⟩ := HN.out; rw [hn]; exact below_drewN _ _ _)
    by_cases hlt : k < xs.length
    · have hx : xs[k]? = some xs[k] := List.getElem?_eq_getElem hlt
      generalize xs[k] = x at hx
      obtain ⟨_, _, e1, hr1⟩ := HR1.out
      injection e1 with e1 _ e3
      subst e1 e3
      obtain ⟨g, off, rfl, d1⟩ := hr1 k x hx
      obtain ⟨_, _, e1, hr2⟩ := HR2.out
      injection e1 with e1 _ e3
      subst e1 e3
      obtain ⟨g2, off2, rfl, d2⟩ := hr2 k x hx
      have d1 := d1 0 (by decide)
      have d2 := d2 0 (by decide)
      replace d1 : w.cell? ⟨g, off + k, none⟩ = some (.int .u8 (x.toNat : Int)) := by simpa [byteKind] using d1
      replace d2 : w.cell? ⟨g2, off2 + k, none⟩ = some (.int .u8 (x.toNat : Int)) := by simpa [byteKind] using d2
      have d1 := (HB.out.cell (p := ⟨g, off + k, none⟩) (World.block_lt_of_cell? w _ d1)).trans d1
      have d2 := (HB.out.cell (p := ⟨g2, off2 + k, none⟩) (World.block_lt_of_cell? w _ d2)).trans d2
      have hk0 : (0 : Int) ≤ (k : Int) := by omega
      have hk1 : (k : Int) < (xs.length : Int) := by omega
      clear hx hr1 hr2
      go_wp2_with (fail)
      go_quiet (fail)
      go_wp2_with (fail)
      go_roundw
      case rel => exact ⟨k + 1, by omega, by go_num, Lib.hid (by obtain ⟨n, hn⟩ := HN.out; exact ⟨n + nq, by rw [hn]; simp [World.drewN]; omega⟩)⟩
      case measure => simp [intOf]; omega
    · have hk1 : ¬ ((k : Int) < (xs.length : Int)) := by omega
      go_wp2_with (fail)
      go_ret
      exact ⟨rfl, HN.out⟩
theorem r_sameBytes {w : World} {u v : Value} {xs : List UInt8} (h1 : RdAt byteKind w u xs) (h2 : RdAt byteKind w v xs) (hm : xs.length ≤ 1000000000) :
    Calls Tryz.prog 14 #[u, v] w fun e w' => e = .returned (.bool true) ∧ Below w.heap.size w w' :=
  (r_sameBytesN h1 h2 hm).mono fun _ _ ⟨he, n, hn⟩ => ⟨he, by rw [hn]; exact below_drewN _ _ _⟩
/-- Two slices of the same texts are the same. -/
theorem r_sameTexts {w : World} {u v : Value} {xs : List ByteArray} (h1 : RdAt textKind w u xs) (h2 : RdAt textKind w v xs) (hm : xs.length ≤ 1000000000) :
    Calls Tryz.prog 43 #[u, v] w fun e w' => e = .returned (.bool true) ∧ Below w.heap.size w w' := by
  have HR1 := Lib.hid h1
  have HR2 := Lib.hid h2
  obtain ⟨a, c1, rfl, hr1⟩ := h1
  obtain ⟨b, c2, rfl, hr2⟩ := h2
  clear hr1 hr2
  have hm2 : (xs.length : Int) ≤ 1000000000 := by omega
  go_enter Tryz.func43, Tryz.ntmps43
  go_wp2_with (fail)
  go_loopw [5] (fun i wr => ∃ k : Nat, k ≤ xs.length ∧ i = .int .i64 k ∧ Hid (∃ n, wr = w.drewN n)) (fun i _ => xs.length - (intOf i).toNat)
  case atStart => exact ⟨0, Nat.zero_le _, rfl, Lib.hid ⟨0, rfl⟩⟩
  case round =>
    obtain ⟨k, hk, rfl, HN⟩ := hrel
    have HB : Hid (Below w.heap.size w wr) := Lib.hid (by obtain ⟨n, hn⟩ := HN.out; rw [hn]; exact below_drewN _ _ _)
    by_cases hlt : k < xs.length
    · have hx : xs[k]? = some xs[k] := List.getElem?_eq_getElem hlt
      generalize xs[k] = x at hx
      obtain ⟨_, _, e1, hr1⟩ := HR1.out
      injection e1 with e1 _ e3
      subst e1 e3
      obtain ⟨g, off, rfl, d1⟩ := hr1 k x hx
      obtain ⟨_, _, e1, hr2⟩ := HR2.out
      injection e1 with e1 _ e3
      subst e1 e3
      obtain ⟨g2, off2, rfl, d2⟩ := hr2 k x hx
      have d1 := d1 0 (by decide)
      have d2 := d2 0 (by decide)
      replace d1 : w.cell? ⟨g, off + k, none⟩ = some (.string x) := by simpa [textKind] using d1
      replace d2 : w.cell? ⟨g2, off2 + k, none⟩ = some (.string x) := by simpa [textKind] using d2
      have d1 := (HB.out.cell (p := ⟨g, off + k, none⟩) (World.block_lt_of_cell? w _ d1)).trans d1
      have d2 := (HB.out.cell (p := ⟨g2, off2 + k, none⟩) (World.block_lt_of_cell? w _ d2)).trans d2
      have hk0 : (0 : Int) ≤ (k : Int) := by omega
      have hk1 : (k : Int) < (xs.length : Int) := by omega
      have he : (x.toList == x.toList) = true := by simp
      clear hx hr1 hr2
      go_wp2_with (fail)
      go_quiet (fail)
      go_wp2_with (fail)
      go_roundw
      case rel => exact ⟨k + 1, by omega, by go_num, Lib.hid (by obtain ⟨n, hn⟩ := HN.out; exact ⟨n + nq, by rw [hn]; simp [World.drewN]; omega⟩)⟩
      case measure => simp [intOf]; omega
    · have hk1 : ¬ ((k : Int) < (xs.length : Int)) := by omega
      go_wp2_with (fail)
      go_ret
      exact ⟨rfl, HB.out⟩
set_option maxRecDepth 100000 in
set_option maxHeartbeats 4000000 in
theorem j_same0 {w : World} {q : RawV} {A : Nat → Prop} (hq : JAt w A JV.zero q) : Calls Tryz.prog 15 #[.agg #[.int .i64 q.k, .string q.t, .slice q.la q.ll q.lc, .slice q.na q.nl q.nc], .agg #[.int .i64 0, .string .empty, .slice none 0 0, .slice none 0 0]] w fun e w' => e = .returned (.bool true) ∧ Below w.heap.size w w' := by
  simp only [JV.zero, JAt] at hq
  obtain ⟨hqk, hqt, ⟨hns, -⟩, rs, ⟨hrs, -⟩, hl⟩ := hq
  have e1 : q.ll = 0 := by
    obtain ⟨_, _, e, _⟩ := hrs
    injection e with _ e _
    rw [e, hl.length]
    rfl
  have e3 : q.nl = 0 := by obtain ⟨_, _, e, _⟩ := hns; injection e
  obtain ⟨w1, hw1, HBX⟩ := jbox_new w q
  obtain ⟨qk, qt, la, ll, lc, na, nl, nc⟩ := q
  simp only at hqk hqt e1 e3
  subst hqk hqt e1 e3
  have HW1 := Lib.hid hw1
  have hs1 : w1.heap.size = w.heap.size + 1 := by rw [← hw1]; simp
  obtain ⟨w2, hw2⟩ : ∃ W, W = w1.alloc (.cells #[.int .i64 0, .string .empty, .slice none 0 0, .slice none 0 0] 40) := ⟨_, rfl⟩
  have HW2 := Lib.hid hw2
  have hb12 : Below w1.heap.size w1 w2 := by rw [hw2]; exact (Below.refl _ _).alloc (Nat.le_refl _) _
  have HB2 := Lib.hid (HBX.out.1.trans (hb12.mono (by have := HBX.out.1.size; omega)))
  obtain ⟨⟨b0, b1, b2, b3⟩, -⟩ := jbox_cells (jbox_below HBX.out.2 hb12)
  have hbk := blk_new w1 (.cells #[.int .i64 0, .string .empty, .slice none 0 0, .slice none 0 0] 40)
  rw [← hw2, hs1] at hbk
  have c0 := blk_cell hbk 0
  have c1 := blk_cell hbk 1
  have c2 := blk_cell hbk 2
  have c3 := blk_cell hbk 3
  simp at c0 c1 c2 c3
  have HN0 : Hid (RdAt textKind w2 (.slice na 0 nc) [] ∧ RdAt textKind w2 (.slice none 0 0) []) := Lib.hid ⟨⟨na, nc, rfl, fun j x hx => by simp at hx⟩, ⟨none, 0, rfl, fun j x hx => by simp at hx⟩⟩
  simp only at b0 b1 b2 b3
  clear hw1 hw2 hb12 hs1 hbk HBX hns hrs hl
  go_enter Tryz.func15, Tryz.ntmps15
  go_upto_region 1 with (fail)
  have HW1' := HW1.out
  simp only at HW1'
  rw [HW1', ← HW2.out]
  clear HW1' HW1 HW2
  go_upto_region 3 with (first | (go_at_call 43; refine (r_sameTexts HN0.out.1 HN0.out.2 (by simp)).mono ?_; rintro e w3 ⟨rfl, hb3⟩))
  have HB3 := Lib.hid (HB2.out.trans (hb3.mono HB2.out.size))
  have b2' := (hb3.cell (p := ⟨w.heap.size, 2, none⟩) (World.block_lt_of_cell? _ _ b2)).trans b2
  clear hb3 b0 b1 b2 b3 c0 c1 c2 c3
  go_wp2_with (fail)
  go_loopw [5] (fun i wr => i = .int .i64 0 ∧ wr = w3) (fun _ _ => 0)
  case atStart => exact ⟨rfl, rfl⟩
  case round =>
    obtain ⟨rfl, rfl⟩ := hrel
    go_wp2_with (fail)
    go_ret
    exact ⟨rfl, HB3.out⟩
end Go.Proofs.YthjcolehccbihaaGreatDoor
