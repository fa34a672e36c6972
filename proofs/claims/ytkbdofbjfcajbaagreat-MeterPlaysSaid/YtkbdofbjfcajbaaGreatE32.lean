/- Of the law's own words: Event, and of the document's: SameTexts. -/
import Derived.Test.YtkbdofbjfcajbaaGreatE31
namespace Go.Proofs.YtkbdofbjfcajbaaGreat
open Go.RowKit Go.Shelf Go.Sort

/-- Two slices of the same texts are the same. -/
theorem r_sameTexts {w : World} {u v : Value} {xs : List ByteArray} (h1 : RdAt textKind w u xs) (h2 : RdAt textKind w v xs) (hm : xs.length ≤ 1000000000) :
    Calls Tryz.prog 48 #[u, v] w fun e w' => e = .returned (.bool true) ∧ Below w.heap.size w w' := by
  have HR1 := Lib.hid h1
  have HR2 := Lib.hid h2
  obtain ⟨a, c1, rfl, hr1⟩ := h1
  obtain ⟨b, c2, rfl, hr2⟩ := h2
  clear hr1 hr2
  have hm2 : (xs.length : Int) ≤ 1000000000 := by omega
  go_enter Tryz.func48, Tryz.ntmps48
  go_wp2_with (fail)
  go_loopw [5] (fun i wr => ∃ k : Nat, k ≤ xs.length ∧ i = .int .i64 k ∧ Hid (∃ n, wr = w.drewN n)) (fun i _ => xs.length - (intOf i).toNat)
  case atStart => exact ⟨0, Nat.zero_le _, rfl, Lib.hid ⟨0, rfl⟩⟩
  case round =>
    obtain ⟨k, hk, rfl, HN⟩ := hrel
    have HB : Hid (Below w.heap.size w wr) := Lib.hid (by obtain ⟨n, hn⟩ := HN.out; rw [hn]; exact below_drewN' _ _)
    by_cases hlt : k < xs.length
    · have hx : xs[k]? = some xs[k] := List.getElem?_eq_getElem hlt
      generalize xs[k] = x at hx
      obtain ⟨_, _, e1, hr1⟩ := HR1.out
      injection e1 with e1 _ e3
      subst e1 e3
      obtain ⟨g, off, rfl, d1⟩ := hr1 k x hx
      obtain ⟨_, _, e1, hr2⟩ := HR2.out
      injection e1 with e1 _ e3
      subst e1 e3
      obtain ⟨g2, off2, rfl, d2⟩ := hr2 k x hx
      have d1 := d1 0 (by decide)
      have d2 := d2 0 (by decide)
      replace d1 : w.cell? ⟨g, off + k, none⟩ = some (.string x) := by simpa [textKind] using d1
      replace d2 : w.cell? ⟨g2, off2 + k, none⟩ = some (.string x) := by simpa [textKind] using d2
      have d1 := (HB.out.cell (p := ⟨g, off + k, none⟩) (World.block_lt_of_cell? w _ d1)).trans d1
      have d2 := (HB.out.cell (p := ⟨g2, off2 + k, none⟩) (World.block_lt_of_cell? w _ d2)).trans d2
      have hk0 : (0 : Int) ≤ (k : Int) := by omega
      have hk1 : (k : Int) < (xs.length : Int) := by omega
      have he : (x.toList == x.toList) = true := by simp
      clear hx hr1 hr2
      go_wp2_with (fail)
      go_quiet (fail)
      go_wp2_with (fail)
      go_roundw
      case rel => exact ⟨k + 1, by omega, by go_num, Lib.hid (by obtain ⟨n, hn⟩ := HN.out; exact ⟨n + nq, by rw [hn]; simp [World.drewN]; omega⟩)⟩
      case measure => simp [intOf]; omega
    · have hk1 : ¬ ((k : Int) < (xs.length : Int)) := by omega
      go_wp2_with (fail)
      go_ret
      exact ⟨rfl, HB.out⟩
set_option maxRecDepth 100000 in
set_option maxHeartbeats 2000000 in
theorem z_event (w : World) (v : Ev) : Calls Tryz.prog 16 #[.agg #[.string v.key, .string v.acct, .string v.mtr, .int .i64 v.qty, .int .i64 v.at_]] w fun e w' => e = .returned (.agg #[.string v.key, .string v.acct, .string v.mtr, .int .i64 v.qty, .int .i64 v.at_]) ∧ Below w.heap.size w w' := by
  go_enter Tryz.func16, Tryz.ntmps16
  go_wp2_with (fail)
  refine bodyPost_ret (v := .agg #[.string v.key, .string v.acct, .string v.mtr, .int .i64 v.qty, .int .i64 v.at_]) (by simp [results, Tryz.results16, go_sem]) rfl ⟨rfl, ?_⟩
  exact ((Below.refl _ _).alloc (Nat.le_refl _) _).alloc (by simp) _
end Go.Proofs.YtkbdofbjfcajbaaGreat
