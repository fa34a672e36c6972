/- The walk of the order of an object's names. -/
import Derived.Test.YthjcolehccbihaaGreatDoorz27
set_option linter.unusedSimpArgs false
set_option linter.unusedVariables false
namespace Go.Proofs.YthjcolehccbihaaGreatDoor
open Go.RowKit Go.Shelf
section
variable {W : World}
set_option maxRecDepth 100000 in
set_option maxHeartbeats 4000000 in
theorem j_cmp {xb : Nat} {v : Value} {names : List ByteArray} (hx : W.cell? ⟨xb, 3, none⟩ = some v) (hrd : RdAt textKind W v names) (hn : names.length ≤ 1000000) {i k : Nat} {x y : ByteArray} (hi : names[i]? = some x) (hk : names[k]? = some y) :
    Calls Tryz.prog 94 #[.int .i64 (i : Int), .int .i64 (k : Int), .pointer (some ⟨xb, 0, none⟩)] W fun e W' => e = .returned (.int .i64 (Lib.compareBytes (raw x) (raw y))) ∧ ∃ n, W' = W.drewN n := by
  have h2 := hrd
  obtain ⟨a, cap, hv, -⟩ := h2
  subst hv
  obtain ⟨g, off, rfl, c1⟩ := text_cell hrd hi
  obtain ⟨g', off', e, c2⟩ := text_cell hrd hk
  injection e with e
  injection e with e1 e2 _
  subst e1 e2
  have l1 : (i : Int) < (names.length : Int) := by have := (List.getElem?_eq_some_iff.1 hi).1; omega
  have l2 : (k : Int) < (names.length : Int) := by have := (List.getElem?_eq_some_iff.1 hk).1; omega
  have HX : Hid (∀ V, Calls Tryz.prog 95 #[.string x, .string y] V fun e w' => e = .returned (.int .i64 (Lib.compareBytes (raw x) (raw y))) ∧ w' = V) := Lib.hid fun V => Tryz.strings_Compare x y V
  clear hrd hn hi hk
  go_enter Tryz.func94, Tryz.ntmps94
  go_wp2_with (fail)
  go_quiet ((go_at_call 95; exact Calls.quiet_of_same (HX.out _)))
  go_wp2
  go_ret
  exact ⟨rfl, _, rfl⟩
end
end Go.Proofs.YthjcolehccbihaaGreatDoor
namespace Go.Proofs.YthjcolehccbihaaGreatDoor
open Go.RowKit Go.Shelf Go.Sort
theorem cmp_lt : ∀ a b : List UInt8, decide (Lib.compareBytes a b < 0) = ltB a b
  | [], [] => by simp [Lib.compareBytes, ltB]
  | [], y :: b => by simp [Lib.compareBytes, ltB]
  | x :: a, [] => by simp [Lib.compareBytes, ltB]
  | x :: a, y :: b => by
    unfold Lib.compareBytes ltB
    have ih := cmp_lt a b
    by_cases h1 : x < y
    · simp [h1]
    · by_cases h2 : y < x
      · have hne : (x == y) = false := by
          have : x ≠ y := by rintro rfl; exact h1 h2
          simpa using this
        simp [h1, h2, hne]
      · have he : x = y := by
          rw [UInt8.lt_iff_toNat_lt] at h1 h2
          exact UInt8.toNat_inj.1 (by omega)
        subst he
        simp [h1, ih]
section
variable {names : List ByteArray}
/-- How two places of names compare. -/
def cfN (names : List ByteArray) (x y : Fin names.length) : Int := Lib.compareBytes (raw names[x]) (raw names[y])
theorem cfN_lt (x y : Fin names.length) : ltOf (cfN names) x y = ltB (raw names[x]) (raw names[y]) := cmp_lt _ _
theorem cfN_swo : SWO (ltOf (cfN names)) := by
  refine ⟨fun x => by rw [cfN_lt]; exact ltB_irrefl _, fun x y z h1 h2 => ?_, fun x y z h1 h2 => ?_⟩
  · rw [cfN_lt] at *
    exact ltB_trans h1 h2
  · rw [cfN_lt] at *
    cases h3 : ltB (raw names[x]) (raw names[z]) with
    | false => rfl
    | true =>
      cases h4 : ltB (raw names[y]) (raw names[x]) with
      | true => rw [ltB_trans h4 h3] at h2; cases h2
      | false =>
        have := ltB_total h1 h4
        rw [← this] at h2
        rw [h3] at h2
        cases h2
theorem cfN_total (hd : (names.map raw).Nodup) (x y : Fin names.length) (h1 : ltOf (cfN names) x y = false) (h2 : ltOf (cfN names) y x = false) : x = y := by
  rw [cfN_lt] at h1 h2
  have h3 := ltB_total h1 h2
  apply Fin.ext
  have hx : (names.map raw)[x.val]? = some (raw names[x]) := by simp
  have hy : (names.map raw)[y.val]? = some (raw names[x]) := by rw [h3]; simp
  exact (List.getElem?_inj (by simp) hd).1 (hx.trans hy.symm)
/-- The places in the names' order. -/
def ordN (names : List ByteArray) : List (Fin names.length) := (List.finRange names.length).mergeSort fun x y => !(ltOf (cfN names)) y x
theorem ordN_perm : (ordN names).Perm (List.finRange names.length) := List.mergeSort_perm _ _
theorem ordN_nodup : (ordN names).Nodup := ordN_perm.nodup_iff.2 (List.nodup_finRange _)
theorem ordN_pair {α : Type} (fs : List α) (hl : fs.length = names.length) (hd : (names.map raw).Nodup) :
    (ordN names).map (fun i => (raw names[i], fs[i.val]'(by omega))) = sortP ((names.map raw).zip fs) := by
  have hz : (List.finRange names.length).map (fun i => (raw names[i], fs[i.val]'(by omega))) = (names.map raw).zip fs := by
    apply List.ext_getElem
    · simp [hl]
    · intro i h1 h2
      simp
  refine rises_unique _ _ ?_ (sortP_rises _ (by rw [zip_fst _ _ (by simp [hl])]; exact hd)) ?_
  · unfold Rises
    rw [List.pairwise_map]
    have hs : (ordN names).Pairwise (fun x y => (!(ltOf (cfN names)) y x) = true) := List.pairwise_mergeSort (fun a b c h1 h2 => by
      simp only [Bool.not_eq_true'] at *
      exact cfN_swo.ntrans _ _ _ h2 h1) (fun a b => by
      cases h : ltOf (cfN names) b a with
      | false => simp
      | true =>
        have : ltOf (cfN names) a b = false := by rw [cfN_lt] at *; exact ltB_asymm h
        simp [this]) _
    refine (hs.and ordN_nodup).imp ?_
    rintro x y ⟨h1, h2⟩
    cases h3 : ltB (raw names[x]) (raw names[y]) with
    | true => rfl
    | false =>
      exact absurd (cfN_total hd x y (by rw [cfN_lt]; exact h3) (by simpa using h1)) h2
  · exact ((ordN_perm.map _).trans (by rw [hz])).trans (sortP_perm _).symm
end
end Go.Proofs.YthjcolehccbihaaGreatDoor
namespace Go.Proofs.YthjcolehccbihaaGreatDoor
open Go.RowKit Go.Shelf Go.Sort
/-- The places below n. -/
def idxs (n : Nat) : List Value := (List.range n).map fun j : Nat => Value.int .i64 (j : Int)
theorem idxs_succ (n : Nat) : idxs (n + 1) = idxs n ++ [.int .i64 (n : Int)] := by simp [idxs, List.range_succ]
def encF {n : Nat} (x : Fin n) : Value := .int .i64 (x.val : Int)
theorem sortW_grown {n : Nat} [Inhabited (Fin n)] {W : World} {g m : Nat} {dk : Array (Fin n)} {os : Array Obj} : W.grownBy (sortWorld encF W g 0 m dk os) (some g) := by
  refine ⟨rfl, rfl, rfl, by unfold sortWorld; simp, fun k hk hne => ?_⟩
  unfold sortWorld
  rw [heap_grow_old _ _ (by simpa using hk)]
  have : g ≠ k := fun e => hne (by rw [e])
  simp [putRow, mapBlock, Sort.ahead, Array.getElem?_modify, this]
section
variable {W : World}
set_option maxHeartbeats 2000000 in
theorem s_sortIdx {base xb : Nat} {u : Value} {names : List ByteArray} {nv : Value} (hrow : W.ownsRow base 3 1 u names.length (idxs names.length)) (hx : W.cell? ⟨xb, 3, none⟩ = some nv) (hxb : xb < base) (hrd : RdAt textKind W nv names)
    (hnb : ∀ g, nv.ownBlock = some g → names ≠ [] → g < base) (hn : names.length ≤ 1000000) (hd : (names.map raw).Nodup) :
    Calls Tryz.prog 93 #[u, .func (.func 94) #[] #[.pointer (some ⟨xb, 0, none⟩)]] W fun e W' => e = .returned (.tuple #[]) ∧ W'.ownsRow base 3 1 u names.length ((ordN names).map encF) ∧ W.grownBy W' u.ownBlock := by
  by_cases hne0 : names = []
  · subst hne0
    obtain ⟨a, c, rfl⟩ : ∃ a c, u = .slice a 0 c := by
      rcases hrow.2 with ⟨rfl, hz⟩ | ⟨g, cap, cur, rfl, _⟩
      · exact ⟨_, _, rfl⟩
      · exact ⟨_, _, rfl⟩
    refine (Tryz.slices_SortFunc_none (α := Nat) a c _ W).mono ?_
    rintro e W' ⟨rfl, rfl⟩
    exact ⟨rfl, by simpa [ordN, idxs] using hrow, ⟨rfl, rfl, rfl, Nat.le_refl _, fun _ _ _ => rfl⟩⟩
  rcases hrow.2 with ⟨rfl, hz⟩ | ⟨g, cap, cur, rfl, hbase, hg, r1, r2, r3, r4⟩
  · exact absurd (List.eq_nil_of_length_eq_zero hz) hne0
  · have hpos : 0 < names.length := List.length_pos_iff.2 hne0
    haveI : Inhabited (Fin names.length) := ⟨⟨0, hpos⟩⟩
    have hne : names ≠ [] := by rintro rfl; cases hpos
    have hlw := lt_of_block hg
    have eg := enters_of Tryz.func94 (P := Tryz.prog) (by kernel_rfl) rfl
    have hH : Holds (encF (n := names.length)) W g 0 (List.finRange names.length).toArray := by
      intro j hj
      have hj' : j < names.length := by simpa using hj
      refine ⟨?_, by simp [World.frozen?, hg]⟩
      have h1 : cur.toList[j]? = (idxs names.length)[j]? := by
        rw [← r4, List.getElem?_take_of_lt (by omega)]
      have h2 : (idxs names.length)[j]? = some (.int .i64 (j : Int)) := by simp [idxs, hj']
      rw [h2] at h1
      have : W.cell? ⟨g, 0 + j, none⟩ = some (.int .i64 (j : Int)) := by
        have := blk_cell (w := W) hg (0 + j)
        rw [this]
        simpa using h1
      rw [this, getElem!_pos _ j (by simpa using hj')]
      simp [encF]
    have hcmp : CmpLays1 Tryz.prog 94 #[.pointer (some ⟨xb, 0, none⟩)] (encF (n := names.length)) (cfN names) g 0 names.length W := by
      intro m os dk _ x y
      have hgr : W.grownBy (sortWorld encF W g 0 m dk os) (some g) := sortW_grown
      have hk : Keeps (fun k => k = g) W (sortWorld encF W g 0 m dk os) := ⟨hgr.os, hgr.tape, hgr.output, hgr.size, fun k hk hn => hgr.block k hk (fun e => hn (Option.some.inj e))⟩
      refine (j_cmp (W := sortWorld encF W g 0 m dk os) (xb := xb) (v := nv) (names := names) ?_ (hrd.keeps' hk (fun g' h1 h2 e => by have := hnb g' h1 h2; omega)) hn (i := x.val) (k := y.val) (x := names[x]) (y := names[y]) (by simp) (by simp)).mono ?_
      · exact (World.cell?_of_block (a := ⟨xb, 3, none⟩) (hk.block xb (World.block_lt_of_cell? W ⟨xb, 3, none⟩ hx) (fun e => by have e : xb = g := e; omega))).trans hx
      · rintro e w' ⟨rfl, q, rfl⟩
        exact ⟨rfl, q, #[], by rw [grow_empty]⟩
    have hs := Tryz.slices_SortFunc_total (encF (n := names.length)) (fun x => rfl) (cfN names) cfN_swo 94 #[.pointer (some ⟨xb, 0, none⟩)] g 0 cap (List.finRange names.length).toArray W eg (by simpa using hcmp) hH hlw (by simp; omega) (fun x y => cfN_total hd x y)
    simp only [List.size_toArray, List.length_finRange] at hs
    refine hs.mono ?_
    rintro e W' ⟨rfl, m, os, rfl⟩
    refine ⟨rfl, ?_, sortW_grown⟩
    have hol : (ordN names).length = names.length := by simp [ordN]
    have hheap : (sortWorld encF W g 0 m (ordN names).toArray os).heap[g]? = some (.cells (putCells encF 0 (ordN names).toArray cur) 3 (0, 0)) := by
      unfold sortWorld
      rw [heap_grow_old _ _ (by simpa using hlw)]
      simp [putRow, mapBlock, Sort.ahead, Array.getElem?_modify, hg, onCells]
    refine ⟨by simp [hol], .inr ⟨g, cap, _, rfl, hbase, hheap, r1, r2, by simp [putCells, r3], ?_⟩⟩
    apply List.ext_getElem?
    intro j
    by_cases hj : j < names.length
    · rw [List.getElem?_take_of_lt (by omega), Array.getElem?_toList]
      simp [putCells, hol, hj, show j < cur.size by omega]
    · rw [List.getElem?_take_eq_none (by omega), List.getElem?_eq_none (by simp [hol]; omega)]
end
end Go.Proofs.YthjcolehccbihaaGreatDoor
