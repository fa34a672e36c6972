/- The document's compare (exref7.Same), plain: it says what json.Same says. -/
import Derived.Test.YthjcolehccbihaaGreatDoorz31
import Derived.Test.YthjcolehccbihaaGreatDoorz48
set_option linter.unusedSimpArgs false
set_option linter.unusedVariables false
namespace Go.Proofs.YthjcolehccbihaaGreatDoor
theorem grp_append {α : Type} (L M : List (ByteArray × α)) (k : ByteArray) : grp (L ++ M) k = grp L k ++ grp M k := by
  unfold grp
  rw [List.filter_append, List.map_append]
theorem grp_step {α : Type} (x : ByteArray × α) (L : List (ByteArray × α)) (k : ByteArray) : grp (x :: L) k = if x.1 = k then x.2 :: grp L k else grp L k := by
  unfold grp
  rw [List.filter_cons]
  by_cases h : x.1 = k <;> simp [h]
/-- How often the name of the i-th stands ahead of it. -/
def rank {α : Type} (L : List (ByteArray × α)) (i : Nat) (k : ByteArray) : Nat := (grp (L.take i) k).length
theorem rank_zero {α : Type} (L : List (ByteArray × α)) (k : ByteArray) : rank L 0 k = 0 := by simp [rank, grp]
theorem take_succ2 {α : Type} {L : List α} {i : Nat} {x : α} (h : L[i]? = some x) : L.take (i + 1) = L.take i ++ [x] := by
  rw [List.take_add_one, h]; rfl
theorem rank_succ {α : Type} {L : List (ByteArray × α)} {i : Nat} {x : ByteArray × α} (h : L[i]? = some x) (k : ByteArray) : rank L (i + 1) k = rank L i k + if x.1 = k then 1 else 0 := by
  unfold rank
  rw [take_succ2 h, grp_append, List.length_append, grp_step]
  split <;> simp [grp]
theorem split_at {α : Type} {L : List α} {i : Nat} {x : α} (h : L[i]? = some x) : L = L.take i ++ x :: L.drop (i + 1) := by
  obtain ⟨hi, e⟩ := List.getElem?_eq_some_iff.1 h
  rw [← e, ← List.drop_eq_getElem_cons hi, List.take_append_drop]
/-- In its group it stands at its rank. -/
theorem rank_at {α : Type} {L : List (ByteArray × α)} {i : Nat} {x : ByteArray × α} (h : L[i]? = some x) : (grp L x.1)[rank L i x.1]? = some x.2 := by
  have e := split_at h
  have e2 : grp L x.1 = grp (L.take i) x.1 ++ x.2 :: grp (L.drop (i + 1)) x.1 := by
    conv => lhs; rw [e]
    rw [grp_append, grp_step, if_pos rfl]
  rw [e2]
  unfold rank
  simp
/-- Who stands at a place of a group stands somewhere. -/
theorem at_rank {α : Type} : ∀ (L : List (ByteArray × α)) (k : ByteArray) (m : Nat) (y : α), (grp L k)[m]? = some y → ∃ i, L[i]? = some (k, y) ∧ rank L i k = m
  | [], k, m, y, h => by simp [grp] at h
  | x :: L, k, m, y, h => by
    rw [grp_step] at h
    by_cases hx : x.1 = k
    · rw [if_pos hx] at h
      cases m with
      | zero =>
        simp only [List.getElem?_cons_zero, Option.some.injEq] at h
        exact ⟨0, by simp [← hx, ← h], rank_zero _ _⟩
      | succ m =>
        simp only [List.getElem?_cons_succ] at h
        obtain ⟨i, hi, hr⟩ := at_rank L k m y h
        refine ⟨i + 1, by simpa using hi, ?_⟩
        unfold rank at hr ⊢
        rw [List.take_succ_cons, grp_step, if_pos hx, List.length_cons, hr]
    · rw [if_neg hx] at h
      obtain ⟨i, hi, hr⟩ := at_rank L k m y h
      refine ⟨i + 1, by simpa using hi, ?_⟩
      unfold rank at hr ⊢
      rw [List.take_succ_cons, grp_step, if_neg hx, hr]
theorem rank_full {α : Type} (L : List (ByteArray × α)) (k : ByteArray) : rank L L.length k = (grp L k).length := by unfold rank; rw [List.take_length]
theorem count_all {A : Type} [BEq A] [LawfulBEq A] : ∀ (a b : List A), (∀ x, a.count x ≤ b.count x) → a.length = b.length → ∀ x, a.count x = b.count x
  | [], b, _, hl, x => by
    have : b = [] := List.length_eq_zero_iff.1 hl.symm
    rw [this]
  | y :: a, b, h, hl, x => by
    have hy := h y
    have hm : y ∈ b := List.count_pos_iff.1 (by rw [List.count_cons_self] at hy; omega)
    have hc : ∀ z, a.count z ≤ (b.erase y).count z := fun z => by
      have := h z
      rw [List.count_cons] at this
      rw [List.count_erase]
      split <;> rename_i hz <;> simp_all <;> omega
    have ih := count_all a (b.erase y) hc (by rw [List.length_erase_of_mem hm]; simp at hl; omega) x
    rw [List.count_cons, ih, List.count_erase]
    have hx := h x
    by_cases hz : y = x
    · subst hz
      simp
      have := List.count_pos_iff.2 hm
      omega
    · simp [hz]
theorem raw_str2 (l : List UInt8) : raw (str l) = l := str_toList l
theorem grp_count {α : Type} (L : List (ByteArray × α)) (k : ByteArray) : (grp L k).length = (L.map fun x => raw x.1).count (raw k) := by
  induction L with
  | nil => rfl
  | cons x L ih =>
    rw [grp_step, List.map_cons, List.count_cons]
    by_cases h : x.1 = k
    · simp [h, ih]
    · have h2 : raw x.1 ≠ raw k := fun e => h (by rw [← str_of x.1, ← str_of k]; exact congrArg str e)
      simp [h, h2, ih]
theorem grp_lens {α β : Type} {L : List (ByteArray × α)} {M : List (ByteArray × β)} (hl : L.length = M.length) (h : ∀ k, (grp L k).length ≤ (grp M k).length) (k : ByteArray) : (grp L k).length = (grp M k).length := by
  rw [grp_count, grp_count]
  refine count_all (L.map fun x => raw x.1) (M.map fun x => raw x.1) (fun x => ?_) (by simpa using hl) (raw k)
  have := h (str x)
  rw [grp_count, grp_count, raw_str2] at this
  exact this
/-- One member of the first: the second has one of its name, so far behind in the row of this name, that is the same. -/
def MemberIn (ps qs : List (ByteArray × JV)) (i : Nat) : Prop := ∀ x, ps[i]? = some x → ∃ y, (grp qs x.1)[rank ps i x.1]? = some y ∧ sameJ x.2 y = true
theorem sameObj_rank {ps qs : List (ByteArray × JV)} (hl : ps.length = qs.length) : sameObj (ps.map fun x => (x.1, sameJ x.2)) qs = true ↔ ∀ i < ps.length, MemberIn ps qs i := by
  unfold sameObj
  rw [List.all_eq_true]
  constructor
  · intro h i hi x hx
    have h1 := h (x.1, sameJ x.2) (List.mem_map.2 ⟨x, List.mem_of_getElem? hx, rfl⟩)
    rw [grp_map, eqL_iff] at h1
    have hr := rank_at hx
    obtain ⟨hk, _⟩ := List.getElem?_eq_some_iff.1 hr
    obtain ⟨y, hy⟩ : ∃ y, (grp qs x.1)[rank ps i x.1]? = some y := ⟨_, List.getElem?_eq_getElem (by rw [← h1.1]; exact hk)⟩
    exact ⟨y, hy, h1.2 _ _ _ hr hy⟩
  · intro h
    have hle : ∀ k, (grp ps k).length ≤ (grp qs k).length := by
      intro k
      refine Nat.le_of_not_lt fun hlt => ?_
      obtain ⟨y, hy⟩ : ∃ y, (grp ps k)[(grp qs k).length]? = some y := ⟨_, List.getElem?_eq_getElem hlt⟩
      obtain ⟨i, hi, hr⟩ := at_rank ps k _ y hy
      obtain ⟨z, hz, -⟩ := h i (List.getElem?_eq_some_iff.1 hi).1 _ hi
      rw [show ((k, y) : ByteArray × JV).1 = k from rfl, hr] at hz
      simp at hz
    have heq := grp_lens hl hle
    intro x hx
    obtain ⟨x', hx', rfl⟩ := List.mem_map.1 hx
    rw [grp_map, eqL_iff]
    refine ⟨heq _, fun m a b ha hb => ?_⟩
    obtain ⟨i, hi, hr⟩ := at_rank ps _ m a ha
    obtain ⟨z, hz, hs⟩ := h i (List.getElem?_eq_some_iff.1 hi).1 _ hi
    simp only at hz hs
    rw [hr, hb] at hz
    cases hz
    exact hs
end Go.Proofs.YthjcolehccbihaaGreatDoor
set_option linter.unusedSectionVars false
set_option linter.unusedSimpArgs false
set_option linter.unusedVariables false
namespace Go.Proofs.YthjcolehccbihaaGreatDoor
open Go.RowKit Go.Shelf
/-- The contract of the document's Same. -/
def KSameOk (v : JV) : Prop := ∀ (b : JV) (q r : RawV) (w : World) (A B : Nat → Prop), v.Fit → JAt w A v q → JAt w B b r →
  Calls Tryz.prog 30 #[.agg #[.int .i64 q.k, .string q.t, .slice q.la q.ll q.lc, .slice q.na q.nl q.nc], .agg #[.int .i64 r.k, .string r.t, .slice r.la r.ll r.lc, .slice r.na r.nl r.nc]] w fun e w' => e = .returned (.bool (sameJ v b)) ∧ Below w.heap.size w w'
theorem kk_boxes (w : World) (q r : RawV) : ∃ w1, (w.alloc (.cells #[.int .i64 q.k, .string q.t, .slice q.la q.ll q.lc, .slice q.na q.nl q.nc] 40)).alloc (.cells #[.int .i64 r.k, .string r.t, .slice r.la r.ll r.lc, .slice r.na r.nl r.nc] 40) = w1 ∧ KBox w1 w.heap.size q ∧ KBox w1 (w.heap.size + 1) r ∧ Below w.heap.size w w1 ∧ w1.heap.size = w.heap.size + 2 := by
  refine ⟨_, rfl, ?_⟩
  have h1 : Below w.heap.size w (w.alloc (.cells #[.int .i64 q.k, .string q.t, .slice q.la q.ll q.lc, .slice q.na q.nl q.nc] 40)) := (Below.refl _ _).alloc (Nat.le_refl _) _
  have b1 : KBox (w.alloc (.cells #[.int .i64 q.k, .string q.t, .slice q.la q.ll q.lc, .slice q.na q.nl q.nc] 40)) w.heap.size q := blk_new _ _
  have hz : (w.alloc (.cells #[.int .i64 q.k, .string q.t, .slice q.la q.ll q.lc, .slice q.na q.nl q.nc] 40)).heap.size = w.heap.size + 1 := by simp
  generalize w.alloc (.cells #[.int .i64 q.k, .string q.t, .slice q.la q.ll q.lc, .slice q.na q.nl q.nc] 40) = W at h1 b1 hz ⊢
  have b2 := blk_new W (.cells #[.int .i64 r.k, .string r.t, .slice r.la r.ll r.lc, .slice r.na r.nl r.nc] 40)
  rw [hz] at b2
  have h2 : Below (w.heap.size + 1) W (W.alloc (.cells #[.int .i64 r.k, .string r.t, .slice r.la r.ll r.lc, .slice r.na r.nl r.nc] 40)) := by
    have := (Below.refl W.heap.size W).alloc (Nat.le_refl _) (.cells #[.int .i64 r.k, .string r.t, .slice r.la r.ll r.lc, .slice r.na r.nl r.nc] 40)
    rw [hz] at this
    exact this
  exact ⟨(h2.block _ (by omega)).trans b1, b2, h1.trans (h2.mono (by omega)), by simp [hz]⟩
section
variable {w : World}
set_option maxRecDepth 100000 in
set_option maxHeartbeats 8000000 in
theorem k_sameA (k : Int) (t : ByteArray) (l : List JV) (ns : List ByteArray) (hk6 : k ≠ 6) (ih : ∀ v ∈ l, KSameOk v) : KSameOk (.mk k t l ns) := by
  intro b q r w A B hf hq hr
  obtain ⟨k2, t2, l2, ns2⟩ := b
  simp only [JAt] at hq hr
  obtain ⟨hqk, hqt, -, rs1, ⟨hrs1, -⟩, hl1⟩ := hq
  obtain ⟨hrk, hrt, -, rs2, ⟨hrs2, -⟩, hl2⟩ := hr
  simp only [JV.Fit] at hf
  obtain ⟨w1, hw1, B1, B2, hbb, hzz⟩ := kk_boxes w q r
  have e1 : q.ll = l.length := by
    obtain ⟨_, _, e, _⟩ := hrs1
    injection e with _ e _
    rw [e, hl1.length]
  have f1 : r.ll = l2.length := by
    obtain ⟨_, _, e, _⟩ := hrs2
    injection e with _ e _
    rw [e, hl2.length]
  obtain ⟨qk, qt, la, ll, lc, na, nl, nc⟩ := q
  obtain ⟨rk, rt, la2, ll2, lc2, na2, nl2, nc2⟩ := r
  simp only at hqk hqt e1 hrk hrt f1
  subst hqk hqt e1 hrk hrt f1
  simp only [RawV.lv] at hrs1 hrs2
  obtain ⟨⟨b0, b1, b2, b3⟩, -⟩ := kbox_cells B1
  obtain ⟨⟨c0, c1, c2, c3⟩, -⟩ := kbox_cells B2
  simp only at b0 b1 b2 b3 c0 c1 c2 c3 hw1
  have HW1 := Lib.hid hw1
  have HBB := Lib.hid (And.intro hbb hzz)
  have HBX := Lib.hid (And.intro B1 B2)
  have HRD := Lib.hid (And.intro hrs1 hl1)
  have HRE := Lib.hid (And.intro hrs2 hl2)
  have HF := Lib.hid hf
  have HIH := Lib.hid ih
  have hlm : (l.length : Int) ≤ 1000000 := by have := hf.2.2.2.1; omega
  have hcells : ∀ W, Below w1.heap.size w1 W → W.cell? ⟨w.heap.size, 2, none⟩ = some (.slice la l.length lc) ∧ W.cell? ⟨w.heap.size + 1, 2, none⟩ = some (.slice la2 l2.length lc2) := fun W h =>
    ⟨(kbox_cells (kbox_below HBX.out.1 h)).1.2.2.1, (kbox_cells (kbox_below HBX.out.2 h)).1.2.2.1⟩
  have HC := Lib.hid hcells
  obtain ⟨RES, hres⟩ : ∃ z, z = sameJ (.mk qk qt l ns) (.mk rk rt l2 ns2) := ⟨_, rfl⟩
  rw [← hres]
  have HRES : Hid (RES = if qk ≠ rk then false else if qk = 3 ∨ qk = 4 then decide (qt = rt) else if qk = 5 then eqL (l.map sameJ) l2 else true) := Lib.hid (by
    rw [hres, sameJ_mk]
    simp only [JV.kind, JV.text, JV.list]
    rw [if_neg (c := qk = 6) hk6]
    rfl)
  have HK6 := Lib.hid hk6
  clear hw1 hres hf hrs1 hrs2 hl1 hl2 hbb hzz B1 B2 ih hk6 hcells
  by_cases hkk : qk = rk
  · subst hkk
    have n0 : (qk != qk) = false := by simp
    by_cases h34 : qk = 3 ∨ qk = 4
    · have hR : Hid (RES = decide (qt = rt)) := Lib.hid (by rw [HRES.out, if_neg (by simp), if_pos h34])
      clear HRES HK6
      by_cases ht : qt = rt
      · subst ht
        rcases h34 with rfl | rfl
        all_goals
          go_enter Tryz.func30, Tryz.ntmps30
          go_upto_region 1 with (fail)
          rw [HW1.out]
          go_wp2_with (fail)
          go_ret
          rw [hR.out]
          exact ⟨by simp, HBB.out.1⟩
      · have hts : (qt.toList == rt.toList) = false := beq_eq_false_iff_ne.2 (fun e => ht (str_inj e))
        have hR2 : Hid (RES = false) := Lib.hid (by rw [hR.out]; simp [ht])
        clear hR ht
        rcases h34 with rfl | rfl
        all_goals
          go_enter Tryz.func30, Tryz.ntmps30
          go_upto_region 1 with (fail)
          rw [HW1.out]
          go_wp2_with (fail)
          go_ret
          rw [hR2.out]
          exact ⟨rfl, HBB.out.1⟩
    · have n3 : ¬ qk = 3 := fun e => h34 (.inl e)
      have n4 : ¬ qk = 4 := fun e => h34 (.inr e)
      by_cases h5 : qk = 5
      · have hR : Hid (RES = eqL (l.map sameJ) l2) := Lib.hid (by rw [HRES.out, if_neg (by simp), if_neg h34, if_pos h5])
        subst h5
        clear HRES HK6 n3 n4 h34 n0
        by_cases hll : l.length = l2.length
        · have HLL := Lib.hid hll
          have tl : ((l.length : Int) != (l2.length : Int)) = false := by simp; omega
          clear hll
          go_enter Tryz.func30, Tryz.ntmps30
          go_upto_region 1 with (fail)
          rw [HW1.out]
          go_wp2_with (fail)
          clear b0 b1 b2 b3 c0 c1 c2 c3
          go_loopw [5] (fun iv wr => ∃ i : Nat, i ≤ l.length ∧ iv = .int .i64 (i : Int) ∧ Hid (∀ (m : Nat) (x y : JV), m < i → l[m]? = some x → l2[m]? = some y → sameJ x y = true) ∧ Hid (Below w1.heap.size w1 wr)) (fun iv _ => l.length - (intOf iv).toNat)
          case atStart => exact ⟨0, Nat.zero_le _, rfl, Lib.hid (fun m _ _ h => by omega), Lib.hid (Below.refl _ _)⟩
          case round =>
            obtain ⟨i, hi, rfl, HA, HBW⟩ := hrel
            obtain ⟨b2, c2⟩ := HC.out _ HBW.out
            by_cases hlt : i < l.length
            · have q1 : (0 : Int) ≤ (i : Int) := by omega
              have q2 : (i : Int) < (l.length : Int) := by omega
              have q3 : (i : Int) < (l2.length : Int) := by have := HLL.out; omega
              obtain ⟨x, hx⟩ : ∃ x, l[i]? = some x := ⟨_, List.getElem?_eq_getElem hlt⟩
              obtain ⟨y, hy⟩ : ∃ y, l2[i]? = some y := ⟨_, List.getElem?_eq_getElem (by have := HLL.out; omega)⟩
              have HBWW : Hid (Below w.heap.size w wr) := Lib.hid (HBB.out.1.trans (HBW.out.mono HBB.out.1.size))
              obtain ⟨u, hu, hju⟩ := HRD.out.2.get hx
              obtain ⟨v, hv, hjv⟩ := HRE.out.2.get hy
              obtain ⟨lg, loff, e1, d0, d1, d2, d3⟩ := raw_cells (HRD.out.1.below HBWW.out) hu
              obtain ⟨mg, moff, e2, g0, g1, g2, g3⟩ := raw_cells (HRE.out.1.below HBWW.out) hv
              subst e1 e2
              have HS := Lib.hid (HIH.out x (List.mem_of_getElem? hx) y u v wr.drew A B (FitAll.mem HF.out.2.2.2.2 x (List.mem_of_getElem? hx)) (hju.below HBWW.out.drew) (hjv.below HBWW.out.drew))
              have HX := Lib.hid (And.intro hx hy)
              have HLT := Lib.hid hlt
              obtain ⟨bb, hbb⟩ : ∃ b, b = sameJ x y := ⟨_, rfl⟩
              rw [← hbb] at HS
              have HBS := Lib.hid hbb
              clear hx hy hu hv hju hjv hlt hi hbb
              go_wp2_with (fail)
              refine wp_region_still_tail 10 (by kernel_rfl) (by kernel_rfl) ?_
              simp only [List.take_succ_cons, List.take_zero, List.drop_succ_cons, List.drop_zero]
              repeat still_step
              refine wpStill_nil ?_
              go_wp2_with (fail)
              refine HS.out.mono ?_
              rintro e w4 ⟨rfl, hb4⟩
              have HB4 : Hid (Below w1.heap.size w1 w4) := Lib.hid (HBW.out.drew.trans (hb4.mono HBW.out.drew.size))
              clear hb4 b2 c2 d0 d1 d2 d3 g0 g1 g2 g3
              cases bb with
              | true =>
                have HA2 : Hid (∀ (m : Nat) (x y : JV), m < i + 1 → l[m]? = some x → l2[m]? = some y → sameJ x y = true) := Lib.hid fun m x' y' hm hx' hy' => by
                  rcases Nat.lt_or_eq_of_le (Nat.le_of_lt_succ hm) with h | h
                  · exact HA.out m x' y' h hx' hy'
                  · subst h
                    have e1 := HX.out.1
                    have e2 := HX.out.2
                    rw [hx'] at e1
                    rw [hy'] at e2
                    cases e1; cases e2
                    exact HBS.out.symm
                go_wp2_with (fail)
                go_roundw
                case rel => exact ⟨i + 1, HLT.out, by go_num, HA2, HB4⟩
                case measure => have := HLT.out; simp [intOf]; omega
              | false =>
                have HR2 : Hid (RES = false) := Lib.hid (by
                  rw [hR.out]
                  cases hc : eqL (l.map sameJ) l2 with
                  | false => rfl
                  | true =>
                    have := ((eqL_iff l l2).1 hc).2 i x y HX.out.1 HX.out.2
                    rw [← HBS.out] at this
                    cases this)
                have HB5 : Hid (Below w.heap.size w w4) := Lib.hid (HBB.out.1.trans (HB4.out.mono HBB.out.1.size))
                go_wp2_with (fail)
                go_ret
                rw [HR2.out]
                exact ⟨rfl, HB5.out⟩
            · have q2 : ¬ (i : Int) < (l.length : Int) := by omega
              have HB4 : Hid (Below w.heap.size w wr) := Lib.hid (HBB.out.1.trans (HBW.out.mono HBB.out.1.size))
              have HR2 : Hid (RES = true) := Lib.hid (by
                rw [hR.out, eqL_iff]
                refine ⟨HLL.out, fun m x y hx hy => HA.out m x y ?_ hx hy⟩
                have := (List.getElem?_eq_some_iff.1 hx).1
                omega)
              clear hlt
              go_wp2_with (fail)
              go_ret
              rw [HR2.out]
              exact ⟨rfl, HB4.out⟩
        · have tl : ((l.length : Int) != (l2.length : Int)) = true := by simp; omega
          have HR2 : Hid (RES = false) := Lib.hid (by
            rw [hR.out]
            cases hc : eqL (l.map sameJ) l2 with
            | false => rfl
            | true => exact absurd ((eqL_iff l l2).1 hc).1 hll)
          clear hll
          go_enter Tryz.func30, Tryz.ntmps30
          go_upto_region 1 with (fail)
          rw [HW1.out]
          go_wp2_with (fail)
          go_ret
          rw [HR2.out]
          exact ⟨rfl, HBB.out.1⟩
      · have hR : Hid (RES = true) := Lib.hid (by rw [HRES.out, if_neg (by simp), if_neg h34, if_neg h5])
        have n6 : ¬ qk = 6 := HK6.out
        have e3 : (qk == 3) = false := by simp [n3]
        have e4 : (qk == 4) = false := by simp [n4]
        have e5 : (qk == 5) = false := by simp [h5]
        have e6 : (qk == 6) = false := by simp [n6]
        clear HRES HK6 n3 n4 h34 n0 h5 n6
        go_enter Tryz.func30, Tryz.ntmps30
        go_upto_region 1 with (fail)
        rw [HW1.out]
        go_wp2_with (fail)
        go_ret
        rw [hR.out]
        exact ⟨rfl, HBB.out.1⟩
  · have n0 : (qk != rk) = true := by simp [hkk]
    have hR : Hid (RES = false) := Lib.hid (by rw [HRES.out, if_pos hkk])
    clear HRES HK6 hkk
    go_enter Tryz.func30, Tryz.ntmps30
    go_upto_region 1 with (fail)
    rw [HW1.out]
    go_wp2_with (fail)
    go_ret
    rw [hR.out]
    exact ⟨rfl, HBB.out.1⟩
end
end Go.Proofs.YthjcolehccbihaaGreatDoor
