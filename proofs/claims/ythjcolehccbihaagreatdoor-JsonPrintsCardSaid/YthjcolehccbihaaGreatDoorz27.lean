/- The walk of a printer's lay. -/
import Derived.Test.YthjcolehccbihaaGreatDoorz26
import Derived.Test.YthjcolehccbihaaGreatDoorz25
namespace Go.Proofs.YthjcolehccbihaaGreatDoor
open Go.RowKit Go.Shelf
theorem raw_str (l : List UInt8) : raw (str l) = l := str_toList l
theorem str_size (l : List UInt8) : (str l).size = l.length := by
  show (str l).data.size = l.length
  rw [← Array.length_toList, str_toList]
/-- The contract of lay, at a value that check lets through. -/
def LayOk (v : JV) : Prop := ∀ (d : Nat) (q : RawV) (w : World) (B b : Nat) (p : List UInt8), chk d v = 0 → v.Fit → JAt w (fun g => g < B) v q → Prn B b p w → B ≤ w.heap.size → p.length + (lay v).length ≤ 1000000000 →
  Calls Tryz.prog 34 #[.pointer (some ⟨b, 0, none⟩), .agg #[.int .i64 q.k, .string q.t, .slice q.la q.ll q.lc, .slice q.na q.nl q.nc]] w fun e w' => e = .returned (.tuple #[]) ∧ Prn B b (p ++ lay v) w' ∧ PrK B b w w'
section
variable {w : World}
set_option maxRecDepth 100000 in
set_option maxHeartbeats 8000000 in
theorem j_layLeaf (k : Int) (t : ByteArray) (l : List JV) (ns : List ByteArray) (hk : k < 5) : LayOk (.mk k t l ns) := by
  intro d q w B b p hc hf hj hp hB hlen
  simp only [JAt] at hj
  obtain ⟨hqk, hqt, -, -⟩ := hj
  simp only [JV.Fit] at hf
  obtain ⟨qk, qt, la, ll, lc, na, nl, nc⟩ := q
  simp only at hqk hqt
  subst hqk hqt
  have hk0 : ¬ (qk < 0 ∨ 6 < qk) := by
    intro h
    have : chk d (.mk qk qt l ns) = 7 := chk_own _ _ _ _ _ _ (by unfold chkOwn; rw [if_pos h]) (by decide)
    rw [this] at hc
    cases hc
  obtain ⟨w1, hw1, HBX⟩ := jbox_new w ⟨qk, qt, la, ll, lc, na, nl, nc⟩
  have HW1 := Lib.hid hw1
  have HF := Lib.hid hf.1
  have HP1 : Hid (Prn B b p w1 ∧ B ≤ w1.heap.size ∧ PrK B b w w1) := Lib.hid ⟨hp.below HBX.out.1, Nat.le_trans hB HBX.out.1.size, PrK.of_below HBX.out.1 hB⟩
  have HLEN := Lib.hid hlen
  obtain ⟨⟨b0, b1, b2, b3⟩, -⟩ := jbox_cells HBX.out.2
  clear hc hf hp hB hlen hw1
  obtain rfl | rfl | rfl | rfl | rfl : qk = 0 ∨ qk = 1 ∨ qk = 2 ∨ qk = 3 ∨ qk = 4 := by omega
  · have hl : lay (.mk 0 qt l ns) = wNull := by unfold lay; simp
    have HW := Lib.hid (j_words w1.drew)
    have hlen := HLEN.out
    rw [hl] at hlen
    have HL2 := Lib.hid hlen
    rw [hl]
    clear hl hlen
    go_enter Tryz.func34, Tryz.ntmps34
    go_upto_region 1 with (fail)
    rw [show w.alloc (.cells #[.int .i64 0, .string qt, .slice la ll lc, .slice na nl nc] 25) = w1 from HW1.out]
    go_upto_region 2 with (fail)
    go_region_law (first
      | (go_simp; go_at_call 68; refine HW.out.mono ?_; rintro e w3 ⟨rfl, hw3⟩
         have hb3 : Below w1.drew.heap.size w1.drew w3 := by rw [← hw3]; exact (Below.refl _ _).alloc (Nat.le_refl _) _
         have c3 : w3.cell? ⟨w.heap.size, 0, none⟩ = some (.int .i64 0) := (jbox_cells (jbox_below (jbox_below HBX.out.2 (Below.refl _ _).drew) hb3)).1.1
         have x3 : w3.cell? ⟨w1.heap.size, 0, none⟩ = some (.string ⟨#[110, 117, 108, 108]⟩) := by rw [← hw3]; exact blk_cell (blk_new w1.drew _) 0
         have HT := Lib.hid (pr_text (W := w3) ⟨#[110, 117, 108, 108]⟩ ((HP1.out.1.below (Below.refl _ _).drew).below hb3) (by have := HL2.out; exact this) (Nat.le_trans HP1.out.2.1 hb3.size))
         have HB3 := Lib.hid hb3
         clear hb3 hw3)
      | (go_simp; go_at_call 57; refine HT.out.mono ?_; rintro e w4 ⟨rfl, hp4, hk4⟩))
    all_goals
      have HP4 := Lib.hid (And.intro hp4 hk4)
      clear hp4 hk4
      go_wp2_with (fail)
      go_end0
      exact ⟨rfl, HP4.out.1, (HP1.out.2.2.trans ⟨(Below.refl _ _).drew, (Lib.OthersKept.refl _ _ _).drew⟩).trans ((PrK.of_below HB3.out (by exact HP1.out.2.1)).trans HP4.out.2)⟩
  · have hl : lay (.mk 1 qt l ns) = wFalse := by unfold lay; simp
    have HW := Lib.hid (j_words w1.drew)
    have hlen := HLEN.out
    rw [hl] at hlen
    have HL2 := Lib.hid hlen
    rw [hl]
    clear hl hlen
    go_enter Tryz.func34, Tryz.ntmps34
    go_upto_region 1 with (fail)
    rw [show w.alloc (.cells #[.int .i64 1, .string qt, .slice la ll lc, .slice na nl nc] 25) = w1 from HW1.out]
    go_upto_region 2 with (fail)
    go_region_law (first
      | (go_simp; go_at_call 68; refine HW.out.mono ?_; rintro e w3 ⟨rfl, hw3⟩
         have hb3 : Below w1.drew.heap.size w1.drew w3 := by rw [← hw3]; exact (Below.refl _ _).alloc (Nat.le_refl _) _
         have c3 : w3.cell? ⟨w.heap.size, 0, none⟩ = some (.int .i64 1) := (jbox_cells (jbox_below (jbox_below HBX.out.2 (Below.refl _ _).drew) hb3)).1.1
         have x3 : w3.cell? ⟨w1.heap.size, 1, none⟩ = some (.string ⟨#[102, 97, 108, 115, 101]⟩) := by rw [← hw3]; exact blk_cell (blk_new w1.drew _) 1
         have HT := Lib.hid (pr_text (W := w3) ⟨#[102, 97, 108, 115, 101]⟩ ((HP1.out.1.below (Below.refl _ _).drew).below hb3) (by have := HL2.out; exact this) (Nat.le_trans HP1.out.2.1 hb3.size))
         have HB3 := Lib.hid hb3
         clear hb3 hw3)
      | (go_simp; go_at_call 57; refine HT.out.mono ?_; rintro e w4 ⟨rfl, hp4, hk4⟩))
    all_goals
      have HP4 := Lib.hid (And.intro hp4 hk4)
      clear hp4 hk4
      go_wp2_with (fail)
      go_end0
      exact ⟨rfl, HP4.out.1, (HP1.out.2.2.trans ⟨(Below.refl _ _).drew, (Lib.OthersKept.refl _ _ _).drew⟩).trans ((PrK.of_below HB3.out (by exact HP1.out.2.1)).trans HP4.out.2)⟩
  · have hl : lay (.mk 2 qt l ns) = wTrue := by unfold lay; simp
    have HW := Lib.hid (j_words w1.drew)
    have hlen := HLEN.out
    rw [hl] at hlen
    have HL2 := Lib.hid hlen
    rw [hl]
    clear hl hlen
    go_enter Tryz.func34, Tryz.ntmps34
    go_upto_region 1 with (fail)
    rw [show w.alloc (.cells #[.int .i64 2, .string qt, .slice la ll lc, .slice na nl nc] 25) = w1 from HW1.out]
    go_upto_region 2 with (fail)
    go_region_law (first
      | (go_simp; go_at_call 68; refine HW.out.mono ?_; rintro e w3 ⟨rfl, hw3⟩
         have hb3 : Below w1.drew.heap.size w1.drew w3 := by rw [← hw3]; exact (Below.refl _ _).alloc (Nat.le_refl _) _
         have c3 : w3.cell? ⟨w.heap.size, 0, none⟩ = some (.int .i64 2) := (jbox_cells (jbox_below (jbox_below HBX.out.2 (Below.refl _ _).drew) hb3)).1.1
         have x3 : w3.cell? ⟨w1.heap.size, 2, none⟩ = some (.string ⟨#[116, 114, 117, 101]⟩) := by rw [← hw3]; exact blk_cell (blk_new w1.drew _) 2
         have HT := Lib.hid (pr_text (W := w3) ⟨#[116, 114, 117, 101]⟩ ((HP1.out.1.below (Below.refl _ _).drew).below hb3) (by have := HL2.out; exact this) (Nat.le_trans HP1.out.2.1 hb3.size))
         have HB3 := Lib.hid hb3
         clear hb3 hw3)
      | (go_simp; go_at_call 57; refine HT.out.mono ?_; rintro e w4 ⟨rfl, hp4, hk4⟩))
    all_goals
      have HP4 := Lib.hid (And.intro hp4 hk4)
      clear hp4 hk4
      go_wp2_with (fail)
      go_end0
      exact ⟨rfl, HP4.out.1, (HP1.out.2.2.trans ⟨(Below.refl _ _).drew, (Lib.OthersKept.refl _ _ _).drew⟩).trans ((PrK.of_below HB3.out (by exact HP1.out.2.1)).trans HP4.out.2)⟩
  · have hl : lay (.mk 3 qt l ns) = raw qt := by unfold lay; simp
    have HT := Lib.hid (pr_text (W := w1.drew) qt (HP1.out.1.below (Below.refl _ _).drew) (by have := HLEN.out; rw [hl] at this; exact this) (by show B ≤ w1.heap.size; exact HP1.out.2.1))
    rw [hl]
    clear hl
    go_enter Tryz.func34, Tryz.ntmps34
    go_upto_region 1 with (fail)
    rw [show w.alloc (.cells #[.int .i64 3, .string qt, .slice la ll lc, .slice na nl nc] 25) = w1 from HW1.out]
    go_upto_region 4 with (fail)
    go_region_law (first
      | (go_simp; go_at_call 57; refine HT.out.mono ?_; rintro e w3 ⟨rfl, hp3, hk3⟩))
    all_goals
      have HP3 := Lib.hid (And.intro hp3 hk3)
      clear hp3 hk3
      go_wp2_with (fail)
      go_end0
      exact ⟨rfl, HP3.out.1, (HP1.out.2.2.trans ⟨(Below.refl _ _).drew, (Lib.OthersKept.refl _ _ _).drew⟩).trans HP3.out.2⟩
  · have hl : lay (.mk 4 qt l ns) = quote (raw qt) := by unfold lay; simp
    have hlen := HLEN.out
    rw [hl] at hlen
    have HL2 := Lib.hid hlen
    rw [hl]
    clear hl hlen
    have HQ := Lib.hid (j_quote (w := w1.drew) qt HF.out)
    go_enter Tryz.func34, Tryz.ntmps34
    go_upto_region 1 with (fail)
    rw [show w.alloc (.cells #[.int .i64 4, .string qt, .slice la ll lc, .slice na nl nc] 25) = w1 from HW1.out]
    go_upto_region 6 with (fail)
    go_region_law (first
      | (go_simp; go_at_call 28; refine HQ.out.mono ?_; rintro e w3 ⟨rfl, hb3⟩
         have HT := Lib.hid (pr_text (W := w3) (str (quote (raw qt))) ((HP1.out.1.below (Below.refl _ _).drew).below hb3) (by have := HL2.out; rw [str_size]; exact this) (Nat.le_trans HP1.out.2.1 hb3.size))
         have HB3 := Lib.hid hb3
         clear hb3)
      | (go_simp; go_at_call 57; refine HT.out.mono ?_; rintro e w4 ⟨rfl, hp4, hk4⟩))
    all_goals
      have HP4 := Lib.hid (And.intro hp4 hk4)
      clear hp4 hk4
      go_wp2_with (fail)
      go_end0
      exact ⟨rfl, by have := HP4.out.1; rw [raw_str] at this; exact this, (HP1.out.2.2.trans ⟨(Below.refl _ _).drew, (Lib.OthersKept.refl _ _ _).drew⟩).trans ((PrK.of_below HB3.out (by exact HP1.out.2.1)).trans HP4.out.2)⟩
end
end Go.Proofs.YthjcolehccbihaaGreatDoor
namespace Go.Proofs.YthjcolehccbihaaGreatDoor
open Go.RowKit Go.Shelf
theorem commas_app : ∀ (xs zs : List (List UInt8)), ∃ r, commas (xs ++ zs) = commas xs ++ r
  | [], zs => ⟨commas zs, rfl⟩
  | [x], [] => ⟨[], by simp⟩
  | [x], z :: zs => ⟨44 :: commas (z :: zs), rfl⟩
  | x :: y :: xs, zs => by
    obtain ⟨r, hr⟩ := commas_app (y :: xs) zs
    refine ⟨r, ?_⟩
    show x ++ 44 :: commas ((y :: xs) ++ zs) = (x ++ 44 :: commas (y :: xs)) ++ r
    rw [hr]; simp
theorem commas_snoc : ∀ (xs : List (List UInt8)) (x : List UInt8), commas (xs ++ [x]) = if xs = [] then x else commas xs ++ 44 :: x
  | [], x => rfl
  | [y], x => rfl
  | y :: z :: xs, x => by
    have := commas_snoc (z :: xs) x
    show y ++ 44 :: commas ((z :: xs) ++ [x]) = _
    rw [this]
    simp [commas]
theorem layAll_eq : ∀ l : List JV, layAll l = l.map lay
  | [] => by simp [layAll]
  | v :: l => by simp [layAll, layAll_eq l]
theorem chkAll_mem : ∀ {l : List JV} {d : Nat}, chkAll d l = 0 → ∀ v ∈ l, chk d v = 0
  | [], _, _, _, h => by cases h
  | x :: l, d, h, v, hv => by
    unfold chkAll at h
    by_cases hx : chk d x = 0
    · rw [if_neg (fun h => h hx)] at h
      rcases List.mem_cons.1 hv with rfl | hv
      · exact hx
      · exact chkAll_mem h v hv
    · rw [if_pos hx] at h
      exact absurd h hx
/-- A value with parts that check lets through. -/
theorem chk_parts {d : Nat} {k : Int} {t : ByteArray} {l : List JV} {ns : List ByteArray} (h : chk d (.mk k t l ns) = 0) (hk : ¬ k < 5) : chkOwn d k t l.length ns = 0 ∧ chkAll (d + 1) l = 0 := by
  unfold chk at h
  by_cases h0 : chkOwn d k t l.length ns = 0
  · rw [if_neg (fun h => h h0), if_neg hk] at h
    exact ⟨h0, h⟩
  · rw [if_pos h0] at h
    exact absurd h h0
section
variable {w : World}
set_option maxRecDepth 100000 in
set_option maxHeartbeats 8000000 in
theorem j_layArr (t : ByteArray) (l : List JV) (ns : List ByteArray) (ih : ∀ v ∈ l, LayOk v) : LayOk (.mk 5 t l ns) := by
  intro d q w B b p hc hf hj hp hB hlen
  have hall := (chk_parts hc (by decide)).2
  have HJ := Lib.hid hj
  simp only [JAt] at hj
  obtain ⟨hqk, hqt, -, rs, ⟨hrs, -⟩, hl⟩ := hj
  simp only [JV.Fit] at hf
  obtain ⟨qk, qt, la, ll, lc, na, nl, nc⟩ := q
  simp only [RawV.lv] at hqk hqt hrs
  subst hqk hqt
  have hll : ll = l.length := by obtain ⟨_, _, e, _⟩ := hrs; injection e with _ e _; rw [e, hl.length]
  subst hll
  clear hrs hl rs
  obtain ⟨w1, hw1, HBX⟩ := jbox_new w ⟨5, qt, la, l.length, lc, na, nl, nc⟩
  have HW1 := Lib.hid hw1
  have HF := Lib.hid (And.intro hf.2.2.2.1 hf.2.2.2.2)
  have HXB := Lib.hid (show w.heap.size ≠ b from by have := hp.lt; omega)
  have HP1 : Hid (Prn B b p w1 ∧ B ≤ w1.heap.size ∧ PrK B b w w1) := Lib.hid ⟨hp.below HBX.out.1, Nat.le_trans hB HBX.out.1.size, PrK.of_below HBX.out.1 hB⟩
  have HBB := Lib.hid hB
  have HALL := Lib.hid hall
  have HIH := Lib.hid ih
  have hlay : lay (.mk 5 qt l ns) = 91 :: (commas (layAll l) ++ [93]) := by unfold lay; simp
  rw [hlay] at hlen
  rw [hlay]
  have HLEN : Hid (p.length + 2 + (commas (layAll l)).length ≤ 1000000000) := Lib.hid (by simp at hlen; omega)
  obtain ⟨⟨b0, b1, b2, b3⟩, -⟩ := jbox_cells HBX.out.2
  clear hc hf hp hB hlen hw1 hall ih hlay
  have HT := Lib.hid (pr_byte 91 HP1.out.1 (by have := HLEN.out; omega) HP1.out.2.1)
  go_enter Tryz.func34, Tryz.ntmps34
  go_upto_region 1 with (fail)
  rw [show w.alloc (.cells #[.int .i64 5, .string qt, .slice la l.length lc, .slice na nl nc] 25) = w1 from HW1.out]
  go_upto_region 8 with (fail)
  go_wp2_with (fail)
  refine HT.out.mono ?_
  rintro e w2 ⟨rfl, hp2, hk2⟩
  have HP2 := Lib.hid (And.intro hp2 hk2)
  clear hp2 hk2 b0 b1 b2 b3
  obtain ⟨⟨b0, b1, b2, b3⟩, -⟩ := jbox_cells (HP2.out.2.blk HBX.out.2 (by decide) HXB.out)
  go_upto_region 10 with (fail)
  clear b0 b1 b2 b3
  go_loopg [43] (l.length + 1) (fun gk s wx => ∃ i : Nat, gk = l.length - i + 1 ∧ i ≤ l.length ∧ s = .int .i64 (i : Int) ∧ Hid (Prn B b (p ++ 91 :: commas (layAll (l.take i))) wx ∧ PrK B b w wx))
  case atStart => exact ⟨0, rfl, Nat.zero_le _, rfl, Lib.hid ⟨by have := HP2.out.1; simpa [layAll, commas] using this, HP1.out.2.2.trans HP2.out.2⟩⟩
  case round =>
    obtain ⟨i, rfl, hi, rfl, HP⟩ := hrel
    by_cases hlt : i < l.length
    · have ht1 : decide (i < l.length) = true := by simpa using hlt
      have ht2 : (i : Int) < (l.length : Int) := by omega
      obtain ⟨v, hv⟩ : ∃ v, l[i]? = some v := ⟨_, List.getElem?_eq_getElem hlt⟩
      have hjw := HJ.out.keeps HP.out.2.keeps (fun g hg h => by omega)
      simp only [JAt, RawV.lv] at hjw
      obtain ⟨-, -, -, rs, ⟨hrs, -⟩, hl⟩ := hjw
      obtain ⟨r, hr, hj⟩ := hl.get hv
      obtain ⟨g, off, rfl, c0, c1, c2, c3⟩ := raw_cells hrs hr
      have hw64 : wrap64 ((i : Int) + 1) = (i : Int) + 1 := by have := HF.out.1; unfold wrap64; omega
      obtain ⟨w5, hw5, HB5⟩ := jbox_new wr r
      have HJ5 := Lib.hid (hj.below HB5.out.1)
      have hpre : layAll (l.take (i + 1)) = layAll (l.take i) ++ [lay v] := by rw [List.take_add_one, hv, layAll_eq, layAll_eq]; simp
      have HL := Lib.hid hlt
      have hfull : ∃ r, commas (layAll l) = commas (layAll (l.take i) ++ [lay v]) ++ r := by
        rw [← hpre, show layAll l = layAll (l.take (i + 1)) ++ layAll (l.drop (i + 1)) from by rw [layAll_eq, layAll_eq, layAll_eq, ← List.map_append, List.take_append_drop]]
        exact commas_app _ _
      have HW5 := Lib.hid hw5
      have HV := Lib.hid hv
      have HPRE := Lib.hid (And.intro hpre hfull)
      clear hrs hl hr hj hv hlt hi hw5 hpre hfull
      obtain ⟨sep, hsep⟩ : ∃ x : List UInt8, x = if i = 0 then [] else commas (layAll (l.take i)) ++ [44] := ⟨_, rfl⟩
      have HSEP := Lib.hid hsep
      have HCAT : Hid (sep ++ lay v = commas (layAll (l.take (i + 1)))) := Lib.hid (by
        rw [HPRE.out.1, commas_snoc, hsep]
        by_cases h0 : i = 0
        · subst h0; simp [layAll]
        · rw [if_neg h0, if_neg (by rw [layAll_eq]; intro e; have h3 := congrArg List.length e; rw [List.length_map, List.length_take, List.length_nil] at h3; have := HL.out; omega)]; simp)
      have HLN : Hid (p.length + 1 + sep.length + (lay v).length + 1 ≤ 1000000000) := Lib.hid (by
        obtain ⟨r', hr'⟩ := HPRE.out.2
        have h1 := HLEN.out
        rw [hr', ← HPRE.out.1, ← HCAT.out] at h1
        simp only [List.length_append] at h1
        omega)
      have HBW : Hid (B ≤ wr.heap.size) := Lib.hid (Nat.le_trans HBB.out HP.out.2.size)
      clear hsep
      go_upto_region 12 with (fail)
      rw [HW5.out]
      clear c0 c1 c2 c3
      go_upto_if 49 with (fail)
      go_cut [] (fun wx => ∃ w6, w6 = wx ∧ Hid (Prn B b (p ++ 91 :: sep) w6 ∧ PrK B b w5 w6))
      case first =>
        have HP5 : Hid (Prn B b (p ++ 91 :: commas (layAll (l.take i))) w5) := Lib.hid (HP.out.1.below HB5.out.1)
        go_wp2_with (fail)
        · have h0 : ¬ i = 0 := by omega
          have HT2 := Lib.hid (pr_byte 44 HP5.out (by have := HLN.out; rw [HSEP.out, if_neg h0] at this; simp at this ⊢; omega) (Nat.le_trans HBW.out HB5.out.1.size))
          refine HT2.out.mono ?_
          rintro e w6 ⟨rfl, hp6, hk6⟩
          have HP6 := Lib.hid (And.intro hp6 hk6)
          have H0 := Lib.hid h0
          clear hp6 hk6 h0
          go_wp2_with (fail)
          go_meet
          exact ⟨w6, rfl, Lib.hid ⟨by have := HP6.out.1; rw [HSEP.out, if_neg H0.out]; simpa using this, HP6.out.2⟩⟩
        · have h0 : i = 0 := by omega
          go_meet
          exact ⟨w5, rfl, Lib.hid ⟨by have := HP5.out; rw [h0, List.take_zero] at this; rw [HSEP.out, if_pos h0]; simpa [layAll, commas] using this, PrK.refl _ _ _⟩⟩
      case rest =>
        obtain ⟨w6, rfl, HP6⟩ := hcut
        have HB6 : Hid (B ≤ w6.heap.size) := Lib.hid (Nat.le_trans HBW.out (Nat.le_trans HB5.out.1.size HP6.out.2.size))
        have HJ6 := Lib.hid (HJ5.out.keeps HP6.out.2.keeps (fun g hg h => by omega))
        have HCC := Lib.hid (HIH.out v (List.mem_of_getElem? HV.out) (d + 1) r w6 B b (p ++ 91 :: sep) (chkAll_mem HALL.out v (List.mem_of_getElem? HV.out)) (HF.out.2.mem v (List.mem_of_getElem? HV.out)) HJ6.out HP6.out.1 HB6.out (by have := HLN.out; simp; omega))
        have HX6 := Lib.hid (HP6.out.2.blk HB5.out.2 (by decide) (by have := HP.out.1.lt; omega))
        obtain ⟨⟨b0, b1, b2, b3⟩, -⟩ := jbox_cells HX6.out
        go_wp2_with (fail)
        refine HCC.out.mono ?_
        rintro e w7 ⟨rfl, hp7, hk7⟩
        have HP7 : Hid (Prn B b (p ++ 91 :: commas (layAll (l.take (i + 1)))) w7 ∧ PrK B b w w7) := Lib.hid ⟨by rw [← HCAT.out]; simpa using hp7, (HP.out.2.trans ((PrK.of_below HB5.out.1 HBW.out).trans HP6.out.2)).trans hk7⟩
        clear hp7 hk7 b0 b1 b2 b3
        go_wp2_with (fail)
        go_roundg (l.length - (i + 1) + 1)
        case measure => have := HL.out; omega
        case rel => exact ⟨i + 1, rfl, HL.out, by rw [hw64]; rfl, HP7⟩
    · have ht1 : decide (i < l.length) = false := by simpa using hlt
      have HEND : Hid (Prn B b (p ++ 91 :: commas (layAll l)) wr) := Lib.hid (by have := HP.out.1; rw [List.take_of_length_le (by omega)] at this; exact this)
      have HT3 := Lib.hid (pr_byte 93 HEND.out (by have := HLEN.out; simp; omega) (Nat.le_trans HBB.out HP.out.2.size))
      clear hlt hi
      go_wp2_with (fail)
      refine HT3.out.mono ?_
      rintro e w7 ⟨rfl, hp7, hk7⟩
      have HP7 := Lib.hid (And.intro hp7 hk7)
      clear hp7 hk7
      go_wp2_with (fail)
      go_end0
      exact ⟨rfl, by have := HP7.out.1; simpa using this, HP.out.2.trans HP7.out.2⟩
end
end Go.Proofs.YthjcolehccbihaaGreatDoor
