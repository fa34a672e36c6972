/- The walks of the statements' own helpers over lists of pairs: find, drop, put. -/
import Derived.Test.YtndaacojbbmcnaaRows
import Derived.Test.YtndaacojbbmcnaaSlc
import Derived.Test.YtndaacojbbmcnaaKeys
import Derived.WalkSpells
import Derived.WalkLawsBesides
import Derived.Lib.Hide
import Derived.Lib.MinMax
import Derived.BigQuiet
namespace Go.Proofs.Ytndaacojbbmcnaa
open Go.RowKit

abbrev encP (x : ByteArray × Int) : List Value := [.string x.1, .int .i64 x.2]
abbrev PRow (w : World) (base : Nat) (v : Value) (xs : List (ByteArray × Int)) : Prop := RowOf encP 36 2 w base v xs
theorem encP_len : ∀ x, (encP x).length = 2 := fun _ => rfl
theorem info36 : (Try.prog.info? 36).map (fun i => (i.zero, i.size, i.bytes)) = some (some (.agg #[.string ByteArray.empty, .int .i64 0]), 2, 24) := by kernel_rfl
theorem one_encP (x : ByteArray × Int) : ∀ u ∈ encP x, u.oneCell' = true := by
  intro u hu
  simp only [List.mem_cons, List.not_mem_nil, or_false] at hu
  rcases hu with rfl | rfl <;> rfl

/-- A slice of pairs as the walk reads it: its value, and each pair's two cells. -/
theorem prow_read {w : World} {base : Nat} {v : Value} {xs : List (ByteArray × Int)} (h : PRow w base v xs) :
    ∃ (a : Option Addr) (cap : Nat), v = .slice a xs.length cap ∧ ∀ j x, xs[j]? = some x → ∃ g, a = some ⟨g, 0, none⟩ ∧ w.cell? ⟨g, j * 2, none⟩ = some (.string x.1) ∧ w.cell? ⟨g, j * 2 + 1, none⟩ = some (.int .i64 x.2) := by
  rcases h.shape with ⟨rfl, rfl⟩ | ⟨g, cap, rfl, _⟩
  · exact ⟨none, 0, rfl, fun j x hx => by simp at hx⟩
  · exact ⟨some ⟨g, 0, none⟩, cap, rfl, fun j x hx => ⟨g, rfl, h.cell hx (i := 0) (by omega), h.cell hx (i := 1) (by omega)⟩⟩

/-- What the text's loop does at one pair. -/
def dropStep (k : ByteArray) (out : List (ByteArray × Int)) (x : ByteArray × Int) : List (ByteArray × Int) := if x.1.toList == k.toList then out else out ++ [x]
def dropTo (k : ByteArray) (l : List (ByteArray × Int)) (n : Nat) : List (ByteArray × Int) := (l.take n).foldl (dropStep k) []
theorem take_succ' {α : Type} (l : List α) (j : Nat) (x : α) (h : l[j]? = some x) : l.take (j + 1) = l.take j ++ [x] := by
  obtain ⟨hj, rfl⟩ := List.getElem?_eq_some_iff.1 h
  rw [List.take_succ_eq_append_getElem hj]
theorem dropTo_succ (k : ByteArray) (l : List (ByteArray × Int)) (j : Nat) (x : ByteArray × Int) (h : l[j]? = some x) : dropTo k l (j + 1) = dropStep k (dropTo k l j) x := by
  unfold dropTo; rw [take_succ' l j x h]; simp
theorem dropTo_len (k : ByteArray) (l : List (ByteArray × Int)) (n : Nat) : (dropTo k l n).length ≤ n := by
  unfold dropTo
  have : ∀ (l out : List (ByteArray × Int)), (l.foldl (dropStep k) out).length ≤ out.length + l.length := by
    intro l
    induction l with
    | nil => intro out; simp
    | cons x l ih =>
      intro out
      have h := ih (dropStep k out x)
      simp only [List.foldl_cons, List.length_cons]
      have : (dropStep k out x).length ≤ out.length + 1 := by unfold dropStep; split <;> simp
      omega
  have h := this (l.take n) []
  have h2 := List.length_take_le n l
  simp at h; omega

set_option maxRecDepth 100000 in
set_option maxHeartbeats 2000000 in
theorem l_drop (w : World) (base : Nat) (v : Value) (xs : List (ByteArray × Int)) (k : ByteArray) (h : PRow w base v xs) (hn : xs.length < 10000) :
    Calls Try.prog 24 #[v, .string k] w fun e w' => ∃ v', e = .returned v' ∧ PRow w' w.heap.size v' (dropTo k xs xs.length) ∧ Below w.heap.size w w' := by
  obtain ⟨a, cap, rfl, hrd⟩ := prow_read h
  have HR := Lib.hid hrd
  obtain ⟨i0, hi, hz0, hz1, hz2⟩ := info_parts info36
  clear h hrd
  go_enter Try.func24, Try.ntmps24
  go_wp2
  go_loopw [5, 6] (fun s i wr => ∃ j : Nat, j ≤ xs.length ∧ i = .int .i64 j ∧ PRow wr w.heap.size s (dropTo k xs j) ∧ Below w.heap.size w wr) (fun _ i _ => xs.length - (intOf i).toNat)
  case atStart => exact ⟨0, Nat.zero_le _, rfl, RowOf.nil encP_len, Below.refl _ _⟩
  case round =>
    obtain ⟨j, hj, rfl, hrow, hb⟩ := hrel
    by_cases hlt : j < xs.length
    · have hx : xs[j]? = some xs[j] := List.getElem?_eq_getElem hlt
      generalize xs[j] = x at hx
      obtain ⟨g, rfl, c0, c1⟩ := HR.out j x hx
      have c0' := (hb.cell (p := ⟨g, j * 2, none⟩) (World.block_lt_of_cell? w _ c0)).trans c0
      have c1' := (hb.cell (p := ⟨g, j * 2 + 1, none⟩) (World.block_lt_of_cell? w _ c1)).trans c1
      have HB := Lib.hid hb
      have HROW := Lib.hid hrow
      have HX := Lib.hid hx
      have HL := Lib.hid (dropTo_len k xs j)
      clear c0 c1 hb hx hrow
      cases he : (x.1.toList == k.toList) with
      | true =>
        have hd : Hid (dropTo k xs (j + 1) = dropTo k xs j) := Lib.hid (by rw [dropTo_succ k xs j x HX.out]; unfold dropStep; rw [if_pos he])
        go_wp2
        go_roundw
        case rel => exact ⟨j + 1, by omega, by go_num, by rw [hd.out]; exact HROW.out, HB.out⟩
        case measure => simp [intOf]; omega
      | false =>
        have hd : Hid (dropTo k xs (j + 1) = dropTo k xs j ++ [x]) := Lib.hid (by rw [dropTo_succ k xs j x HX.out]; unfold dropStep; rw [if_neg (by simp [he])])
        go_wp2_with (at_builtin; refine wpList_append1 encP rfl (.tmp 20) (.tmp 25) 27 rfl w.heap.size 36 i0 _ 2 24 Try.underlying27 hi hz0 hz1 hz2 rfl (by omega) _ (dropTo k xs j) x rfl HROW.out rfl (one_encP x) ?c1 (by omega) HB.out.size ?_)
        case c1 => have := HL.out; omega
        intro g2 cap2 w2 hrow2 hk2 hb2
        have hB2 : Below w.heap.size w w2 := below_keeps HB.out hk2 (fun i hi => (HROW.out.own i hi).1) HB.out.size
        have HB2 := Lib.hid hB2
        have HROW2 := Lib.hid hrow2
        clear hB2 hrow2 hk2 hb2 c0' c1'
        go_wp2
        go_roundw
        case rel => exact ⟨j + 1, by omega, by go_num, by rw [hd.out]; exact HROW2.out, HB2.out⟩
        case measure => simp [intOf]; omega
    · have hj' : j = xs.length := by omega
      subst hj'
      have HROW := Lib.hid hrow
      have HB := Lib.hid hb
      clear hrow hb
      go_wp2
      go_ret
      exact ⟨_, rfl, HROW.out, HB.out⟩

theorem key_eq (a b : ByteArray) : (a.toList == b.toList) = (!slt a b && !slt b a) := by
  cases h : a.toList == b.toList with
  | true =>
    have e := str_inj (by simpa using h : a.toList = b.toList)
    subst e; simp [slt_ord.irr]
  | false =>
    cases h1 : slt a b with
    | true => rfl
    | false =>
      cases h2 : slt b a with
      | true => rfl
      | false => have e := slt_ord.eq _ _ h1 h2; subst e; simp at h
theorem dropTo_all (k : ByteArray) (l : List (ByteArray × Int)) : dropTo k l l.length = dropL slt l k := by
  unfold dropTo dropL
  rw [List.take_length]
  have : ∀ (l out : List (ByteArray × Int)), l.foldl (dropStep k) out = out ++ l.filter (fun x => slt x.1 k || slt k x.1) := by
    intro l
    induction l with
    | nil => intro out; simp
    | cons x l ih =>
      intro out
      rw [List.foldl_cons, ih]
      unfold dropStep
      rw [key_eq, List.filter_cons]
      cases slt x.1 k <;> cases slt k x.1 <;> simp
  simpa using this l []

/-- What put's loop does at one pair. -/
def putStep (k : ByteArray) (v : Int) (st : List (ByteArray × Int) × Bool) (x : ByteArray × Int) : List (ByteArray × Int) × Bool :=
  if x.1.toList == k.toList then st else if !st.2 && slt k x.1 then (st.1 ++ [(k, v)] ++ [x], true) else (st.1 ++ [x], st.2)
def putTo (k : ByteArray) (v : Int) (l : List (ByteArray × Int)) (n : Nat) : List (ByteArray × Int) × Bool := (l.take n).foldl (putStep k v) ([], false)
def putFin (k : ByteArray) (v : Int) (st : List (ByteArray × Int) × Bool) : List (ByteArray × Int) := if st.2 then st.1 else st.1 ++ [(k, v)]
theorem putTo_succ (k : ByteArray) (v : Int) (l : List (ByteArray × Int)) (j : Nat) (x : ByteArray × Int) (h : l[j]? = some x) : putTo k v l (j + 1) = putStep k v (putTo k v l j) x := by
  unfold putTo; rw [take_succ' l j x h]; simp
theorem putTo_len (k : ByteArray) (v : Int) (l : List (ByteArray × Int)) (n : Nat) : (putTo k v l n).1.length ≤ 2 * n := by
  unfold putTo
  have : ∀ (l : List (ByteArray × Int)) (st : List (ByteArray × Int) × Bool), (l.foldl (putStep k v) st).1.length ≤ st.1.length + 2 * l.length := by
    intro l
    induction l with
    | nil => intro st; simp
    | cons x l ih =>
      intro st
      have h := ih (putStep k v st x)
      simp only [List.foldl_cons, List.length_cons]
      have : (putStep k v st x).1.length ≤ st.1.length + 2 := by unfold putStep; split <;> (try split) <;> simp
      omega
  have h := this (l.take n) ([], false)
  have h2 := List.length_take_le n l
  simp at h; omega
theorem putTo_all (k : ByteArray) (v : Int) (l : List (ByteArray × Int)) (hr : Rise slt l) : putFin k v (putTo k v l l.length) = putL slt l k v := by
  unfold putTo
  rw [List.take_length]
  have done : ∀ (l out : List (ByteArray × Int)), Rise slt l → (∀ x ∈ l, slt x.1 k = false) → l.foldl (putStep k v) (out, true) = (out ++ l.filter (fun x => slt k x.1), true) := by
    intro l
    induction l with
    | nil => intro out _ _; simp
    | cons x l ih =>
      intro out h hx
      have hx0 := hx x (by simp)
      rw [List.foldl_cons]
      have ih' := fun out => ih out (List.Pairwise.of_cons h) (fun y hy => hx y (by simp [hy]))
      cases hk : slt k x.1
      · have e : putStep k v (out, true) x = (out, true) := by unfold putStep; rw [key_eq, hx0, hk]; rfl
        rw [e, ih', List.filter_cons, hk]; simp
      · have e : putStep k v (out, true) x = (out ++ [x], true) := by unfold putStep; rw [key_eq, hx0, hk]; rfl
        rw [e, ih', List.filter_cons, hk]; simp
  have main : ∀ (l out : List (ByteArray × Int)), Rise slt l → putFin k v (l.foldl (putStep k v) (out, false)) = out ++ putL slt l k v := by
    intro l
    induction l with
    | nil => intro out _; simp [putFin, putL]
    | cons x l ih =>
      intro out h
      have h' : Rise slt l := List.Pairwise.of_cons h
      have hx : ∀ y ∈ l, slt x.1 y.1 = true := (List.pairwise_cons.1 h).1
      rw [List.foldl_cons]
      cases h1 : slt x.1 k with
      | true =>
        have h2 := slt_ord.asymm h1
        have e : putStep k v (out, false) x = (out ++ [x], false) := by unfold putStep; rw [key_eq, h1, h2]; rfl
        rw [e, ih _ h']
        simp [putL, h1, h2]
      | false =>
        cases h2 : slt k x.1 with
        | true =>
          have hl : ∀ y ∈ l, slt y.1 k = false := fun y hy => slt_ord.asymm (slt_ord.tr _ _ _ h2 (hx y hy))
          have e : putStep k v (out, false) x = (out ++ [(k, v)] ++ [x], true) := by unfold putStep; rw [key_eq, h1, h2]; rfl
          rw [e, done l _ h' hl]
          have e : l.filter (fun x => slt x.1 k) = [] := filt_none hl
          simp [putFin, putL, h1, h2, e]
        | false =>
          have e : putStep k v (out, false) x = (out, false) := by unfold putStep; rw [key_eq, h1, h2]; rfl
          rw [e, ih _ h']
          simp [putL, h1, h2]
  simpa using main l [] hr

set_option maxRecDepth 100000 in
set_option maxHeartbeats 4000000 in
theorem l_put (w : World) (base : Nat) (v : Value) (xs : List (ByteArray × Int)) (k : ByteArray) (x0 : Int) (h : PRow w base v xs) (hn : xs.length < 10000) :
    Calls Try.prog 11 #[v, .string k, .int .i64 x0] w fun e w' => ∃ v', e = .returned v' ∧ PRow w' w.heap.size v' (putFin k x0 (putTo k x0 xs xs.length)) ∧ Below w.heap.size w w' := by
  obtain ⟨a, cap, rfl, hrd⟩ := prow_read h
  have HR := Lib.hid hrd
  obtain ⟨i0, hi, hz0, hz1, hz2⟩ := info_parts info36
  clear h hrd
  go_enter Try.func11, Try.ntmps11
  go_wp2
  go_loopw [7, 8, 9] (fun s d i wr => ∃ (j : Nat) (out : List (ByteArray × Int)) (dn : Bool), j ≤ xs.length ∧ i = .int .i64 j ∧ d = .bool dn ∧ Hid (putTo k x0 xs j = (out, dn)) ∧ PRow wr w.heap.size s out ∧ Below w.heap.size w wr) (fun _ _ i _ => xs.length - (intOf i).toNat)
  case atStart => exact ⟨0, [], false, Nat.zero_le _, rfl, rfl, rfl, RowOf.nil encP_len, Below.refl _ _⟩
  case round =>
    obtain ⟨j, out, dn, hj, rfl, rfl, HT, hrow, hb⟩ := hrel
    have HL : Hid (out.length ≤ 2 * xs.length) := Lib.hid (by have := putTo_len k x0 xs j; rw [HT.out] at this; simp at this; omega)
    by_cases hlt : j < xs.length
    · have hx : xs[j]? = some xs[j] := List.getElem?_eq_getElem hlt
      generalize xs[j] = x at hx
      obtain ⟨g, rfl, c0, c1⟩ := HR.out j x hx
      have c0' := (hb.cell (p := ⟨g, j * 2, none⟩) (World.block_lt_of_cell? w _ c0)).trans c0
      have c1' := (hb.cell (p := ⟨g, j * 2 + 1, none⟩) (World.block_lt_of_cell? w _ c1)).trans c1
      have HB := Lib.hid hb
      have HROW := Lib.hid hrow
      have HX := Lib.hid hx
      have HS := Lib.hid ((putTo_succ k x0 xs j x hx).trans (by rw [HT.out]))
      have HC0 := Lib.hid c0
      have HC1 := Lib.hid c1
      clear c0 c1 hb hx hrow
      cases he : (x.1.toList == k.toList) with
      | true =>
        have hd : Hid (putTo k x0 xs (j + 1) = (out, dn)) := Lib.hid (by rw [HS.out]; unfold putStep; rw [if_pos he])
        go_wp2
        go_roundw
        case rel => exact ⟨j + 1, out, dn, by omega, by go_num, rfl, hd, HROW.out, HB.out⟩
        case measure => simp [intOf]; omega
      | false =>
        cases dn with
        | true =>
          have hd : Hid (putTo k x0 xs (j + 1) = (out ++ [x], true)) := Lib.hid (by rw [HS.out]; unfold putStep; rw [if_neg (by simp [he]), if_neg (by simp)])
          go_wp2_with (at_builtin; refine wpList_append1 encP rfl (.tmp 40) (.tmp 45) 27 rfl w.heap.size 36 i0 _ 2 24 Try.underlying27 hi hz0 hz1 hz2 rfl (by omega) _ out x rfl HROW.out rfl (one_encP x) ?c1 (by omega) HB.out.size ?_)
          case c1 => have := HL.out; omega
          intro g2 cap2 w2 hrow2 hk2 hb2
          have HB2 := Lib.hid (below_keeps HB.out hk2 (fun i hi => (HROW.out.own i hi).1) HB.out.size)
          have HROW2 := Lib.hid hrow2
          clear hrow2 hk2 hb2 c0' c1'
          go_wp2
          go_roundw
          case rel => exact ⟨j + 1, _, true, by omega, by go_num, rfl, hd, HROW2.out, HB2.out⟩
          case measure => simp [intOf]; omega
        | false =>
          cases hk : slt k x.1 with
          | true =>
            have hd : Hid (putTo k x0 xs (j + 1) = (out ++ [(k, x0)] ++ [x], true)) := Lib.hid (by rw [HS.out]; unfold putStep; rw [if_neg (by simp [he]), if_pos (by simp [hk])])
            have q1 : Op.bytesLess x.1.toList k.toList = false := slt_ord.asymm hk
            clear hk
            go_wp2_with (at_builtin; refine wpList_append1 encP rfl (.tmp 34) (.tmp 38) 27 rfl w.heap.size 36 i0 _ 2 24 Try.underlying27 hi hz0 hz1 hz2 rfl (by omega) _ out (k, x0) rfl HROW.out rfl (one_encP _) ?c1 (by omega) HB.out.size ?_)
            case c1 => have := HL.out; omega
            intro g2 cap2 w2 hrow2 hk2 hb2
            have hB2 := below_keeps HB.out hk2 (fun i hi => (HROW.out.own i hi).1) HB.out.size
            have c02 := (hB2.cell (p := ⟨g, j * 2, none⟩) (World.block_lt_of_cell? w _ HC0.out)).trans HC0.out
            have c12 := (hB2.cell (p := ⟨g, j * 2 + 1, none⟩) (World.block_lt_of_cell? w _ HC1.out)).trans HC1.out
            have HB2 := Lib.hid hB2
            have HROW2 : Hid (PRow w2 w.heap.size (.slice (some ⟨g2, 0, none⟩) (out.length + 1) cap2) (out ++ [(k, x0)])) := Lib.hid hrow2
            clear hrow2 hk2 hb2 c0' c1' hB2
            go_wp2_with (at_builtin; refine wpList_append1 encP rfl (.tmp 40) (.tmp 45) 27 rfl w.heap.size 36 i0 _ 2 24 Try.underlying27 hi hz0 hz1 hz2 rfl (by omega) _ (out ++ [(k, x0)]) x rfl HROW2.out rfl (one_encP x) ?c2 (by omega) HB2.out.size ?_)
            case c2 => have := HL.out; simp; omega
            intro g3 cap3 w3 hrow3 hk3 hb3
            have HB3 := Lib.hid (below_keeps HB2.out hk3 (fun i hi => (HROW2.out.own i hi).1) HB2.out.size)
            have HROW3 := Lib.hid hrow3
            clear hrow3 hk3 hb3 c02 c12
            go_wp2
            go_roundw
            case rel => exact ⟨j + 1, _, true, by omega, by go_num, rfl, hd, by have := HROW3.out; simpa using this, HB3.out⟩
            case measure => simp [intOf]; omega
          | false =>
            have hd : Hid (putTo k x0 xs (j + 1) = (out ++ [x], false)) := Lib.hid (by rw [HS.out]; unfold putStep; rw [if_neg (by simp [he]), if_neg (by simp [hk])])
            have q1 : Op.bytesLess x.1.toList k.toList = true := by
              cases hq : slt x.1 k with
              | true => exact hq
              | false => have e := key_eq x.1 k; rw [he, hk, hq] at e; cases e
            clear hk
            go_wp2_with (at_builtin; refine wpList_append1 encP rfl (.tmp 40) (.tmp 45) 27 rfl w.heap.size 36 i0 _ 2 24 Try.underlying27 hi hz0 hz1 hz2 rfl (by omega) _ out x rfl HROW.out rfl (one_encP x) ?c1 (by omega) HB.out.size ?_)
            case c1 => have := HL.out; omega
            intro g2 cap2 w2 hrow2 hk2 hb2
            have HB2 := Lib.hid (below_keeps HB.out hk2 (fun i hi => (HROW.out.own i hi).1) HB.out.size)
            have HROW2 := Lib.hid hrow2
            clear hrow2 hk2 hb2 c0' c1'
            go_wp2
            go_roundw
            case rel => exact ⟨j + 1, _, false, by omega, by go_num, rfl, hd, HROW2.out, HB2.out⟩
            case measure => simp [intOf]; omega
    · have hj' : j = xs.length := by omega
      subst hj'
      have HROW := Lib.hid hrow
      have HB := Lib.hid hb
      clear hrow hb
      cases dn with
      | true =>
        have hd : Hid (putFin k x0 (putTo k x0 xs xs.length) = out) := Lib.hid (by rw [HT.out]; rfl)
        go_wp2
        go_ret
        exact ⟨_, rfl, by rw [hd.out]; exact HROW.out, HB.out⟩
      | false =>
        have hd : Hid (putFin k x0 (putTo k x0 xs xs.length) = out ++ [(k, x0)]) := Lib.hid (by rw [HT.out]; rfl)
        go_wp2_with (at_builtin; refine wpList_append1 encP rfl (.tmp 49) (.tmp 53) 27 rfl w.heap.size 36 i0 _ 2 24 Try.underlying27 hi hz0 hz1 hz2 rfl (by omega) _ out (k, x0) rfl HROW.out rfl (one_encP _) ?c1 (by omega) HB.out.size ?_)
        case c1 => have := HL.out; omega
        intro g2 cap2 w2 hrow2 hk2 hb2
        have HB2 := Lib.hid (below_keeps HB.out hk2 (fun i hi => (HROW.out.own i hi).1) HB.out.size)
        have HROW2 := Lib.hid hrow2
        clear hrow2 hk2 hb2
        go_wp2
        go_ret
        exact ⟨_, rfl, by rw [hd.out]; exact HROW2.out, HB2.out⟩

/-- The value of the first pair of this key. -/
def findE (k : ByteArray) (l : List (ByteArray × Int)) : Option Int := (l.find? (fun x => x.1.toList == k.toList)).map (·.2)
theorem findE_eq (k : ByteArray) (l : List (ByteArray × Int)) : findE k l = findL slt l k := by
  unfold findE findL
  have : (fun x : ByteArray × Int => x.1.toList == k.toList) = (fun x => !slt x.1 k && !slt k x.1) := funext fun x => key_eq _ _
  rw [this]
def pairRes (o : Option Int) : Value := .tuple #[.int .i64 (o.getD 0), .bool o.isSome]
theorem find_skip (k : ByteArray) (l : List (ByteArray × Int)) (j : Nat) (x : ByteArray × Int) (h : l[j]? = some x) (he : (x.1.toList == k.toList) = false) : findE k (l.drop j) = findE k (l.drop (j + 1)) := by
  obtain ⟨hj, rfl⟩ := List.getElem?_eq_some_iff.1 h
  rw [List.drop_eq_getElem_cons hj]
  unfold findE
  rw [List.find?_cons, he]
theorem find_hit (k : ByteArray) (l : List (ByteArray × Int)) (j : Nat) (x : ByteArray × Int) (h : l[j]? = some x) (he : (x.1.toList == k.toList) = true) : findE k (l.drop j) = some x.2 := by
  obtain ⟨hj, rfl⟩ := List.getElem?_eq_some_iff.1 h
  rw [List.drop_eq_getElem_cons hj]
  unfold findE
  rw [List.find?_cons, he]
  rfl

set_option maxRecDepth 100000 in
set_option maxHeartbeats 2000000 in
theorem l_find (w : World) (base : Nat) (v : Value) (xs : List (ByteArray × Int)) (k : ByteArray) (h : PRow w base v xs) (hn : xs.length < 10000) :
    Calls Try.prog 23 #[v, .string k] w fun e w' => e = .returned (pairRes (findE k xs)) ∧ w = w' := by
  obtain ⟨a, cap, rfl, hrd⟩ := prow_read h
  have HR := Lib.hid hrd
  clear h hrd
  go_enter Try.func23, Try.ntmps23
  go_wp2
  go_loop [6] (fun i => ∃ j : Nat, j ≤ xs.length ∧ i = .int .i64 j ∧ Hid (findE k xs = findE k (xs.drop j))) (fun i => xs.length - (intOf i).toNat)
  case atStart => exact ⟨0, Nat.zero_le _, rfl, rfl⟩
  case round =>
    obtain ⟨j, hj, rfl, HF⟩ := hrel
    by_cases hlt : j < xs.length
    · have hx : xs[j]? = some xs[j] := List.getElem?_eq_getElem hlt
      generalize xs[j] = x at hx
      obtain ⟨g, rfl, c0, c1⟩ := HR.out j x hx
      have HX := Lib.hid hx
      clear hx
      cases he : (x.1.toList == k.toList) with
      | true =>
        have hd : Hid (findE k xs = some x.2) := Lib.hid (HF.out.trans (find_hit k xs j x HX.out he))
        go_wp2
        go_ret2
        exact ⟨by rw [hd.out]; rfl, rfl⟩
      | false =>
        have hd : Hid (findE k xs = findE k (xs.drop (j + 1))) := Lib.hid (HF.out.trans (find_skip k xs j x HX.out he))
        go_wp2
        go_round
        case rel => exact ⟨j + 1, by omega, by go_num, hd⟩
        case measure => simp [intOf]; omega
    · have hj' : j = xs.length := by omega
      have hd : Hid (findE k xs = none) := Lib.hid (by rw [HF.out, hj', List.drop_length]; rfl)
      go_wp2
      go_ret2
      exact ⟨by rw [hd.out]; rfl, rfl⟩

/-- An operation of the statements. -/
structure TOp where
  kind : Int
  v : Int
  key : ByteArray
  top : ByteArray
/-- A slice of operations as the walk reads it. -/
def OpsAt (w : World) (v : Value) (xs : List TOp) : Prop :=
  ∃ (a : Option Addr) (cap : Nat), v = .slice a xs.length cap ∧ ∀ j x, xs[j]? = some x → ∃ g off, a = some ⟨g, off, none⟩ ∧
    w.cell? ⟨g, off + j * 4, none⟩ = some (.int .i64 x.kind) ∧ w.cell? ⟨g, off + j * 4 + 1, none⟩ = some (.int .i64 x.v) ∧ w.cell? ⟨g, off + j * 4 + 2, none⟩ = some (.string x.key) ∧ w.cell? ⟨g, off + j * 4 + 3, none⟩ = some (.string x.top)
theorem OpsAt.cells {w w' : World} {v : Value} {xs : List TOp} (h : OpsAt w v xs) (hk : ∀ a u, w.cell? a = some u → w'.cell? a = some u) : OpsAt w' v xs := by
  obtain ⟨a, cap, rfl, h⟩ := h
  refine ⟨a, cap, rfl, fun j x hx => ?_⟩
  obtain ⟨g, off, e, c0, c1, c2, c3⟩ := h j x hx
  exact ⟨g, off, e, hk _ _ c0, hk _ _ c1, hk _ _ c2, hk _ _ c3⟩

/-- What few hands back: some bool, true only of at most 200 operations. -/
def FewPost (n : Nat) (w : World) (e : Ending) (w' : World) : Prop := ∃ b : Bool, e = .returned (.bool b) ∧ (b = true → n ≤ 200) ∧ Below w.heap.size w w'
theorem below_drewN (B : Nat) (W : World) (n : Nat) : Below B W (W.drewN n) := ⟨rfl, rfl, rfl, Nat.le_refl _, fun _ _ => rfl⟩
set_option maxRecDepth 100000 in
set_option maxHeartbeats 2000000 in
theorem l_few (w : World) (v : Value) (xs : List TOp) (h : OpsAt w v xs) (hm : xs.length ≤ maxLen) (hs : ∀ x ∈ xs, x.key.size ≤ maxLen ∧ x.top.size ≤ maxLen) :
    Calls Try.prog 8 #[v] w (FewPost xs.length w) := by
  obtain ⟨a, cap, rfl, hrd⟩ := h
  have HR := Lib.hid hrd
  have HSZ := Lib.hid hs
  unfold maxLen at hm
  clear hrd hs
  go_enter Try.func8, Try.ntmps8
  go_wp2
  go_loopw [3, 4] (fun n i wr => ∃ (j : Nat) (m : Int), j ≤ xs.length ∧ j ≤ 201 ∧ i = .int .i64 j ∧ n = .int .i64 m ∧ 0 ≤ m ∧ m ≤ 40000 ∧ Below w.heap.size w wr) (fun _ i _ => xs.length - (intOf i).toNat)
  case atStart => exact ⟨0, 0, Nat.zero_le _, by omega, rfl, rfl, by omega, by omega, Below.refl _ _⟩
  case round =>
    obtain ⟨j, m, hj, hj2, rfl, rfl, hm0, hm1, hb⟩ := hrel
    by_cases hlt : j < xs.length
    · by_cases hlt2 : j ≤ 200
      · have hx : xs[j]? = some xs[j] := List.getElem?_eq_getElem hlt
        have hmem : xs[j] ∈ xs := List.getElem_mem hlt
        generalize xs[j] = x at hx hmem
        obtain ⟨g, off, rfl, c0, c1, c2, c3⟩ := HR.out j x hx
        obtain ⟨z1, z2⟩ := HSZ.out x hmem
        have c2' := (hb.cell (p := ⟨g, off + j * 4 + 2, none⟩) (World.block_lt_of_cell? w _ c2)).trans c2
        have c3' := (hb.cell (p := ⟨g, off + j * 4 + 3, none⟩) (World.block_lt_of_cell? w _ c3)).trans c3
        have HB := Lib.hid hb
        unfold maxLen at z1 z2
        have z1' : (x.key.size : Int) ≤ 9223372036854775807 := by omega
        have z2' : (x.top.size : Int) ≤ 9223372036854775807 := by omega
        have k1 : (0 : Int) ≤ (j : Int) := by omega
        have k2 : (j : Int) < (xs.length : Int) := by omega
        clear c0 c1 c2 c3 hb hx hmem
        go_wp2
        go_quiet (fail)
        go_wp2
        go_roundw
        case rel =>
          have g1 : (0 : Int) ≤ min (x.key.size : Int) 20000 := by omega
          have g2 : (0 : Int) ≤ min (x.top.size : Int) 20000 := by omega
          exact ⟨j + 1, _, by omega, by omega, by go_num, rfl, by omega, by omega, HB.out.trans (below_drewN _ _ _)⟩
        case measure => simp [intOf]; omega
      · have HB := Lib.hid hb
        have hgt : ¬ ((xs.length : Int) ≤ 200) := by omega
        clear hb
        go_wp2
        go_ret
        exact ⟨_, rfl, fun h => by simp at h, HB.out⟩
    · have HB := Lib.hid hb
      have hgt : (xs.length : Int) ≤ 201 := by omega
      clear hb
      by_cases h200 : (xs.length : Int) ≤ 200
      · go_wp2
        go_ret
        exact ⟨_, rfl, fun _ => by omega, HB.out⟩
      · go_wp2
        go_ret
        exact ⟨_, rfl, fun h => by simp at h, HB.out⟩
end Go.Proofs.Ytndaacojbbmcnaa
