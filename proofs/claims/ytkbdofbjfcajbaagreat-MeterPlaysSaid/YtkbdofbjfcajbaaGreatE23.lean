/- The walk of MeterOnce: what it asks of two meters. -/
import Derived.Test.YtkbdofbjfcajbaaGreatE20
import Derived.Test.YtkbdofbjfcajbaaGreatE22
import Derived.BigQuiet
import Derived.Deep.QuietTactic
namespace Go.Proofs.YtkbdofbjfcajbaaGreat
open Go.RowKit Go.Shelf Go.Sort

theorem tab_not_mtr {w : World} {mb tb tc : Nat} {t : Tr ByteArray Ev} {s n ver : Int} (ht : Ev.STab w tb t ver) (hm : IsBlk w mb (mtrCells s tc n) 70) : tb ≠ mb := tab_ne ht hm
/-- A meter beside another that is written. -/
theorem MtrIn.beside {w w' : World} {ma ta mb tb : Nat} {s r : MSt} (hb : MtrIn w mb tb s) (ha : MtrIn w ma ta r) (hk : Keeps (Two ma ta) w w') (h1 : ma ≠ mb) (h2 : ta ≠ tb) : MtrIn w' mb tb s := by
  obtain ⟨_, hx, _⟩ := ha.tab.ex
  refine ⟨hk.obj hb.blk ?_, hb.tab.keeps hk ?_ ?_⟩
  · rintro (e | e)
    · exact h1 e.symm
    · exact tab_ne ha.tab hb.blk e.symm
  · rintro (e | e)
    · exact tab_ne hb.tab ha.blk e
    · exact h2 e.symm
  · rintro b cs hn (e | e)
    · exact ne_of_type hn ha.blk (by decide) e
    · exact ne_of_type hn hx (by decide) e
/-- Two meters, as events come in. -/
structure TwoI (w : World) (ma ta mb tb : Nat) (s r : MSt) (i j : Nat) (wr : World) : Prop where
  fst : MtrIn wr ma ta s
  snd : MtrIn wr mb tb r
  oa : MOk s i
  ob : MOk r j
  below : Below w.heap.size w wr
  l1 : w.heap.size ≤ ma
  l2 : w.heap.size ≤ ta
  l3 : w.heap.size ≤ mb
  l4 : w.heap.size ≤ tb
  n1 : ma ≠ mb
  n2 : ta ≠ tb
theorem TwoI.stepA {w wr w' : World} {ma ta mb tb : Nat} {s r : MSt} {i j : Nat} (h : TwoI w ma ta mb tb s r i j wr) (x : Ev) (hm : MtrIn w' ma ta (ingS s x)) (hk : Keeps (Two ma ta) wr w') : TwoI w ma ta mb tb (ingS s x) r (i + 1) j w' :=
  ⟨hm, h.snd.beside h.fst hk h.n1 h.n2, ing_ok h.oa, h.ob, two_below h.below hk h.l1 h.l2, h.l1, h.l2, h.l3, h.l4, h.n1, h.n2⟩
theorem TwoI.stepB {w wr w' : World} {ma ta mb tb : Nat} {s r : MSt} {i j : Nat} (h : TwoI w ma ta mb tb s r i j wr) (x : Ev) (hm : MtrIn w' mb tb (ingS r x)) (hk : Keeps (Two mb tb) wr w') : TwoI w ma ta mb tb s (ingS r x) i (j + 1) w' :=
  ⟨h.fst.beside h.snd hk h.n1.symm h.n2.symm, hm, h.oa, ing_ok h.ob, two_below h.below hk h.l3 h.l4, h.l1, h.l2, h.l3, h.l4, h.n1, h.n2⟩
theorem TwoI.read {w wr w' : World} {ma ta mb tb : Nat} {s r : MSt} {i j : Nat} (h : TwoI w ma ta mb tb s r i j wr) (hb : Below wr.heap.size wr w') : TwoI w ma ta mb tb s r i j w' :=
  ⟨h.fst.below hb, h.snd.below hb, h.oa, h.ob, h.below.trans (hb.mono h.below.size), h.l1, h.l2, h.l3, h.l4, h.n1, h.n2⟩
theorem x_ingest {w : World} {mb tb : Nat} {s : MSt} {k : Nat} (h : MtrIn w mb tb s) (ok : MOk s k) (hk : k ≤ 1000) {x : Ev} (hx : EvFit x) :
    Calls Tryz.prog 9 #[.pointer (some ⟨mb, 0, none⟩), .agg #[.string x.key, .string x.acct, .string x.mtr, .int .i64 x.qty, .int .i64 x.at_]] w fun e w' => (∃ v, e = .returned v) ∧ MtrIn w' mb tb (ingS s x) ∧ Keeps (Two mb tb) w w' :=
  (m_ingest w mb tb s x h hx ok.v0 (by have := ok.v1; omega) ok.n0 (by have := ok.n1; omega) (by have := ok.size; omega)).mono fun _ _ ⟨he, h1, h2⟩ => ⟨⟨_, he⟩, h1, h2⟩
theorem x_tots {w : World} {mb tb : Nat} {s : MSt} {k : Nat} (h : MtrIn w mb tb s) (ok : MOk s k) (hk : k ≤ 1000) (n : ByteArray) (hn : n.size ≤ 9223372036854775807) (a b : Int) :
    Calls Tryz.prog 10 #[.pointer (some ⟨mb, 0, none⟩), .string n, .int .i64 a, .int .i64 b] w fun e w' => ∃ (av : Option Addr) (cv : Nat) (TL : List Tot), TL = totsOf n a b s.t.ino ∧ e = .returned (.tuple #[.slice av TL.length cv, .int .i64 (withinE n a b)]) ∧ SlAt totKind 37 w' (.slice av TL.length cv) TL ∧ TL.length ≤ k ∧ Below w.heap.size w w' := by
  have hlen : (totsOf n a b s.t.ino).length ≤ k := by
    unfold totsOf
    rw [List.length_map]
    refine Nat.le_trans (Kv.tally_len (fun e : Ev => e.mtr) upT _) ?_
    split
    · unfold selE
      refine Nat.le_trans (List.length_filter_le _ _) ?_
      rw [List.length_map, Tr.ino_length]
      exact ok.size
    · exact Nat.zero_le _
  refine Calls.mono (m_totals w mb tb s n a b h hn (by have := ok.size; omega) (fun x hx => ?_)) ?_
  · have := good_of (ok.ok x hx).2
    exact ⟨by have := valid_size this.mtr; omega, this.q0, this.q1⟩
  · rintro e w' ⟨v, L, rfl, hp, hsl, -, hb⟩
    rw [totM_perm hp] at hsl
    obtain ⟨av, cv, hsh⟩ := hsl.shape
    subst hsh
    exact ⟨av, cv, _, rfl, rfl, hsl, hlen, hb⟩
theorem tots_bound {s : MSt} {k : Nat} (ok : MOk s k) (n : ByteArray) (a b : Int) {t : Tot} (ht : t ∈ totsOf n a b s.t.ino) : 0 ≤ t.qty ∧ 0 ≤ t.cnt := by
  obtain ⟨x, hx, rfl⟩ := List.mem_map.1 ht
  rw [tot_entry hx]
  refine ⟨(qsum_bound (Q := 1099511627776) _ (fun e he => ?_)).1, by show (0 : Int) ≤ ((ofM x.1 _).length : Int); omega⟩
  have he2 := (List.mem_filter.1 he).1
  split at he2
  · unfold selE at he2
    obtain ⟨y, hy, rfl⟩ := List.mem_map.1 (List.mem_filter.1 he2).1
    have := good_of (ok.ok y hy).2
    exact ⟨this.q0, this.q1⟩
  · cases he2
theorem of_bound {s : MSt} {k : Nat} (ok : MOk s k) (n : ByteArray) (a b : Int) (m : ByteArray) : (0 ≤ qtyOf m (totsOf n a b s.t.ino) ∧ qtyOf m (totsOf n a b s.t.ino) ≤ k * 1099511627776) ∧ 0 ≤ cntOf m (totsOf n a b s.t.ino) ∧ cntOf m (totsOf n a b s.t.ino) ≤ k := by
  unfold totsOf
  rw [qty_of, cnt_of]
  have hl : (ofM m (if withinE n a b = 0 then selE n a b s.t.ino else [])).length ≤ s.t.size := by
    refine Nat.le_trans (List.length_filter_le _ _) ?_
    split
    · unfold selE
      refine Nat.le_trans (List.length_filter_le _ _) ?_
      rw [List.length_map, Tr.ino_length]
      exact Nat.le_refl _
    · exact Nat.zero_le _
  have hb := qsum_bound (Q := 1099511627776) (ofM m (if withinE n a b = 0 then selE n a b s.t.ino else [])) (fun e he => by
    have he2 := (List.mem_filter.1 he).1
    split at he2
    · unfold selE at he2
      obtain ⟨y, hy, rfl⟩ := List.mem_map.1 (List.mem_filter.1 he2).1
      have := good_of (ok.ok y hy).2
      exact ⟨this.q0, this.q1⟩
    · cases he2)
  have h2 := ok.size
  have h3 : ((ofM m (if withinE n a b = 0 then selE n a b s.t.ino else [])).length : Int) ≤ (k : Int) := by omega
  refine ⟨⟨hb.1, ?_⟩, by omega, h3⟩
  have := hb.2
  omega
theorem rt_cells {w : World} {a : Option Addr} {cap : Nat} {L : List Tot} (h : RdAt totKind w (.slice a L.length cap) L) {j : Nat} {x : Tot} (hx : L[j]? = some x) :
    ∃ g off, a = some ⟨g, off, none⟩ ∧ w.cell? ⟨g, off + j * 3, none⟩ = some (.string x.mtr) ∧ w.cell? ⟨g, off + j * 3 + 1, none⟩ = some (.int .i64 x.qty) ∧ w.cell? ⟨g, off + j * 3 + 2, none⟩ = some (.int .i64 x.cnt) := by
  obtain ⟨a', cap', hv, hc⟩ := h
  simp only [Value.slice.injEq] at hv
  obtain ⟨rfl, -, rfl⟩ := hv
  obtain ⟨g, off, ha, hcell⟩ := hc j x hx
  have h0 := hcell 0 (by decide)
  have h1 := hcell 1 (by decide)
  have h2 := hcell 2 (by decide)
  exact ⟨g, off, ha, h0, h1, h2⟩
/-- So far. -/
theorem qtyOf_snoc (m : ByteArray) (l : List Tot) (t : Tot) : qtyOf m (l ++ [t]) = qtyOf m l + (if t.mtr = m then t.qty else 0) := by unfold qtyOf; rw [zs_append]; simp [zs]
theorem cntOf_snoc (m : ByteArray) (l : List Tot) (t : Tot) : cntOf m (l ++ [t]) = cntOf m l + (if t.mtr = m then t.cnt else 0) := by unfold cntOf; rw [zs_append]; simp [zs]
theorem of_le {l : List Tot} (h : ∀ t ∈ l, 0 ≤ t.qty ∧ 0 ≤ t.cnt) (m : ByteArray) (i : Nat) : (0 ≤ qtyOf m (l.take i) ∧ qtyOf m (l.take i) ≤ qtyOf m l) ∧ 0 ≤ cntOf m (l.take i) ∧ cntOf m (l.take i) ≤ cntOf m l :=
  ⟨zs_le l (fun t ht => by split; exact (h t ht).1; exact Int.le_refl _) i, zs_le l (fun t ht => by split; exact (h t ht).2; exact Int.le_refl _) i⟩
theorem take_snoc {α : Type} {l : List α} {i : Nat} {x : α} (h : l[i]? = some x) : l.take (i + 1) = l.take i ++ [x] := by
  obtain ⟨hj, he⟩ := List.getElem?_eq_some_iff.1 h
  rw [List.take_succ_eq_append_getElem hj, he]
/-- No unlike ones up to here. -/
def NoneTo (L : List Ev) (i k : Nat) : Prop := (∀ (a b : Nat) (x y : Ev), a < i → b < a → L[a]? = some x → L[b]? = some y → x.key = y.key → x = y) ∧ ∀ (b : Nat) (x y : Ev), b < k → b < i → L[i]? = some x → L[b]? = some y → x.key = y.key → x = y
theorem NoneTo.start (L : List Ev) : NoneTo L 0 0 := ⟨fun a b x y h => absurd h (Nat.not_lt_zero _), fun b x y h => absurd h (Nat.not_lt_zero _)⟩
theorem NoneTo.next {L : List Ev} {i : Nat} (h : NoneTo L i i) : NoneTo L (i + 1) 0 := ⟨fun a b x y h1 h2 hx hy hk => by
  by_cases e : a = i
  · subst e; exact h.2 b x y h2 h2 hx hy hk
  · exact h.1 a b x y (by omega) h2 hx hy hk, fun b x y h => absurd h (Nat.not_lt_zero _)⟩
theorem NoneTo.pair {L : List Ev} {i k : Nat} {x y : Ev} (h : NoneTo L i k) (hx : L[i]? = some x) (hy : L[k]? = some y) (he : x.key = y.key → x = y) : NoneTo L i (k + 1) := ⟨h.1, fun b u v h1 h2 hu hv hk => by
  by_cases e : b = k
  · subst e
    rw [hx] at hu
    rw [hy] at hv
    cases hu
    cases hv
    exact he hk
  · exact h.2 b u v (by omega) h2 hu hv hk⟩
theorem NoneTo.alike {L : List Ev} (h : NoneTo L L.length 0) : Alike L := by
  have key : ∀ (a b : Nat) (x y : Ev), b < a → L[a]? = some x → L[b]? = some y → x.key = y.key → x = y := fun a b x y h1 hx hy hk =>
    h.1 a b x y (List.getElem?_eq_some_iff.1 hx).1 h1 hx hy hk
  intro x hx y hy hk
  obtain ⟨a, ha⟩ := List.getElem?_of_mem hx
  obtain ⟨b, hb⟩ := List.getElem?_of_mem hy
  rcases Nat.lt_trichotomy a b with h1 | rfl | h1
  · exact (key b a y x h1 hb ha hk.symm).symm
  · rw [ha] at hb; cases hb; rfl
  · exact key a b x y h1 ha hb hk
end Go.Proofs.YtkbdofbjfcajbaaGreat
