/- The walk of exref.Rising: texts, rising, each once (as in the meter's seat). -/
import Derived.Test.YthjcolehccbihaaGreatDoorz42
import Derived.Deep.CutRange
import Derived.Deep.CutBlock
set_option linter.unusedSectionVars false
set_option linter.unusedSimpArgs false
set_option linter.unusedVariables false
namespace Go.Proofs.YthjcolehccbihaaGreatDoor
open Go.RowKit Go.Shelf Go.Sort
theorem nodup_len : ∀ {l m : List ByteArray}, l.Nodup → (∀ x, x ∈ l → x ∈ m) → l.length ≤ m.length
  | [], _, _, _ => Nat.zero_le _
  | x :: l, m, hn, h => by
    rw [List.nodup_cons] at hn
    obtain ⟨a, b, rfl⟩ := List.append_of_mem (h x (by simp))
    have := nodup_len (m := a ++ b) hn.2 (fun y hy => by
      have hy2 := h y (by simp [hy])
      rcases List.mem_append.1 hy2 with h1 | h1
      · exact List.mem_append_left _ h1
      · rcases List.mem_cons.1 h1 with rfl | h1
        · exact absurd hy hn.1
        · exact List.mem_append_right _ h1)
    simp only [List.length_append, List.length_cons] at this ⊢
    omega
theorem take_snoc {α : Type} {l : List α} {i : Nat} {x : α} (h : l[i]? = some x) : l.take (i + 1) = l.take i ++ [x] := by
  obtain ⟨hj, he⟩ := List.getElem?_eq_some_iff.1 h
  rw [List.take_succ_eq_append_getElem hj, he]
theorem below_drewN' (W : World) (n : Nat) : Below W.heap.size W (W.drewN n) := ⟨rfl, rfl, rfl, Nat.le_refl _, fun _ _ => rfl⟩
attribute [local go_sem] Oper.semAt_some
attribute [local go_sem] no_callee
/-- Texts, rising, each once. -/
structure Rising (l R : List ByteArray) : Prop where
  up : R.Pairwise (fun a b => slt a b = true)
  mem : ∀ x, x ∈ R ↔ x ∈ l
theorem rising_nil : Rising [] [] := ⟨List.Pairwise.nil, fun _ => Iff.rfl⟩
/-- One text more: it is there; or it comes in between. -/
theorem rising_known {l R : List ByteArray} {x : ByteArray} (h : Rising l R) (hx : x ∈ R) : Rising (l ++ [x]) R := ⟨h.up, fun y => by
  rw [h.mem, List.mem_append, List.mem_singleton]
  exact ⟨.inl, fun e => e.elim id (fun e => by subst e; exact (h.mem _).1 hx)⟩⟩
theorem rising_put {l R : List ByteArray} {x : ByteArray} {at_ : Nat} (h : Rising l R) (hlt : ∀ j y, j < at_ → R[j]? = some y → slt y x = true) (hge : ∀ y, R[at_]? = some y → slt y x = false ∧ y ≠ x) : Rising (l ++ [x]) (R.take at_ ++ x :: R.drop at_) := by
  have hd : ∀ y ∈ R.drop at_, slt x y = true := by
    intro y hy
    cases hr : R.drop at_ with
    | nil => rw [hr] at hy; cases hy
    | cons z rest =>
      have hz : R[at_]? = some z := by
        have : (R.drop at_)[0]? = some z := by rw [hr]; rfl
        rwa [List.getElem?_drop, Nat.add_zero] at this
      have h1 := hge z hz
      have hxz : slt x z = true := by
        cases e : slt x z with
        | true => rfl
        | false => exact absurd (slt_ord.eq _ _ h1.1 e) h1.2
      rw [hr] at hy
      rcases List.mem_cons.1 hy with rfl | hy
      · exact hxz
      · have hp : (R.drop at_).Pairwise (fun a b => slt a b = true) := h.up.sublist (List.drop_sublist _ _)
        rw [hr, List.pairwise_cons] at hp
        exact slt_ord.tr _ _ _ hxz (hp.1 y hy)
  have ht : ∀ y ∈ R.take at_, slt y x = true := by
    intro y hy
    obtain ⟨j, hj⟩ := List.getElem?_of_mem hy
    have hl := (List.getElem?_eq_some_iff.1 hj).1
    rw [List.length_take] at hl
    rw [List.getElem?_take_of_lt (by omega)] at hj
    exact hlt j y (by omega) hj
  refine ⟨?_, fun y => ?_⟩
  · rw [List.pairwise_append, List.pairwise_cons]
    refine ⟨h.up.sublist (List.take_sublist _ _), ⟨hd, h.up.sublist (List.drop_sublist _ _)⟩, fun a ha b hb => ?_⟩
    rcases List.mem_cons.1 hb with rfl | hb
    · exact ht a ha
    · exact slt_ord.tr _ _ _ (ht a ha) (hd b hb)
  · rw [List.mem_append, List.mem_cons, List.mem_append, List.mem_singleton, ← h.mem y]
    have : y ∈ R ↔ y ∈ R.take at_ ∨ y ∈ R.drop at_ := by rw [← List.mem_append, List.take_append_drop]
    rw [this]
    constructor
    · rintro (h | h | h)
      · exact .inl (.inl h)
      · exact .inr h
      · exact .inl (.inr h)
    · rintro ((h | h) | h)
      · exact .inl h
      · exact .inr (.inr h)
      · exact .inr (.inl h)
section
variable {α : Type} {ek : ElKind α} {w : World} {xs : List α}
theorem rd_take {a : Option Addr} {c : Nat} (h : RdAt ek w (.slice a xs.length c) xs) {k : Nat} (hk : k ≤ xs.length) (c' : Nat) : RdAt ek w (.slice a k c') (xs.take k) := by
  obtain ⟨a', cap', hv, hc⟩ := h
  simp only [Value.slice.injEq] at hv
  obtain ⟨rfl, -, rfl⟩ := hv
  refine ⟨a, c', by rw [List.length_take, Nat.min_eq_left hk], fun j x hx => hc j x ?_⟩
  have hl := (List.getElem?_eq_some_iff.1 hx).1
  rw [List.length_take] at hl
  rw [List.getElem?_take_of_lt (by omega)] at hx
  exact hx
theorem rd_drop {g off c : Nat} (h : RdAt ek w (.slice (some ⟨g, off, none⟩) xs.length c) xs) (k c' n off' : Nat) (hn : n = xs.length - k) (ho : off' = off + k * ek.size) : RdAt ek w (.slice (some ⟨g, off', none⟩) n c') (xs.drop k) := by
  subst hn
  subst ho
  obtain ⟨a', cap', hv, hc⟩ := h
  simp only [Value.slice.injEq] at hv
  obtain ⟨rfl, -, rfl⟩ := hv
  refine ⟨_, c', by rw [List.length_drop], fun j x hx => ?_⟩
  rw [List.getElem?_drop] at hx
  obtain ⟨g', off', hg, hcell⟩ := hc (k + j) x hx
  simp only [Option.some.injEq, Addr.mk.injEq, and_true] at hg
  obtain ⟨rfl, rfl⟩ := hg
  refine ⟨_, _, rfl, fun i hi => ?_⟩
  have := hcell i hi
  rw [Nat.add_mul] at this
  rw [show off + k * ek.size + j * ek.size + i = off + (k * ek.size + j * ek.size) + i from by omega]
  exact this
theorem rd_empty (a : Option Addr) (c : Nat) : RdAt ek w (.slice a 0 c) ([] : List α) := ⟨a, c, rfl, fun j x hx => by simp at hx⟩
end
theorem infoTx : (Tryz.prog.info? 9).map (fun i => (i.zero, i.size, i.bytes)) = some (some (.string ⟨#[]⟩), 1, 16) := by kernel_rfl
theorem append_tx {w : World} {v u : Value} {xs ys : List ByteArray} (hv : SlAt textKind 9 w v xs) (hu : RdAt textKind w u ys) (hn : xs.length + ys.length ≤ 1000000) (ty : TypeId) :
    ∃ v' w', (Builtin.append_ #[23, 23] ty #[v, u]).run Tryz.prog w = .ok v' w' ∧ SlAt textKind 9 w' v' (xs ++ ys) ∧ Keeps (fun k => v.ownBlock = some k) w w' ∧
      (∀ k, v'.ownBlock = some k → v.ownBlock = some k ∨ w.heap.size ≤ k) := by
  obtain ⟨i, hi, hz, hs, hb⟩ := info_parts infoTx
  obtain ⟨v', w', h1, h2, h3, h4, _⟩ := run_append_sl (ek := textKind) (P := Tryz.prog) 23 ty i _ 16 Tryz.underlying23 hi hz hs hb rfl hv hu (by unfold maxLen; omega) (by omega)
  exact ⟨v', w', h1, h2, h3, h4⟩
theorem one_tx (w : World) (x : ByteArray) : RdAt textKind (w.alloc (.cells #[.string x] 9)) (.slice (some ⟨w.heap.size, 0, none⟩) 1 1) [x] := by
  refine ⟨_, _, rfl, fun j y hy => ?_⟩
  obtain ⟨rfl, rfl⟩ : j = 0 ∧ y = x := by
    cases j with
    | zero => simp at hy; exact ⟨rfl, hy.symm⟩
    | succ j => simp at hy
  refine ⟨_, _, rfl, fun i hi => ?_⟩
  rw [show 0 + 0 * textKind.size + i = i from by omega, blk_cell (blk_new w _)]
  obtain rfl : i = 0 := by have : i < 1 := hi; omega
  rfl
theorem none_tx (w : World) : SlAt textKind 9 (w.alloc (.cells #[] 9)) (.slice (some ⟨w.heap.size, 0, none⟩) 0 0) ([] : List ByteArray) :=
  .inr ⟨_, 0, 0, _, rfl, blk_new w _, Nat.le_refl _, by decide, by simp, fun i hi => by simp at hi⟩
theorem rdt_cell {w : World} {a : Option Addr} {cap : Nat} {L : List ByteArray} (h : RdAt textKind w (.slice a L.length cap) L) {j : Nat} {x : ByteArray} (hx : L[j]? = some x) :
    ∃ g off, a = some ⟨g, off, none⟩ ∧ w.cell? ⟨g, off + j, none⟩ = some (.string x) := by
  obtain ⟨a', cap', hv, hc⟩ := h
  simp only [Value.slice.injEq] at hv
  obtain ⟨rfl, -, rfl⟩ := hv
  obtain ⟨g, off, ha, hcell⟩ := hc j x hx
  have h0 := hcell 0 (by decide)
  rw [show off + j * textKind.size + 0 = off + j from by show off + j * 1 + 0 = _; omega] at h0
  exact ⟨g, off, ha, h0⟩
theorem rising_len {l R : List ByteArray} (h : Rising l R) : R.length ≤ l.length := by
  refine nodup_len ?_ (fun x hx => (h.mem x).1 hx)
  unfold List.Nodup
  refine h.up.imp ?_
  intro a b hab e
  rw [e, slt_ord.irr] at hab
  cases hab
/-- As texts come in. -/
structure RsI (w : World) (v : Value) (l : List ByteArray) (q : Nat) (wr : World) (R : List ByteArray) : Prop where
  sl : SlAt textKind 9 wr v R
  ri : Rising (l.take q) R
  new : ∀ g, v.ownBlock = some g → w.heap.size ≤ g
  below : Below w.heap.size w wr
theorem RsI.ext {w wr w' : World} {v : Value} {l R : List ByteArray} {q : Nat} (h : RsI w v l q wr R) (hb : Below wr.heap.size wr w') : RsI w v l q w' R :=
  ⟨h.sl.below hb, h.ri, h.new, h.below.trans (hb.mono h.below.size)⟩
/-- Three appends: a front, one more, the rest. -/
theorem RsI.put {w wr : World} {v : Value} {l R : List ByteArray} {q k : Nat} {x : ByteArray} (h : RsI w v l q wr R) (hx : l[q]? = some x) (hk : k ≤ R.length) (hl : l.length ≤ 1000)
    (hlt : ∀ j y, j < k → R[j]? = some y → slt y x = true) (hge : ∀ y, R[k]? = some y → slt y x = false ∧ y ≠ x) {u1 : Value} (hu1 : RdAt textKind wr u1 (R.take k)) {u3 : Value} (hu3 : RdAt textKind wr u3 (R.drop k)) (ho3 : ∀ g, u3.ownBlock = some g → g < wr.heap.size) :
    ∃ v1 w1 v2 w2 v3 w3, (Builtin.append_ #[23, 23] 23 #[.slice (some ⟨wr.heap.size, 0, none⟩) 0 0, u1]).run Tryz.prog (wr.alloc (.cells #[] 9)) = .ok v1 w1 ∧
      (Builtin.append_ #[23, 23] 23 #[v1, .slice (some ⟨w1.heap.size, 0, none⟩) 1 1]).run Tryz.prog (w1.alloc (.cells #[.string x] 9)) = .ok v2 w2 ∧
      (Builtin.append_ #[23, 23] 23 #[v2, u3]).run Tryz.prog w2 = .ok v3 w3 ∧ Hid (RsI w v3 l (q + 1) w3 (R.take k ++ x :: R.drop k)) ∧ Hid (Below w.heap.size w w1 ∧ Below w.heap.size w w2 ∧ Below w.heap.size w w3) := by
  have hR := rising_len h.ri
  rw [List.length_take] at hR
  have ha1 : Below wr.heap.size wr (wr.alloc (.cells #[] 9)) := (Below.refl _ _).alloc (Nat.le_refl _) _
  obtain ⟨v1, w1, hr1, hs1, hk1, ho1⟩ := append_tx (none_tx wr) (hu1.below ha1) (by rw [List.length_take]; simp only [List.length_nil]; omega) 23
  have hn1 : ∀ g, v1.ownBlock = some g → wr.heap.size ≤ g := fun g hg => by
    rcases ho1 g hg with e | e
    · have e2 : wr.heap.size = g := by simpa [Value.ownBlock] using e
      omega
    · have := ha1.size; omega
  have b1 : Below wr.heap.size wr w1 := below_keeps ha1 hk1 (fun i e => by have e2 : wr.heap.size = i := (by simpa [Value.ownBlock] using e); omega) ha1.size
  have ha2 : Below w1.heap.size w1 (w1.alloc (.cells #[.string x] 9)) := (Below.refl _ _).alloc (Nat.le_refl _) _
  obtain ⟨v2, w2, hr2, hs2, hk2, ho2⟩ := append_tx (hs1.below ha2) (one_tx w1 x) (by simp only [List.nil_append, List.length_take, List.length_cons, List.length_nil]; omega) 23
  have b2 : Below wr.heap.size wr w2 := below_keeps (b1.trans (ha2.mono b1.size)) hk2 (fun i e => hn1 i e) (Nat.le_trans b1.size ha2.size)
  have hn2 : ∀ g, v2.ownBlock = some g → wr.heap.size ≤ g := fun g hg => by
    rcases ho2 g hg with e | e
    · exact hn1 g e
    · have := ha2.size; have := b1.size; omega
  have hu3' : RdAt textKind w2 u3 (R.drop k) := hu3.below b2
  obtain ⟨v3, w3, hr3, hs3, hk3, ho3⟩ := append_tx hs2 hu3' (by simp only [List.nil_append, List.length_append, List.length_take, List.length_drop, List.length_cons, List.length_nil]; omega) 23
  have b3 : Below wr.heap.size wr w3 := below_keeps b2 hk3 (fun i e => hn2 i e) b2.size
  have up : ∀ {w'}, Below wr.heap.size wr w' → Below w.heap.size w w' := fun hb => h.below.trans (hb.mono h.below.size)
  refine ⟨v1, w1, v2, w2, v3, w3, hr1, hr2, hr3, Lib.hid ⟨?_, ?_, fun g hg => ?_, up b3⟩, Lib.hid ⟨up b1, up b2, up b3⟩⟩
  · have e : [] ++ List.take k R ++ [x] ++ List.drop k R = List.take k R ++ x :: List.drop k R := by simp
    rw [← e]; exact hs3
  · rw [take_snoc hx]; exact rising_put h.ri hlt hge
  · rcases ho3 g hg with e | e
    · exact Nat.le_trans h.below.size (hn2 g e)
    · exact Nat.le_trans h.below.size (Nat.le_trans b2.size e)
def RisePost (w : World) (l : List ByteArray) (e : Ending) (w' : World) : Prop := ∃ u R, e = .returned u ∧ RsI w u l l.length w' R
set_option maxRecDepth 100000 in
set_option maxHeartbeats 4000000 in
theorem r_rising (w : World) (a : Option Addr) (cap : Nat) (l : List ByteArray) (h : RdAt textKind w (.slice a l.length cap) l) (hl : l.length ≤ 1000) :
    Calls Tryz.prog 85 #[.slice a l.length cap] w (RisePost w l) := by
  have HL := Lib.hid h
  have HN := Lib.hid hl
  have hli : (l.length : Int) ≤ 1000 := by omega
  clear h hl
  go_enter Tryz.func85, Tryz.ntmps85
  go_wp2_with (fail)
  go_loopw [3, 4, 5, 6] (fun ov iv _ _ wr => ∃ (q : Nat) (R : List ByteArray) (oa : Option Addr) (oc : Nat), q ≤ l.length ∧ iv = .int .i64 q ∧ ov = .slice oa R.length oc ∧ Hid (RsI w (.slice oa R.length oc) l q wr R)) (fun _ iv _ _ _ => l.length - (intOf iv).toNat)
  case atStart => exact ⟨0, [], none, 0, Nat.zero_le _, rfl, rfl, Lib.hid ⟨SlAt.nil, rising_nil, fun g hg => (by cases hg), Below.refl _ _⟩⟩
  case round =>
    obtain ⟨q, R, oa, oc, hq, rfl, rfl, HI⟩ := hrel
    have hR : (R.length : Int) ≤ 1000 := by have := rising_len HI.out.ri; rw [List.length_take] at this; omega
    by_cases hql : q < l.length
    · have q1 : (0 : Int) ≤ (q : Int) := by omega
      have q2 : (q : Int) < (l.length : Int) := by omega
      obtain ⟨x, hx⟩ : ∃ x, l[q]? = some x := ⟨_, List.getElem?_eq_getElem hql⟩
      have HX := Lib.hid hx
      obtain ⟨g, off, rfl, d0⟩ := rdt_cell HL.out hx
      have CELL : Hid (∀ W, Below w.heap.size w W → W.cell? ⟨g, off + q, none⟩ = some (.string x)) := Lib.hid fun W hW => (hW.cell (p := ⟨g, off + q, none⟩) (World.block_lt_of_cell? w _ d0)).trans d0
      clear hx d0
      obtain ⟨wo, rfl⟩ : ∃ wo : World, wo = wr := ⟨_, rfl⟩
      go_upto_block 2 with (fail)
      go_cut [5] from 7 to 61 (fun kv wx => ∃ k : Nat, kv = .int .i64 k ∧ k ≤ R.length ∧ Hid ((∀ j y, j < k → R[j]? = some y → slt y x = true) ∧ (∀ y, R[k]? = some y → slt y x = false) ∧ RsI w (.slice oa R.length oc) l q wx R))
      case first => as_aux_lemma =>
        go_wp2_with (fail)
        go_loopw [5] (fun kv wr => ∃ k : Nat, kv = .int .i64 k ∧ k ≤ R.length ∧ Hid ((∀ j y, j < k → R[j]? = some y → slt y x = true) ∧ RsI w (.slice oa R.length oc) l q wr R)) (fun kv _ => R.length - (intOf kv).toNat)
        case atStart => exact ⟨0, rfl, Nat.zero_le _, Lib.hid ⟨fun j y hj => absurd hj (Nat.not_lt_zero _), HI.out⟩⟩
        case round =>
          obtain ⟨k, rfl, hk, HJ⟩ := hrel
          have k1 : (0 : Int) ≤ (k : Int) := by omega
          have HDN : Hid (∀ n, RsI w (.slice oa R.length oc) l q (wr.drewN n) R) := Lib.hid fun n => HJ.out.2.ext (below_drewN' wr n)
          by_cases hkl : k < R.length
          · have k2 : (k : Int) < (R.length : Int) := by omega
            obtain ⟨y, hy⟩ : ∃ y, R[k]? = some y := ⟨_, List.getElem?_eq_getElem hkl⟩
            obtain ⟨og, oo, rfl, e0⟩ := rdt_cell HJ.out.2.sl.rd hy
            have d0 := CELL.out _ HJ.out.2.below
            cases hlt : slt y x with
            | true =>
              have f1 : Op.bytesLess y.toList x.toList = true := hlt
              have HNX : Hid (∀ j z, j < k + 1 → R[j]? = some z → slt z x = true) := Lib.hid fun j z hj hz => by
                by_cases e : j = k
                · subst e; rw [hy] at hz; cases hz; exact hlt
                · exact HJ.out.1 j z (by omega) hz
              clear hlt hy
              go_wp2_with (fail)
              go_quiet (fail)
              go_wp2_with (fail)
              go_roundw
              case rel => exact ⟨k + 1, by go_num, by omega, Lib.hid ⟨HNX.out, HDN.out _⟩⟩
              case measure => simp [intOf]; omega
            | false =>
              have f1 : Op.bytesLess y.toList x.toList = false := hlt
              have HNX : Hid (∀ z, R[k]? = some z → slt z x = false) := Lib.hid fun z hz => by rw [hy] at hz; cases hz; exact hlt
              clear hlt hy
              go_wp2_with (fail)
              go_quiet (fail)
              go_wp2_with (fail)
              go_meet
              exact ⟨k, rfl, hk, Lib.hid ⟨HJ.out.1, HNX.out, HDN.out _⟩⟩
          · have k2 : ¬ (k : Int) < (R.length : Int) := by omega
            have HNX : Hid (∀ z, R[k]? = some z → slt z x = false) := Lib.hid fun z hz => by have := (List.getElem?_eq_some_iff.1 hz).1; omega
            have fd : decide (k < R.length) = false := decide_eq_false hkl
            go_wp2_with (fail)
            go_quiet (fail)
            go_wp2_with (fail)
            go_meet
            exact ⟨k, rfl, hk, Lib.hid ⟨HJ.out.1, HNX.out, HDN.out _⟩⟩
      case rest =>
        obtain ⟨k, rfl, hk, HK⟩ := hcut
        have k1 : (0 : Int) ≤ (k : Int) := by omega
        have HDN : Hid (∀ n, RsI w (.slice oa R.length oc) l q (wc.drewN n) R) := Lib.hid fun n => HK.out.2.2.ext (below_drewN' wc n)
        have d0 := CELL.out _ HK.out.2.2.below
        by_cases hin : ∃ y, R[k]? = some y ∧ y = x
        · obtain ⟨y, hy, rfl⟩ := hin
          have k2 : (k : Int) < (R.length : Int) := by have := (List.getElem?_eq_some_iff.1 hy).1; omega
          obtain ⟨og, oo, rfl, e0⟩ := rdt_cell HK.out.2.2.sl.rd hy
          have HRI : Hid (∀ n, RsI w (.slice (some ⟨og, oo, none⟩) R.length oc) l (q + 1) (wc.drewN n) R) := Lib.hid fun n => { HDN.out n with ri := by rw [take_snoc HX.out]; exact rising_known (HDN.out n).ri (List.mem_of_getElem? hy) }
          clear hy
          go_wp2_with (fail)
          go_quiet (fail)
          go_wp2_with (fail)
          go_roundw
          case rel => exact ⟨q + 1, R, _, oc, by omega, by go_num, rfl, HRI.out _⟩
          case measure => simp [intOf]; omega
        · go_upto_region 8 with (fail)
          go_cut [44] from 7 to 61 (fun b wx => b = .bool false ∧ Hid (RsI w (.slice oa R.length oc) l q wx R))
          case first => as_aux_lemma =>
            by_cases hkl : k < R.length
            · have k2 : (k : Int) < (R.length : Int) := by omega
              obtain ⟨y, hy⟩ : ∃ y, R[k]? = some y := ⟨_, List.getElem?_eq_getElem hkl⟩
              obtain ⟨og, oo, rfl, e0⟩ := rdt_cell HK.out.2.2.sl.rd hy
              have hne : (y.toList == x.toList) = false := beq_eq_false_iff_ne.2 (fun e => hin ⟨y, hy, str_inj e⟩)
              clear hy hin
              go_wp2_with (fail)
              go_quiet (fail)
              go_wp2_with (fail)
              go_meet
              exact ⟨rfl, HDN.out _⟩
            · have k2 : ¬ (k : Int) < (R.length : Int) := by omega
              have fd : decide (k < R.length) = false := decide_eq_false hkl
              clear hin
              go_wp2_with (fail)
              go_quiet (fail)
              go_wp2_with (fail)
              go_meet
              exact ⟨rfl, HDN.out _⟩
          case rest =>
            obtain ⟨rfl, HW⟩ := hcut
            have HIN := Lib.hid hin
            have hge : ∀ y, R[k]? = some y → slt y x = false ∧ y ≠ x := fun y hy => ⟨HK.out.2.1 y hy, fun e => hin ⟨y, hy, e⟩⟩
            clear hin
            have d1 := CELL.out _ HW.out.below
            rcases HW.out.sl with ⟨hv, hR0⟩ | ⟨og, oo, oc', cur, hv, hgb, hcl, hcm, hcs, -⟩
            · simp only [Value.slice.injEq] at hv
              obtain ⟨rfl, -, rfl⟩ := hv
              subst hR0
              obtain rfl : k = 0 := by simpa using hk
              obtain ⟨v1, w1, v2, w2, v3, w3, hr1, hr2, hr3, HF, HBB⟩ := HW.out.put HX.out (Nat.zero_le _) (by have := HN.out; omega) HK.out.1 hge (u1 := .slice none 0 0) (rd_empty none 0) (u3 := .slice none 0 0) (rd_empty none 0) (fun g hg => by cases hg)
              have f1 := CELL.out _ HBB.out.1
              obtain ⟨a3, c3, rfl⟩ := HF.out.sl.shape
              have HFR : Hid (([] : List ByteArray).take 0 ++ x :: [].drop 0 = [x]) := Lib.hid rfl
              rw [HFR.out] at HF hr3
              clear hge
              go_wp2_with (first | (at_builtin; refine wpList_append_run rfl (.tmp 45) (.tmp 48) 23 rfl _ _ rfl rfl _ _ hr1 ?_) | (at_builtin; refine wpList_append_run rfl (.tmp 50) (.tmp 55) 23 rfl _ _ rfl rfl _ _ hr2 ?_) | (at_builtin; refine wpList_append_run rfl (.tmp 57) (.tmp 60) 23 rfl _ _ rfl rfl _ _ hr3 ?_))
              go_roundw
              case rel => exact ⟨q + 1, [x], _, c3, by omega, by go_num, rfl, HF⟩
              case measure => simp [intOf]; omega
            · simp only [Value.slice.injEq] at hv
              obtain ⟨rfl, -, rfl⟩ := hv
              have hcx : (oc : Int) ≤ 9223372036854775807 := by unfold maxLen at hcm; omega
              have k2 : (k : Int) ≤ (oc : Int) := by omega
              have k3 : (k : Int) ≤ (R.length : Int) := by omega
              have k4 : (R.length : Int) ≤ (oc : Int) := by omega
              have HRT := Lib.hid (rd_take HW.out.sl.rd hk oc)
              by_cases hkc : k = oc
              · obtain rfl : R.length = k := by omega
                obtain rfl : R.length = oc := hkc
                have HRD : Hid (RdAt textKind wc (.slice (some ⟨og, oo, none⟩) 0 0) (R.drop R.length)) := Lib.hid (by rw [List.drop_length]; exact rd_empty _ _)
                obtain ⟨v1, w1, v2, w2, v3, w3, hr1, hr2, hr3, HF, HBB⟩ := HW.out.put HX.out hk (by have := HN.out; omega) HK.out.1 hge (u1 := .slice (some ⟨og, oo, none⟩) R.length R.length) HRT.out (u3 := .slice (some ⟨og, oo, none⟩) 0 0) HRD.out (fun g hg => by have : og = g := (by simpa [Value.ownBlock] using hg); rw [← this]; exact lt_of_block hgb)
                have f1 := CELL.out _ HBB.out.1
                obtain ⟨a3, c3, rfl⟩ := HF.out.sl.shape
                obtain ⟨R2, hR2⟩ : ∃ R2, R2 = R.take R.length ++ x :: R.drop R.length := ⟨_, rfl⟩
                rw [← hR2] at HF hr3
                clear hge hR2
                go_wp2_with (first | (at_builtin; refine wpList_append_run rfl (.tmp 45) (.tmp 48) 23 rfl _ _ rfl rfl _ _ hr1 ?_) | (at_builtin; refine wpList_append_run rfl (.tmp 50) (.tmp 55) 23 rfl _ _ rfl rfl _ _ hr2 ?_) | (at_builtin; refine wpList_append_run rfl (.tmp 57) (.tmp 60) 23 rfl _ _ rfl rfl _ _ hr3 ?_))
                go_roundw
                case rel => exact ⟨q + 1, R2, _, c3, by omega, by go_num, rfl, HF⟩
                case measure => simp [intOf]; omega
              · have HRD := Lib.hid (rd_drop HW.out.sl.rd k (oc - k) (R.length - k) (oo + k) rfl (by show oo + k = oo + k * 1; omega))
                obtain ⟨v1, w1, v2, w2, v3, w3, hr1, hr2, hr3, HF, HBB⟩ := HW.out.put HX.out hk (by have := HN.out; omega) HK.out.1 hge (u1 := .slice (some ⟨og, oo, none⟩) k oc) HRT.out (u3 := .slice (some ⟨og, oo + k, none⟩) (R.length - k) (oc - k)) HRD.out (fun g hg => by have : og = g := (by simpa [Value.ownBlock] using hg); rw [← this]; exact lt_of_block hgb)
                have f1 := CELL.out _ HBB.out.1
                obtain ⟨a3, c3, rfl⟩ := HF.out.sl.shape
                obtain ⟨R2, hR2⟩ : ∃ R2, R2 = R.take k ++ x :: R.drop k := ⟨_, rfl⟩
                rw [← hR2] at HF hr3
                have HR2 := Lib.hid hR2
                have k5 : ¬ (k : Int) = (oc : Int) := by omega
                clear hge hR2
                go_wp2_with (first | (at_builtin; refine wpList_append_run rfl (.tmp 45) (.tmp 48) 23 rfl _ _ rfl rfl _ _ hr1 ?_) | (at_builtin; refine wpList_append_run rfl (.tmp 50) (.tmp 55) 23 rfl _ _ rfl rfl _ _ hr2 ?_) | (at_builtin; refine wpList_append_run rfl (.tmp 57) (.tmp 60) 23 rfl _ _ rfl rfl _ _ hr3 ?_))
                go_roundw
                case rel => exact ⟨q + 1, R2, _, c3, by omega, by go_num, rfl, HF⟩
                case measure => simp [intOf]; omega
    · have q2 : ¬ (q : Int) < (l.length : Int) := by omega
      have hqe : q = l.length := by omega
      subst hqe
      go_wp2_with (fail)
      go_ret
      exact ⟨_, R, rfl, HI.out⟩
end Go.Proofs.YthjcolehccbihaaGreatDoor
