/- The statement TableOrder, walked. -/
import Derived.Test.YtndaacojbbmcnaaO3
namespace Go.Proofs.Ytndaacojbbmcnaa.Oi
open Go.RowKit Go.RwLone Go.Shelf Go.Proofs.Ytndaacojbbmcnaa
attribute [local go_sem] Oper.semAt_some

theorem eg41 : ∀ args w, (callFunc 41 args).run Try.prog w = .ok (.enter 41 args) w := enters_of Try.func41 (by kernel_rfl) rfl
theorem iter_tall {w : World} {bb tb : Nat} {t : Tr Int ByteArray} {ver : Int} (hb : IsBlk w bb #[.pointer (some ⟨tb, 0, none⟩)] 40) (hs : STab w tb t ver) :
    IterC Try.prog 41 #[.pointer (some ⟨bb, 0, none⟩)] encKV KeepW t.ino w :=
  fun l J Jx W hW hg hr h0 => q_tall l J Jx ⟨hg, hr⟩ bb tb W ((hW.block _ (lt_of_block hb)).trans hb) (hs.below hW) h0
theorem keepW_put {W : World} {l : Nat} {r : Loop} (o : Obj) (h : W.heap[l]? = some (.loop r)) : KeepW W (W.putObj l o) := by
  intro T _ b cs hb
  have hne : b ≠ l := by
    rintro rfl
    have := h.symm.trans hb
    simp at this
  exact (World.putObj_heap_other hne).trans hb
theorem keepW_keeps {S : Nat → Prop} {A B : World} (h : Keeps S A B) (hS : ∀ T, T ∈ [116, 9, 90, 118, 40] → ∀ b cs, IsBlk A b cs T → ¬ S b) : KeepW A B :=
  fun T hT => KeepT.of_keeps h (hS T hT)

/-- Two tables. -/
structure OrA (w : World) (ta tb : Nat) (tA tB : Tr Int ByteArray) (va vb : Int) (W : World) : Prop where
  a : STab W ta tA va
  b : STab W tb tB vb
  ne : ta ≠ tb
  ga : w.heap.size ≤ ta
  gb : w.heap.size ≤ tb
  bel : Below w.heap.size w W
theorem OrA.ext {w : World} {ta tb : Nat} {tA tB : Tr Int ByteArray} {va vb : Int} {A B : World} (h : OrA w ta tb tA tB va vb A) (hk : Below A.heap.size A B) : OrA w ta tb tA tB va vb B :=
  ⟨h.a.below hk, h.b.below hk, h.ne, h.ga, h.gb, h.bel.trans (hk.mono h.bel.size)⟩
theorem tab_other {W W' : World} {ta tb : Nat} {t : Tr Int ByteArray} {v : Int} {t2 : Tr Int ByteArray} {v2 : Int} (h : STab W tb t v) (hk : Keeps (Only ta) W W') (hne : ta ≠ tb) (ha : STab W ta t2 v2) : STab W' tb t v := by
  obtain ⟨root, hb, _⟩ := ha.ex
  exact h.keeps hk (fun e => hne (show tb = ta from e).symm) (fun b cs hi e => ne_of_type hi hb (by decide) e)
theorem OrA.putA {w : World} {ta tb : Nat} {tA tA' tB : Tr Int ByteArray} {va va' vb : Int} {A B : World} (h : OrA w ta tb tA tB va vb A) (hk : Keeps (Only ta) A B) (ht : STab B ta tA' va') : OrA w ta tb tA' tB va' vb B :=
  ⟨ht, tab_other h.b hk h.ne h.a, h.ne, h.ga, h.gb, below_keeps h.bel hk (fun k e => by have : k = ta := e; have := h.ga; omega) h.bel.size⟩
theorem OrA.putB {w : World} {ta tb : Nat} {tA tB' tB : Tr Int ByteArray} {va vb vb' : Int} {A B : World} (h : OrA w ta tb tA tB va vb A) (hk : Keeps (Only tb) A B) (ht : STab B tb tB' vb') : OrA w ta tb tA tB' va vb' B :=
  ⟨tab_other h.a hk (fun e => h.ne e.symm) h.b, ht, h.ne, h.ga, h.gb, below_keeps h.bel hk (fun k e => by have : k = tb := e; have := h.gb; omega) h.bel.size⟩
theorem OrA.keeps {w : World} {ta tb : Nat} {tA tB : Tr Int ByteArray} {va vb : Int} {A B : World} {S : Nat → Prop} {T : TypeId} (h : OrA w ta tb tA tB va vb A) (hk : Keeps S A B) (hS : ∀ k, S k → w.heap.size ≤ k ∧ ∃ cs, IsBlk A k cs T) (h1 : 87 ≠ T) (h2 : 116 ≠ T) : OrA w ta tb tA tB va vb B := by
  obtain ⟨ra, ha, _⟩ := h.a.ex
  obtain ⟨rb, hb, _⟩ := h.b.ex
  have ne : ∀ (b : Nat) (cs : Array Value) (U : TypeId), IsBlk A b cs U → U ≠ T → ¬ S b := fun b cs U hb hU e => by obtain ⟨ds, hd⟩ := (hS b e).2; exact ne_of_type hb hd hU rfl
  exact ⟨h.a.keeps hk (ne _ _ _ ha h1) (fun b cs hi => ne b cs _ hi h2), h.b.keeps hk (ne _ _ _ hb h1) (fun b cs hi => ne b cs _ hi h2), h.ne, h.ga, h.gb, below_keeps h.bel hk (fun k e => (hS k e).1) h.bel.size⟩
theorem OrA.loop {w : World} {ta tb : Nat} {tA tB : Tr Int ByteArray} {va vb : Int} {A B : World} {l : Nat} (h : OrA w ta tb tA tB va vb A) (hk : Keeps (LoopAt l A) A B) (hl : w.heap.size ≤ l) : OrA w ta tb tA tB va vb B := by
  obtain ⟨ra, ha, _⟩ := h.a.ex
  obtain ⟨rb, hb, _⟩ := h.b.ex
  exact ⟨h.a.keeps hk (loopAt_not ha) (fun b cs hi => loopAt_not hi), h.b.keeps hk (loopAt_not hb) (fun b cs hi => loopAt_not hi), h.ne, h.ga, h.gb, below_keeps h.bel hk (fun k e => by have := e.1; omega) h.bel.size⟩
/-- The two tables; two boxes, each with a slice of ints: one that grows, and another one. -/
structure OrX (w : World) (ta tb : Nat) (tA tB : Tr Int ByteArray) (va vb : Int) (qx qy B : Nat) (xv yv : Value) (xs ys : List Int) (ms : List Nat) (W : World) : Prop where
  a : OrA w ta tb tA tB va vb W
  zx : IsBlk W qx #[xv] 39
  zy : IsBlk W qy #[yv] 39
  rx : RowOf encI 3 1 W B xv xs
  ry : RowOf encI 3 1 W 0 yv ys
  oth : ∀ k, yv.ownBlock = some k → k < B
  mark : ∀ m ∈ ms, W.heap[m]? = some (.deferred (some []))
section
variable {w : World} {ta tb : Nat} {tA tB : Tr Int ByteArray} {va vb : Int} {qx qy B : Nat} {xv yv : Value} {xs ys : List Int} {ms : List Nat} {A C : World}
theorem OrX.ext (h : OrX w ta tb tA tB va vb qx qy B xv yv xs ys ms A) (hk : Below A.heap.size A C) : OrX w ta tb tA tB va vb qx qy B xv yv xs ys ms C :=
  ⟨h.a.ext hk, (hk.block _ (lt_of_block h.zx)).trans h.zx, (hk.block _ (lt_of_block h.zy)).trans h.zy, h.rx.below hk, h.ry.below hk, h.oth, fun m hm => (hk.block _ (lt_of_block (h.mark m hm))).trans (h.mark m hm)⟩
theorem OrX.loop {l : Nat} (h : OrX w ta tb tA tB va vb qx qy B xv yv xs ys ms A) (hk : Keeps (LoopAt l A) A C) (hl : w.heap.size ≤ l) : OrX w ta tb tA tB va vb qx qy B xv yv xs ys ms C :=
  ⟨h.a.loop hk hl, hk.obj h.zx (loopAt_not h.zx), hk.obj h.zy (loopAt_not h.zy), h.rx.keeps hk (fun g hg => by obtain ⟨cs, hc⟩ := row_blk h.rx g hg; exact loopAt_not hc), h.ry.keeps hk (fun g hg => by obtain ⟨cs, hc⟩ := row_blk h.ry g hg; exact loopAt_not hc), h.oth,
    fun m hm => hk.obj (h.mark m hm) (by
      rintro ⟨_, r, hr⟩
      have := (h.mark m hm).symm.trans hr
      simp at this)⟩
theorem mark_not {W : World} {m : Nat} {b : Nat} {cs : Array Value} {T : TypeId} (h : W.heap[m]? = some (.deferred (some []))) (hb : IsBlk W b cs T) : m ≠ b := by
  rintro rfl
  have := h.symm.trans hb
  simp at this
/-- One int more in the slice that grows. -/
theorem OrX.more {g cap : Nat} {zs : List Int} (h : OrX w ta tb tA tB va vb qx qy B xv yv xs ys ms A) (hk : Keeps (fun k => xv.ownBlock = some k) A C) (hr : RowOf encI 3 1 C B (.slice (some ⟨g, 0, none⟩) zs.length cap) zs)
    (hq : qx ≠ qy) (hw : w.heap.size ≤ qx) (hB : w.heap.size ≤ B) :
    OrX w ta tb tA tB va vb qx qy B (.slice (some ⟨g, 0, none⟩) zs.length cap) yv zs ys ms (C.setCell ⟨qx, 0, none⟩ (.slice (some ⟨g, 0, none⟩) zs.length cap)) ∧ KeepW A (C.setCell ⟨qx, 0, none⟩ (.slice (some ⟨g, 0, none⟩) zs.length cap)) ∧
      ∀ k, k < B → k ≠ qx → k < A.heap.size → (C.setCell ⟨qx, 0, none⟩ (.slice (some ⟨g, 0, none⟩) zs.length cap)).heap[k]? = A.heap[k]? := by
  have hb := row_blk h.rx
  have own := h.rx.own
  have k2 : Keeps (Only qx) C (C.setCell ⟨qx, 0, none⟩ (.slice (some ⟨g, 0, none⟩) zs.length cap)) := keeps_set _ _ _ _
  have zx := blk_keepT hk hb h.zx (by decide)
  have S2 : ∀ k, Only qx k → w.heap.size ≤ k ∧ ∃ cs, IsBlk C k cs 39 := fun k e => by have : k = qx := e; subst this; exact ⟨hw, _, zx⟩
  have ry1 : RowOf encI 3 1 C 0 yv ys := h.ry.keeps hk (fun g' hg' e => by have := h.oth _ hg'; have := (own _ e).1; omega)
  refine ⟨⟨(h.a.keeps hk (T := 3) (fun k e => ⟨by have := (own k e).1; omega, hb k e⟩) (by decide) (by decide)).keeps k2 S2 (by decide) (by decide), blk_set zx 0 _, k2.obj (blk_keepT hk hb h.zy (by decide)) (fun e => hq (show qy = qx from e).symm),
    row_keepT k2 (fun k e => (S2 k e).2) hr (by decide), row_keepT k2 (fun k e => (S2 k e).2) ry1 (by decide), h.oth, fun m hm => ?_⟩, ?_, ?_⟩
  · have m1 := hk.obj (h.mark m hm) (fun e => by obtain ⟨cs, hc⟩ := hb m e; exact mark_not (h.mark m hm) hc rfl)
    exact k2.obj m1 (fun e => mark_not m1 zx e)
  · refine KeepW.trans (keepW_keeps hk (fun T hT b cs hi e => ?_)) (keepW_keeps k2 (fun T hT b cs hi e => ne_of_type hi zx (by rintro rfl; simp at hT) e))
    obtain ⟨ds, hd⟩ := hb b e
    exact ne_of_type hi hd (by rintro rfl; simp at hT) rfl
  · intro k hkB hkq hkA
    have hs := hk.size
    exact (k2.block k (by omega) hkq).trans (hk.block k hkA (fun e => by have := (own k e).1; omega))
/-- Now the other one grows, that is empty as yet. -/
theorem OrX.turn (h : OrX w ta tb tA tB va vb qx qy B xv (.slice none 0 0) xs [] ms A) {B' : Nat} (hB : A.heap.size ≤ B') : OrX w ta tb tA tB va vb qy qx B' (.slice none 0 0) xv [] xs ms A :=
  ⟨h.a, h.zy, h.zx, RowOf.nil (fun _ => rfl), h.rx.base_le (fun _ _ => Nat.zero_le _), fun k hk => by have := (h.rx.own k hk).2; omega, h.mark⟩
theorem OrX.marked (h : OrX w ta tb tA tB va vb qx qy B xv yv xs ys ms A) {m : Nat} (hm : A.heap[m]? = some (.deferred (some []))) : OrX w ta tb tA tB va vb qx qy B xv yv xs ys (m :: ms) A :=
  ⟨h.a, h.zx, h.zy, h.rx, h.ry, h.oth, fun k hk => by
    rcases List.mem_cons.1 hk with rfl | hk
    · exact hm
    · exact h.mark _ hk⟩
end
theorem one_i (x : Int) : ∀ u ∈ encI x, u.oneCell' = true := by
  intro u hu; simp only [List.mem_cons, List.not_mem_nil, or_false] at hu; subst hu; rfl
theorem or_end {w W : World} (bs : List Nat) (tmps : Array Value) (hm : ∀ b ∈ bs, W.heap[b]? = some (.deferred (some [])) ∧ w.heap.size ≤ b) (hn : bs.Nodup) (hB : Below w.heap.size w W)
    (h2 : tmps[2]? = some (.bool true) := by rfl) :
    bodyPostM Fence.wide 0 Try.prog Try.f4 (fun e w' => e = .returned (.bool true) ∧ Below w.heap.size w w') Exit.ret { tmps := tmps, defers := bs.map fun b => { target := .collected b, args := #[] } } W := by
  refine leaves_of_marked bs W (marked_of bs W (fun b hb => (hm b hb).1) hn fun W' hk => ?_)
  exact ⟨.bool true, by simp [results, Try.results4, go_sem, h2], rfl, below_keeps hB hk (fun k hk => (hm _ hk).2) hB.size⟩

set_option maxRecDepth 100000 in
set_option maxHeartbeats 20000000 in
theorem t_order (w : World) (v1 : Value) (ks : List Int) (h1 : IntsAt w v1 ks) (hm1 : ks.length ≤ maxLen) :
    Calls Try.prog 4 #[v1] w fun e w' => e = .returned (.bool true) ∧ Below w.heap.size w w' := by
  obtain ⟨a1, cap1, rfl, hr1⟩ := h1
  have HR1 := Lib.hid hr1
  unfold maxLen at hm1
  have y1 : (ks.length : Int) ≤ 9223372036854775807 := by omega
  clear hr1 hm1
  refine calls_of_wp_marks Try.func4 rfl ?_
  simp only [Try.ntmps4, List.size_toArray, List.length_cons, List.length_nil, Nat.reduceAdd, Nat.reduceSub, Array.replicate_succ, Array.replicate_zero, List.push_toArray, List.append_toArray, List.nil_append, List.cons_append]
  go_wp2_with fail
  refine (t_first _).mono ?_
  rintro e w1 ⟨rfl, hb1⟩
  have HB1 := Lib.hid hb1
  clear hb1
  by_cases c1 : (200 : Int) < ks.length
  · go_wp2_with fail
    exact or_end [] _ (by simp) List.nodup_nil HB1.out
  have hn200 : (ks.length : Int) ≤ 200 := by omega
  clear y1 c1
  go_wp2_with fail
  refine (t_new _).mono ?_
  rintro e w2 ⟨ta, rfl, ht2, hle2, hlt2, hk2⟩
  have HT2 := Lib.hid ht2
  have HB2 := Lib.hid (HB1.out.trans (hk2.mono HB1.out.size))
  have HL2 : Hid (w.heap.size ≤ ta ∧ ta < w2.heap.size) := Lib.hid (by have := HB1.out.size; omega)
  clear ht2 hle2 hlt2 hk2
  go_wp2_with fail
  refine (t_new _).mono ?_
  rintro e w3 ⟨tb, rfl, ht3, hle3, hlt3, hk3⟩
  have HA0 : Hid (OrA w ta tb .leaf .leaf 0 0 w3) := Lib.hid ⟨HT2.out.below hk3, ht3, by have := HL2.out; omega, HL2.out.1, by have := HL2.out; have := HB2.out.size; omega, HB2.out.trans (hk3.mono HB2.out.size)⟩
  clear ht3 hle3 hlt3 hk3 HB1 HB2 HT2 HL2
  go_wp2_with fail
  go_loopw [6] (fun i wr => ∃ j : Nat, j ≤ ks.length ∧ i = .int .i64 j ∧ Hid (OrA w ta tb (putAll (ks.take j)) .leaf j 0 wr)) (fun i _ => ks.length - (intOf i).toNat)
  case atStart => exact ⟨0, Nat.zero_le _, rfl, HA0⟩
  case round =>
    obtain ⟨j, hj, rfl, HH⟩ := hrel
    by_cases hlt : j < ks.length
    · have hx : ks[j]? = some ks[j] := List.getElem?_eq_getElem hlt
      have HTK := Lib.hid ((congrArg putAll (take_succ' ks j _ hx)).trans (putAll_snoc _ _))
      generalize ks[j] = x at hx HTK
      obtain ⟨g, off, rfl, d0⟩ := HR1.out j x hx
      have d0 := (HH.out.bel.cell (p := ⟨g, off + j, none⟩) (World.block_lt_of_cell? w _ d0)).trans d0
      have hjl : (j : Int) < (ks.length : Int) := by omega
      have HSZ : Hid ((putAll (ks.take j)).size < 900000) := Lib.hid (by have h1 := size_putAll (ks.take j); have h2 := List.length_take_le j ks; omega)
      clear hx
      go_wp2_with (fail)
      refine (t_put _ ta (putAll (ks.take j)) j x XS HH.out.a (by omega) (by omega) HSZ.out).mono ?_
      rintro e w4 ⟨rfl, ht4, hk4⟩
      rw [← HTK.out] at ht4
      have HN := Lib.hid (HH.out.putA hk4 ht4)
      clear ht4 hk4 d0
      go_wp2_with (fail)
      go_roundw
      case rel => exact ⟨j + 1, by omega, by go_num, Lib.hid (by have := HN.out; simpa using this)⟩
      case measure => simp [intOf]; omega
    · have hje : j = ks.length := by omega
      subst hje
      rw [List.take_length] at HH
      have hjl : ¬ ((ks.length : Int) < (ks.length : Int)) := by omega
      go_wp2_with (fail)
      obtain ⟨wo, rfl⟩ : ∃ wo : World, wo = wr := ⟨_, rfl⟩
      go_loopw [7] (fun i wr => ∃ z : Int, -1 ≤ z ∧ z < ks.length ∧ i = .int .i64 z ∧ Hid (OrA w ta tb (putAll ks) (putAll (ks.drop (z + 1).toNat).reverse) ks.length (ks.length - 1 - z) wr)) (fun i _ => (intOf i + 1).toNat)
      case atStart => exact ⟨(ks.length : Int) - 1, by omega, by omega, rfl, Lib.hid (by
        have : ((ks.length : Int) - 1 + 1).toNat = ks.length := by omega
        rw [this, List.drop_length]
        have h := HH.out
        have e0 : (ks.length : Int) - 1 - ((ks.length : Int) - 1) = 0 := by omega
        rw [e0]
        exact h)⟩
      case round =>
        obtain ⟨z, hz0, hz1, rfl, HZ⟩ := hrel
        by_cases hz : 0 ≤ z
        · obtain ⟨k, rfl⟩ := Int.eq_ofNat_of_zero_le hz
          have hkl : k < ks.length := by omega
          have hx : ks[k]? = some ks[k] := List.getElem?_eq_getElem hkl
          have HTK : Hid (putAll (ks.drop k).reverse = (putAll (ks.drop (k + 1)).reverse).put ilt ks[k] XS) := Lib.hid (by rw [List.drop_eq_getElem_cons hkl, List.reverse_cons, putAll_snoc])
          generalize ks[k] = x at hx HTK
          obtain ⟨g, off, rfl, d0⟩ := HR1.out k x hx
          have d0 := (HZ.out.bel.cell (p := ⟨g, off + k, none⟩) (World.block_lt_of_cell? w _ d0)).trans d0
          have hjl : (k : Int) < (ks.length : Int) := by omega
          have e1 : ((k : Int) + 1).toNat = k + 1 := by omega
          rw [e1] at HZ
          have HSZ : Hid ((putAll (ks.drop (k + 1)).reverse).size < 900000) := Lib.hid (by have h1 := size_putAll (ks.drop (k + 1)).reverse; simp at h1; omega)
          clear hx e1
          go_wp2_with (fail)
          refine (t_put _ tb _ _ x XS HZ.out.b (by omega) (by omega) HSZ.out).mono ?_
          rintro e w4 ⟨rfl, ht4, hk4⟩
          rw [← HTK.out] at ht4
          have HN := Lib.hid (HZ.out.putB hk4 ht4)
          clear ht4 hk4 d0
          go_wp2_with (fail)
          go_roundw
          case rel => exact ⟨(k : Int) - 1, by omega, by omega, rfl, Lib.hid (by
            have h := HN.out
            have e2 : ((k : Int) - 1 + 1).toNat = k := by omega
            have e3 : (ks.length : Int) - 1 - (k : Int) + 1 = (ks.length : Int) - 1 - ((k : Int) - 1) := by omega
            rw [e2, ← e3]; exact h)⟩
          case measure => simp [intOf]
        · have hze : z = -1 := by omega
          subst hze
          have HA : Hid (OrA w ta tb (putAll ks) (putAll ks.reverse) ks.length (ks.length - 1 - -1) wr) := Lib.hid (by have h := HZ.out; simpa using h)
          clear HZ
          go_wp2_with (fail)
          obtain ⟨i3, hi3, hz30, hz31, hz32⟩ := info_parts info3
          refine (q_tAll _ ta).mono ?_
          rintro e w5 ⟨rfl, hw5⟩
          have zx : IsBlk ((wr.alloc (.cells #[.slice none 0 0] 39)).alloc (.cells #[.slice none 0 0] 39)) wr.heap.size #[.slice none 0 0] 39 := blk_alloc (blk_new wr _)
          have zy := blk_new (wr.alloc (.cells #[.slice none 0 0] 39)) (.cells #[.slice none 0 0] 39)
          rw [World.size_alloc] at zy
          have hkW : Below wr.heap.size wr ((wr.alloc (.cells #[.slice none 0 0] 39)).alloc (.cells #[.slice none 0 0] 39)) := ((Below.refl _ _).alloc (Nat.le_refl _) _).alloc (by simp) _
          have hsW : ((wr.alloc (.cells #[.slice none 0 0] 39)).alloc (.cells #[.slice none 0 0] 39)).heap.size = wr.heap.size + 2 := by simp
          generalize ((wr.alloc (.cells #[.slice none 0 0] 39)).alloc (.cells #[.slice none 0 0] 39)) = W4 at zx zy hkW hsW hw5 ⊢
          have hk5 : Below W4.heap.size W4 w5 := by rw [hw5]; exact (Below.refl _ _).alloc (Nat.le_refl _) _
          have qb : IsBlk w5 W4.heap.size #[.pointer (some ⟨ta, 0, none⟩)] 40 := by rw [hw5]; exact blk_new _ _
          have HS5 : Hid (w5.heap.size = wr.heap.size + 3 ∧ w.heap.size ≤ wr.heap.size) := Lib.hid ⟨by rw [hw5, World.size_alloc, hsW], HA.out.bel.size⟩
          have HX0 : Hid (OrX w ta tb (putAll ks) (putAll ks.reverse) ks.length (ks.length - 1 - -1) wr.heap.size (wr.heap.size + 1) (w5.heap.size + 2) (.slice none 0 0) (.slice none 0 0) [] [] [] w5) := Lib.hid
            ⟨(HA.out.ext hkW).ext hk5, (hk5.block _ (lt_of_block zx)).trans zx, (hk5.block _ (lt_of_block zy)).trans zy, RowOf.nil (fun _ => rfl), RowOf.nil (fun _ => rfl), fun k hk => by simp [Value.ownBlock] at hk, by simp⟩
          have HIT := Lib.hid (iter_tall qb HX0.out.a.a)
          have HLN : Hid ((putAll ks).ino.length ≤ 200 ∧ (putAll ks.reverse).ino = (putAll ks).ino) := Lib.hid ⟨by rw [Tr.ino_length]; have := size_putAll ks; omega, putAll_rev ks⟩
          clear zx zy hkW hsW hw5 hk5 qb HA
          go_wp2_with (fail)
          refine wp_forSeq rfl eg41 HIT.out (fun _ => rfl) KeepW.trans (fun W r o h => keepW_put o h)
            (fun pre W => ∃ xv, OrX w ta tb (putAll ks) (putAll ks.reverse) ks.length (ks.length - 1 - -1) wr.heap.size (wr.heap.size + 1) (w5.heap.size + 2) xv (.slice none 0 0) (pre.map (·.1)) [] [] W) (fun _ _ _ => False)
            (fun s A B h hk => by obtain ⟨xv, h⟩ := h; exact ⟨xv, h.loop hk (by have := HS5.out; omega)⟩) (fun _ _ _ _ h _ => h.elim) ⟨_, HX0.out⟩ ?a1 ?assign ?body ?done ?stop
          case assign =>
            intro x W K hK
            gi_wp2
            exact hK
          case stop => intro c q B _ h; exact h.elim
          case body =>
            rintro pre x A ⟨xv, hA⟩ hp hsz
            obtain ⟨av, cv, rfl⟩ : ∃ a c, xv = .slice a (pre.map (·.1)).length c := by
              rcases hA.rx.shape with ⟨rfl, e⟩ | ⟨g, c, rfl, _⟩
              · exact ⟨none, 0, by rw [e]; rfl⟩
              · exact ⟨_, _, rfl⟩
            have HE : Hid ((pre ++ [x]).map (·.1) = pre.map (·.1) ++ [x.1]) := Lib.hid (by simp)
            have HPL : Hid ((pre.map (·.1)).length < 1000000) := Lib.hid (by have h2 := (List.getElem?_eq_some_iff.1 (pre_get hp)).1; have := HLN.out; simp; omega)
            have f8 : A.cell? ⟨wr.heap.size, 0, none⟩ = some (.slice av (pre.map (·.1)).length cv) := blk_cell hA.zx 0
            have HA := Lib.hid hA
            have HSZ := Lib.hid hsz
            clear hA hp hsz
            generalize pre.map (·.1) = xs at *
            gi_wp2_with (gi_at_builtin; refine wpListIn_append1 encI rfl (.tmp 62) (.tmp 64) 39 rfl (w5.heap.size + 2) 3 i3 _ 1 8 Try.underlying39 hi3 hz30 hz31 hz32 rfl (by omega) _ xs x.1 rfl HA.out.rx rfl (one_i _) ?c1 (by omega) HSZ.out ?_)
            case c1 => exact HPL.out
            intro g2 cap2 w8 hrow2 hk2
            have hlen : (xs ++ [x.1]).length = xs.length + 1 := by simp
            rw [← hlen] at hrow2
            have hm := HA.out.more hk2 hrow2 (by omega) (by have := HS5.out; omega) (by have := HS5.out; omega)
            rw [hlen] at hm
            have zq := blk_keepT hk2 (row_blk HA.out.rx) HA.out.zx (by decide)
            have f8 : w8.cell? ⟨wr.heap.size, 0, none⟩ = some (.slice av xs.length cv) := blk_cell zq 0
            have g8 : w8.frozen? ⟨wr.heap.size, 0, none⟩ = false := blk_free zq 0
            have HM := Lib.hid hm
            clear hm zq hrow2 hk2 hlen
            gi_wp2_with (fail)
            refine ⟨HM.out.2.2 _ (by omega) (by have := HS5.out; omega) (by have := HSZ.out; omega), HM.out.2.2 _ (by omega) (by have := HS5.out; omega) (by have := HSZ.out; omega), HM.out.2.1, .slice (some ⟨g2, 0, none⟩) (xs.length + 1) cap2, ?_⟩
            rw [HE.out]
            exact HM.out.1
          case done =>
            rintro A ⟨xv, hA⟩ hD
            have HX1 := Lib.hid (hA.marked hD)
            have HDA : Hid (w5.heap.size < A.heap.size) := Lib.hid (lt_of_block hD)
            clear hA hD
            go_simp
            go_wp2_with (fail)
            refine (q_tAll _ tb).mono ?_
            rintro e w6 ⟨rfl, hw6⟩
            have hk6 : Below A.heap.size A w6 := by rw [hw6]; exact (Below.refl _ _).alloc (Nat.le_refl _) _
            have qb : IsBlk w6 A.heap.size #[.pointer (some ⟨tb, 0, none⟩)] 40 := by rw [hw6]; exact blk_new _ _
            have HS6 : Hid (w6.heap.size = A.heap.size + 1) := Lib.hid (by rw [hw6, World.size_alloc])
            have HY0 := Lib.hid ((HX1.out.ext hk6).turn (B' := w6.heap.size + 2) (by omega))
            have HIT2 := Lib.hid (iter_tall qb HY0.out.a.b)
            clear hw6 hk6 qb HX1
            go_wp2_with (fail)
            refine wp_forSeq rfl eg41 HIT2.out (fun _ => rfl) KeepW.trans (fun W r o h => keepW_put o h)
              (fun pre W => ∃ yv, OrX w ta tb (putAll ks) (putAll ks.reverse) ks.length (ks.length - 1 - -1) (wr.heap.size + 1) wr.heap.size (w6.heap.size + 2) yv xv (pre.map (·.1)) ((putAll ks).ino.map (·.1)) [w5.heap.size] W) (fun _ _ _ => False)
              (fun s A B h hk => by obtain ⟨xv, h⟩ := h; exact ⟨xv, h.loop hk (by have := HS5.out; have := HS6.out; have := HDA.out; omega)⟩) (fun _ _ _ _ h _ => h.elim) ⟨_, HY0.out⟩ ?a2 ?assign2 ?body2 ?done2 ?stop2
            case assign2 =>
              intro x W K hK
              gi_wp2
              exact hK
            case stop2 => intro c q B _ h; exact h.elim
            case body2 =>
              rintro pre x C ⟨yv, hC⟩ hp hsz
              obtain ⟨av, cv, rfl⟩ : ∃ a c, yv = .slice a (pre.map (·.1)).length c := by
                rcases hC.rx.shape with ⟨rfl, e⟩ | ⟨g, c, rfl, _⟩
                · exact ⟨none, 0, by rw [e]; rfl⟩
                · exact ⟨_, _, rfl⟩
              have HE : Hid ((pre ++ [x]).map (·.1) = pre.map (·.1) ++ [x.1]) := Lib.hid (by simp)
              have HPL : Hid ((pre.map (·.1)).length < 1000000) := Lib.hid (by have h2 := (List.getElem?_eq_some_iff.1 (pre_get hp)).1; have := HLN.out; rw [this.2] at h2; simp; omega)
              have f9 : C.cell? ⟨wr.heap.size + 1, 0, none⟩ = some (.slice av (pre.map (·.1)).length cv) := blk_cell hC.zx 0
              have HC := Lib.hid hC
              have HSZ := Lib.hid hsz
              clear hC hp hsz
              generalize pre.map (·.1) = xs at *
              gi_wp2_with (gi_at_builtin; refine wpListIn_append1 encI rfl (.tmp 70) (.tmp 72) 39 rfl (w6.heap.size + 2) 3 i3 _ 1 8 Try.underlying39 hi3 hz30 hz31 hz32 rfl (by omega) _ xs x.1 rfl HC.out.rx rfl (one_i _) ?c2 (by omega) HSZ.out ?_)
              case c2 => exact HPL.out
              intro g2 cap2 w8 hrow2 hk2
              have hlen : (xs ++ [x.1]).length = xs.length + 1 := by simp
              rw [← hlen] at hrow2
              have hm := HC.out.more hk2 hrow2 (by omega) (by have := HS5.out; omega) (by have := HS5.out; have := HS6.out; have := HDA.out; omega)
              rw [hlen] at hm
              have zq := blk_keepT hk2 (row_blk HC.out.rx) HC.out.zx (by decide)
              have f9 : w8.cell? ⟨wr.heap.size + 1, 0, none⟩ = some (.slice av xs.length cv) := blk_cell zq 0
              have g9 : w8.frozen? ⟨wr.heap.size + 1, 0, none⟩ = false := blk_free zq 0
              have HM := Lib.hid hm
              clear hm zq hrow2 hk2 hlen
              gi_wp2_with (fail)
              refine ⟨HM.out.2.2 _ (by omega) (by have := HS5.out; have := HS6.out; have := HDA.out; omega) (by have := HSZ.out; omega), HM.out.2.2 _ (by omega) (by have := HS5.out; have := HS6.out; have := HDA.out; omega) (by have := HSZ.out; omega), HM.out.2.1, .slice (some ⟨g2, 0, none⟩) (xs.length + 1) cap2, ?_⟩
              rw [HE.out]
              exact HM.out.1
            case done2 =>
              rintro C ⟨yv, hC⟩ hD2
              rw [HLN.out.2] at hC
              have HY1 := Lib.hid (hC.marked hD2)
              have HMK : Hid (∀ m ∈ [w6.heap.size, w5.heap.size], w.heap.size ≤ m) := Lib.hid (by
                intro m hm
                have := HS5.out
                have := HS6.out
                have := HDA.out
                simp only [List.mem_cons, List.not_mem_nil, or_false] at hm
                rcases hm with rfl | rfl <;> omega)
              have HND : Hid ([w6.heap.size, w5.heap.size].Nodup) := Lib.hid (by have := HS6.out; have := HDA.out; simp; omega)
              clear hC hD2
              obtain ⟨ax, cx, rfl, _⟩ := ints_of_row HY1.out.ry
              obtain ⟨ay, cy, rfl, _⟩ := ints_of_row HY1.out.rx
              have HSORT : Hid (∀ (m : Nat) (a b : Int), ((putAll ks).ino.map (·.1))[m]? = some a → ((putAll ks).ino.map (·.1))[m + 1]? = some b → a < b) := Lib.hid (by
                intro m a b ha hb
                rw [List.getElem?_map] at ha hb
                obtain ⟨x, hx, rfl⟩ := Option.map_eq_some_iff.1 ha
                obtain ⟨y, hy, rfl⟩ := Option.map_eq_some_iff.1 hb
                obtain ⟨h1, rfl⟩ := List.getElem?_eq_some_iff.1 hx
                obtain ⟨h2, rfl⟩ := List.getElem?_eq_some_iff.1 hy
                have := List.pairwise_iff_getElem.1 (rise_putAll ks) m (m + 1) h1 h2 (Nat.lt_succ_self m)
                simpa [ilt] using this)
              have HXL : Hid (((putAll ks).ino.map (·.1)).length = (putAll ks).size ∧ ((putAll ks).ino.map (·.1)).length ≤ 200) := Lib.hid ⟨by rw [List.length_map, Tr.ino_length], by rw [List.length_map]; exact HLN.out.1⟩
              have HQ : Hid (wr.heap.size + 1 < w5.heap.size ∧ w.heap.size ≤ wr.heap.size) := Lib.hid (by have := HS5.out; omega)
              clear HX0 HIT HLN HS5 HY0 HIT2 HS6 HDA
              generalize ((putAll ks).ino.map (·.1)) = xs at *
              obtain ⟨wo, rfl⟩ : ∃ wo : World, wo = wr := ⟨_, rfl⟩
              have hxl : (xs.length : Int) ≤ 200 := by have := HXL.out; omega
              go_simp
              go_wp2_with (fail)
              go_loopw [12] (fun i wr => ∃ m : Nat, i = .int .i64 ((m : Int) + 1) ∧ (m + 1 ≤ xs.length ∨ m = 0) ∧ Hid (OrX w ta tb (putAll ks) (putAll ks.reverse) ks.length (ks.length - 1 - -1) (wo.heap.size + 1) wo.heap.size (w6.heap.size + 2) (.slice ay xs.length cy) (.slice ax xs.length cx) xs xs [w6.heap.size, w5.heap.size] wr)) (fun i _ => xs.length - (intOf i).toNat)
              case atStart => exact ⟨0, rfl, .inr rfl, HY1⟩
              case round =>
                obtain ⟨m, rfl, hm, HH⟩ := hrel
                have f8 : wr.cell? ⟨wo.heap.size, 0, none⟩ = some (.slice ax xs.length cx) := blk_cell HH.out.zy 0
                by_cases hlt : m + 1 < xs.length
                · have hx0 : xs[m]? = some (xs[m]'(by omega)) := List.getElem?_eq_getElem (by omega)
                  have hx1 : xs[m + 1]? = some xs[m + 1] := List.getElem?_eq_getElem hlt
                  generalize xs[m]'(by omega) = x0 at hx0
                  generalize xs[m + 1] = x1 at hx1
                  have h01 := HSORT.out _ _ _ hx0 hx1
                  obtain ⟨_, _, e, hrx⟩ := ints_of_row HH.out.ry
                  injection e with e _ _
                  subst e
                  obtain ⟨g, off, rfl, d0⟩ := hrx _ _ hx0
                  obtain ⟨g', off', e, d1⟩ := hrx _ _ hx1
                  injection e with e
                  injection e with e1 e2 _
                  subst e1 e2
                  have hm0 : (0 : Int) ≤ (m : Int) := by omega
                  have hm1 : (m : Int) + 1 < (xs.length : Int) := by omega
                  clear hx0 hx1 hrx hm
                  go_wp2_with (fail)
                  go_quiet (fail)
                  go_wp2_with (fail)
                  go_roundw
                  case rel => exact ⟨m + 1, by go_num, .inl (by omega), Lib.hid (HH.out.ext (below_drewN' _ _))⟩
                  case measure => simp [intOf]; omega
                · have hm1 : ¬ ((m : Int) + 1 < (xs.length : Int)) := by omega
                  have hmm : (m : Int) ≤ 200 := by omega
                  go_wp2_with (fail)
                  have HZ0 := HH
                  obtain ⟨wp, rfl⟩ : ∃ wp : World, wp = wr := ⟨_, rfl⟩
                  clear f8 HH
                  go_loopw [13] (fun i wr => ∃ k : Nat, k ≤ ks.length ∧ i = .int .i64 k ∧ Hid (OrX w ta tb (putAll ks) (putAll ks.reverse) ks.length (ks.length - 1 - -1) (wo.heap.size + 1) wo.heap.size (w6.heap.size + 2) (.slice ay xs.length cy) (.slice ax xs.length cx) xs xs [w6.heap.size, w5.heap.size] wr)) (fun i _ => ks.length - (intOf i).toNat)
                  case atStart => exact ⟨0, Nat.zero_le _, rfl, HZ0⟩
                  case round =>
                    obtain ⟨k, hk, rfl, HH⟩ := hrel
                    by_cases hlt : k < ks.length
                    · have hx : ks[k]? = some ks[k] := List.getElem?_eq_getElem hlt
                      have HG := Lib.hid (get_putAll ks _ (List.mem_of_getElem? hx))
                      generalize ks[k] = x at hx HG
                      obtain ⟨g, off, rfl, d0⟩ := HR1.out k x hx
                      have d0 := (HH.out.a.bel.cell (p := ⟨g, off + k, none⟩) (World.block_lt_of_cell? w _ d0)).trans d0
                      have hjl : (k : Int) < (ks.length : Int) := by omega
                      clear hx
                      go_wp2_with (fail)
                      refine (t_get _ ta _ _ x HH.out.a.a).mono ?_
                      rintro e w8 ⟨he, hb8⟩
                      rw [HG.out] at he
                      subst he
                      have HN := Lib.hid (HH.out.ext hb8)
                      clear hb8 d0
                      simp only [getRes, Option.getD, Option.isSome]
                      go_wp2_with (fail)
                      go_roundw
                      case rel => exact ⟨k + 1, by omega, by go_num, HN⟩
                      case measure => simp [intOf]; omega
                    · have hjl : ¬ ((k : Int) < (ks.length : Int)) := by omega
                      have f8 : wr.cell? ⟨wo.heap.size, 0, none⟩ = some (.slice ax xs.length cx) := blk_cell HH.out.zy 0
                      have f9 : wr.cell? ⟨wo.heap.size + 1, 0, none⟩ = some (.slice ay xs.length cy) := blk_cell HH.out.zx 0
                      have l8 := lt_of_block HH.out.zy
                      have l9 := lt_of_block HH.out.zx
                      have HSAME : Hid (∀ A', Below wr.heap.size wr A' → Calls Try.prog 18 #[.slice ax xs.length cx, .slice ay xs.length cy] A' fun e w' => e = .returned (.bool true) ∧ Below A'.heap.size A' w') :=
                        Lib.hid fun A' hb => r_sameInts A' _ _ xs ((ints_of_row HH.out.ry).below hb) ((ints_of_row HH.out.rx).below hb) (by have := HXL.out; omega)
                      have HLEN : Hid (∀ A', Below wr.heap.size wr A' → Calls Try.prog 19 #[.pointer (some ⟨ta, 0, none⟩)] A' fun e w' => e = .returned (.int .i64 (xs.length : Int)) ∧ Below A'.heap.size A' w') :=
                        Lib.hid fun A' hb => by rw [HXL.out.1]; exact t_len A' ta _ _ (HH.out.a.a.below hb)
                      go_wp2_with (fail)
                      go_region_held3 (fun w' => w'.cell? ⟨wo.heap.size, 0, none⟩ = some (.slice ax xs.length cx) ∧ w'.cell? ⟨wo.heap.size + 1, 0, none⟩ = some (.slice ay xs.length cy))
                        (first
                          | go_keep
                          | exact ⟨(g2.cell (p := ⟨wo.heap.size, 0, none⟩) l8).trans f8, (g2.cell (p := ⟨wo.heap.size + 1, 0, none⟩) l9).trans f9⟩
                          | exact ⟨(g1.cell (p := ⟨wo.heap.size, 0, none⟩) l8).trans f8, (g1.cell (p := ⟨wo.heap.size + 1, 0, none⟩) l9).trans f9⟩)
                        (first
                          | (go_at_call 18; (with_reducible refine (HSAME.out _ ?_).mono ?_); exact (Below.refl _ _).drew; rintro e w8 ⟨rfl, g1⟩; have g1 : Below wr.heap.size wr w8 := ⟨g1.os, g1.tape, g1.output, g1.size, g1.block⟩)
                          | (go_at_call 19; (with_reducible refine (HLEN.out _ ?_).mono ?_); exact g1; rintro e w9 ⟨rfl, g2'⟩; have g2 := g1.trans (g2'.mono g1.size)))
                      have HF := Lib.hid (HH.out.ext g2)
                      clear g1 g2 f8 f9 l8 l9
                      go_wp2_with (fail)
                      exact or_end [w6.heap.size, w5.heap.size] _ (fun b hb => ⟨HF.out.mark b hb, HMK.out b hb⟩) HND.out HF.out.a.bel
end Go.Proofs.Ytndaacojbbmcnaa.Oi
