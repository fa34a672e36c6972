/- The statements' whole and frozen, walked. -/
import Derived.Test.YtndaacojbbmcnaaL2
import Derived.Test.YtndaacojbbmcnaaW2
import Derived.Test.YtndaacojbbmcnaaForSeq
import Derived.Test.YtndaacojbbmcnaaRng
namespace Go.Proofs.Ytndaacojbbmcnaa
open Go.RowKit Go.RwLone Go.Shelf
attribute [local go_sem] Oper.semAt_some

theorem eg37 : ∀ args w, (callFunc 37 args).run Try.prog w = .ok (.enter 37 args) w := enters_of Try.func37 (by kernel_rfl) rfl
theorem eg83 : ∀ args w, (callFunc 83 args).run Try.prog w = .ok (.enter 83 args) w := enters_of Try.func83 (by kernel_rfl) rfl
theorem eg49 : ∀ args w, (callFunc 49 args).run Try.prog w = .ok (.enter 49 args) w := enters_of Try.func49 (by kernel_rfl) rfl
theorem eg52 : ∀ args w, (callFunc 52 args).run Try.prog w = .ok (.enter 52 args) w := enters_of Try.func52 (by kernel_rfl) rfl
theorem iter_tall {w : World} {bb tb : Nat} {t : Tr ByteArray Int} {ver : Int} (hb : IsBlk w bb #[.pointer (some ⟨tb, 0, none⟩)] 25) (hs : STab w tb t ver) :
    IterC Try.prog 37 #[.pointer (some ⟨bb, 0, none⟩)] encKV KeepW t.ino w :=
  fun l J Jx W hW hg hr h0 => q_tall l J Jx ⟨hg, hr⟩ bb tb W ((hW.block _ (lt_of_block hb)).trans hb) (hs.below hW) h0
theorem iter_sall {w : World} {bb sb : Nat} {t : Tr ByteArray Int} {ver : Int} (hb : IsBlk w bb #[.pointer (some ⟨sb, 0, none⟩)] 51) (hs : SSnap w sb t ver) :
    IterC Try.prog 49 #[.pointer (some ⟨bb, 0, none⟩)] encKV KeepW t.ino w :=
  fun l J Jx W hW hg hr h0 => q_sall l J Jx ⟨hg, hr⟩ bb sb W ((hW.block _ (lt_of_block hb)).trans hb) (hs.below hW) h0
theorem iter_trange {w : World} {bb bl bh tb : Nat} {t : Tr ByteArray Int} {ver : Int} {lo hi : ByteArray} (hR : Rise slt t.ino) (hb : IsBlk w bb #[.pointer (some ⟨tb, 0, none⟩)] 25) (hl : IsBlk w bl #[.string lo] 9) (hh : IsBlk w bh #[.string hi] 9) (hs : STab w tb t ver) :
    IterC Try.prog 83 #[.pointer (some ⟨bb, 0, none⟩), .pointer (some ⟨bl, 0, none⟩), .pointer (some ⟨bh, 0, none⟩)] encKV KeepW (rangeL lo hi t.ino) w :=
  fun l J Jx W hW hg hr h0 => q_trange l J Jx lo hi hR ⟨hg, hr⟩ bb bl bh tb W ((hW.block _ (lt_of_block hb)).trans hb) ((hW.block _ (lt_of_block hl)).trans hl) ((hW.block _ (lt_of_block hh)).trans hh) (hs.below hW) h0
theorem iter_srange {w : World} {bs bl bh sb : Nat} {t : Tr ByteArray Int} {ver : Int} {lo hi : ByteArray} (hR : Rise slt t.ino) (hb : IsBlk w bs #[.pointer (some ⟨sb, 0, none⟩)] 51) (hl : IsBlk w bl #[.string lo] 9) (hh : IsBlk w bh #[.string hi] 9) (hs : SSnap w sb t ver) :
    IterC Try.prog 52 #[.pointer (some ⟨bs, 0, none⟩), .pointer (some ⟨bl, 0, none⟩), .pointer (some ⟨bh, 0, none⟩)] encKV KeepW (rangeL lo hi t.ino) w :=
  fun l J Jx W hW hg hr h0 => q_srange l J Jx lo hi hR ⟨hg, hr⟩ bs bl bh sb W ((hW.block _ (lt_of_block hb)).trans hb) ((hW.block _ (lt_of_block hl)).trans hl) ((hW.block _ (lt_of_block hh)).trans hh) (hs.below hW) h0
theorem keepW_put {W : World} {l : Nat} {r : Loop} (o : Obj) (h : W.heap[l]? = some (.loop r)) : KeepW W (W.putObj l o) := by
  intro T _ b cs hb
  have hne : b ≠ l := by
    rintro rfl
    have := h.symm.trans hb
    simp at this
  exact (World.putObj_heap_other hne).trans hb
theorem keepW_keeps {S : Nat → Prop} {A B : World} (h : Keeps S A B) (hS : ∀ T, T ∈ [111, 9, 51, 94, 25] → ∀ b cs, IsBlk A b cs T → ¬ S b) : KeepW A B :=
  fun T hT => KeepT.of_keeps h (hS T hT)

/-- The boxes of whole: the pairs, the bounds, the result, the count. -/
structure WBox (w : World) (v : Value) (lo hi : ByteArray) (i : Int) (W : World) : Prop where
  b0 : IsBlk W w.heap.size #[v] 27
  b1 : IsBlk W (w.heap.size + 1) #[.string lo] 9
  b2 : IsBlk W (w.heap.size + 2) #[.string hi] 9
  b3 : IsBlk W (w.heap.size + 3) #[.bool false] 4
  b4 : IsBlk W (w.heap.size + 4) #[.int .i64 i] 3
  below : Below w.heap.size w W
theorem WBox.keeps {w : World} {v : Value} {lo hi : ByteArray} {i : Int} {A B : World} {l : Nat} (h : WBox w v lo hi i A) (hk : Keeps (fun k => k = l) A B) (hl : w.heap.size + 5 ≤ l) : WBox w v lo hi i B :=
  ⟨hk.obj h.b0 (by omega), hk.obj h.b1 (by omega), hk.obj h.b2 (by omega), hk.obj h.b3 (by omega), hk.obj h.b4 (by omega), below_keeps h.below hk (by intro i hi; omega) h.below.size⟩

theorem WBox.set {w : World} {v : Value} {lo hi : ByteArray} {i : Int} {A : World} (h : WBox w v lo hi i A) (j : Int) : WBox w v lo hi j (A.setCell ⟨w.heap.size + 4, 0, none⟩ (.int .i64 j)) :=
  ⟨blk_other h.b0 0 _ (by omega), blk_other h.b1 0 _ (by omega), blk_other h.b2 0 _ (by omega), blk_other h.b3 0 _ (by omega), blk_set h.b4 0 _, h.below.setCell (p := ⟨w.heap.size + 4, 0, none⟩) (by simp) _⟩
theorem WBox.ext {w : World} {v : Value} {lo hi : ByteArray} {i : Int} {A B : World} (h : WBox w v lo hi i A) (hk : Below A.heap.size A B) : WBox w v lo hi i B :=
  ⟨(hk.block _ (lt_of_block h.b0)).trans h.b0, (hk.block _ (lt_of_block h.b1)).trans h.b1, (hk.block _ (lt_of_block h.b2)).trans h.b2, (hk.block _ (lt_of_block h.b3)).trans h.b3, (hk.block _ (lt_of_block h.b4)).trans h.b4, h.below.trans (hk.mono h.below.size)⟩
/-- The number in a block of one cell. -/
def valAt (W : World) (b : Nat) : Int := match W.cell? ⟨b, 0, none⟩ with | some (.int _ n) => n | _ => 0
theorem valAt_eq {W : World} {b : Nat} {k : IntKind} {n : Int} {T : TypeId} (h : IsBlk W b #[.int k n] T) : valAt W b = n := by
  unfold valAt; rw [blk_cell h 0]; rfl
theorem pre_get {α : Type} {pre xs : List α} {x : α} (h : pre ++ [x] <+: xs) : xs[pre.length]? = some x := by
  obtain ⟨r, rfl⟩ := h
  simp
theorem whole_start (w : World) (v : Value) (lo hi : ByteArray) (tb : Nat) :
    WBox w v lo hi 0 ((((((w.alloc (.cells #[v] 27)).alloc (.cells #[.string lo] 9)).alloc (.cells #[.string hi] 9)).alloc (.cells #[.bool false] 4)).alloc (.cells #[.int .i64 0] 3)).alloc (.cells #[.pointer (some ⟨tb, 0, none⟩)] 25)) ∧
    IsBlk ((((((w.alloc (.cells #[v] 27)).alloc (.cells #[.string lo] 9)).alloc (.cells #[.string hi] 9)).alloc (.cells #[.bool false] 4)).alloc (.cells #[.int .i64 0] 3)).alloc (.cells #[.pointer (some ⟨tb, 0, none⟩)] 25)) (w.heap.size + 1 + 1 + 1 + 1 + 1) #[.pointer (some ⟨tb, 0, none⟩)] 25 ∧
    (((((((w.alloc (.cells #[v] 27)).alloc (.cells #[.string lo] 9)).alloc (.cells #[.string hi] 9)).alloc (.cells #[.bool false] 4)).alloc (.cells #[.int .i64 0] 3)).alloc (.cells #[.pointer (some ⟨tb, 0, none⟩)] 25))).heap.size = w.heap.size + 6 := by
  obtain ⟨w1, h1⟩ : ∃ x, x = w.alloc (.cells #[v] 27) := ⟨_, rfl⟩
  obtain ⟨w2, h2⟩ : ∃ x, x = w1.alloc (.cells #[.string lo] 9) := ⟨_, rfl⟩
  obtain ⟨w3, h3⟩ : ∃ x, x = w2.alloc (.cells #[.string hi] 9) := ⟨_, rfl⟩
  obtain ⟨w4, h4⟩ : ∃ x, x = w3.alloc (.cells #[.bool false] 4) := ⟨_, rfl⟩
  obtain ⟨w5, h5⟩ : ∃ x, x = w4.alloc (.cells #[.int .i64 0] 3) := ⟨_, rfl⟩
  obtain ⟨w6, h6⟩ : ∃ x, x = w5.alloc (.cells #[.pointer (some ⟨tb, 0, none⟩)] 25) := ⟨_, rfl⟩
  have z1 : w1.heap.size = w.heap.size + 1 := by rw [h1]; exact World.size_alloc _ _
  have z2 : w2.heap.size = w.heap.size + 2 := by rw [h2, World.size_alloc, z1]
  have z3 : w3.heap.size = w.heap.size + 3 := by rw [h3, World.size_alloc, z2]
  have z4 : w4.heap.size = w.heap.size + 4 := by rw [h4, World.size_alloc, z3]
  have z5 : w5.heap.size = w.heap.size + 5 := by rw [h5, World.size_alloc, z4]
  have z6 : w6.heap.size = w.heap.size + 6 := by rw [h6, World.size_alloc, z5]
  have b0 : w1.heap[w.heap.size]? = some (.cells #[v] 27) := by rw [h1]; exact blk_new _ _
  have b1 : w2.heap[w.heap.size + 1]? = some (.cells #[.string lo] 9) := by rw [← z1, h2]; exact blk_new _ _
  have b2 : w3.heap[w.heap.size + 2]? = some (.cells #[.string hi] 9) := by rw [← z2, h3]; exact blk_new _ _
  have b3 : w4.heap[w.heap.size + 3]? = some (.cells #[.bool false] 4) := by rw [← z3, h4]; exact blk_new _ _
  have b4 : w5.heap[w.heap.size + 4]? = some (.cells #[.int .i64 0] 3) := by rw [← z4, h5]; exact blk_new _ _
  have b5 : w6.heap[w.heap.size + 5]? = some (.cells #[.pointer (some ⟨tb, 0, none⟩)] 25) := by rw [← z5, h6]; exact blk_new _ _
  rw [← h1, ← h2, ← h3, ← h4, ← h5, ← h6]
  have k4 : ∀ (b : Nat) (o : Obj), w5.heap[b]? = some o → w6.heap[b]? = some o := fun b o h => by rw [h6]; exact blk_alloc h
  have k3 : ∀ (b : Nat) (o : Obj), w4.heap[b]? = some o → w6.heap[b]? = some o := fun b o h => k4 b o (by rw [h5]; exact blk_alloc h)
  have k2 : ∀ (b : Nat) (o : Obj), w3.heap[b]? = some o → w6.heap[b]? = some o := fun b o h => k3 b o (by rw [h4]; exact blk_alloc h)
  have k1 : ∀ (b : Nat) (o : Obj), w2.heap[b]? = some o → w6.heap[b]? = some o := fun b o h => k2 b o (by rw [h3]; exact blk_alloc h)
  have k0 : ∀ (b : Nat) (o : Obj), w1.heap[b]? = some o → w6.heap[b]? = some o := fun b o h => k1 b o (by rw [h2]; exact blk_alloc h)
  have bel : Below w.heap.size w w6 := by
    rw [h6, h5, h4, h3, h2, h1]
    exact ((((((Below.refl _ _).alloc (Nat.le_refl _) _).alloc (by simp) _).alloc (by simp; omega) _).alloc (by simp; omega) _).alloc (by simp; omega) _).alloc (by simp; omega) _
  exact ⟨⟨k0 _ _ b0, k1 _ _ b1, k2 _ _ b2, k3 _ _ b3, k4 _ _ b4, bel⟩, b5, z6⟩
theorem whole_end {w W0 w3 w4 : World} {v : Value} {lo hi : ByteArray} {i : Int} (tmps : Array Value) (hS : W0.heap.size = w.heap.size + 6) (hS3 : w.heap.size + 7 ≤ w3.heap.size)
    (hB : WBox w v lo hi i w4) (hR : w4.heap[W0.heap.size]? = some (.deferred (some [])) ∧ w4.heap[w3.heap.size]? = some (.deferred (some [])))
    (h8 : tmps[8]? = some (.pointer (some ⟨w.heap.size + 1 + 1 + 1, 0, none⟩)) := by rfl) :
    bodyPostM Fence.wide 0 Try.prog Try.f27 (fun e w' => e = .returned (.bool true) ∧ Below w.heap.size w w') Exit.ret
      { tmps := tmps, defers := [{ target := .collected w3.heap.size, args := #[] }, { target := .collected W0.heap.size, args := #[] }] }
      (w4.setCell ⟨w.heap.size + 1 + 1 + 1, 0, none⟩ (.bool true)).drew := by
  have k : Below w.heap.size w (w4.setCell ⟨w.heap.size + 1 + 1 + 1, 0, none⟩ (.bool true)).drew := (hB.below.setCell (p := ⟨w.heap.size + 1 + 1 + 1, 0, none⟩) (by simp; omega) _).drew
  have e3 : IsBlk (w4.setCell ⟨w.heap.size + 1 + 1 + 1, 0, none⟩ (.bool true)).drew (w.heap.size + 3) #[.bool true] 4 := blk_set hB.b3 0 _
  have r1 : (w4.setCell ⟨w.heap.size + 1 + 1 + 1, 0, none⟩ (.bool true)).drew.heap[W0.heap.size]? = some (.deferred (some [])) := blk_other hR.1 0 _ (by omega)
  have r2 : (w4.setCell ⟨w.heap.size + 1 + 1 + 1, 0, none⟩ (.bool true)).drew.heap[w3.heap.size]? = some (.deferred (some [])) := blk_other hR.2 0 _ (by omega)
  generalize (w4.setCell ⟨w.heap.size + 1 + 1 + 1, 0, none⟩ (.bool true)).drew = w5 at k e3 r1 r2 ⊢
  have hne : W0.heap.size ≠ w3.heap.size := by omega
  have s1 : IsBlk (w5.putObj w3.heap.size (.deferred none)) (w.heap.size + 3) #[.bool true] 4 := (World.putObj_heap_other (by omega)).trans e3
  have s2 : IsBlk ((w5.putObj w3.heap.size (.deferred none)).putObj W0.heap.size (.deferred none)) (w.heap.size + 3) #[.bool true] 4 := (World.putObj_heap_other (by omega)).trans s1
  have kk : Below w.heap.size w ((w5.putObj w3.heap.size (.deferred none)).putObj W0.heap.size (.deferred none)) :=
    (below_keeps k (keeps_putObj _ _ _) (by intro i hi; omega) k.size).trans ((keeps_putObj (w5.putObj w3.heap.size (.deferred none)) W0.heap.size (.deferred none)).to_below (by have := k.size; simp; omega) (by intro i hi; omega))
  refine leaves_of_marked [w3.heap.size, W0.heap.size] w5 ⟨r2, (World.putObj_heap_other hne).trans r1, .bool true, ?_, rfl, kk⟩
  have c := blk_cell s2 0
  have c' : ((w5.putObj w3.heap.size (.deferred none)).putObj W0.heap.size (.deferred none)).cell? ⟨w.heap.size + 1 + 1 + 1, 0, none⟩ = some (.bool true) := c
  simp [results, Try.results27, go_sem, h8, c']
set_option maxRecDepth 100000 in
set_option maxHeartbeats 4000000 in
theorem l_whole (w : World) (tb base : Nat) (t : Tr ByteArray Int) (ver : Int) (v : Value) (lo hi : ByteArray) (ht : STab w tb t ver) (hr : Rise slt t.ino) (hl : PRow w base v t.ino) (hn : t.size < 10000) :
    Calls Try.prog 27 #[.pointer (some ⟨tb, 0, none⟩), v, .string lo, .string hi] w fun e w' => e = .returned (.bool true) ∧ Below w.heap.size w w' := by
  obtain ⟨a, cap, rfl, hrd⟩ := prow_read hl
  have HR := Lib.hid hrd
  have HT := Lib.hid ht
  have HRISE := Lib.hid hr
  have HN : Hid (t.ino.length < 10000) := Lib.hid (by rw [Tr.ino_length]; exact hn)
  clear hrd ht hr hl hn
  refine calls_of_wp_marks Try.func27 rfl ?_
  simp only [Try.ntmps27, List.size_toArray, List.length_cons, List.length_nil, Nat.reduceAdd, Nat.reduceSub, Array.replicate_succ, Array.replicate_zero, List.push_toArray, List.append_toArray, List.nil_append, List.cons_append]
  go_wp2_with fail
  refine (q_tAll _ tb).mono ?_
  rintro e w1 ⟨rfl, rfl⟩
  go_wp2_with fail
  obtain ⟨hB0, hB1, hB2⟩ := whole_start w (.slice a t.ino.length cap) lo hi tb
  generalize ((((((w.alloc (.cells #[.slice a t.ino.length cap] 27)).alloc (.cells #[.string lo] 9)).alloc (.cells #[.string hi] 9)).alloc (.cells #[.bool false] 4)).alloc (.cells #[.int .i64 0] 3)).alloc (.cells #[.pointer (some ⟨tb, 0, none⟩)] 25)) = W0 at hB0 hB1 hB2 ⊢
  have HS := Lib.hid hB2
  have HIT := Lib.hid (iter_tall hB1 (HT.out.below hB0.below))
  have HB0 := Lib.hid hB0
  clear hB0 hB1 hB2
  refine wp_forSeq rfl eg37 HIT.out (fun _ => rfl) KeepW.trans (fun W r o h => keepW_put o h) (fun pre W => WBox w (.slice a t.ino.length cap) lo hi pre.length W) (fun _ _ _ => False)
    (fun s A B h hk => h.keeps hk.loop (by rw [HS.out]; omega)) (fun _ _ _ _ h _ => h.elim) HB0.out ?a1 ?assign ?body ?done ?stop
  case assign =>
    intro x W K hK
    gi_wp2
    exact hK
  case body =>
    intro pre x A hA hp hsz
    have hx := pre_get hp
    obtain ⟨g, rfl, d0, d1⟩ := HR.out _ _ hx
    have hlt : pre.length < t.ino.length := (List.getElem?_eq_some_iff.1 hx).1
    have c0 := (hA.below.cell (p := ⟨g, pre.length * 2, none⟩) (World.block_lt_of_cell? w _ d0)).trans d0
    have c1 := (hA.below.cell (p := ⟨g, pre.length * 2 + 1, none⟩) (World.block_lt_of_cell? w _ d1)).trans d1
    have f0 : A.cell? ⟨w.heap.size, 0, none⟩ = some (.slice (some ⟨g, 0, none⟩) t.ino.length cap) := blk_cell hA.b0 0
    have f4 : A.cell? ⟨w.heap.size + 1 + 1 + 1 + 1, 0, none⟩ = some (.int .i64 (pre.length : Int)) := blk_cell hA.b4 0
    have z4 : A.frozen? ⟨w.heap.size + 1 + 1 + 1 + 1, 0, none⟩ = false := blk_free hA.b4 0
    have hlen : (t.ino.length : Int) < 10000 := by have := HN.out; omega
    have HA := Lib.hid hA
    have HLEN : Hid ((pre ++ [x]).length = pre.length + 1) := Lib.hid (by simp)
    clear d0 d1 hA hx hp hsz
    gi_wp2
    refine ⟨?_, ?_, ?_, ?_⟩
    · exact Below.heap_setCell _ _ _ _ (by rw [HS.out]; simp)
    · exact Below.heap_setCell _ _ _ _ (by rw [HS.out]; simp)
    · exact keepW_keeps (keeps_set _ _ _ _) (by intro T hT b cs hb e; exact ne_of_type hb (e ▸ HA.out.b4) (by rintro rfl; simp at hT) rfl)
    · show WBox _ _ _ _ _ _
      rw [HLEN.out]
      exact HA.out.set _
  case stop => intro c q B _ h; exact h.elim
  case done =>
    intro A hA hD
    have f0 : A.cell? ⟨w.heap.size, 0, none⟩ = some (.slice a t.ino.length cap) := blk_cell hA.b0 0
    have f4 : A.cell? ⟨w.heap.size + 1 + 1 + 1 + 1, 0, none⟩ = some (.int .i64 (t.ino.length : Int)) := blk_cell hA.b4 0
    have HA := Lib.hid hA
    have HD := Lib.hid hD
    clear hA hD
    have HLN : Hid (∀ A', Below w.heap.size w A' → Calls Try.prog 31 #[.pointer (some ⟨tb, 0, none⟩)] A' fun e w' => e = .returned (.int .i64 (t.ino.length : Int)) ∧ Below A'.heap.size A' w') :=
      Lib.hid (fun A' hk => by rw [Tr.ino_length]; exact t_len A' tb t ver (HT.out.below hk))
    have l0 := lt_of_block HA.out.b0
    have l4 := lt_of_block HA.out.b4
    go_wp2_with fail
    go_region_held3 (fun w' => w'.cell? ⟨w.heap.size, 0, none⟩ = some (.slice a t.ino.length cap) ∧ w'.cell? ⟨w.heap.size + 1 + 1 + 1 + 1, 0, none⟩ = some (.int .i64 (t.ino.length : Int)))
      (first
        | go_keep
        | exact ⟨(g1.cell (p := ⟨w.heap.size, 0, none⟩) l0).trans f0, (g1.cell (p := ⟨w.heap.size + 1 + 1 + 1 + 1, 0, none⟩) l4).trans f4⟩)
      (first
        | (go_at_call 31; (with_reducible refine (HLN.out _ ?_).mono ?_); exact HA.out.below.drew; rintro e w1 ⟨rfl, g1⟩))
    have hA1 := HA.out.ext (⟨g1.os, g1.tape, g1.output, g1.size, g1.block⟩ : Below A.heap.size A w1)
    have hD1 : w1.heap[W0.heap.size]? = some (.deferred (some [])) := (g1.block _ (lt_of_block HD.out)).trans HD.out
    clear g1 f0 f4 l0 l4 HLN HD HA
    have f1 : w1.cell? ⟨w.heap.size + 1, 0, none⟩ = some (.string lo) := blk_cell hA1.b1 0
    have f2 : w1.cell? ⟨w.heap.size + 1 + 1, 0, none⟩ = some (.string hi) := blk_cell hA1.b2 0
    have f4 : w1.cell? ⟨w.heap.size + 1 + 1 + 1 + 1, 0, none⟩ = some (.int .i64 (t.ino.length : Int)) := blk_cell hA1.b4 0
    have z4 : w1.frozen? ⟨w.heap.size + 1 + 1 + 1 + 1, 0, none⟩ = false := blk_free hA1.b4 0
    have HA1 := Lib.hid hA1
    have HD1 := Lib.hid hD1
    clear hA1 hD1
    go_wp2_with fail
    have hA2 := HA1.out.set 0
    have hD2 := (Below.heap_setCell w1 ⟨w.heap.size + 4, 0, none⟩ (.int .i64 0) W0.heap.size (by rw [HS.out]; simp)).trans HD1.out
    generalize w1.setCell ⟨w.heap.size + 4, 0, none⟩ (.int .i64 0) = w2 at hA2 hD2 ⊢
    clear f1 f2 f4 z4 HA1 HD1
    refine (q_tRange w2 tb lo hi).mono ?_
    rintro e w3 ⟨rfl, hw3⟩
    have hk3 : Below w2.heap.size w2 w3 := by rw [hw3]; exact (((Below.refl _ _).alloc (Nat.le_refl _) _).alloc (by simp) _).alloc (by simp; omega) _
    have i1 : IsBlk w3 w2.heap.size #[.pointer (some ⟨tb, 0, none⟩)] 25 := by rw [hw3]; exact blk_alloc (blk_alloc (blk_new w2 _))
    have i2 : IsBlk w3 (w2.heap.size + 1) #[.string lo] 9 := by
      rw [hw3]; have := blk_new (w2.alloc (.cells #[.pointer (some ⟨tb, 0, none⟩)] 25)) (.cells #[.string lo] 9); rw [World.size_alloc] at this; exact blk_alloc this
    have i3 : IsBlk w3 (w2.heap.size + 2) #[.string hi] 9 := by
      rw [hw3]; have := blk_new ((w2.alloc (.cells #[.pointer (some ⟨tb, 0, none⟩)] 25)).alloc (.cells #[.string lo] 9)) (.cells #[.string hi] 9); rw [World.size_alloc, World.size_alloc] at this; exact this
    have HA3 := Lib.hid (hA2.ext hk3)
    have HD3 := Lib.hid ((hk3.block _ (lt_of_block hD2)).trans hD2)
    have HIT3 := Lib.hid (iter_trange HRISE.out i1 i2 i3 (HT.out.below HA3.out.below))
    clear hw3 hk3 i1 i2 i3 hA2 hD2
    obtain ⟨M, hM1, hM2, hM3, hM4, hM5⟩ := range_split lo hi t.ino HRISE.out
    obtain ⟨n2, hn2⟩ : ∃ n, n = (rangeL lo hi t.ino).length := ⟨_, rfl⟩
    rw [← hn2] at hM1 hM3
    have HN2 := Lib.hid hn2
    have HM1 := Lib.hid hM1
    have HM2 := Lib.hid hM2
    have HM3 := Lib.hid hM3
    have HM4 := Lib.hid hM4
    have HM5 := Lib.hid hM5
    clear hM1 hM2 hM3 hM4 hM5 hn2
    have HS3 : Hid (w.heap.size + 7 ≤ w3.heap.size) := Lib.hid (by have := lt_of_block HD3.out; rw [HS.out] at this; omega)
    go_wp2_with fail
    refine wp_forSeq rfl eg83 HIT3.out (fun _ => rfl) KeepW.trans (fun W r o h => keepW_put o h) (fun pre W => ∃ i : Nat, WBox w (.slice a t.ino.length cap) lo hi i W ∧ ((pre = [] ∧ i = 0) ∨ i = M + pre.length) ∧ W.heap[W0.heap.size]? = some (.deferred (some []))) (fun _ _ _ => False)
      ?hI (fun _ _ _ _ h _ => h.elim) ⟨0, HA3.out, .inl ⟨rfl, rfl⟩, HD3.out⟩ ?a2 ?assign2 ?body2 ?done2 ?stop2
    case hI =>
      rintro s A B ⟨i, h, hi, hd⟩ hk
      exact ⟨i, h.keeps hk.loop (by have := HS3.out; omega), hi, hk.loop.obj hd (by have := lt_of_block HD3.out; omega)⟩
    case assign2 =>
      intro x W K hK
      gi_wp2
      exact hK
    case stop2 => intro c q B _ h; exact h.elim
    case body2 =>
      rintro pre x A ⟨i, hA, hi, hd⟩ hp hsz
      have hx := pre_get hp
      have hx2 := HM4.out _ _ hx
      have hx5 := HM5.out _ _ hx
      obtain ⟨g, rfl, d0, d1⟩ := HR.out _ _ hx2
      have hlt : M + pre.length < t.ino.length := (List.getElem?_eq_some_iff.1 hx2).1
      have HX2 := Lib.hid hx2
      have HX5 := Lib.hid hx5
      have HI := Lib.hid hi
      have HLEN : Hid ((pre ++ [x]).length = pre.length + 1) := Lib.hid (by simp)
      have HA := Lib.hid hA
      have HD0 := Lib.hid hd
      have hlen : (t.ino.length : Int) < 10000 := by have := HN.out; omega
      clear hA hi hd hp hx hx2 hx5 d0 d1 hsz
      gi_wp2_with (fail)
      gi_loopw [] (fun wr => Hid (∃ i : Nat, WBox w (.slice (some ⟨g, 0, none⟩) t.ino.length cap) lo hi i wr ∧ (i ≤ M ∨ i = M + pre.length) ∧ (pre = [] ∨ i = M + pre.length) ∧
          wr.heap[w3.heap.size]? = A.heap[w3.heap.size]? ∧ wr.heap[w3.heap.size + 1]? = A.heap[w3.heap.size + 1]? ∧ KeepW A wr ∧ wr.heap[W0.heap.size]? = some (.deferred (some [])))) (fun wr => t.ino.length - (valAt wr (w.heap.size + 4)).toNat)
      case atStart => exact Lib.hid ⟨i, HA.out, HI.out.elim (fun h => .inl (by omega)) (fun h => .inr h), HI.out.elim (fun h => .inl h.1) (fun h => .inr h), rfl, rfl, KeepW.refl _, HD0.out⟩
      case round =>
        obtain ⟨i, hB, hi1, hi2, hr1, hr2, hr3, hr4⟩ := hrel.out
        have hil : i < t.ino.length := by omega
        have hy : t.ino[i]? = some t.ino[i] := List.getElem?_eq_getElem hil
        generalize t.ino[i] = y at hy
        obtain ⟨g', eg', d0, d1⟩ := HR.out _ _ hy
        obtain rfl : g = g' := by simpa using eg'
        have c0 := (hB.below.cell (p := ⟨g, i * 2, none⟩) (World.block_lt_of_cell? w _ d0)).trans d0
        have c1 := (hB.below.cell (p := ⟨g, i * 2 + 1, none⟩) (World.block_lt_of_cell? w _ d1)).trans d1
        have f0 : wr.cell? ⟨w.heap.size, 0, none⟩ = some (.slice (some ⟨g, 0, none⟩) t.ino.length cap) := blk_cell hB.b0 0
        have f1 : wr.cell? ⟨w.heap.size + 1, 0, none⟩ = some (.string lo) := blk_cell hB.b1 0
        have f2 : wr.cell? ⟨w.heap.size + 1 + 1, 0, none⟩ = some (.string hi) := blk_cell hB.b2 0
        have f4 : wr.cell? ⟨w.heap.size + 1 + 1 + 1 + 1, 0, none⟩ = some (.int .i64 (i : Int)) := blk_cell hB.b4 0
        have z4 : wr.frozen? ⟨w.heap.size + 1 + 1 + 1 + 1, 0, none⟩ = false := blk_free hB.b4 0
        have hil' : (i : Int) < (t.ino.length : Int) := by omega
        have HB := Lib.hid hB
        have HREL := Lib.hid hrel.out
        have HVAL := Lib.hid (valAt_eq hB.b4)
        by_cases hiM : i < M
        · have q1 : Op.bytesLess y.1.toList lo.toList = true := (HM2.out _ _ hy).2 hiM
          have HREC := Lib.hid (And.intro hr1 (And.intro hr2 (And.intro hr3 hr4)))
          have HI2 := Lib.hid hi2
          clear hrel hB hy d0 d1 hr1 hr2 hr3 hr4 hi2 hi1
          gi_wp2_with (fail)
          refine wpIn_region_still_tail (open_round _ _) 12 (by kernel_rfl) (by kernel_rfl) ?_
          simp only [List.take_succ_cons, List.take_zero, List.drop_succ_cons, List.drop_zero]
          repeat still_step
          refine wpStill_nil ?_
          gi_wp2_with (fail)
          have hpre : pre = [] := HI2.out.resolve_right (by omega)
          have hB' : WBox w (.slice (some ⟨g, 0, none⟩) t.ino.length cap) lo hi ((i : Int) + 1) (wr.setCell ⟨w.heap.size + 4, 0, none⟩ (.int .i64 ((i : Int) + 1))).drew := (HB.out.set _).ext (Below.refl _ _).drew
          refine ⟨Lib.hid ⟨i + 1, hB', .inl (by omega), .inl hpre, ?_, ?_, ?_, ?_⟩, ?_⟩
          · exact (Below.heap_setCell wr ⟨w.heap.size + 4, 0, none⟩ (.int .i64 ((i : Int) + 1)) w3.heap.size (by have := HS3.out; simp; omega)).trans HREC.out.1
          · exact (Below.heap_setCell wr ⟨w.heap.size + 4, 0, none⟩ (.int .i64 ((i : Int) + 1)) (w3.heap.size + 1) (by have := HS3.out; simp; omega)).trans HREC.out.2.1
          · exact HREC.out.2.2.1.trans (keepW_keeps ((keeps_set _ _ _ _).drew) (by intro T hT b cs hb e; exact ne_of_type hb (e ▸ HB.out.b4) (by rintro rfl; simp at hT) rfl))
          · exact (Below.heap_setCell wr ⟨w.heap.size + 4, 0, none⟩ (.int .i64 ((i : Int) + 1)) W0.heap.size (by rw [HS.out]; simp)).trans HREC.out.2.2.2
          · rw [HVAL.out]
            have := valAt_eq hB'.b4
            rw [show valAt (wr.setCell ⟨w.heap.size + 1 + 1 + 1 + 1, 0, none⟩ (.int .i64 ((i : Int) + 1))).drew (w.heap.size + 4) = (i : Int) + 1 from this]
            omega
        · have hie : i = M + pre.length := by
            rcases hi2 with h | h
            · rcases hi1 with h' | h'
              · subst h; simp; omega
              · exact h'
            · exact h
          obtain rfl : x = y := by have := HX2.out; rw [← hie, hy] at this; exact (Option.some.inj this).symm
          have HIE := Lib.hid hie
          have q1 : Op.bytesLess x.1.toList lo.toList = false := by
            cases h : Op.bytesLess x.1.toList lo.toList with
            | false => rfl
            | true => exact absurd ((HM2.out _ _ hy).1 h) hiM
          have q2 : Op.bytesLess x.1.toList hi.toList = true := HX5.out
          have HREC := Lib.hid (And.intro hr1 (And.intro hr2 (And.intro hr3 hr4)))
          clear hrel hB hy d0 d1 hr1 hr2 hr3 hr4 hi2 hi1 hie hiM hlt
          gi_wp2_with (fail)
          refine wpIn_region_still_tail (open_round _ _) 12 (by kernel_rfl) (by kernel_rfl) ?_
          simp only [List.take_succ_cons, List.take_zero, List.drop_succ_cons, List.drop_zero]
          repeat still_step
          refine wpStill_nil ?_
          gi_wp2_with (fail)
          have hB' : WBox w (.slice (some ⟨g, 0, none⟩) t.ino.length cap) lo hi ((i : Int) + 1) (wr.setCell ⟨w.heap.size + 4, 0, none⟩ (.int .i64 ((i : Int) + 1))).drew := (HB.out.set _).ext (Below.refl _ _).drew
          refine ⟨?_, ?_, ?_, i + 1, hB', .inr ?_, ?_⟩
          · exact (Below.heap_setCell wr ⟨w.heap.size + 4, 0, none⟩ (.int .i64 ((i : Int) + 1)) w3.heap.size (by have := HS3.out; simp; omega)).trans HREC.out.1
          · exact (Below.heap_setCell wr ⟨w.heap.size + 4, 0, none⟩ (.int .i64 ((i : Int) + 1)) (w3.heap.size + 1) (by have := HS3.out; simp; omega)).trans HREC.out.2.1
          · exact HREC.out.2.2.1.trans (keepW_keeps ((keeps_set _ _ _ _).drew) (by intro T hT b cs hb e; exact ne_of_type hb (e ▸ HB.out.b4) (by rintro rfl; simp at hT) rfl))
          · rw [HLEN.out, HIE.out]; omega
          · exact (Below.heap_setCell wr ⟨w.heap.size + 4, 0, none⟩ (.int .i64 ((i : Int) + 1)) W0.heap.size (by rw [HS.out]; simp)).trans HREC.out.2.2.2
    case done2 =>
      rintro A ⟨i, hA, hix, hd⟩ hd2
      rw [← HN2.out] at hix
      have HA := Lib.hid hA
      have HI : Hid ((i ≤ M ∨ i = M + n2) ∧ (n2 = 0 ∨ i = M + n2)) := Lib.hid (by
        rcases hix with ⟨h1, h2⟩ | h
        · have h3 := HN2.out; rw [h1] at h3; simp at h3; omega
        · omega)
      have HD := Lib.hid (And.intro hd hd2)
      clear hA hix hd hd2
      have hlen : (t.ino.length : Int) < 10000 := by have := HN.out; omega
      go_wp2_with fail
      go_loopw [] (fun wr => Hid (∃ i : Nat, WBox w (.slice a t.ino.length cap) lo hi i wr ∧ i ≤ t.ino.length ∧ ((i ≤ M ∨ i = M + n2) ∧ (n2 = 0 ∨ i = M + n2)) ∧ wr.heap[W0.heap.size]? = some (.deferred (some [])) ∧ wr.heap[w3.heap.size]? = some (.deferred (some []))))
        (fun wr => t.ino.length - (valAt wr (w.heap.size + 4)).toNat)
      case atStart => exact Lib.hid ⟨i, HA.out, by have := HM1.out; have := HI.out; omega, HI.out, HD.out⟩
      case round =>
        obtain ⟨i, hB, hil0, hi1, hr1, hr2⟩ := hrel.out
        have f0 : wr.cell? ⟨w.heap.size, 0, none⟩ = some (.slice a t.ino.length cap) := blk_cell hB.b0 0
        have f1 : wr.cell? ⟨w.heap.size + 1, 0, none⟩ = some (.string lo) := blk_cell hB.b1 0
        have f2 : wr.cell? ⟨w.heap.size + 1 + 1, 0, none⟩ = some (.string hi) := blk_cell hB.b2 0
        have f3 : wr.cell? ⟨w.heap.size + 1 + 1 + 1, 0, none⟩ = some (.bool false) := blk_cell hB.b3 0
        have z3 : wr.frozen? ⟨w.heap.size + 1 + 1 + 1, 0, none⟩ = false := blk_free hB.b3 0
        have f4 : wr.cell? ⟨w.heap.size + 1 + 1 + 1 + 1, 0, none⟩ = some (.int .i64 (i : Int)) := blk_cell hB.b4 0
        have z4 : wr.frozen? ⟨w.heap.size + 1 + 1 + 1 + 1, 0, none⟩ = false := blk_free hB.b4 0
        have HB := Lib.hid hB
        have HI1 := Lib.hid hi1
        have HR1 := Lib.hid (And.intro hr1 hr2)
        have HVAL := Lib.hid (valAt_eq hB.b4)
        by_cases hil : i < t.ino.length
        · have hy : t.ino[i]? = some t.ino[i] := List.getElem?_eq_getElem hil
          generalize t.ino[i] = y at hy
          obtain ⟨g, rfl, d0, d1⟩ := HR.out _ _ hy
          have c0 := (hB.below.cell (p := ⟨g, i * 2, none⟩) (World.block_lt_of_cell? w _ d0)).trans d0
          have hil' : (i : Int) < (t.ino.length : Int) := by omega
          have hil2 : (0 : Int) ≤ (i : Int) := by omega
          by_cases hiM : i < M
          · have q1 : Op.bytesLess y.1.toList lo.toList = true := (HM2.out _ _ hy).2 hiM
            clear hrel hB hy d0 d1 hr1 hr2 hi1 f2 f3 z3
            go_wp2
            go_quiet (fail)
            go_wp2
            have hB' : WBox w (.slice (some ⟨g, 0, none⟩) t.ino.length cap) lo hi ((i : Int) + 1) ((wr.drewN nq).setCell ⟨w.heap.size + 4, 0, none⟩ (.int .i64 ((i : Int) + 1))) := (HB.out.ext (below_drewN _ _ _)).set _
            have hW0 : w3.heap.size < wr.heap.size := lt_of_block HR1.out.2
            refine ⟨Lib.hid ⟨i + 1, hB', by omega, by have := HI1.out; omega, ?_, ?_⟩, ?_⟩
            · exact (Below.heap_setCell (wr.drewN nq) ⟨w.heap.size + 4, 0, none⟩ (.int .i64 ((i : Int) + 1)) W0.heap.size (by rw [HS.out]; simp)).trans HR1.out.1
            · exact (Below.heap_setCell (wr.drewN nq) ⟨w.heap.size + 4, 0, none⟩ (.int .i64 ((i : Int) + 1)) w3.heap.size (by have := HS3.out; simp; omega)).trans HR1.out.2
            · rw [HVAL.out]
              have := valAt_eq hB'.b4
              rw [show valAt ((wr.drewN nq).setCell ⟨w.heap.size + 1 + 1 + 1 + 1, 0, none⟩ (.int .i64 ((i : Int) + 1))) (w.heap.size + 4) = (i : Int) + 1 from this]
              omega
          · have q1 : Op.bytesLess y.1.toList lo.toList = false := by
              cases h : Op.bytesLess y.1.toList lo.toList with
              | false => rfl
              | true => exact absurd ((HM2.out _ _ hy).1 h) hiM
            have q2 : Op.bytesLess y.1.toList hi.toList = false := HM3.out _ _ hy (by omega)
            clear hrel hB hy d0 d1 hr1 hr2 hi1 z4
            have hil3 : ¬ ((t.ino.length : Int) ≤ (i : Int)) := by omega
            go_wp2
            go_quiet (fail)
            have HB4 := Lib.hid (HB.out.ext (below_drewN wr.heap.size wr nq))
            have HR4 : Hid ((wr.drewN nq).heap[W0.heap.size]? = some (.deferred (some [])) ∧ (wr.drewN nq).heap[w3.heap.size]? = some (.deferred (some []))) := HR1
            have c0 : (wr.drewN nq).cell? ⟨g, i * 2, none⟩ = some (.string y.1) := c0
            clear HB HR1 HVAL f0 f1 f2 f3 z3 f4
            generalize wr.drewN nq = w4 at *
            have f0 : w4.cell? ⟨w.heap.size, 0, none⟩ = some (.slice (some ⟨g, 0, none⟩) t.ino.length cap) := blk_cell HB4.out.b0 0
            have f2 : w4.cell? ⟨w.heap.size + 1 + 1, 0, none⟩ = some (.string hi) := blk_cell HB4.out.b2 0
            have z3 : w4.frozen? ⟨w.heap.size + 1 + 1 + 1, 0, none⟩ = false := blk_free HB4.out.b3 0
            have f3 : w4.cell? ⟨w.heap.size + 1 + 1 + 1, 0, none⟩ = some (.bool false) := blk_cell HB4.out.b3 0
            have f4 : w4.cell? ⟨w.heap.size + 1 + 1 + 1 + 1, 0, none⟩ = some (.int .i64 (i : Int)) := blk_cell HB4.out.b4 0
            go_wp2
            refine wp_region_still_tail 13 (by kernel_rfl) (by kernel_rfl) ?_
            simp only [List.take_succ_cons, List.take_zero, List.drop_succ_cons, List.drop_zero]
            repeat ((with_reducible refine wpStill_step ?_); intro K hK; go_simp; (with_reducible refine hK _ ?_); clear hK K)
            refine wpStill_nil ?_
            go_wp2_with (fail)
            exact whole_end _ HS.out HS3.out HB4.out HR4.out
        · have hil' : ¬ ((i : Int) < (t.ino.length : Int)) := by omega
          clear hrel hB hr1 hr2 hi1 z4
          have hil3 : (t.ino.length : Int) ≤ (i : Int) := by omega
          go_wp2
          go_quiet (fail)
          have HB4 := Lib.hid (HB.out.ext (below_drewN wr.heap.size wr nq))
          have HR4 : Hid ((wr.drewN nq).heap[W0.heap.size]? = some (.deferred (some [])) ∧ (wr.drewN nq).heap[w3.heap.size]? = some (.deferred (some []))) := HR1
          clear HB HR1 HVAL f0 f1 f2 f3 z3 f4
          generalize wr.drewN nq = w4 at *
          have f0 : w4.cell? ⟨w.heap.size, 0, none⟩ = some (.slice a t.ino.length cap) := blk_cell HB4.out.b0 0
          have z3 : w4.frozen? ⟨w.heap.size + 1 + 1 + 1, 0, none⟩ = false := blk_free HB4.out.b3 0
          have f3 : w4.cell? ⟨w.heap.size + 1 + 1 + 1, 0, none⟩ = some (.bool false) := blk_cell HB4.out.b3 0
          have f4 : w4.cell? ⟨w.heap.size + 1 + 1 + 1 + 1, 0, none⟩ = some (.int .i64 (i : Int)) := blk_cell HB4.out.b4 0
          go_wp2
          refine wp_region_still_tail 13 (by kernel_rfl) (by kernel_rfl) ?_
          simp only [List.take_succ_cons, List.take_zero, List.drop_succ_cons, List.drop_zero]
          repeat ((with_reducible refine wpStill_step ?_); intro K hK; go_simp; (with_reducible refine hK _ ?_); clear hK K)
          refine wpStill_nil ?_
          go_wp2_with (fail)
          exact whole_end _ HS.out HS3.out HB4.out HR4.out
end Go.Proofs.Ytndaacojbbmcnaa
