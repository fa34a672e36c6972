/- The walk of what tells whether names are UTF-8. -/
import Derived.Test.YthjcolehccbihaaGreatDoorz19
import Derived.Test.YthjcolehccbihaaGreatDoorz22
import Derived.OwnWalkIn
set_option linter.unusedSimpArgs false
set_option linter.unusedVariables false
namespace Go.Proofs.YthjcolehccbihaaGreatDoor
open Go.RowKit Go.Shelf
theorem text_cell {w : World} {a : Option Addr} {cap : Nat} {xs : List ByteArray} (h : RdAt textKind w (.slice a xs.length cap) xs) {k : Nat} {x : ByteArray} (hx : xs[k]? = some x) :
    ∃ g off, a = some ⟨g, off, none⟩ ∧ w.cell? ⟨g, off + k, none⟩ = some (.string x) := by
  obtain ⟨a', cap', e, hr⟩ := h
  obtain ⟨g, off, ea, hcell⟩ := hr k x hx
  injection e with e1 _ _
  subst e1
  refine ⟨g, off, ea, ?_⟩
  have := hcell 0 (by decide)
  simpa [textKind] using this
section
variable {w : World}
set_option maxRecDepth 100000 in
theorem j_check1 (s : ByteArray) (hs : s.size ≤ 1000000) (ht : Tabs w) : Calls Tryz.prog 63 #[.string s] w fun e w' => e = .returned (.bool (!valid (raw s))) ∧ Below w.heap.size w w' := by
  have HV := Lib.hid (u_validString (w := w) s (by omega) ht)
  obtain ⟨b, hb⟩ : ∃ b, b = valid (raw s) := ⟨_, rfl⟩
  rw [← hb] at HV
  rw [← hb]
  clear hb hs ht
  go_enter Tryz.func63, Tryz.ntmps63
  go_wp2_with (fail)
  refine HV.out.mono ?_
  rintro e w' ⟨rfl, hb'⟩
  have HB := Lib.hid hb'
  clear hb'
  go_wp2_with (fail)
  go_ret
  exact ⟨rfl, HB.out⟩
set_option maxRecDepth 100000 in
set_option maxHeartbeats 4000000 in
theorem s_indexFn {v : Value} {names : List ByteArray} (h : RdAt textKind w v names) (hn : names.length ≤ 1000000) (hsz : ∀ s ∈ names, s.size ≤ 1000000) (ht : Tabs w) :
    Calls Tryz.prog 89 #[v, .func (.func 63) #[] #[]] w fun e w' => ∃ i : Int, e = .returned (.int .i64 i) ∧ Hid (decide (0 ≤ i) = names.any fun s => !valid (raw s)) ∧ Hid (Below w.heap.size w w') := by
  have h2 := h
  obtain ⟨a, cap, hv, -⟩ := h2
  subst hv
  have HR := Lib.hid h
  have HT := Lib.hid ht
  have HN := Lib.hid (And.intro hn hsz)
  clear h ht hn hsz
  go_enter Tryz.func89, Tryz.ntmps89
  go_wp2_with (fail)
  go_loopg [8] (names.length + 1) (fun gk s wx => ∃ k : Nat, gk = names.length - k + 1 ∧ k ≤ names.length ∧ s = .int .i64 (k : Int) ∧ Hid (Below w.heap.size w wx) ∧ Hid (((names.take k).any fun s => !valid (raw s)) = false))
  case atStart => exact ⟨0, rfl, Nat.zero_le _, rfl, Lib.hid (Below.refl _ _), Lib.hid rfl⟩
  case round =>
    obtain ⟨k, rfl, hk, rfl, HB, HA⟩ := hrel
    by_cases hlt : k < names.length
    · have ht : decide ((k : Int) < (names.length : Int)) = true := by simpa using hlt
      have hlt2 : (k : Int) < (names.length : Int) := by omega
      obtain ⟨x, hx⟩ : ∃ x, names[k]? = some x := ⟨_, List.getElem?_eq_getElem hlt⟩
      have hmem : x ∈ names := List.mem_of_getElem? hx
      obtain ⟨g, off, rfl, c0⟩ := text_cell (HR.out.below HB.out) hx
      have HX := Lib.hid hx
      have hw64 : wrap64 ((k : Int) + 1) = (k : Int) + 1 := by have := HN.out.1; unfold wrap64; omega
      have HC := Lib.hid (j_check1 (w := wr) x (HN.out.2 x hmem) (HT.out.below HB.out))
      obtain ⟨b, hb⟩ : ∃ b, b = valid (raw x) := ⟨_, rfl⟩
      rw [← hb] at HC
      have HBB := Lib.hid hb
      have HL := Lib.hid hlt
      clear hx hmem hb hlt hk
      cases b with
      | true =>
        have HA' : Hid (((names.take (k + 1)).any fun s => !valid (raw s)) = false) := Lib.hid (by
          rw [List.take_add_one, HX.out, List.any_append, HA.out]
          simp [← HBB.out])
        go_wp2_with (go_at_call 63; refine HC.out.mono ?_; rintro e w' ⟨rfl, hb'⟩)
        go_roundg (names.length - (k + 1) + 1)
        case measure => have := HL.out; omega
        case rel => exact ⟨k + 1, rfl, HL.out, by rw [hw64]; rfl, Lib.hid (HB.out.trans (hb'.mono HB.out.size)), HA'⟩
      | false =>
        go_wp2_with (go_at_call 63; refine HC.out.mono ?_; rintro e w' ⟨rfl, hb'⟩)
        go_ret
        refine ⟨(k : Int), rfl, Lib.hid ?_, Lib.hid (HB.out.trans (hb'.mono HB.out.size))⟩
        rw [decide_eq_true (by omega)]
        symm
        rw [List.any_eq_true]
        exact ⟨x, List.mem_of_getElem? HX.out, by rw [← HBB.out]; rfl⟩
    · have ht : decide (k < names.length) = false := by simpa using hlt
      have hk2 : k = names.length := by omega
      have HK := Lib.hid hk2
      clear hlt hk hk2
      go_wp2_with (fail)
      go_ret
      refine ⟨-1, rfl, Lib.hid ?_, HB⟩
      have := HA.out
      rw [HK.out, List.take_length] at this
      rw [this]
      rfl
theorem s_contFn {v : Value} {names : List ByteArray} (h : RdAt textKind w v names) (hn : names.length ≤ 1000000) (hsz : ∀ s ∈ names, s.size ≤ 1000000) (ht : Tabs w) :
    Calls Tryz.prog 62 #[v, .func (.func 63) #[] #[]] w fun e w' => e = .returned (.bool (names.any fun s => !valid (raw s))) ∧ Below w.heap.size w w' := by
  have HI := Lib.hid (s_indexFn h hn hsz ht)
  clear h hn hsz ht
  go_enter Tryz.func62, Tryz.ntmps62
  go_wp2_with (fail)
  refine HI.out.mono ?_
  rintro e w' ⟨i, rfl, HD, HB⟩
  go_wp2_with (fail)
  go_ret
  exact ⟨by rw [← HD.out]; rfl, HB.out⟩
end
end Go.Proofs.YthjcolehccbihaaGreatDoor
namespace Go.Proofs.YthjcolehccbihaaGreatDoor
open Go.RowKit Go.Shelf
/-- The blocks below n are as they were. -/
def Old (n : Nat) (A B : World) : Prop := ∀ k, k < n → B.heap[k]? = A.heap[k]?
theorem Old.trans {n : Nat} {A B C : World} (h1 : Old n A B) (h2 : Old n B C) : Old n A C := fun k hk => (h2 k hk).trans (h1 k hk)
theorem wd (n : Nat) : Fence.wide.depth.isSome = true → 1 ≤ n := fun h => by simp [Fence.wide] at h
theorem wfn (f : FuncId) : Fence.wide.fn f := trivial
theorem no_callee (F : Fence) : (∀ f : FuncId, (none : Option FuncId) = some f → F.fn f) = True := by simp
attribute [local go_sem] no_callee
section
variable {w : World}
theorem RdAt.old {α : Type} {ek : ElKind α} {v : Value} {xs : List α} {A B : World} (h : RdAt ek A v xs) (ho : Old A.heap.size A B) (hz : A.heap.size ≤ B.heap.size) : RdAt ek B v xs := by
  obtain ⟨a, cap, e, hr⟩ := h
  refine ⟨a, cap, e, fun j x hx => ?_⟩
  obtain ⟨g, off, ea, hcell⟩ := hr j x hx
  refine ⟨g, off, ea, fun i hi => ?_⟩
  have h1 := hcell i hi
  have hl := ek.len x
  rw [List.getElem?_eq_getElem (by omega)] at h1
  have hg : g < A.heap.size := World.block_lt_of_cell? A ⟨g, off + j * ek.size + i, none⟩ h1
  rw [hcell i hi |>.symm]
  exact World.cell?_of_block (a := ⟨g, off + j * ek.size + i, none⟩) (ho g hg)
set_option maxRecDepth 100000 in
set_option maxHeartbeats 4000000 in
theorem q_vals (l : Nat) (J Jx : List ByteArray → World → Prop) {bm : Nat} {v : Value} {names : List ByteArray} (hb : IsBlk w bm #[v] 23) (hrd : RdAt textKind w v names) (hn : names.length ≤ 1000000) (W : World) (hW : Below w.heap.size w W)
    (hg : ∀ ys A B, J ys A → Below A.heap.size A B → J ys B)
    (hr : ∀ pre x A, J pre A → pre ++ [x] <+: names → YieldAt Fence.wide 0 Tryz.prog l #[.string x] A fun e B => (e = .returned (.bool true) ∧ J (pre ++ [x]) B ∧ Old w.heap.size A B) ∨ (e = .returned (.bool false) ∧ Jx (pre ++ [x]) B ∧ Old w.heap.size A B))
    (h0 : J [] W) : Calls Tryz.prog 92 (#[.func (.yield l) #[] #[]] ++ #[.pointer (some ⟨bm, 0, none⟩)]) W fun e B => (∃ v, e = .returned v) ∧ (J names B ∨ ∃ q, q <+: names ∧ Jx q B) := by
  show Calls Tryz.prog 92 #[.func (.yield l) #[] #[], .pointer (some ⟨bm, 0, none⟩)] W _
  have h2 := hrd
  obtain ⟨a, cap, hv, -⟩ := h2
  subst hv
  have c0 : W.cell? ⟨bm, 0, none⟩ = some (.slice a names.length cap) := blk_cell ((hW.block _ (lt_of_block hb)).trans hb) 0
  have HRD := Lib.hid hrd
  have HN := Lib.hid hn
  have HG := Lib.hid hg
  have HY := Lib.hid hr
  have HW := Lib.hid (And.intro hW.block hW.size)
  have HJ0 := Lib.hid h0
  clear hb hrd hn hg hr h0 hW
  go_enter Tryz.func92, Tryz.ntmps92
  go_wp2_with (fail)
  clear c0
  go_loopw [7] (fun i wr => ∃ k : Nat, i = .int .i64 (k : Int) ∧ k ≤ names.length ∧ Hid (J (names.take k) wr) ∧ Hid (Old w.heap.size w wr)) (fun i _ => names.length - (intOf i).toNat)
  case atStart => exact ⟨0, rfl, Nat.zero_le _, Lib.hid (by rw [List.take_zero]; exact HJ0.out), Lib.hid HW.out.1⟩
  case round =>
    obtain ⟨k, rfl, hk, HJ, HO⟩ := hrel
    by_cases hlt : k < names.length
    · have ht : decide (k < names.length) = true := by simpa using hlt
      have hlt2 : (k : Int) < (names.length : Int) := by omega
      obtain ⟨x, hx⟩ : ∃ x, names[k]? = some x := ⟨_, List.getElem?_eq_getElem hlt⟩
      obtain ⟨g, off, hga, c1⟩ := text_cell HRD.out hx
      have c0 : wr.cell? ⟨g, off + k, none⟩ = some (.string x) := (World.cell?_of_block (a := ⟨g, off + k, none⟩) (HO.out g (World.block_lt_of_cell? w ⟨g, off + k, none⟩ c1))).trans c1
      subst hga
      have HT : Hid (names.take k ++ [x] = names.take (k + 1)) := Lib.hid (by rw [List.take_add_one, hx]; rfl)
      have hw64 : wrap64 ((k : Int) + 1) = (k : Int) + 1 := by have := HN.out; unfold wrap64; omega
      obtain ⟨fn, tmps, assign, body, hy, hR⟩ := HY.out (names.take k) x wr HJ.out (by rw [HT.out]; exact List.take_prefix _ _)
      have HR2 := Lib.hid hR
      have HL := Lib.hid hlt
      clear hR hx c1 hlt hk
      go_upto_region 3 with (fail)
      refine (wpIn_wide (n := 1)).1 ?_
      gi_wp2_with (first | (with_reducible refine ⟨fun f _ => wfn f, ?_⟩) | (with_reducible refine ⟨wfn _, wd _, ?_⟩) | (with_reducible refine ⟨wd _, ?_⟩) | (with_reducible refine ⟨wfn _, ?_⟩))
      refine HR2.out.mono ?_
      rintro e W2 (⟨rfl, hJ2, hk2⟩ | ⟨rfl, hx2, hk2⟩)
      · have HJ2 := Lib.hid hJ2
        have HO2 := Lib.hid (HO.out.trans hk2)
        clear hJ2 hk2
        gi_wp2_with (first | (with_reducible refine ⟨fun f _ => wfn f, ?_⟩) | (with_reducible refine ⟨wfn _, wd _, ?_⟩) | (with_reducible refine ⟨wd _, ?_⟩) | (with_reducible refine ⟨wfn _, ?_⟩))
        go_wp2_with (fail)
        go_roundw
        case rel => exact ⟨k + 1, by rw [hw64]; rfl, HL.out, Lib.hid (by rw [← HT.out]; exact HJ2.out), HO2⟩
        case measure => have := HL.out; rw [hw64]; simp [intOf]; omega
      · have HX2 := Lib.hid hx2
        clear hx2 hk2
        gi_wp2_with (first | (with_reducible refine ⟨fun f _ => wfn f, ?_⟩) | (with_reducible refine ⟨wfn _, wd _, ?_⟩) | (with_reducible refine ⟨wd _, ?_⟩) | (with_reducible refine ⟨wfn _, ?_⟩))
        go_wp2_with (fail)
        refine bodyPost_ret (results_none rfl _ _ _) rfl ?_
        exact ⟨⟨_, rfl⟩, .inr ⟨_, by rw [HT.out]; exact List.take_prefix _ _, HX2.out⟩⟩
    · have ht : decide (k < names.length) = false := by simpa using hlt
      have ht2 : decide ((k : Int) < (names.length : Int)) = false := by simpa using hlt
      have ht3 : ¬ (k : Int) < (names.length : Int) := by omega
      have hk2 : k = names.length := by omega
      have HK := Lib.hid hk2
      clear hlt hk hk2
      go_wp2_with (fail)
      go_end0
      exact ⟨⟨_, rfl⟩, .inl (by have := HJ.out; rw [HK.out, List.take_length] at this; exact this)⟩
theorem iter_vals {bm : Nat} {v : Value} {names : List ByteArray} (hb : IsBlk w bm #[v] 23) (hrd : RdAt textKind w v names) (hn : names.length ≤ 1000000) {W0 : World} (hB : Below w.heap.size w W0) :
    IterC Tryz.prog 92 #[.pointer (some ⟨bm, 0, none⟩)] (fun x => #[.string x]) (Old w.heap.size) names W0 :=
  fun l J Jx W hW hg hr h0 => q_vals l J Jx hb hrd hn W (hB.trans (hW.mono hB.size)) hg hr h0
end
end Go.Proofs.YthjcolehccbihaaGreatDoor
namespace Go.Proofs.YthjcolehccbihaaGreatDoor
open Go.RowKit Go.Shelf Go.Sort
attribute [local go_sem] Oper.semAt_some
attribute [local go_sem] no_callee
section
variable {w : World}
/-- Names gathered: the box, the row that it names. -/
structure GatI (w : World) (bs : Nat) (pre : List ByteArray) (W : World) : Prop where
  ex : ∃ u, IsBlk W bs #[u] 23 ∧ W.ownsRow (w.heap.size + 3) 9 1 u pre.length (pre.map Value.string)
  below : Below w.heap.size w W
theorem ownsRow_keeps {S : Nat → Prop} {W W' : World} {base : Nat} {e : TypeId} {size n : Nat} {v : Value} {xs : List Value} (h : W.ownsRow base e size v n xs) (hk : Keeps S W W') (hS : ∀ g, v.ownBlock = some g → ¬ S g) : W'.ownsRow base e size v n xs := by
  refine ⟨h.1, ?_⟩
  rcases h.2 with h2 | ⟨g, cap, cur, rfl, hb, hg, r⟩
  · exact .inl h2
  · exact .inr ⟨g, cap, cur, rfl, hb, (hk.block g (lt_of_block hg) (hS g rfl)).trans hg, r⟩
theorem ownsRow_blk {W : World} {base : Nat} {e : TypeId} {size n : Nat} {v : Value} {xs : List Value} (h : W.ownsRow base e size v n xs) {g : Nat} (hg : v.ownBlock = some g) : base ≤ g ∧ ∃ cur, IsBlk W g cur e := by
  rcases h.2 with ⟨rfl, _⟩ | ⟨g', cap, cur, rfl, hb, hg', r⟩
  · cases hg
  · cases hg; exact ⟨hb, cur, hg'⟩
set_option maxRecDepth 100000 in
set_option maxHeartbeats 4000000 in
theorem s_appendSeq {bm : Nat} {v : Value} {names : List ByteArray} (hb : IsBlk w bm #[v] 23) (hrd : RdAt textKind w v names) (hn : names.length ≤ 1000000) :
    Calls Tryz.prog 114 #[.slice none 0 0, .func (.func 92) #[] #[.pointer (some ⟨bm, 0, none⟩)]] w fun e w' => ∃ u, e = .returned u ∧ w'.ownsRow (w.heap.size + 3) 9 1 u names.length (names.map Value.string) ∧ Below w.heap.size w w' := by
  have eg := enters_of Tryz.func92 (P := Tryz.prog) (by kernel_rfl) rfl
  refine calls_of_wp_marks Tryz.func114 rfl ?_
  simp only [Tryz.ntmps114, List.size_toArray, List.length_cons, List.length_nil, Nat.reduceAdd, Nat.reduceSub, Array.replicate_succ, Array.replicate_zero, List.push_toArray, List.append_toArray, List.nil_append, List.cons_append]
  have HN := Lib.hid hn
  obtain ⟨W0, hW0⟩ : ∃ x, x = w.alloc (.cells #[.slice none 0 0] 23) := ⟨_, rfl⟩
  have hB0 : Below w.heap.size w W0 := by rw [hW0]; exact (Below.refl _ _).alloc (Nat.le_refl _) _
  have hz0 : W0.heap.size = w.heap.size + 1 := by rw [hW0]; simp
  have hI0 : GatI w w.heap.size [] W0 := ⟨⟨_, by rw [hW0]; exact blk_new _ _, ⟨rfl, .inl ⟨rfl, rfl⟩⟩⟩, hB0⟩
  have hit : IterC Tryz.prog 92 #[.pointer (some ⟨bm, 0, none⟩)] (fun x => #[.string x]) (Old w.heap.size) names W0 := iter_vals hb hrd hn hB0
  have HIT := Lib.hid hit
  have HZ := Lib.hid hz0
  have HI0 := Lib.hid hI0
  clear hb hrd hn hB0 hz0 hI0 hit
  go_upto_region 1 with (fail)
  rw [← hW0]
  clear hW0
  go_wp2_with (fail)
  obtain ⟨i0, hi, hz, hs, hby⟩ := info_parts infoStr
  have HIN := Lib.hid (And.intro hi (And.intro hz (And.intro hs hby)))
  clear hi hz hs hby
  refine wp_forSeq rfl eg HIT.out (fun _ => rfl) Old.trans (fun W r o h k hk => World.putObj_heap_other (by have := HZ.out; omega)) (fun pre W => GatI w w.heap.size pre W) (fun _ _ _ => False)
    (fun s A B h hk => ?hI) (fun _ _ _ _ h _ => h.elim) HI0.out ?a1 ?assign ?body ?done ?stop
  case hI =>
    obtain ⟨u, hu, hr⟩ := h.ex
    exact ⟨⟨u, hk.obj hu (loopAt_not hu), ownsRow_keeps hr hk (fun g hg e => by obtain ⟨_, cur, hc⟩ := ownsRow_blk hr hg; exact loopAt_not hc e)⟩, below_keeps h.below hk (fun k hk' => by have := hk'.1; have := HZ.out; omega) h.below.size⟩
  case assign =>
    intro x W K hK
    gi_wp2
    exact hK
  case stop => intro c q B _ h; exact h.elim
  case body =>
    intro pre x A hA hp hsz
    obtain ⟨u, hu, hr⟩ := hA.ex
    have c0 : A.cell? ⟨w.heap.size, 0, none⟩ = some u := blk_cell hu 0
    have hlen : pre.length + 1 ≤ 1000000 := by
      have := hp.length_le
      have h2 := HN.out
      simp at this
      omega
    have HA := Lib.hid hA
    have HR := Lib.hid hr
    have HU := Lib.hid hu
    clear hA hp hr hu
    have hsz3 : w.heap.size + 3 ≤ A.heap.size := by have := HZ.out; omega
    gi_wp2_with (first
      | (gi_at_builtin
         refine wpListIn_append_own _ rfl _ _ 23 rfl (w.heap.size + 3) 9 i0 (.string ⟨#[]⟩) 1 16 Tryz.underlying23 HIN.out.1 HIN.out.2.1 HIN.out.2.2.1 HIN.out.2.2.2 rfl (by decide) _ _ _ rfl (HR.out.alloc _) ⟨A.heap.size, 0, none⟩ 1 1 [.string x] rfl rfl (cell_one_new _ _ _) (by simp [Value.oneCell']) (by unfold maxLen; omega) (by omega) (by simp; omega) ?_
         intro v' w3 hown' hg3 hnil3
         have hu3 : IsBlk w3 w.heap.size #[u] 23 := (hg3.block _ (by simp; have := lt_of_block HU.out; omega) (fun e => by obtain ⟨_, cur, hc⟩ := ownsRow_blk HR.out e.symm; have := hc.symm.trans HU.out; simp at this)).trans ((Below.heap_alloc _ _ _ (lt_of_block HU.out)).trans HU.out)
         have z3 : w3.frozen? ⟨w.heap.size, 0, none⟩ = false := blk_free hu3 0
         have c3 : w3.cell? ⟨w.heap.size, 0, none⟩ = some u := blk_cell hu3 0
         have HU3 := Lib.hid hu3
         have HG3 := Lib.hid hg3
         have HO3 := Lib.hid hown'
         obtain ⟨g', cap', hv'⟩ : ∃ g' cap', v' = .slice (some ⟨g', 0, none⟩) (pre.length + 1) cap' := by
           rcases hown'.2 with ⟨_, h0⟩ | ⟨g', cap', cur', h1, _⟩
           · exact absurd h0 (by omega)
           · exact ⟨g', cap', h1⟩
         subst hv'
         clear hu3 hg3 hown' hnil3
         go_frame)
      | gi_in)
    have hrest : ∀ k, k < w.heap.size + 3 → k ≠ w.heap.size → (w3.setCell ⟨w.heap.size, 0, none⟩ (.slice (some ⟨g', 0, none⟩) (pre.length + 1) cap')).heap[k]? = A.heap[k]? := fun k hk hne =>
      (Below.heap_setCell _ _ _ k (fun e => hne e)).trans ((HG3.out.block k (by simp; omega) (fun e => by have := (ownsRow_blk HR.out e.symm).1; omega)).trans (Below.heap_alloc _ _ k (by omega)))
    have hset : Keeps (Only w.heap.size) w3 (w3.setCell ⟨w.heap.size, 0, none⟩ (.slice (some ⟨g', 0, none⟩) (pre.length + 1) cap')) := keeps_set _ _ _ _
    have hb3 : Below w.heap.size w w3 := (HA.out.below.alloc HA.out.below.size _).grown HG3.out (by simp; omega) (fun k e => by have := (ownsRow_blk HR.out e).1; omega)
    refine ⟨hrest _ (by have := HZ.out; omega) (by have := HZ.out; omega), hrest _ (by have := HZ.out; omega) (by have := HZ.out; omega), ?_, ?_⟩
    · intro k hk
      exact hrest k (by omega) (by omega)
    · refine ⟨⟨_, blk_set HU3.out 0 _, ?_⟩, below_keeps hb3 hset (fun i e => by have e : i = w.heap.size := e; omega) hb3.size⟩
      have := ownsRow_keeps HO3.out hset (fun g hg e => by have := (ownsRow_blk HO3.out hg).1; have e : g = w.heap.size := e; omega)
      simpa using this
  case done =>
    intro A hA hD
    obtain ⟨u, hu, hr⟩ := hA.ex
    have c0 : A.cell? ⟨w.heap.size, 0, none⟩ = some u := blk_cell hu 0
    have HA := Lib.hid hA
    have HD := Lib.hid hD
    have HR := Lib.hid hr
    clear hA hD hr hu
    go_wp2_with fail
    have hk := keeps_putObj A W0.heap.size (.deferred none)
    refine leaves_of_marked [W0.heap.size] A ⟨HD.out, u, by rw [results_tmp (t := 4) rfl]; rfl, u, rfl, ownsRow_keeps HR.out hk (fun g hg e => by have := (ownsRow_blk HR.out hg).1; have := HZ.out; omega), below_keeps HA.out.below hk (fun i e => by have := HZ.out; omega) HA.out.below.size⟩
theorem s_values (a : Option Addr) (n c : Nat) (w : World) : Calls Tryz.prog 65 #[.slice a n c] w fun e w' => e = .returned (.func (.func 92) #[] #[.pointer (some ⟨w.heap.size, 0, none⟩)]) ∧ w.alloc (.cells #[.slice a n c] 23) = w' := by
  go_enter Tryz.func65, Tryz.ntmps65
  go_wp2_with (fail)
  go_ret
  exact ⟨rfl, rfl⟩
theorem s_collect {bm : Nat} {v : Value} {names : List ByteArray} (hb : IsBlk w bm #[v] 23) (hrd : RdAt textKind w v names) (hn : names.length ≤ 1000000) :
    Calls Tryz.prog 90 #[.func (.func 92) #[] #[.pointer (some ⟨bm, 0, none⟩)]] w fun e w' => ∃ u, e = .returned u ∧ w'.ownsRow (w.heap.size + 3) 9 1 u names.length (names.map Value.string) ∧ Below w.heap.size w w' := by
  have HA := Lib.hid (s_appendSeq hb hrd hn)
  clear hb hrd hn
  go_enter Tryz.func90, Tryz.ntmps90
  go_wp2_with (fail)
  refine HA.out.mono ?_
  rintro e w' ⟨u, rfl, h1, h2⟩
  have H := Lib.hid (And.intro h1 h2)
  clear h1 h2
  go_wp2_with (fail)
  go_ret
  exact ⟨u, rfl, H.out.1, H.out.2⟩
/-- Names in order. -/
def sortedRaw (names : List ByteArray) : List (List UInt8) := (names.map raw).mergeSort fun x y => decide (x ≤ y)
theorem sortedRaw_length (names : List ByteArray) : (sortedRaw names).length = names.length := by simp [sortedRaw]
theorem map_enc (names : List ByteArray) : names.map Value.string = (names.map raw).map encStr := by
  rw [List.map_map]
  refine List.map_congr_left fun x _ => ?_
  show Value.string x = Value.string ⟨(raw x).toArray⟩
  simp [raw]
set_option maxRecDepth 100000 in
theorem s_sorted {bm : Nat} {v : Value} {names : List ByteArray} (hb : IsBlk w bm #[v] 23) (hrd : RdAt textKind w v names) (hn : names.length ≤ 1000000) :
    Calls Tryz.prog 64 #[.func (.func 92) #[] #[.pointer (some ⟨bm, 0, none⟩)]] w fun e w' => ∃ u, e = .returned u ∧ w'.ownsRow (w.heap.size + 3) 9 1 u names.length ((sortedRaw names).map encStr) ∧ Below w.heap.size w w' := by
  have HC := Lib.hid (s_collect hb hrd hn)
  have HN := Lib.hid hn
  clear hb hrd hn
  go_enter Tryz.func64, Tryz.ntmps64
  go_wp2_with (fail)
  refine HC.out.mono ?_
  rintro e W ⟨u, rfl, hrow, hb⟩
  have HB := Lib.hid hb
  clear hb
  rcases hrow.2 with ⟨rfl, hz⟩ | ⟨gb, cap, cur, rfl, hbase, hgb, r1, r2, r3, r4⟩
  · have hss : names = [] := List.eq_nil_of_length_eq_zero hz
    subst hss
    have HR : Hid (W.ownsRow (w.heap.size + 3) 9 1 (.slice none 0 0) ([] : List ByteArray).length ((sortedRaw []).map encStr)) := Lib.hid (by simpa [sortedRaw] using hrow)
    clear hrow
    go_wp2_with (fail)
    refine (Tryz.slices_Sort_string_none none 0 W).mono ?_
    rintro e w' ⟨rfl, rfl⟩
    go_wp2_with (fail)
    go_ret
    exact ⟨_, rfl, HR.out, HB.out⟩
  · have hl : (names.map raw).length = names.length := by simp
    rw [map_enc] at r4
    have hH : Holds encStr W gb 0 (names.map raw).toArray := holds_of_block hgb (by rw [hl]; simpa using r4)
    have hgl : gb < W.heap.size := lt_of_block hgb
    have HS := Lib.hid (Tryz.slices_Sort_string gb 0 cap (names.map raw) W hH hgl (by rw [hl]; have := HN.out; omega))
    rw [hl] at HS
    have HF : Hid (∀ k os, (grow (putRow encStr (Sort.ahead W k) gb 0 ((names.map raw).mergeSort fun x y => decide (x ≤ y)).toArray) os).ownsRow (w.heap.size + 3) 9 1 (.slice (some ⟨gb, 0, none⟩) names.length cap) names.length ((sortedRaw names).map encStr) ∧
        Below w.heap.size w (grow (putRow encStr (Sort.ahead W k) gb 0 ((names.map raw).mergeSort fun x y => decide (x ≤ y)).toArray) os)) := Lib.hid fun k os => by
      refine ⟨?_, HB.out.grown (grownBy_sorted _) HB.out.size (fun j hj => by cases hj; omega)⟩
      have := ownsRow_sorted (n := k) (os := os) (ss := names.map raw) (ts := sortedRaw names) (by simp [sortedRaw]) hbase hgb (by rw [hl]; exact r1) r2 r3
      rw [hl] at this
      exact this
    clear hrow hbase hgb r1 r2 r3 r4 hH hgl
    go_wp2_with (fail)
    refine HS.out.mono ?_
    rintro e w' ⟨rfl, k, os, rfl⟩
    have HF2 := Lib.hid (HF.out k os)
    go_wp2_with (fail)
    go_ret
    exact ⟨_, rfl, HF2.out.1, HF2.out.2⟩
end
end Go.Proofs.YthjcolehccbihaaGreatDoor
namespace Go.Proofs.YthjcolehccbihaaGreatDoor
open Go.RowKit Go.Shelf Go.Sort
theorem compact_len {zs : List (List UInt8)} : (Lib.compact zs).length = zs.length ↔ ∀ j, 0 < j → j < zs.length → zs[j]? ≠ zs[j - 1]? := by
  unfold Lib.compact Lib.compactUpTo
  rw [List.length_map]
  have h0 : ((List.range zs.length).filter (Lib.keeps zs.toArray)).length = zs.length ↔ ∀ j ∈ List.range zs.length, Lib.keeps zs.toArray j = true := by
    conv => lhs; rhs; rw [← List.length_range (n := zs.length)]
    exact List.length_filter_eq_length_iff
  rw [h0]
  have key : ∀ j, j < zs.length → zs.toArray[j]! = zs[j]?.getD default := fun j hj => by simp [hj]
  constructor
  · intro h j h1 h2 e
    have := h j (List.mem_range.2 h2)
    unfold Lib.keeps at this
    simp only [Bool.or_eq_true, beq_iff_eq, decide_eq_true_eq, bne_iff_ne, ne_eq] at this
    rcases this with h3 | h3
    · omega
    · exact h3 (by rw [key j h2, key (j - 1) (by omega), e])
  · intro h j hj
    have hj := List.mem_range.1 hj
    unfold Lib.keeps
    simp only [Bool.or_eq_true, beq_iff_eq, decide_eq_true_eq, bne_iff_ne, ne_eq]
    by_cases h1 : j = 0
    · exact .inl h1
    · refine .inr fun e => h j (by omega) hj ?_
      rw [key j hj, key (j - 1) (by omega), List.getElem?_eq_getElem hj, List.getElem?_eq_getElem (show j - 1 < zs.length by omega)] at e
      rw [List.getElem?_eq_getElem hj, List.getElem?_eq_getElem (show j - 1 < zs.length by omega)]
      simpa using e
theorem compact_distinct (names : List ByteArray) : ((Lib.compact (sortedRaw names)).length == names.length) = distinct (names.map raw) := by
  have hp : (sortedRaw names).Perm (names.map raw) := List.mergeSort_perm _ _
  have hs : (sortedRaw names).Pairwise (fun a b => decide (a ≤ b) = true) := List.pairwise_mergeSort (fun a b c h1 h2 => by simp only [decide_eq_true_eq] at *; exact List.le_trans h1 h2) (fun a b => by simp only [Bool.or_eq_true, decide_eq_true_eq]; exact List.le_total a b) _
  rw [Bool.eq_iff_iff, beq_iff_eq, distinct_nodup, ← hp.nodup_iff, ← sortedRaw_length names, compact_len]
  constructor
  · intro h
    rw [List.nodup_iff_pairwise_ne, List.pairwise_iff_getElem]
    intro i j hi hj hij e
    have h1 := h j (by omega) hj
    rw [List.getElem?_eq_getElem hj, List.getElem?_eq_getElem (show j - 1 < _ by omega)] at h1
    apply h1
    congr 1
    have h2 : (sortedRaw names)[j - 1] ≤ (sortedRaw names)[j] := by simpa using List.pairwise_iff_getElem.1 hs (j - 1) j (by omega) hj (by omega)
    have h3 : (sortedRaw names)[i] ≤ (sortedRaw names)[j - 1] := by
      by_cases he : i = j - 1
      · subst he; exact List.le_refl _
      · simpa using List.pairwise_iff_getElem.1 hs i (j - 1) hi (by omega) (by omega)
    rw [e] at h3
    exact List.le_antisymm h3 h2
  · intro h j h1 h2 e
    rw [List.getElem?_eq_getElem h2, List.getElem?_eq_getElem (show j - 1 < _ by omega)] at e
    exact (List.pairwise_iff_getElem.1 h (j - 1) j (by omega) h2 (by omega)) (by simpa using e.symm)
section
variable {W : World}
set_option maxRecDepth 100000 in
theorem s_compact {base : Nat} {u : Value} {names : List ByteArray} (h : W.ownsRow base 9 1 u names.length ((sortedRaw names).map encStr)) (hn : names.length ≤ 1000000) (hbs : base ≤ W.heap.size) :
    Calls Tryz.prog 66 #[u] W fun e w' => ∃ a n c, e = .returned (.slice a n c) ∧ Hid ((n == names.length) = distinct (names.map raw)) ∧ Hid (Below base W w') := by
  rcases h.2 with ⟨rfl, hz⟩ | ⟨gb, cap, cur, rfl, hbase, hgb, r1, r2, r3, r4⟩
  · have hss : names = [] := List.eq_nil_of_length_eq_zero hz
    subst hss
    refine (Tryz.slices_Compact_string_empty none 0 W).mono ?_
    rintro e w' ⟨rfl, rfl⟩
    exact ⟨_, _, _, rfl, Lib.hid rfl, Lib.hid (Below.refl _ _)⟩
  · have hl := sortedRaw_length names
    have hH : Holds encStr W gb 0 (sortedRaw names).toArray := holds_of_block hgb (by rw [hl]; simpa using r4)
    have hc := Tryz.slices_Compact_string gb 0 cap (sortedRaw names) W hH (by rw [hl]; omega) (by rw [hl]; exact r1)
    rw [hl] at hc
    refine hc.mono ?_
    rintro e w' ⟨rfl, q, rfl⟩
    refine ⟨_, _, _, rfl, Lib.hid (compact_distinct names), Lib.hid ?_⟩
    have hg : W.grownBy (putRow encStr (Sort.ahead W q) gb 0 (Lib.compact (sortedRaw names) ++ List.replicate (names.length - (Lib.compact (sortedRaw names)).length) []).toArray) (some gb) := by
      refine ⟨rfl, rfl, rfl, by simp [putRow, mapBlock, Sort.ahead], fun k hk hne => ?_⟩
      have : gb ≠ k := fun e => hne (by rw [e])
      simp [putRow, mapBlock, Sort.ahead, Array.getElem?_modify, this]
    exact (Below.refl base W).grown hg hbs (fun k e => by cases e; exact hbase)
end
end Go.Proofs.YthjcolehccbihaaGreatDoor
