/- The meter's Events. -/
import Derived.Test.YtkbdofbjfcajbaaGreatE9
import Derived.Test.YtkbdofbjfcajbaaGreatE3
import Derived.Test.YtkbdofbjfcajbaaGreatForSeqA
namespace Go.Proofs.YtkbdofbjfcajbaaGreat
open Go.RowKit Go.Shelf Go.Sort
attribute [local go_sem] Oper.semAt_some
attribute [local go_sem] no_callee

theorem wpListIn_append_run {F : Fence} {n : Nat} {P : Program} {w : World} {ops : Array Oper} {rest : List Oper} {o : Oper} {a : Act} {Q : Exit → Act → World → Prop} (hgd : o.guard = none) (s x : Operand) (t : TypeId) (ho : o.op = .call { callee := .builtin .append, args := #[s, x], argTypes := #[t, t] })
    (v u : Value) (hs : a.eval s = v) (hx : a.eval x = u) (v' : Value) (w' : World) (hrun : (Builtin.append_ #[t, t] o.type #[v, u]).run P w = .ok v' w') (h : wpListIn F n P ops Q rest (a.put o.dst v') w') : wpListIn F n P ops Q (o :: rest) a w := by
  refine wpListIn_plain hgd fun K hK' => ?_
  unfold Oper.wpIn
  refine ⟨?_, ?_⟩
  · simp [Oper.about, ho, resolve, Target.leads, Sem.run_pure]
  · rw [Oper.semAt_plain F _ _ (by rw [ho]; intro c hc'; cases hc')]
    simp [execOp, ho, resolve, invoke, builtin, hs, hx, hrun, Result.andThen]
    exact hK' _ _ h
def inE (n : ByteArray) (a b : Int) (e : Ev) : Bool := (e.acct.toList == n.toList) && (decide (a ≤ e.at_) && decide (e.at_ < b))
/-- The events of an account and a time. -/
def selE (n : ByteArray) (a b : Int) (l : List (ByteArray × Ev)) : List Ev := (l.map (·.2)).filter (inE n a b)
theorem selE_snoc (n : ByteArray) (a b : Int) (l : List (ByteArray × Ev)) (x : ByteArray × Ev) : selE n a b (l ++ [x]) = selE n a b l ++ (if inE n a b x.2 then [x.2] else []) := by
  unfold selE
  simp only [List.map_append, List.filter_append, List.map_cons, List.map_nil, List.filter_cons, List.filter_nil]
theorem egTAll1 : ∀ args w, (callFunc 62 args).run Tryz.prog w = .ok (.enter 62 args) w := enters_of Tryz.func62 (by kernel_rfl) rfl
theorem iter_tall {w : World} {bb tb : Nat} {t : Tr ByteArray Ev} {ver : Int} (hb : IsBlk w bb #[.pointer (some ⟨tb, 0, none⟩)] 56) (hs : Ev.STab w tb t ver) :
    IterC Tryz.prog 62 #[.pointer (some ⟨bb, 0, none⟩)] Ev.encKV Ev.KeepW t.ino w :=
  fun l J Jx W hW hg hr h0 => Ev.q_tall l J Jx ⟨hg, hr⟩ bb tb W ((hW.block _ (lt_of_block hb)).trans hb) (hs.below hW) h0
theorem keepW_put {W : World} {l : Nat} {r : Loop} (o : Obj) (h : W.heap[l]? = some (.loop r)) : Ev.KeepW W (W.putObj l o) := by
  intro T _ b cs hb
  have hne : b ≠ l := by
    rintro rfl
    have := h.symm.trans hb
    simp at this
  exact (World.putObj_heap_other hne).trans hb
theorem keepW_keeps {S : Nat → Prop} {A B : World} (h : Keeps S A B) (hS : ∀ T, T ∈ [143, 9, 112, 135, 56] → ∀ b cs, IsBlk A b cs T → ¬ S b) : Ev.KeepW A B :=
  fun T hT => KeepT.of_keeps h (hS T hT)
/-- While Events goes over the table. -/
structure EvI (w : World) (base : Nat) (n : ByteArray) (a b : Int) (pre : List (ByteArray × Ev)) (v : Value) (A : World) : Prop where
  b0 : IsBlk A w.heap.size #[.string n] 9
  b1 : IsBlk A (w.heap.size + 1) #[.int .i64 a] 3
  b2 : IsBlk A (w.heap.size + 1 + 1) #[.int .i64 b] 3
  b3 : IsBlk A (w.heap.size + 1 + 1 + 1) #[v] 22
  sl : SlAt evKind 32 A v (selE n a b pre)
  new : ∀ g, v.ownBlock = some g → base ≤ g
  below : Below w.heap.size w A
theorem infoEv : (Tryz.prog.info? 32).map (fun i => (i.zero, i.size, i.bytes)) = some (some (.agg #[.string ⟨#[]⟩, .string ⟨#[]⟩, .string ⟨#[]⟩, .int .i64 0, .int .i64 0]), 5, 64) := by kernel_rfl
theorem append_ev {w : World} {v u : Value} {xs ys : List Ev} (hv : SlAt evKind 32 w v xs) (hu : RdAt evKind w u ys) (hn : xs.length + ys.length ≤ 1000000) (ty : TypeId) :
    ∃ v' w', (Builtin.append_ #[22, 22] ty #[v, u]).run Tryz.prog w = .ok v' w' ∧ SlAt evKind 32 w' v' (xs ++ ys) ∧ Keeps (fun k => v.ownBlock = some k) w w' ∧
      (∀ k, v'.ownBlock = some k → v.ownBlock = some k ∨ w.heap.size ≤ k) ∧ (v' = .slice none 0 0 ↔ v = .slice none 0 0 ∧ ys = []) := by
  obtain ⟨i0, hi, hz0, hz1, hz2⟩ := info_parts infoEv
  exact run_append_sl (ek := evKind) 22 ty i0 _ 64 Tryz.underlying22 hi hz0 hz1 hz2 rfl hv hu (by unfold maxLen; omega) (by omega)
theorem one_ev (w : World) (x : Ev) : RdAt evKind (w.alloc (.cells (evCells x).toArray 32)) (.slice (some ⟨w.heap.size, 0, none⟩) 1 1) [x] := by
  refine ⟨_, 1, rfl, fun j y hy => ⟨w.heap.size, 0, rfl, fun i hi => ?_⟩⟩
  match j, hy with
  | 0, hy =>
    simp only [List.getElem?_cons_zero, Option.some.injEq] at hy
    subst hy
    have := blk_cell (w := w.alloc (.cells (evCells x).toArray 32)) (cs := (evCells x).toArray) (heap_alloc_new w _) i
    rw [show 0 + 0 * evKind.size + i = i by omega]
    rw [this]
    simp [evKind]
theorem EvI.keeps {S : Nat → Prop} {w A B : World} {base : Nat} {n : ByteArray} {a b : Int} {pre : List (ByteArray × Ev)} {v : Value} (h : EvI w base n a b pre v A) (hk : Keeps S A B) (hS : ∀ k cs T, IsBlk A k cs T → ¬ S k) (hlo : ∀ k, S k → w.heap.size ≤ k) : EvI w base n a b pre v B :=
  ⟨hk.obj h.b0 (hS _ _ _ h.b0), hk.obj h.b1 (hS _ _ _ h.b1), hk.obj h.b2 (hS _ _ _ h.b2), hk.obj h.b3 (hS _ _ _ h.b3), h.sl.keeps hk (fun g hg => by obtain ⟨cur, hc⟩ := h.sl.own g hg; exact hS _ _ _ hc), h.new, below_keeps h.below hk hlo h.below.size⟩
theorem EvI.ext {w A B : World} {base : Nat} {n : ByteArray} {a b : Int} {pre : List (ByteArray × Ev)} {v : Value} (h : EvI w base n a b pre v A) (hk : Below A.heap.size A B) : EvI w base n a b pre v B :=
  h.keeps (Keeps.of_below hk) (fun _ _ _ _ h => h) (fun _ h => h.elim)
theorem EvI.skip {w A : World} {base : Nat} {n : ByteArray} {a b : Int} {pre : List (ByteArray × Ev)} {v : Value} (h : EvI w base n a b pre v A) (x : ByteArray × Ev) (hx : inE n a b x.2 = false) : EvI w base n a b (pre ++ [x]) v A :=
  ⟨h.b0, h.b1, h.b2, h.b3, by rw [selE_snoc, hx]; simpa using h.sl, h.new, h.below⟩
theorem EvI.push {w A : World} {base : Nat} {n : ByteArray} {a b : Int} {pre : List (ByteArray × Ev)} {v : Value} (h : EvI w base n a b pre v A) (x : ByteArray × Ev) (hx : inE n a b x.2 = true) (hl : pre.length ≤ 100000) (hb : base ≤ A.heap.size) (hw : w.heap.size + 4 ≤ base) :
    ∃ (a2 : Option Addr) (l2 c2 : Nat) (w' : World) (v' : Value), v' = .slice a2 l2 c2 ∧ (Builtin.append_ #[22, 22] 22 #[v, .slice (some ⟨A.heap.size, 0, none⟩) 1 1]).run Tryz.prog (A.alloc (.cells #[.string x.2.key, .string x.2.acct, .string x.2.mtr, .int .i64 x.2.qty, .int .i64 x.2.at_] 32)) = .ok v' w' ∧
      w'.frozen? ⟨w.heap.size + 1 + 1 + 1, 0, none⟩ = false ∧ (∃ u, w'.cell? ⟨w.heap.size + 1 + 1 + 1, 0, none⟩ = some u) ∧ EvI w base n a b (pre ++ [x]) v' (w'.setCell ⟨w.heap.size + 1 + 1 + 1, 0, none⟩ v') ∧
      Keeps (fun k => k = w.heap.size + 1 + 1 + 1 ∨ v.ownBlock = some k) A (w'.setCell ⟨w.heap.size + 1 + 1 + 1, 0, none⟩ v') := by
  have hal : Below A.heap.size A (A.alloc (.cells (evCells x.2).toArray 32)) := (Below.refl _ _).alloc (Nat.le_refl _) _
  have hlen : (selE n a b pre).length ≤ pre.length := by
    unfold selE
    exact Nat.le_trans (List.length_filter_le _ _) (by simp)
  obtain ⟨v', w', hrun, hs, hk, ho, _⟩ := append_ev (h.sl.below hal) (one_ev A x.2) (by simp only [List.length_cons, List.length_nil]; omega) 22
  have hnv : ∀ g, v.ownBlock = some g → base ≤ g := h.new
  have hkA : Keeps (fun k => v.ownBlock = some k) A w' := ((Keeps.of_below hal).mono (fun _ _ h => h.elim)).trans' hk
  have nb : ∀ k, k < base → ¬ v.ownBlock = some k := fun k hk e => by have := hnv k e; omega
  have hb3 : IsBlk w' (w.heap.size + 1 + 1 + 1) #[v] 22 := hkA.obj h.b3 (nb _ (by omega))
  have hnew' : ∀ g, v'.ownBlock = some g → base ≤ g := fun g hg => by
    rcases ho g hg with e | e
    · exact hnv g e
    · have := hal.size; omega
  have k2 : Keeps (Only (w.heap.size + 1 + 1 + 1)) w' (w'.setCell ⟨w.heap.size + 1 + 1 + 1, 0, none⟩ v') := keeps_set _ _ _ _
  have kk : Keeps (fun k => k = w.heap.size + 1 + 1 + 1 ∨ v.ownBlock = some k) A (w'.setCell ⟨w.heap.size + 1 + 1 + 1, 0, none⟩ v') := (hkA.mono (fun _ _ h => Or.inr h)).trans' (k2.mono (fun _ _ h => Or.inl h))
  have ob : ∀ {k : Nat} {cs : Array Value} {T : TypeId}, k ≠ w.heap.size + 1 + 1 + 1 → k < base → IsBlk A k cs T → IsBlk (w'.setCell ⟨w.heap.size + 1 + 1 + 1, 0, none⟩ v') k cs T := fun h1 h2 hi => kk.obj hi (fun e => by
    rcases e with e | e
    · exact h1 e
    · exact nb _ h2 e)
  obtain ⟨a2, c2, hv'⟩ := hs.shape
  refine ⟨a2, _, c2, w', v', hv', hrun, blk_free hb3 0, ⟨_, blk_cell hb3 0⟩, ⟨ob (by omega) (by omega) h.b0, ob (by omega) (by omega) h.b1, ob (by omega) (by omega) h.b2, blk_set hb3 0 _, ?_, hnew', ?_⟩, kk⟩
  · rw [selE_snoc, hx]
    exact hs.keeps k2 (fun g hg e => by have := hnew' g hg; omega)
  · exact below_keeps h.below kk (fun i e => by rcases e with e | e; omega; have := hnv i e; omega) h.below.size
theorem EvI.start (w : World) (base : Nat) (n : ByteArray) (a b : Int) : EvI w base n a b [] (.slice none 0 0) ((((w.alloc (.cells #[.string n] 9)).alloc (.cells #[.int .i64 a] 3)).alloc (.cells #[.int .i64 b] 3)).alloc (.cells #[.slice none 0 0] 22)) ∧
    ((((w.alloc (.cells #[.string n] 9)).alloc (.cells #[.int .i64 a] 3)).alloc (.cells #[.int .i64 b] 3)).alloc (.cells #[.slice none 0 0] 22)).heap.size = w.heap.size + 1 + 1 + 1 + 1 := by
  obtain ⟨w1, hw1⟩ : ∃ w1, w1 = w.alloc (.cells #[.string n] 9) := ⟨_, rfl⟩
  obtain ⟨w2, hw2⟩ : ∃ w2, w2 = w1.alloc (.cells #[.int .i64 a] 3) := ⟨_, rfl⟩
  obtain ⟨w3, hw3⟩ : ∃ w3, w3 = w2.alloc (.cells #[.int .i64 b] 3) := ⟨_, rfl⟩
  obtain ⟨w4, hw4⟩ : ∃ w4, w4 = w3.alloc (.cells #[.slice none 0 0] 22) := ⟨_, rfl⟩
  rw [← hw1, ← hw2, ← hw3, ← hw4]
  have z1 : w1.heap.size = w.heap.size + 1 := by rw [hw1]; simp
  have z2 : w2.heap.size = w.heap.size + 1 + 1 := by rw [hw2, World.size_alloc, z1]
  have z3 : w3.heap.size = w.heap.size + 1 + 1 + 1 := by rw [hw3, World.size_alloc, z2]
  have z4 : w4.heap.size = w.heap.size + 1 + 1 + 1 + 1 := by rw [hw4, World.size_alloc, z3]
  have i0 : IsBlk w1 w.heap.size #[.string n] 9 := by rw [hw1]; exact blk_new w _
  have i1 : IsBlk w2 (w.heap.size + 1) #[.int .i64 a] 3 := by rw [hw2, ← z1]; exact blk_new w1 _
  have i2 : IsBlk w3 (w.heap.size + 1 + 1) #[.int .i64 b] 3 := by rw [hw3, ← z2]; exact blk_new w2 _
  have i3 : IsBlk w4 (w.heap.size + 1 + 1 + 1) #[.slice none 0 0] 22 := by rw [hw4, ← z3]; exact blk_new w3 _
  have k2 : Below w1.heap.size w1 w2 := by rw [hw2]; exact (Below.refl _ _).alloc (Nat.le_refl _) _
  have k3 : Below w2.heap.size w2 w3 := by rw [hw3]; exact (Below.refl _ _).alloc (Nat.le_refl _) _
  have k4 : Below w3.heap.size w3 w4 := by rw [hw4]; exact (Below.refl _ _).alloc (Nat.le_refl _) _
  have k24 := k3.trans (k4.mono k3.size)
  have k14 := k2.trans (k24.mono k2.size)
  have k1 : Below w.heap.size w w1 := by rw [hw1]; exact (Below.refl _ _).alloc (Nat.le_refl _) _
  refine ⟨⟨(k14.block _ (lt_of_block i0)).trans i0, (k24.block _ (lt_of_block i1)).trans i1, (k4.block _ (lt_of_block i2)).trans i2, i3, SlAt.nil, fun g hg => (by cases hg), k1.trans (k14.mono k1.size)⟩, z4⟩
set_option maxRecDepth 100000 in
set_option maxHeartbeats 4000000 in
theorem m_events (w : World) (mb tb : Nat) (s : MSt) (n : ByteArray) (a b : Int) (hm : MtrIn w mb tb s) (hn : n.size ≤ 9223372036854775807) (hs : s.t.size < 100000) :
    Calls Tryz.prog 13 #[.pointer (some ⟨mb, 0, none⟩), .string n, .int .i64 a, .int .i64 b] w fun e w' => ∃ v L, e = .returned v ∧ SlAt evKind 32 w' v L ∧ L.Perm (if withinE n a b = 0 then selE n a b s.t.ino else []) ∧ L.Pairwise (fun x y => evLt y x = false) ∧ (∀ g, v.ownBlock = some g → w.heap.size ≤ g) ∧ Below w.heap.size w w' := by
  have HWI := Lib.hid (fun W => m_within W n hn a b)
  have hlt := hm.lt
  have hc : w.cell? ⟨mb, 2, none⟩ = some (.pointer (some ⟨tb, 0, none⟩)) := blk_cell hm.blk 2
  have HM := Lib.hid hm
  have HS := Lib.hid hs
  obtain ⟨c, hcc⟩ : ∃ c, c = withinE n a b := ⟨_, rfl⟩
  rw [← hcc] at HWI ⊢
  clear hm hn hs hcc
  refine calls_of_wp_marks Tryz.func13 rfl ?_
  simp only [Tryz.ntmps13, List.size_toArray, List.length_cons, List.length_nil, Nat.reduceAdd, Nat.reduceSub, Array.replicate_succ, Array.replicate_zero, List.push_toArray, List.append_toArray, List.nil_append, List.cons_append]
  go_wp2_with fail
  refine (HWI.out _).mono ?_
  rintro e w1 ⟨rfl, rfl⟩
  by_cases h0 : c = 0
  · have H0 := Lib.hid h0
    go_upto_region 4 with fail
    obtain ⟨hE, hsz⟩ := EvI.start w (w.heap.size + 1 + 1 + 1 + 1 + 1 + 2) n a b
    generalize ((((w.alloc (.cells #[.string n] 9)).alloc (.cells #[.int .i64 a] 3)).alloc (.cells #[.int .i64 b] 3)).alloc (.cells #[.slice none 0 0] 22)) = W0 at hE hsz ⊢
    have hc0 : W0.cell? ⟨mb, 2, none⟩ = some (.pointer (some ⟨tb, 0, none⟩)) := (hE.below.cell (p := ⟨mb, 2, none⟩) hlt).trans hc
    have HE := Lib.hid hE
    have HSZ := Lib.hid hsz
    clear hE hsz hc hlt
    go_wp2_with fail
    refine (Ev.q_tAll _ tb).mono ?_
    rintro e w1 ⟨rfl, rfl⟩
    go_wp2_with fail
    have hb1 := blk_new W0 (.cells #[.pointer (some ⟨tb, 0, none⟩)] 56)
    have hB1 : Below W0.heap.size W0 (W0.alloc (.cells #[.pointer (some ⟨tb, 0, none⟩)] 56)) := (Below.refl _ _).alloc (Nat.le_refl _) _
    have hz1 : (W0.alloc (.cells #[.pointer (some ⟨tb, 0, none⟩)] 56)).heap.size = w.heap.size + 1 + 1 + 1 + 1 + 1 := by rw [World.size_alloc, HSZ.out]
    generalize W0.alloc (.cells #[.pointer (some ⟨tb, 0, none⟩)] 56) = W1 at hb1 hB1 hz1 ⊢
    have HE1 := Lib.hid (HE.out.ext hB1)
    have HIT := Lib.hid (iter_tall hb1 (HM.out.tab.below HE1.out.below))
    have HZ := Lib.hid hz1
    clear hb1 hB1 hz1 hc0
    refine wp_forSeqA rfl egTAll1 HIT.out (fun _ => rfl) Ev.KeepW.trans (fun W r o h => keepW_put o h) (fun pre W => ∃ v, EvI w (w.heap.size + 1 + 1 + 1 + 1 + 1 + 2) n a b pre v W) (fun _ _ _ => False)
      (fun s A B h hk => ?hI) (fun _ _ _ _ h _ => h.elim) ⟨_, HE1.out⟩ (fun h => Ev.KeepW.below h) ?a1 (fun x W => W.alloc (.cells #[.string x.2.key, .string x.2.acct, .string x.2.mtr, .int .i64 x.2.qty, .int .i64 x.2.at_] 32)) (fun x W => (Below.refl _ _).alloc (Nat.le_refl _) _) ?assign ?body ?done ?stop
    case hI =>
      obtain ⟨v, hv⟩ := h
      exact ⟨v, hv.keeps hk (fun _ _ _ hi => loopAt_not hi) (fun k hk' => by have := hk'.1; have := HZ.out; omega)⟩
    case assign =>
      intro x W K hK
      gi_wp2
      exact hK
    case stop => intro c q B _ h; exact h.elim
    case body =>
      rintro pre x A0 A ⟨v, hA⟩ hp hsz2 hk
      have hbx : Ev.BoxAtE A A0.heap.size x.2 := hk.obj (blk_new A0 _) (loopAt_not (blk_new A0 _))
      obtain ⟨⟨x0, x1, x2, x3, x4⟩, -⟩ := Ev.boxE_cells hbx
      have f0 : A.cell? ⟨w.heap.size, 0, none⟩ = some (.string n) := blk_cell hA.b0 0
      have f1 : A.cell? ⟨w.heap.size + 1, 0, none⟩ = some (.int .i64 a) := blk_cell hA.b1 0
      have f2 : A.cell? ⟨w.heap.size + 1 + 1, 0, none⟩ = some (.int .i64 b) := blk_cell hA.b2 0
      have f3 : A.cell? ⟨w.heap.size + 1 + 1 + 1, 0, none⟩ = some v := blk_cell hA.b3 0
      have HA := Lib.hid hA
      have HP := Lib.hid hp
      have hlen : pre.length ≤ 100000 := by
        have h1 := hp.length_le
        rw [List.length_append, List.length_singleton, Tr.ino_length] at h1
        have := HS.out
        omega
      have hAs : w.heap.size + 1 + 1 + 1 + 1 + 1 + 2 ≤ A.heap.size := by
        have h1 := hk.size
        have := HZ.out
        have h2 : A0.heap.size ≤ (A0.alloc (.cells #[.string x.2.key, .string x.2.acct, .string x.2.mtr, .int .i64 x.2.qty, .int .i64 x.2.at_] 32)).heap.size := by simp
        omega
      have HAS := Lib.hid hAs
      have HPU := Lib.hid (fun hx => HA.out.push x hx hlen hAs (by omega))
      clear hA hp hk hbx hsz2 hlen hAs
      obtain ⟨k, u⟩ := x
      simp only at x0 x1 x2 x3 x4 HPU
      cases q1 : (u.acct.toList == n.toList) with
      | false =>
        have HX : Hid (inE n a b u = false) := Lib.hid (by unfold inE; rw [q1]; rfl)
        gi_wp2
        exact ⟨rfl, rfl, Ev.KeepW.refl _, v, HA.out.skip _ HX.out⟩
      | true =>
        by_cases q2 : a ≤ u.at_
        · by_cases q3 : u.at_ < b
          · have HX : Hid (inE n a b u = true) := Lib.hid (by unfold inE; rw [q1]; simp [q2, q3])
            obtain ⟨a2, l2, c2, w', v', rfl, hrun, z3, ⟨u3, f3'⟩, hE', hK'⟩ := HPU.out HX.out
            have HEN := Lib.hid hE'
            have HKN := Lib.hid hK'
            have HNEW := Lib.hid HA.out.new
            clear hE' hK'
            gi_wp2_with (gi_at_builtin; refine wpListIn_append_run rfl (.tmp 40) (.tmp 42) 22 rfl _ _ rfl rfl _ _ hrun ?_)
            refine ⟨?_, ?_, ?_, _, HEN.out⟩
            · refine HKN.out.block _ (by have := HAS.out; have := HZ.out; omega) (fun e => ?_)
              rcases e with e | e
              · have := HZ.out; omega
              · have := HNEW.out _ e; have := HZ.out; omega
            · refine HKN.out.block _ (by have := HAS.out; have := HZ.out; omega) (fun e => ?_)
              rcases e with e | e
              · have := HZ.out; omega
              · have := HNEW.out _ e; have := HZ.out; omega
            · refine keepW_keeps HKN.out (fun T hT b' cs hb e => ?_)
              rcases e with e | e
              · exact ne_of_type hb (e ▸ HA.out.b3) (by rintro rfl; simp at hT) rfl
              · obtain ⟨cur, hcur⟩ := HA.out.sl.own _ e
                exact ne_of_type hb hcur (by rintro rfl; simp at hT) rfl
          · have HX : Hid (inE n a b u = false) := Lib.hid (by unfold inE; rw [q1]; simp [q3])
            gi_wp2
            exact ⟨rfl, rfl, Ev.KeepW.refl _, v, HA.out.skip _ HX.out⟩
        · have HX : Hid (inE n a b u = false) := Lib.hid (by unfold inE; rw [q1]; simp [q2])
          gi_wp2
          exact ⟨rfl, rfl, Ev.KeepW.refl _, v, HA.out.skip _ HX.out⟩
    case done =>
      rintro A ⟨v, hA⟩ hD
      have f3 : A.cell? ⟨w.heap.size + 1 + 1 + 1, 0, none⟩ = some v := blk_cell hA.b3 0
      have hle : (selE n a b s.t.ino).length ≤ 100000 := by
        have h1 : (selE n a b s.t.ino).length ≤ s.t.ino.length := by unfold selE; exact Nat.le_trans (List.length_filter_le _ _) (by simp)
        rw [Tr.ino_length] at h1
        have := HS.out; omega
      have HSO := Lib.hid (m_sort hA.sl (by omega))
      have hw3 : w.heap.size + 1 + 1 + 1 < A.heap.size := lt_of_block hA.b3
      have HA := Lib.hid hA
      have HD := Lib.hid hD
      clear hA hD hle
      go_wp2_with fail
      refine HSO.out.mono ?_
      rintro e w5 ⟨rfl, L', hp, hpw, hsl, hk5⟩
      have hnb : ¬ v.ownBlock = some (w.heap.size + 1 + 1 + 1) := fun e => by have := HA.out.new _ e; omega
      have hnd : ¬ v.ownBlock = some W1.heap.size := fun e => by have := HA.out.new _ e; have := HZ.out; omega
      have f5 : w5.cell? ⟨w.heap.size + 1 + 1 + 1, 0, none⟩ = some v := blk_cell (hk5.obj HA.out.b3 hnb) 0
      have HD5 : Hid (w5.heap[W1.heap.size]? = some (.deferred (some []))) := Lib.hid ((hk5.block _ (lt_of_block HD.out) hnd).trans HD.out)
      have HB5 : Hid (Below w.heap.size w w5) := Lib.hid (below_keeps HA.out.below hk5 (fun i e => by have := HA.out.new i e; omega) HA.out.below.size)
      have HR5 := Lib.hid (And.intro hp (And.intro hpw hsl))
      clear f3 hp hpw hsl hk5 hnb hnd
      go_wp2_with fail
      refine leaves_of_marked [W1.heap.size] w5 ⟨HD5.out, v, by rw [results_tmp (t := 8) rfl]; rfl, v, rfl, L', ?_, HR5.out.1, HR5.out.2.1, fun g hg => ?_, ?_⟩
      · exact HR5.out.2.2.keeps (keeps_putObj _ _ _) (fun g hg e => by have := HA.out.new _ hg; have := HZ.out; omega)
      · have := HA.out.new _ hg; omega
      · exact below_keeps HB5.out (keeps_putObj w5 W1.heap.size (.deferred none)) (fun i e => by have := HZ.out; omega) HB5.out.size
  · have H0 := Lib.hid h0
    obtain ⟨hE, hsz⟩ := EvI.start w (w.heap.size + 1 + 1 + 1 + 1 + 1 + 2) n a b
    have hB : Below w.heap.size w (((w.alloc (.cells #[.string n] 9)).alloc (.cells #[.int .i64 a] 3)).alloc (.cells #[.int .i64 b] 3)) := (((Below.refl _ _).alloc (Nat.le_refl _) _).alloc (by simp) _).alloc (by simp; omega) _
    have HB := Lib.hid hB
    clear hE hsz hB
    go_wp2_with fail
    refine leaves_of_marked [] _ ⟨_, by rw [results_tmp (t := 8) rfl]; rfl, _, rfl, [], SlAt.nil, rfl, List.Pairwise.nil, ?_, HB.out⟩
    intro g hg
    cases hg
end Go.Proofs.YtkbdofbjfcajbaaGreat
