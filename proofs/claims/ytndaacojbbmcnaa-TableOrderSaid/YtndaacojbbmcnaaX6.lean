/- The statement TablePlays, walked. -/
import Derived.Test.YtndaacojbbmcnaaL4
namespace Go.Proofs.Ytndaacojbbmcnaa
open Go.RowKit Go.RwLone Go.Shelf
attribute [local go_sem] Oper.semAt_some

/-- A snapshot that was taken: where it lies, the pairs of its time, its version. -/
structure SnR where
  sb : Nat
  v : Value
  t : Tr ByteArray Int
  ver : Int
abbrev encSn (r : SnR) : List Value := [.pointer (some ⟨r.sb, 0, none⟩)]
abbrev encWe (r : SnR) : List Value := [r.v]
abbrev encVs (r : SnR) : List Value := [.int .i64 r.ver]
theorem info51 : (Try.prog.info? 51).map (fun i => (i.zero, i.size, i.bytes)) = some (some (.pointer none), 1, 8) := by kernel_rfl
theorem info27 : (Try.prog.info? 27).map (fun i => (i.zero, i.size, i.bytes)) = some (some (.slice none 0 0), 1, 24) := by kernel_rfl
theorem info3 : (Try.prog.info? 3).map (fun i => (i.zero, i.size, i.bytes)) = some (some (.int .i64 0), 1, 8) := by kernel_rfl

section
variable {S : Nat → Prop} {A B : World} {T : TypeId}
theorem blk_keepT (hk : Keeps S A B) (hS : ∀ k, S k → ∃ cs, IsBlk A k cs T) {b : Nat} {cs : Array Value} {U : TypeId} (h : IsBlk A b cs U) (hne : U ≠ T) : IsBlk B b cs U :=
  hk.obj h fun hs => by obtain ⟨ds, hd⟩ := hS b hs; exact ne_of_type h hd hne rfl
theorem row_keepT {α : Type} {enc : α → List Value} {e : TypeId} {size base : Nat} {v : Value} {xs : List α} (hk : Keeps S A B) (hS : ∀ k, S k → ∃ cs, IsBlk A k cs T) (h : RowOf enc e size A base v xs) (hne : e ≠ T) : RowOf enc e size B base v xs :=
  h.keeps hk fun g hg hs => by
    obtain ⟨cs, hc⟩ := row_blk h g hg
    obtain ⟨ds, hd⟩ := hS g hs
    exact ne_of_type hc hd hne rfl
theorem snap_keepT {sb : Nat} {t : Tr ByteArray Int} {ver : Int} (hk : Keeps S A B) (hS : ∀ k, S k → ∃ cs, IsBlk A k cs T) (h : SSnap A sb t ver) (h1 : 94 ≠ T) (h2 : 111 ≠ T) : SSnap B sb t ver := by
  obtain ⟨root, hb, _⟩ := h.ex
  exact h.keeps hk (fun hs => by obtain ⟨ds, hd⟩ := hS _ hs; exact ne_of_type hb hd h1 rfl) (fun b cs hb hs => by obtain ⟨ds, hd⟩ := hS _ hs; exact ne_of_type hb hd h2 rfl)
theorem tab_keepT {tb : Nat} {t : Tr ByteArray Int} {ver : Int} (hk : Keeps S A B) (hS : ∀ k, S k → ∃ cs, IsBlk A k cs T) (h : STab A tb t ver) (h1 : 80 ≠ T) (h2 : 111 ≠ T) : STab B tb t ver := by
  obtain ⟨root, hb, _⟩ := h.ex
  exact h.keeps hk (fun hs => by obtain ⟨ds, hd⟩ := hS _ hs; exact ne_of_type hb hd h1 rfl) (fun b cs hb hs => by obtain ⟨ds, hd⟩ := hS _ hs; exact ne_of_type hb hd h2 rfl)
end

/-- What holds of the snapshots. -/
structure SnI (w : World) (sv wv vv : Value) (L : List SnR) (W : World) : Prop where
  sn : RowOf encSn 51 1 W w.heap.size sv L
  we : RowOf encWe 27 1 W w.heap.size wv L
  vs : RowOf encVs 3 1 W w.heap.size vv L
  each : ∀ r ∈ L, SSnap W r.sb r.t r.ver ∧ PRow W w.heap.size r.v r.t.ino ∧ Rise slt r.t.ino ∧ r.t.size ≤ 200
  few : L.length ≤ 20
theorem SnI.below {w : World} {sv wv vv : Value} {L : List SnR} {A B : World} (h : SnI w sv wv vv L A) (hk : Below A.heap.size A B) : SnI w sv wv vv L B :=
  ⟨h.sn.below hk, h.we.below hk, h.vs.below hk, fun r hr => ⟨(h.each r hr).1.below hk, (h.each r hr).2.1.below hk, (h.each r hr).2.2⟩, h.few⟩
theorem SnI.keepT {w : World} {sv wv vv : Value} {L : List SnR} {A B : World} {S : Nat → Prop} (h : SnI w sv wv vv L A) (hk : Keeps S A B) (hS : ∀ k, S k → ∃ cs, IsBlk A k cs 80) : SnI w sv wv vv L B :=
  ⟨row_keepT hk hS h.sn (by decide), row_keepT hk hS h.we (by decide), row_keepT hk hS h.vs (by decide), fun r hr => ⟨snap_keepT hk hS (h.each r hr).1 (by decide) (by decide), row_keepT hk hS (h.each r hr).2.1 (by decide), (h.each r hr).2.2⟩, h.few⟩
/-- What holds while the operations are played. -/
structure PlI (w : World) (tb : Nat) (nv sv wv vv : Value) (j : Nat) (ver : Int) (t : Tr ByteArray Int) (L : List SnR) (W : World) : Prop where
  tab : STab W tb t ver
  ver0 : 0 ≤ ver
  ver1 : ver ≤ j
  rise : Rise slt t.ino
  size : t.size ≤ j
  row : PRow W w.heap.size nv t.ino
  sn : SnI w sv wv vv L W
  ge : w.heap.size ≤ tb
  bel : Below w.heap.size w W
theorem PlI.below {w : World} {tb : Nat} {nv sv wv vv : Value} {j : Nat} {ver : Int} {t : Tr ByteArray Int} {L : List SnR} {A B : World} (h : PlI w tb nv sv wv vv j ver t L A) (hk : Below A.heap.size A B) : PlI w tb nv sv wv vv j ver t L B :=
  ⟨h.tab.below hk, h.ver0, h.ver1, h.rise, h.size, h.row.below hk, h.sn.below hk, h.ge, h.bel.trans (hk.mono h.bel.size)⟩
theorem PlI.later {w : World} {tb : Nat} {nv sv wv vv : Value} {j k : Nat} {ver : Int} {t : Tr ByteArray Int} {L : List SnR} {A : World} (h : PlI w tb nv sv wv vv j ver t L A) (hj : j ≤ k) : PlI w tb nv sv wv vv k ver t L A :=
  ⟨h.tab, h.ver0, by have := h.ver1; omega, h.rise, by have := h.size; omega, h.row, h.sn, h.ge, h.bel⟩
theorem tab_only {W : World} {tb : Nat} {t : Tr ByteArray Int} {ver : Int} (h : STab W tb t ver) : ∀ k, Only tb k → ∃ cs, IsBlk W k cs 80 := by
  rintro k rfl
  obtain ⟨root, hb, _⟩ := h.ex
  exact ⟨_, hb⟩
/-- Behind a write to the table, and to the list beside it. -/
theorem PlI.write {w : World} {tb : Nat} {nv nv' sv wv vv : Value} {j : Nat} {ver : Int} {t t' : Tr ByteArray Int} {L : List SnR} {A B C : World} (h : PlI w tb nv sv wv vv j ver t L A) (hk : Keeps (Only tb) A B) (ht : STab B tb t' (ver + 1)) (hs : t'.size ≤ t.size + 1) (hr : Rise slt t'.ino)
    (hc : Below B.heap.size B C) (hrow : PRow C B.heap.size nv' t'.ino) : PlI w tb nv' sv wv vv (j + 1) (ver + 1) t' L C := by
  have hB : w.heap.size ≤ B.heap.size := Nat.le_trans h.bel.size hk.size
  exact ⟨ht.below hc, by have := h.ver0; omega, by have := h.ver1; omega, hr, by have := h.size; omega, hrow.base_le (fun g hg => by have := (hrow.own g hg).1; omega), (h.sn.keepT hk (tab_only h.tab)).below hc, h.ge,
    (below_keeps h.bel hk (fun k e => by have : k = tb := e; have := h.ge; omega) h.bel.size).trans (hc.mono hB)⟩
theorem ino_delT {t : Tr ByteArray Int} (h : Rise slt t.ino) (k : ByteArray) : (delT t k).ino = dropL slt t.ino k := by
  unfold delT
  cases hg : t.get slt k with
  | some x => simp; exact ino_drop slt_ord t h k
  | none =>
    simp
    rw [get_ino slt_ord t h] at hg
    unfold findL at hg
    rw [Option.map_eq_none_iff, List.find?_eq_none] at hg
    refine (filt_all fun x hx => ?_).symm
    have := hg x hx
    cases h1 : slt x.1 k <;> cases h2 : slt k x.1 <;> simp_all
theorem find_get {t : Tr ByteArray Int} (h : Rise slt t.ino) (k : ByteArray) : findE k t.ino = t.get slt k := by rw [findE_eq, get_ino slt_ord t h]
theorem op_blk (w : World) (x : TOp) : IsBlk (w.alloc (.cells #[.int .i64 x.kind, .int .i64 x.v, .string x.key, .string x.top] 30)) w.heap.size #[.int .i64 x.kind, .int .i64 x.v, .string x.key, .string x.top] 30 := blk_new _ _
/-- One snapshot more. -/
theorem SnI.more {w : World} {sv wv vv sv' wv' vv' : Value} {L : List SnR} {r : SnR} {A B C D : World} (h : SnI w sv wv vv L A) (hr : SSnap A r.sb r.t r.ver ∧ PRow A w.heap.size r.v r.t.ino ∧ Rise slt r.t.ino ∧ r.t.size ≤ 200) (hf : L.length < 20)
    (k1 : Keeps (fun k => sv.ownBlock = some k) A B) (s1 : RowOf encSn 51 1 B w.heap.size sv' (L ++ [r])) (k2 : Keeps (fun k => wv.ownBlock = some k) B C) (s2 : RowOf encWe 27 1 C w.heap.size wv' (L ++ [r]))
    (k3 : Keeps (fun k => vv.ownBlock = some k) C D) (s3 : RowOf encVs 3 1 D w.heap.size vv' (L ++ [r])) : SnI w sv' wv' vv' (L ++ [r]) D := by
  have h1 : ∀ k, sv.ownBlock = some k → ∃ cs, IsBlk A k cs 51 := row_blk h.sn
  have w1 := row_keepT k1 h1 h.we (by decide)
  have h2 : ∀ k, wv.ownBlock = some k → ∃ cs, IsBlk B k cs 27 := row_blk w1
  have v1 := row_keepT k2 h2 (row_keepT k1 h1 h.vs (by decide)) (by decide)
  have h3 : ∀ k, vv.ownBlock = some k → ∃ cs, IsBlk C k cs 3 := row_blk v1
  refine ⟨row_keepT k3 h3 (row_keepT k2 h2 s1 (by decide)) (by decide), row_keepT k3 h3 s2 (by decide), s3, fun q hq => ?_, by simp; omega⟩
  have hq0 : SSnap A q.sb q.t q.ver ∧ PRow A w.heap.size q.v q.t.ino ∧ Rise slt q.t.ino ∧ q.t.size ≤ 200 := by
    rcases List.mem_append.1 hq with hq | hq
    · exact h.each q hq
    · rw [List.mem_singleton] at hq; subst hq; exact hr
  exact ⟨snap_keepT k3 h3 (snap_keepT k2 h2 (snap_keepT k1 h1 hq0.1 (by decide) (by decide)) (by decide) (by decide)) (by decide) (by decide), row_keepT k3 h3 (row_keepT k2 h2 (row_keepT k1 h1 hq0.2.1 (by decide)) (by decide)) (by decide), hq0.2.2⟩

theorem one_sn (r : SnR) : ∀ u ∈ encSn r, u.oneCell' = true := by
  intro u hu; simp only [List.mem_cons, List.not_mem_nil, or_false] at hu; subst hu; rfl
theorem one_vs (r : SnR) : ∀ u ∈ encVs r, u.oneCell' = true := by
  intro u hu; simp only [List.mem_cons, List.not_mem_nil, or_false] at hu; subst hu; rfl
theorem one_we (sb : Nat) (a : Option Addr) (n c : Nat) (t : Tr ByteArray Int) (ver : Int) : ∀ u ∈ encWe ⟨sb, .slice a n c, t, ver⟩, u.oneCell' = true := by
  intro u hu; simp only [List.mem_cons, List.not_mem_nil, or_false] at hu; subst hu; rfl
theorem PlI.more {w : World} {tb : Nat} {nv sv wv vv sv' wv' vv' : Value} {j : Nat} {ver : Int} {t : Tr ByteArray Int} {L : List SnR} {r : SnR} {A B C D : World} (h : PlI w tb nv sv wv vv j ver t L A) (hr : SSnap A r.sb r.t r.ver ∧ PRow A w.heap.size r.v r.t.ino ∧ Rise slt r.t.ino ∧ r.t.size ≤ 200) (hf : L.length < 20)
    (k1 : Keeps (fun k => sv.ownBlock = some k) A B) (s1 : RowOf encSn 51 1 B w.heap.size sv' (L ++ [r])) (k2 : Keeps (fun k => wv.ownBlock = some k) B C) (s2 : RowOf encWe 27 1 C w.heap.size wv' (L ++ [r]))
    (k3 : Keeps (fun k => vv.ownBlock = some k) C D) (s3 : RowOf encVs 3 1 D w.heap.size vv' (L ++ [r])) {b : Nat} {os : Array Value} (ho : IsBlk A b os 30) : PlI w tb nv sv' wv' vv' (j + 1) ver t (L ++ [r]) D ∧ IsBlk D b os 30 := by
  have h1 : ∀ k, sv.ownBlock = some k → ∃ cs, IsBlk A k cs 51 := row_blk h.sn.sn
  have w1 := row_keepT k1 h1 h.sn.we (by decide)
  have h2 : ∀ k, wv.ownBlock = some k → ∃ cs, IsBlk B k cs 27 := row_blk w1
  have v0 := row_keepT k1 h1 h.sn.vs (by decide)
  have v1 := row_keepT k2 h2 v0 (by decide)
  have h3 : ∀ k, vv.ownBlock = some k → ∃ cs, IsBlk C k cs 3 := row_blk v1
  have z1 := h.bel.size
  have z2 := k1.size
  have z3 := k2.size
  have o1 := h.sn.sn.own
  have o2 := w1.own
  have o3 := v1.own
  exact ⟨⟨tab_keepT k3 h3 (tab_keepT k2 h2 (tab_keepT k1 h1 h.tab (by decide) (by decide)) (by decide) (by decide)) (by decide) (by decide), h.ver0, by have := h.ver1; omega, h.rise, by have := h.size; omega,
    row_keepT k3 h3 (row_keepT k2 h2 (row_keepT k1 h1 h.row (by decide)) (by decide)) (by decide), h.sn.more hr hf k1 s1 k2 s2 k3 s3, h.ge,
    below_keeps (below_keeps (below_keeps h.bel k1 (fun k e => (o1 k e).1) h.bel.size) k2 (fun k e => (o2 k e).1) (by omega)) k3 (fun k e => (o3 k e).1) (by omega)⟩,
    blk_keepT k3 h3 (blk_keepT k2 h2 (blk_keepT k1 h1 ho (by decide)) (by decide)) (by decide)⟩

set_option maxRecDepth 100000 in
set_option maxHeartbeats 20000000 in
theorem t_plays (w : World) (v1 : Value) (l : List TOp) (h1 : OpsAt w v1 l) (hm1 : l.length ≤ maxLen) (hs1 : ∀ x ∈ l, x.key.size ≤ maxLen ∧ x.top.size ≤ maxLen) :
    Calls Try.prog 6 #[v1] w fun e w' => e = .returned (.bool true) ∧ Below w.heap.size w w' := by
  have HF1 : Hid (∀ W, Below w.heap.size w W → Calls Try.prog 8 #[v1] W (FewPost l.length W)) := Lib.hid fun W hW => l_few W v1 l (h1.below hW) hm1 hs1
  obtain ⟨a1, cap1, rfl, hr1⟩ := h1
  have HR1 := Lib.hid hr1
  clear hr1 hm1 hs1
  go_enter Try.func6, Try.ntmps6
  go_wp2_with fail
  refine (t_first _).mono ?_
  rintro e w1 ⟨rfl, hb1⟩
  have HB1 := Lib.hid hb1
  clear hb1
  go_wp2_with fail
  refine (HF1.out _ HB1.out).mono ?_
  rintro e w2 ⟨b1, rfl, hl1, hk⟩
  have HB2 := Lib.hid (HB1.out.trans (hk.mono HB1.out.size))
  have HL1 := Lib.hid hl1
  clear hk hl1
  go_wp2_with fail
  refine (t_new _).mono ?_
  rintro e w3 ⟨tb, rfl, ht, hle, hlt, hk3⟩
  have HB3 := Lib.hid (HB2.out.trans (hk3.mono HB2.out.size))
  have HT := Lib.hid ht
  have HLE : Hid (w.heap.size ≤ tb) := Lib.hid (by have := HB2.out.size; omega)
  clear ht hle hlt hk3
  cases b1 with
  | false =>
    go_wp2_with fail
    go_ret
    exact ⟨rfl, HB3.out⟩
  | true =>
    have HL200 := Lib.hid (HL1.out (by simp))
    have HP0 : Hid (PlI w tb (.slice none 0 0) (.slice none 0 0) (.slice none 0 0) (.slice none 0 0) 0 0 .leaf [] w3) := Lib.hid
      ⟨HT.out, by omega, by omega, by simp [Tr.ino, Rise], by simp [Tr.size], RowOf.nil encP_len, ⟨RowOf.nil (fun _ => rfl), RowOf.nil (fun _ => rfl), RowOf.nil (fun _ => rfl), by simp, by simp⟩, HLE.out, HB3.out⟩
    clear HL1 HT HB1 HB2 HB3 HF1
    go_wp2_with fail
    go_loopw [6, 7, 8, 9, 10, 11] (fun nv sv wv vv vr i wr => ∃ (j : Nat) (ver : Int) (t : Tr ByteArray Int) (L : List SnR), j ≤ l.length ∧ i = .int .i64 j ∧ vr = .int .i64 ver ∧ Hid (PlI w tb nv sv wv vv j ver t L wr)) (fun _ _ _ _ _ i _ => l.length - (intOf i).toNat)
    case atStart => exact ⟨0, 0, .leaf, [], Nat.zero_le _, rfl, rfl, HP0⟩
    case round =>
      obtain ⟨j, ver, t, L, hj, rfl, rfl, HH⟩ := hrel
      by_cases hlt : j < l.length
      · have hx : l[j]? = some l[j] := List.getElem?_eq_getElem hlt
        generalize l[j] = x at hx
        obtain ⟨g, off, rfl, c0, c1, c2, c3⟩ := HR1.out j x hx
        have hbel := HH.out.bel
        have c0 := (hbel.cell (p := ⟨g, off + j * 4, none⟩) (World.block_lt_of_cell? w _ c0)).trans c0
        have c1 := (hbel.cell (p := ⟨g, off + j * 4 + 1, none⟩) (World.block_lt_of_cell? w _ c1)).trans c1
        have c2 := (hbel.cell (p := ⟨g, off + j * 4 + 2, none⟩) (World.block_lt_of_cell? w _ c2)).trans c2
        have c3 := (hbel.cell (p := ⟨g, off + j * 4 + 3, none⟩) (World.block_lt_of_cell? w _ c3)).trans c3
        have hjl : (j : Int) < (l.length : Int) := by omega
        have hl2 : (l.length : Int) ≤ 200 := by have := HL200.out; omega
        have hv0 : 0 ≤ ver := HH.out.ver0
        have hv1 : ver ≤ 200 := by have := HH.out.ver1; omega
        have HSZ : Hid (t.size ≤ 200 ∧ t.ino.length ≤ 200) := Lib.hid (by have := HH.out.size; rw [Tr.ino_length]; omega)
        obtain ⟨a7, cs, rfl⟩ : ∃ a c, u7 = .slice a L.length c := by
          rcases HH.out.sn.sn.shape with ⟨rfl, rfl⟩ | ⟨g, c, rfl, _⟩
          · exact ⟨none, 0, rfl⟩
          · exact ⟨_, _, rfl⟩
        have hL20 : (L.length : Int) ≤ 20 := by have := HH.out.sn.few; omega
        clear hx hbel
        obtain ⟨xk, xv, key, top⟩ := x
        simp only at c0 c1 c2 c3
        have hk : xk = 0 ∨ xk = 1 ∨ (xk = 2 ∧ (L.length : Int) < 20) ∨ (xk = 2 ∧ ¬ (L.length : Int) < 20) ∨ (¬ xk = 0 ∧ ¬ xk = 1 ∧ ¬ xk = 2) := by omega
        rcases hk with rfl | rfl | ⟨rfl, h20⟩ | ⟨rfl, h20⟩ | ⟨k0, k1, k2⟩
        case' inl =>
          go_wp2_with (fail)
          have hO := blk_new wr (.cells #[.int .i64 0, .int .i64 xv, .string key, .string top] 30)
          have hkO : Below wr.heap.size wr (wr.alloc (.cells #[.int .i64 0, .int .i64 xv, .string key, .string top] 30)) := (Below.refl _ _).alloc (Nat.le_refl _) _
          generalize wr.alloc (.cells #[.int .i64 0, .int .i64 xv, .string key, .string top] 30) = W1 at hO hkO ⊢
          have H1 := Lib.hid (HH.out.below hkO)
          refine (t_put W1 tb t ver key xv H1.out.tab hv0 (by omega) (by have := HSZ.out; omega)).mono ?_
          rintro e W2 ⟨rfl, ht2, hk2⟩
          have hO2 : IsBlk W2 wr.heap.size #[.int .i64 0, .int .i64 xv, .string key, .string top] 30 := blk_keepT hk2 (tab_only H1.out.tab) hO (by decide)
          have HO2 := Lib.hid hO2
          have f1 : W2.cell? ⟨wr.heap.size, 1, none⟩ = some (.int .i64 xv) := blk_cell hO2 1
          have f2 : W2.cell? ⟨wr.heap.size, 2, none⟩ = some (.string key) := blk_cell hO2 2
          have HT2 := Lib.hid ht2
          have HK2 := Lib.hid hk2
          have HR2 := Lib.hid (row_keepT hk2 (tab_only H1.out.tab) H1.out.row (by decide))
          clear hO hkO hO2 ht2 hk2 c0 c1 c2 c3
          go_wp2_with (fail)
          refine (l_put W2 _ _ t.ino key xv HR2.out (by have := HSZ.out; omega)).mono ?_
          rintro e W3 ⟨nv', rfl, hrow3, hb3⟩
          rw [putTo_all _ _ _ H1.out.rise, ← ino_put slt_ord t H1.out.rise] at hrow3
          have HI := Lib.hid (H1.out.write HK2.out HT2.out (by have := size_put (lt := slt) t key xv; omega) (rise_put slt_ord H1.out.rise _ _) hb3 hrow3)
          have HOB := Lib.hid ((hb3.block _ (lt_of_block HO2.out)).trans HO2.out)
          have f2 : W3.cell? ⟨wr.heap.size, 2, none⟩ = some (.string key) := blk_cell HOB.out 2
          clear hrow3 hb3 f1
          go_wp2_with (fail)
        case' inr.inl =>
          go_wp2_with (fail)
          have hO := blk_new wr (.cells #[.int .i64 1, .int .i64 xv, .string key, .string top] 30)
          have hkO : Below wr.heap.size wr (wr.alloc (.cells #[.int .i64 1, .int .i64 xv, .string key, .string top] 30)) := (Below.refl _ _).alloc (Nat.le_refl _) _
          generalize wr.alloc (.cells #[.int .i64 1, .int .i64 xv, .string key, .string top] 30) = W1 at hO hkO ⊢
          have H1 := Lib.hid (HH.out.below hkO)
          have HO1 := Lib.hid hO
          have f2 : W1.cell? ⟨wr.heap.size, 2, none⟩ = some (.string key) := blk_cell hO 2
          clear hO hkO c0 c1 c2 c3
          refine (l_find _ _ _ t.ino key H1.out.row (by have := HSZ.out; omega)).mono ?_
          rintro e W2 ⟨he, rfl⟩
          rw [find_get H1.out.rise] at he
          subst he
          simp only [pairRes]
          go_wp2_with (fail)
          refine (t_delete W1 tb t ver key H1.out.tab hv0 (by omega) (by have := HSZ.out; omega)).mono ?_
          rintro e W2 ⟨rfl, ht2, hk2⟩
          have hO2 : IsBlk W2 wr.heap.size #[.int .i64 1, .int .i64 xv, .string key, .string top] 30 := blk_keepT hk2 (tab_only H1.out.tab) HO1.out (by decide)
          have HO2 := Lib.hid hO2
          have f2 : W2.cell? ⟨wr.heap.size, 2, none⟩ = some (.string key) := blk_cell hO2 2
          have HT2 := Lib.hid ht2
          have HK2 := Lib.hid hk2
          have HR2 := Lib.hid (row_keepT hk2 (tab_only H1.out.tab) H1.out.row (by decide))
          clear hO2 ht2 hk2
          go_wp2_with (fail)
          refine (l_drop W2 _ _ t.ino key HR2.out (by have := HSZ.out; omega)).mono ?_
          rintro e W3 ⟨nv', rfl, hrow3, hb3⟩
          rw [dropTo_all, ← ino_delT H1.out.rise] at hrow3
          have HI := Lib.hid (H1.out.write HK2.out HT2.out (by have := size_delT t key; omega) (rise_delT H1.out.rise _) hb3 hrow3)
          have HOB := Lib.hid ((hb3.block _ (lt_of_block HO2.out)).trans HO2.out)
          have f2 : W3.cell? ⟨wr.heap.size, 2, none⟩ = some (.string key) := blk_cell HOB.out 2
          clear hrow3 hb3
          go_wp2_with (fail)
        case' inr.inr.inl =>
          obtain ⟨i51, hi51, hz510, hz511, hz512⟩ := info_parts info51
          obtain ⟨i27, hi27, hz270, hz271, hz272⟩ := info_parts info27
          obtain ⟨i3, hi3, hz30, hz31, hz32⟩ := info_parts info3
          obtain ⟨an, cn, rfl, _⟩ := prow_read HH.out.row
          go_wp2_with (fail)
          have hO := blk_new wr (.cells #[.int .i64 2, .int .i64 xv, .string key, .string top] 30)
          have hkO : Below wr.heap.size wr (wr.alloc (.cells #[.int .i64 2, .int .i64 xv, .string key, .string top] 30)) := (Below.refl _ _).alloc (Nat.le_refl _) _
          generalize wr.alloc (.cells #[.int .i64 2, .int .i64 xv, .string key, .string top] 30) = W1 at hO hkO ⊢
          have H1 := Lib.hid (HH.out.below hkO)
          have HO1 := Lib.hid hO
          clear hO hkO c0 c1 c2 c3
          refine (t_snapshot W1 tb t ver H1.out.tab).mono ?_
          rintro e W2 ⟨sb, rfl, hs2, _, hb2⟩
          have H2 := Lib.hid (H1.out.below hb2)
          have HO2 := Lib.hid ((hb2.block _ (lt_of_block HO1.out)).trans HO1.out)
          have HS2 := Lib.hid hs2
          clear hs2 hb2
          have HF : Hid (L.length < 20) := Lib.hid (by omega)
          have HRR : Hid (SSnap W2 sb t ver ∧ PRow W2 w.heap.size (.slice an t.ino.length cn) t.ino ∧ Rise slt t.ino ∧ t.size ≤ 200) := Lib.hid ⟨HS2.out, H2.out.row, H2.out.rise, HSZ.out.1⟩
          go_wp2_with (at_builtin; refine wpList_append1 encSn rfl (.tmp 95) (.tmp 98) 55 rfl w.heap.size 51 i51 _ 1 8 Try.underlying55 hi51 hz510 hz511 hz512 rfl (by omega) _ L ⟨sb, .slice an t.ino.length cn, t, ver⟩ rfl H2.out.sn.sn rfl (one_sn _) ?c1 (by omega) H2.out.bel.size ?_)
          case c1 => have := HF.out; omega
          intro g3 d3 W3 hrow3 hk3 hb3
          have K3 := Lib.hid hk3
          have S3 := Lib.hid hrow3
          have WE3 := Lib.hid (row_keepT hk3 (row_blk H2.out.sn.sn) H2.out.sn.we (by decide))
          have VS3 := Lib.hid (row_keepT hk3 (row_blk H2.out.sn.sn) H2.out.sn.vs (by decide))
          have Z3 : Hid (w.heap.size ≤ W3.heap.size) := Lib.hid (Nat.le_trans H2.out.bel.size hk3.size)
          clear hrow3 hk3 hb3
          go_wp2_with (at_builtin; refine wpList_append1 encWe rfl (.tmp 100) (.tmp 102) 56 rfl w.heap.size 27 i27 _ 1 24 Try.underlying56 hi27 hz270 hz271 hz272 rfl (by omega) _ L ⟨sb, .slice an t.ino.length cn, t, ver⟩ rfl WE3.out rfl (one_we _ _ _ _ _ _) ?c2 (by omega) Z3.out ?_)
          case c2 => have := HF.out; omega
          intro g4 d4 W4 hrow4 hk4 hb4
          have K4 := Lib.hid hk4
          have S4 := Lib.hid hrow4
          have VS4 := Lib.hid (row_keepT hk4 (row_blk WE3.out) VS3.out (by decide))
          have Z4 : Hid (w.heap.size ≤ W4.heap.size) := Lib.hid (Nat.le_trans Z3.out hk4.size)
          clear hrow4 hk4 hb4
          go_wp2_with (at_builtin; refine wpList_append1 encVs rfl (.tmp 104) (.tmp 106) 39 rfl w.heap.size 3 i3 _ 1 8 Try.underlying39 hi3 hz30 hz31 hz32 rfl (by omega) _ L ⟨sb, .slice an t.ino.length cn, t, ver⟩ rfl VS4.out rfl (one_vs _) ?c3 (by omega) Z4.out ?_)
          case c3 => have := HF.out; omega
          intro g5 d5 W5 hrow5 hk5 hb5
          obtain ⟨hI, hO5⟩ := PlI.more H2.out HRR.out HF.out K3.out S3.out K4.out S4.out hk5 hrow5 HO2.out
          have HI := Lib.hid hI
          have HOB := Lib.hid hO5
          have f2 : W5.cell? ⟨wr.heap.size, 2, none⟩ = some (.string key) := blk_cell HOB.out 2
          clear hrow5 hk5 hb5 hI hO5
          go_wp2_with (fail)
        case' inr.inr.inr.inl =>
          go_wp2_with (fail)
          have hO := blk_new wr (.cells #[.int .i64 2, .int .i64 xv, .string key, .string top] 30)
          have hkO : Below wr.heap.size wr (wr.alloc (.cells #[.int .i64 2, .int .i64 xv, .string key, .string top] 30)) := (Below.refl _ _).alloc (Nat.le_refl _) _
          generalize wr.alloc (.cells #[.int .i64 2, .int .i64 xv, .string key, .string top] 30) = W3 at hO hkO ⊢
          have HI := Lib.hid ((HH.out.below hkO).later (Nat.le_succ j))
          have HOB := Lib.hid hO
          have f2 : W3.cell? ⟨wr.heap.size, 2, none⟩ = some (.string key) := blk_cell HOB.out 2
          clear hO hkO c0 c1 c2 c3
        case' inr.inr.inr.inr =>
          go_wp2_with (fail)
          have hO := blk_new wr (.cells #[.int .i64 xk, .int .i64 xv, .string key, .string top] 30)
          have hkO : Below wr.heap.size wr (wr.alloc (.cells #[.int .i64 xk, .int .i64 xv, .string key, .string top] 30)) := (Below.refl _ _).alloc (Nat.le_refl _) _
          generalize wr.alloc (.cells #[.int .i64 xk, .int .i64 xv, .string key, .string top] 30) = W3 at hO hkO ⊢
          have HI := Lib.hid ((HH.out.below hkO).later (Nat.le_succ j))
          have HOB := Lib.hid hO
          have f2 : W3.cell? ⟨wr.heap.size, 2, none⟩ = some (.string key) := blk_cell HOB.out 2
          clear hO hkO c0 c1 c2 c3
        all_goals
          refine (t_get _ tb _ _ key HI.out.tab).mono ?_
          rintro e W4 ⟨rfl, hb4⟩
          have HI4 := Lib.hid (HI.out.below hb4)
          have hO4 := (hb4.block _ (lt_of_block HOB.out)).trans HOB.out
          have f2 := blk_cell hO4 2
          have f3 := blk_cell hO4 3
          have HLN : Hid (_ ≤ _) := Lib.hid HI4.out.size
          clear hb4 HI HOB hO4
          simp only [getRes]
          go_wp2_with (fail)
          refine (l_find _ _ _ _ key HI4.out.row (by rw [Tr.ino_length]; have := HLN.out; omega)).mono ?_
          rintro e W5 ⟨he, rfl⟩
          rw [find_get HI4.out.rise] at he
          subst he
          simp only [pairRes]
          go_wp2_with (fail)
          obtain ⟨root, hblk, _⟩ := HI4.out.tab.ex
          refine (t_version _ tb _ _ root _ hblk).mono ?_
          rintro e W6 ⟨rfl, rfl⟩
          clear hblk
          go_wp2_with (fail)
          refine (l_whole _ tb _ _ _ _ key top HI4.out.tab HI4.out.rise HI4.out.row (by have := HLN.out; omega)).mono ?_
          rintro e W7 ⟨rfl, hb7⟩
          have HI7 := Lib.hid (HI4.out.below hb7)
          clear hb7 f2 f3
          go_wp2_with (fail)
          go_roundw
          case rel => exact ⟨j + 1, _, _, _, by omega, by go_num, rfl, HI7⟩
          case measure => simp [intOf]; omega
      · have hjl : ¬ ((j : Int) < (l.length : Int)) := by omega
        have HS0 : Hid (SnI w u7 u8 u9 L wr ∧ Below w.heap.size w wr) := Lib.hid ⟨HH.out.sn, HH.out.bel⟩
        obtain ⟨a7, cs, rfl⟩ : ∃ a c, u7 = .slice a L.length c := by
          rcases HH.out.sn.sn.shape with ⟨rfl, rfl⟩ | ⟨g, c, rfl, _⟩
          · exact ⟨none, 0, rfl⟩
          · exact ⟨_, _, rfl⟩
        have hL20 : (L.length : Int) ≤ 20 := by have := HH.out.sn.few; omega
        have hl2 : (l.length : Int) ≤ 200 := by have := HL200.out; omega
        clear HH
        go_wp2_with (fail)
        obtain ⟨wo, rfl⟩ : ∃ wo : World, wo = wr := ⟨_, rfl⟩
        go_loopw [19] (fun i wr => ∃ k : Nat, k ≤ L.length ∧ i = .int .i64 k ∧ Hid (SnI w (.slice a7 L.length cs) u8 u9 L wr ∧ Below w.heap.size w wr)) (fun i _ => L.length - (intOf i).toNat)
        case atStart => exact ⟨0, Nat.zero_le _, rfl, HS0⟩
        case round =>
          obtain ⟨k, hk, rfl, HK⟩ := hrel
          by_cases hlt2 : k < L.length
          · have hr : L[k]? = some L[k] := List.getElem?_eq_getElem hlt2
            generalize L[k] = r at hr
            have hmem := List.mem_of_getElem? hr
            have hrow := HK.out.1.sn
            obtain ⟨g7, rfl⟩ : ∃ g, a7 = some ⟨g, 0, none⟩ := by
              rcases hrow.shape with ⟨_, e⟩ | ⟨g, c, e, _⟩
              · rw [e] at hlt2; simp at hlt2
              · injection e with e1 _ _; exact ⟨g, e1⟩
            obtain ⟨g8, c8, rfl⟩ : ∃ g c, u8 = .slice (some ⟨g, 0, none⟩) L.length c := by
              rcases HK.out.1.we.shape with ⟨_, e⟩ | ⟨g, c, e, _⟩
              · rw [e] at hlt2; simp at hlt2
              · exact ⟨g, c, e⟩
            obtain ⟨g9, c9, rfl⟩ : ∃ g c, u9 = .slice (some ⟨g, 0, none⟩) L.length c := by
              rcases HK.out.1.vs.shape with ⟨_, e⟩ | ⟨g, c, e, _⟩
              · rw [e] at hlt2; simp at hlt2
              · exact ⟨g, c, e⟩
            have d7 : wr.cell? ⟨g7, k, none⟩ = some (.pointer (some ⟨r.sb, 0, none⟩)) := by
              have := HK.out.1.sn.cell (enc := encSn) hr (i := 0) (by omega); simpa using this
            have d8 : wr.cell? ⟨g8, k, none⟩ = some r.v := by
              have := HK.out.1.we.cell (enc := encWe) hr (i := 0) (by omega); simpa using this
            have d9 : wr.cell? ⟨g9, k, none⟩ = some (.int .i64 r.ver) := by
              have := HK.out.1.vs.cell (enc := encVs) hr (i := 0) (by omega); simpa using this
            have HE := Lib.hid (HK.out.1.each r hmem)
            have HV : Hid (∀ w1, Below wr.heap.size wr w1 → Calls Try.prog 28 #[.pointer (some ⟨r.sb, 0, none⟩)] w1 fun e w' => e = .returned (.int .i64 r.ver) ∧ w1 = w') := Lib.hid fun w1 hb => t_sversion w1 r.sb r.t r.ver (HE.out.1.below hb)
            have hk0 : (0 : Int) ≤ (k : Int) := by omega
            have hk1 : (k : Int) < (L.length : Int) := by omega
            clear hrow hr hmem
            have HFZ : Hid (∀ (W : World) (lo hi : ByteArray), Below wr.heap.size wr W → Calls Try.prog 29 #[.pointer (some ⟨r.sb, 0, none⟩), r.v, .string lo, .string hi] W fun e w' => e = .returned (.bool true) ∧ Below W.heap.size W w') :=
              Lib.hid fun W lo hi hb => l_frozen W r.sb w.heap.size r.t r.ver r.v lo hi (HE.out.1.below hb) HE.out.2.2.1 (HE.out.2.1.below hb) (by have := HE.out.2.2.2; omega)
            go_wp2_with (fail)
            go_quiet ((go_at_call 28; (with_reducible exact quiet_hid HV)))
            have hq : Below wr.heap.size wr (wr.drewN nq) := below_drewN' _ _
            have d7 : (wr.drewN nq).cell? ⟨g7, k, none⟩ = some (.pointer (some ⟨r.sb, 0, none⟩)) := d7
            have d8 : (wr.drewN nq).cell? ⟨g8, k, none⟩ = some r.v := d8
            have hcell : ∀ a, (wr.drewN nq).cell? a = wr.cell? a := fun _ => rfl
            generalize wr.drewN nq = W0 at hq d7 d8 hcell ⊢
            have HC := Lib.hid hcell
            clear hcell d9
            by_cases hl0 : (0 : Int) < (l.length : Int)
            · have hx : l[0]? = some (l[0]'(by omega)) := List.getElem?_eq_getElem (by omega)
              generalize l[0]'(by omega) = x at hx
              obtain ⟨g, off, rfl, _, _, e2, e3⟩ := HR1.out 0 x hx
              have e2 : W0.cell? ⟨g, off + 2, none⟩ = some (.string x.key) := (HC.out _).trans <| (HK.out.2.cell (p := ⟨g, off + 2, none⟩) (World.block_lt_of_cell? w _ (by simpa using e2))).trans (by simpa using e2)
              have e3 : W0.cell? ⟨g, off + 3, none⟩ = some (.string x.top) := (HC.out _).trans <| (HK.out.2.cell (p := ⟨g, off + 3, none⟩) (World.block_lt_of_cell? w _ (by simpa using e3))).trans (by simpa using e3)
              clear hx
              go_wp2_with (fail)
              refine wp_region_still_tail 10 (by kernel_rfl) (by kernel_rfl) ?_
              simp only [List.take_succ_cons, List.take_zero, List.drop_succ_cons, List.drop_zero]
              repeat still_step
              refine wpStill_nil ?_
              go_wp2_with (fail)
              refine (HFZ.out _ _ _ hq.drew).mono ?_
              rintro e W5 ⟨rfl, hb5⟩
              have HN : Hid (SnI w (.slice (some ⟨g7, 0, none⟩) L.length cs) (.slice (some ⟨g8, 0, none⟩) L.length c8) (.slice (some ⟨g9, 0, none⟩) L.length c9) L W5 ∧ Below w.heap.size w W5) := Lib.hid
                ⟨HK.out.1.below (hq.drew.trans (hb5.mono hq.size)), HK.out.2.trans ((hq.drew.trans (hb5.mono hq.size)).mono HK.out.2.size)⟩
              clear hb5 d7 d8
              go_wp2_with (fail)
              go_roundw
              case rel => exact ⟨k + 1, by omega, by go_num, HN⟩
              case measure => simp [intOf]; omega
            · go_wp2_with (fail)
              refine wp_region_still_tail 10 (by kernel_rfl) (by kernel_rfl) ?_
              simp only [List.take_succ_cons, List.take_zero, List.drop_succ_cons, List.drop_zero]
              repeat still_step
              refine wpStill_nil ?_
              go_wp2_with (fail)
              refine (HFZ.out _ _ _ hq.drew).mono ?_
              rintro e W5 ⟨rfl, hb5⟩
              have HN : Hid (SnI w (.slice (some ⟨g7, 0, none⟩) L.length cs) (.slice (some ⟨g8, 0, none⟩) L.length c8) (.slice (some ⟨g9, 0, none⟩) L.length c9) L W5 ∧ Below w.heap.size w W5) := Lib.hid
                ⟨HK.out.1.below (hq.drew.trans (hb5.mono hq.size)), HK.out.2.trans ((hq.drew.trans (hb5.mono hq.size)).mono HK.out.2.size)⟩
              clear hb5 d7 d8
              go_wp2_with (fail)
              go_roundw
              case rel => exact ⟨k + 1, by omega, by go_num, HN⟩
              case measure => simp [intOf]; omega
          · have hke : ¬ ((k : Int) < (L.length : Int)) := by omega
            have HB := Lib.hid HK.out.2
            clear HK
            go_wp2_with (fail)
            go_ret
            exact ⟨rfl, HB.out⟩
end Go.Proofs.Ytndaacojbbmcnaa
