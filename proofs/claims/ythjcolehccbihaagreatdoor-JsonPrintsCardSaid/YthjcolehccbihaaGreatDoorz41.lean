/- The walk of exlaw7.Value: a value for the document. -/
import Derived.Test.YthjcolehccbihaaGreatDoorz39
import Derived.Test.YthjcolehccbihaaGreatDoorz40
import Derived.Test.YthjcolehccbihaaGreatDoorz15
set_option linter.unusedSectionVars false
set_option linter.unusedSimpArgs false
set_option linter.unusedVariables false
namespace Go.Proofs.YthjcolehccbihaaGreatDoor
open Go.RowKit Go.Shelf
theorem infoKV : (Tryz.prog.info? 40).map (fun i => (i.zero, i.size, i.bytes)) = some (some (.agg #[.int .i64 0, .string ⟨#[]⟩, .slice none 0 0, .slice none 0 0]), 4, 72) := by kernel_rfl
theorem append_kv {w : World} {v u : Value} {xs ys : List RawV} (hv : SlAt rawKind 40 w v xs) (hu : RdAt rawKind w u ys) (hn : xs.length + ys.length ≤ 1000000) (ty : TypeId) :
    ∃ v' w', (Builtin.append_ #[38, 38] ty #[v, u]).run Tryz.prog w = .ok v' w' ∧ SlAt rawKind 40 w' v' (xs ++ ys) ∧ Keeps (fun k => v.ownBlock = some k) w w' ∧ (∀ k, v'.ownBlock = some k → v.ownBlock = some k ∨ w.heap.size ≤ k) := by
  obtain ⟨i, hi, hz, hs, hb⟩ := info_parts infoKV
  obtain ⟨v', w', h1, h2, h3, h4, _⟩ := run_append_sl (ek := rawKind) (P := Tryz.prog) 38 ty i _ 72 Tryz.underlying38 hi hz hs hb rfl hv hu (by unfold maxLen; omega) (by omega)
  exact ⟨v', w', h1, h2, h3, h4⟩
/-- A value under way: its box at b3, its list and its names so far; all of it newer than w. -/
structure KTurn (w wr : World) (b3 : Nat) (k : Int) (t : ByteArray) (ns : List ByteArray) (lv nv : Value) (acc : List JV) : Prop where
  box : IsBlk wr b3 #[.int .i64 k, .string t, lv, nv] 40
  lst : ∃ rs, SlAt rawKind 40 wr lv rs ∧ JsAt wr (fun g => w.heap.size ≤ g ∧ lv.ownBlock ≠ some g ∧ nv.ownBlock ≠ some g ∧ g ≠ b3) acc rs
  nms : SlAt textKind 9 wr nv ns
  lown : ∀ g, lv.ownBlock = some g → w.heap.size ≤ g ∧ g ≠ b3
  nown : ∀ g, nv.ownBlock = some g → w.heap.size ≤ g
  below : Below w.heap.size w wr
  ge : w.heap.size ≤ b3
section
variable {w wr : World} {b3 : Nat} {k : Int} {t : ByteArray} {ns : List ByteArray} {lv nv : Value} {acc : List JV}
theorem KTurn.on {wy : World} (h : KTurn w wr b3 k t ns lv nv acc) (hb : Below wr.heap.size wr wy) : KTurn w wy b3 k t ns lv nv acc := by
  obtain ⟨rs, h1, h2⟩ := h.lst
  exact ⟨(hb.block _ (lt_of_block h.box)).trans h.box, ⟨rs, h1.below hb, h2.below hb⟩, h.nms.below hb, h.lown, h.nown, h.below.trans (hb.mono h.below.size), h.ge⟩
/-- Where the list's row lies, where the names' row lies, where the box: three places. -/
theorem KTurn.apart (h : KTurn w wr b3 k t ns lv nv acc) : (∀ g, lv.ownBlock = some g → g < wr.heap.size ∧ g ≠ b3) ∧ (∀ g, nv.ownBlock = some g → g < wr.heap.size ∧ g ≠ b3) ∧ (∀ g, lv.ownBlock = some g → nv.ownBlock = some g → False) := by
  obtain ⟨rs, h1, _⟩ := h.lst
  refine ⟨fun g hg => ?_, fun g hg => ?_, fun g hg hn => ?_⟩
  · obtain ⟨cur, hc⟩ := h1.own g hg
    exact ⟨lt_of_block hc, (h.lown g hg).2⟩
  · obtain ⟨cur, hc⟩ := h.nms.own g hg
    exact ⟨lt_of_block hc, types_apart hc h.box (by decide)⟩
  · obtain ⟨cur, hc⟩ := h.nms.own g hn
    obtain ⟨cur2, hc2⟩ := h1.own g hg
    exact types_apart hc hc2 (by decide) rfl
theorem KTurn.push (h : KTurn w wr b3 k t ns lv nv acc) {wy : World} (hy : Below wr.heap.size wr wy) {x : JV} {q : RawV} (hx : JAt wy (fun g => wr.heap.size ≤ g) x q) (hn : acc.length + 1 ≤ 1000000) (cs : Array Value) (hcs : cs = q.cells.toArray) (ty : TypeId) :
    ∃ a' c' wu, (Builtin.append_ #[38, 38] ty #[lv, .slice (some ⟨wy.heap.size, 0, none⟩) 1 1]).run Tryz.prog (wy.alloc (.cells cs 40)) = .ok (.slice a' (acc.length + 1) c') wu ∧ IsBlk wu b3 #[.int .i64 k, .string t, lv, nv] 40 ∧ Below w.heap.size w wu ∧
      KTurn w (wu.setCell ⟨b3, 2, none⟩ (.slice a' (acc.length + 1) c')) b3 k t ns (.slice a' (acc.length + 1) c') nv (acc ++ [x]) := by
  have hyy := h.on hy
  have hb3 : b3 < wr.heap.size := lt_of_block h.box
  have hsz := hy.size
  have hwz := h.below.size
  obtain ⟨ap1, ap2, ap3⟩ := h.apart
  obtain ⟨rs, h3, h4⟩ := hyy.lst
  have h4' := h4.lt
  have hal : Below wy.heap.size wy (wy.alloc (.cells cs 40)) := (Below.refl _ _).alloc (Nat.le_refl _) _
  have hz1 : (wy.alloc (.cells cs 40)).heap.size = wy.heap.size + 1 := by simp
  have ha := hyy.on hal
  have hq := rd_new (ek := rawKind) wy q cs hcs 40
  have hlen : rs.length = acc.length := h4.length
  obtain ⟨v', wu, hrun, hsl, hku, hown⟩ := append_kv (h3.below hal) hq (by rw [hlen]; simp; omega) ty
  obtain ⟨a', c', hv'⟩ := hsl.shape
  have hl1 : (rs ++ [q]).length = acc.length + 1 := by rw [List.length_append, hlen]; rfl
  rw [hl1] at hv'
  subst hv'
  have hbu := hku.obj (w := wy.alloc (.cells cs 40)) ha.box (fun e => (h.lown _ e).2 rfl)
  have hset : Keeps (Only b3) wu (wu.setCell ⟨b3, 2, none⟩ (.slice a' (acc.length + 1) c')) := keeps_set _ _ _ _
  have hvn : ∀ g, (Value.slice a' (acc.length + 1) c').ownBlock = some g → w.heap.size ≤ g ∧ g ≠ b3 := fun g hg => by
    rcases hown g hg with e | e
    · exact h.lown g e
    · rw [hz1] at e
      exact ⟨by omega, by omega⟩
  have hbw : Below w.heap.size w wu := below_keeps ha.below hku (fun i e => (h.lown i e).1) ha.below.size
  refine ⟨a', c', wu, hrun, hbu, hbw, ?_, ⟨rs ++ [q], hsl.keeps hset (fun g hg e => (hvn g hg).2 e), ?_⟩, ?_, hvn, h.nown, ?_, h.ge⟩
  · exact blk_set hbu 2 _
  · have key : ∀ g, g < wy.heap.size → lv.ownBlock ≠ some g → (Value.slice a' (acc.length + 1) c').ownBlock ≠ some g := fun g hg h1 h2 => by
      rcases hown g h2 with e | e
      · exact h1 e
      · rw [hz1] at e; omega
    have old := ((h4'.below hal).keeps hku (fun g hg e => hg.1.2.1 e)).keeps hset (fun g hg e => hg.1.2.2.2 e)
    have new := ((hx.lt.below hal).keeps hku (fun g hg e => by have := (ap1 g e).1; have := hg.1; omega)).keeps hset (fun g hg e => by have e : g = b3 := e; have := hg.1; omega)
    have old2 := old.mono (A' := fun g => w.heap.size ≤ g ∧ (Value.slice a' (acc.length + 1) c').ownBlock ≠ some g ∧ nv.ownBlock ≠ some g ∧ g ≠ b3) (fun g hg => ⟨hg.1.1, key g hg.2 hg.1.2.1, hg.1.2.2.1, hg.1.2.2.2⟩)
    have new2 := new.mono (A' := fun g => w.heap.size ≤ g ∧ (Value.slice a' (acc.length + 1) c').ownBlock ≠ some g ∧ nv.ownBlock ≠ some g ∧ g ≠ b3) (fun g hg => ⟨by have := hg.1; omega, key g hg.2 (fun e => by have := (ap1 g e).1; have := hg.1; omega), fun e => by have := (ap2 g e).1; have := hg.1; omega, by have := hg.1; omega⟩)
    exact old2.snoc new2
  · have hn1 : SlAt textKind 9 wu nv ns := ha.nms.keeps hku (fun g hg e => ap3 g e hg)
    exact hn1.keeps hset (fun g hg e => (ap2 g hg).2 e)
  · exact below_keeps hbw hset (fun i e => by have e : i = b3 := e; have := h.ge; omega) hbw.size
theorem KTurn.fin {a1 : Option Addr} {c1 : Nat} {a2 : Option Addr} {c2 n m : Nat} (h : KTurn w wr b3 k t ns (.slice a1 n c1) (.slice a2 m c2) acc) : JAt wr (fun g => w.heap.size ≤ g) (.mk k t acc ns) ⟨k, t, a1, n, c1, a2, m, c2⟩ := by
  obtain ⟨rs, h3, h4⟩ := h.lst
  simp only [JAt, RawV.lv, RawV.nv]
  exact ⟨trivial, trivial, ⟨h.nms.rd, fun _ g hg => h.nown g hg, h.nms.le_cap rfl⟩, rs, ⟨h3.rd, fun _ g hg => (h.lown g hg).1⟩, h4.mono fun g hg => hg.1⟩
theorem KTurn.start {W : World} (hb : IsBlk W b3 #[.int .i64 k, .string t, .slice none 0 0, nv] 40) (hn : SlAt textKind 9 W nv ns) (ho : ∀ g, nv.ownBlock = some g → w.heap.size ≤ g) (hw : Below w.heap.size w W) (hg : w.heap.size ≤ b3) :
    KTurn w W b3 k t ns (.slice none 0 0) nv [] :=
  ⟨hb, ⟨[], SlAt.nil, by simp only [JsAt]⟩, hn, (fun g hg => by cases hg), ho, hw, hg⟩
end
/-- An empty row of texts. -/
theorem sl_empty (w : World) : SlAt textKind 9 (w.alloc (.cells #[] 9)) (.slice (some ⟨w.heap.size, 0, none⟩) 0 0) [] :=
  .inr ⟨w.heap.size, 0, 0, #[], rfl, blk_new w _, Nat.le_refl _, Nat.zero_le _, by simp, fun i hi => by simp at hi⟩
/-- The box laid and filled. -/
theorem kfill {w wr : World} {bx : Nat} {u : RawV} {k : Int} {t : ByteArray} {ns : List ByteArray} {a : Option Addr} {n c : Nat} (hb : KBox wr bx u) (hn : SlAt textKind 9 wr (.slice a n c) ns) (ho : ∀ g, (Value.slice a n c).ownBlock = some g → w.heap.size ≤ g ∧ g ≠ bx) (hw : Below w.heap.size w wr) (hg : w.heap.size ≤ bx) :
    KTurn w ((((wr.setCell ⟨bx, 0, none⟩ (.int .i64 k)).setCell ⟨bx, 1, none⟩ (.string t)).setCell ⟨bx, 2, none⟩ (.slice none 0 0)).setCell ⟨bx, 3, none⟩ (.slice a n c)) bx k t ns (.slice none 0 0) (.slice a n c) [] := by
  have hk := keeps4 wr bx (.int .i64 k) (.string t) (.slice none 0 0) (.slice a n c)
  exact KTurn.start (kbox_set hb ⟨k, t, none, 0, 0, a, n, c⟩) (hn.keeps hk (fun g hg e => (ho g hg).2 e)) (fun g hg => (ho g hg).1) (below_keeps hw hk (fun i e => by have e : i = bx := e; omega) hw.size) hg
/-- The contract of Value. -/
def ToRefOk (v : JV) : Prop := ∀ (q : RawV) (w : World) (A : Nat → Prop), v.Fit → JAt w A v q →
  Calls Tryz.prog 23 #[.agg #[.int .i64 q.k, .string q.t, .slice q.la q.ll q.lc, .slice q.na q.nl q.nc]] w fun e w' => ∃ r : RawV, e = .returned (.agg #[.int .i64 r.k, .string r.t, .slice r.la r.ll r.lc, .slice r.na r.nl r.nc]) ∧ Hid (JAt w' (fun g => w.heap.size ≤ g) v r ∧ Below w.heap.size w w')
section
variable {w : World}
set_option maxRecDepth 100000 in
set_option maxHeartbeats 16000000 in
theorem j_toRef1 (k : Int) (t : ByteArray) (l : List JV) (ns : List ByteArray) (ih : ∀ v ∈ l, ToRefOk v) : ToRefOk (.mk k t l ns) := by
  intro q w A hf hq
  simp only [JAt] at hq
  obtain ⟨hqk, hqt, ⟨hns, -, hncap⟩, rs, ⟨hrs, -⟩, hl⟩ := hq
  simp only [JV.Fit] at hf
  have e1 : q.ll = l.length := by
    obtain ⟨_, _, e, _⟩ := hrs
    injection e with _ e _
    rw [e, hl.length]
  have e3 : q.nl = ns.length := by obtain ⟨_, _, e, _⟩ := hns; injection e
  obtain ⟨w0, hw0, HB0⟩ := jbox_new w q
  obtain ⟨w1, hw1, HB1⟩ := kbox_new w0 raw0
  have hz0 : w0.heap.size = w.heap.size + 1 := by rw [← hw0]; simp
  have hz1 : w1.heap.size = w.heap.size + 2 := by rw [← hw1]; simp [hz0]
  have HBX := Lib.hid (And.intro (jbox_below HB0.out.2 HB1.out.1) (hz0 ▸ HB1.out.2))
  have HBB := Lib.hid (And.intro (HB0.out.1.trans (HB1.out.1.mono HB0.out.1.size)) hz1)
  obtain ⟨qk, qt, la, ll, lc, na, nl, nc⟩ := q
  simp only at hqk hqt e1 e3
  subst hqk hqt e1 e3
  simp only [RawV.lv, RawV.nv] at hns hrs
  obtain ⟨⟨b0, b1, b2, b3⟩, -⟩ := jbox_cells HBX.out.1
  have HW1 : Hid ((w.alloc (.cells #[.int .i64 qk, .string qt, .slice la l.length lc, .slice na ns.length nc] 25)).alloc (.cells #[.int .i64 0, .string ⟨#[]⟩, .slice none 0 0, .slice none 0 0] 40) = w1) := Lib.hid (by rw [← hw1, ← hw0]; rfl)
  have HRD := Lib.hid (And.intro hns (And.intro hrs hl))
  have HF := Lib.hid hf
  have HIH := Lib.hid ih
  have hlm : (l.length : Int) ≤ 1000000 := by omega
  have HZ : Hid (w0.heap.size = w.heap.size + 1) := Lib.hid hz0
  clear hw1 hw0 hf hns hrs hl ih HB0 HB1 hz0 hz1
  go_enter Tryz.func23, Tryz.ntmps23
  go_upto_region 1 with (fail)
  rw [HW1.out]
  clear HW1
  go_cut [3] from 5 (fun tv wx => ∃ (bx : Nat) (a2 : Option Addr) (c2 : Nat), tv = .pointer (some ⟨bx, 0, none⟩) ∧ Hid (KTurn w1 wx bx qk qt ns (.slice none 0 0) (.slice a2 ns.length c2) []))
  case first =>
    have hV : Below w1.heap.size w1 w1.drew := (Below.refl _ _).drew
    have hall : ∀ W, Below w1.heap.size w1 W → W.cell? ⟨w.heap.size, 0, none⟩ = some (.int .i64 qk) ∧ W.cell? ⟨w.heap.size, 1, none⟩ = some (.string qt) ∧ W.cell? ⟨w.heap.size, 3, none⟩ = some (.slice na ns.length nc) := fun W h => ⟨(jbox_cells (jbox_below HBX.out.1 h)).1.1, (jbox_cells (jbox_below HBX.out.1 h)).1.2.1, (jbox_cells (jbox_below HBX.out.1 h)).1.2.2.2⟩
    have HNS : Hid (∀ W, Below w1.heap.size w1 W → RdAt textKind W (.slice na ns.length nc) ns) := Lib.hid fun W h => HRD.out.1.below (HBB.out.1.trans (h.mono HBB.out.1.size))
    have HNL : Hid (ns.length ≤ 1000000) := Lib.hid HF.out.2.1
    have hT0 : (fun W : World => W.cell? ⟨w.heap.size, 0, none⟩ = some (.int .i64 qk) ∧ W.cell? ⟨w.heap.size, 1, none⟩ = some (.string qt) ∧ W.cell? ⟨w.heap.size, 3, none⟩ = some (.slice na ns.length nc)) w1.drew := hall _ hV
    refine wp_region_B (T := fun W : World => W.cell? ⟨w.heap.size, 0, none⟩ = some (.int .i64 qk) ∧ W.cell? ⟨w.heap.size, 1, none⟩ = some (.string qt) ∧ W.cell? ⟨w.heap.size, 3, none⟩ = some (.slice na ns.length nc)) (B := fun j => decide (j < 10)) (by kernel_rfl) ?_
    generalize w1.drew = V at hV hT0 ⊢
    clear b0 b1 b2 b3
    refine wpAnyB_take (i := 0) (v := ?nv0) rfl (by kernel_rfl) (by kernel_rfl) (by kernel_rfl) (fun _ _ _ h => h) (Or.inl ⟨by rfl, ?ny0⟩) ?ns0
    case ny0 => (intro w; go_simp) <;> with_reducible rfl
    try simp only [Act.put, List.setIfInBounds_toArray, List.set_cons_zero, List.set_cons_succ]
    refine wpAnyB_load (i := 1) (v := ?nv1) rfl (by kernel_rfl) (by kernel_rfl) (by kernel_rfl) (by kernel_rfl) (fun _ _ _ h => h) (Or.inl ⟨by rfl, ?ny1⟩) (by assumption) ?ns1
    case ny1 => (intro w hSw; obtain ⟨u0, u1, u2⟩ := hSw; go_simp) <;> with_reducible rfl
    try simp only [Act.put, List.setIfInBounds_toArray, List.set_cons_zero, List.set_cons_succ]
    refine wpAnyB_take (i := 2) (v := ?nv2) rfl (by kernel_rfl) (by kernel_rfl) (by kernel_rfl) (fun _ _ _ h => h) (Or.inl ⟨by rfl, ?ny2⟩) ?ns2
    case ny2 => (intro w; go_simp) <;> with_reducible rfl
    try simp only [Act.put, List.setIfInBounds_toArray, List.set_cons_zero, List.set_cons_succ]
    refine wpAnyB_load (i := 3) (v := ?nv3) rfl (by kernel_rfl) (by kernel_rfl) (by kernel_rfl) (by kernel_rfl) (fun _ _ _ h => h) (Or.inl ⟨by rfl, ?ny3⟩) (by assumption) ?ns3
    case ny3 => (intro w hSw; obtain ⟨u0, u1, u2⟩ := hSw; go_simp) <;> with_reducible rfl
    try simp only [Act.put, List.setIfInBounds_toArray, List.set_cons_zero, List.set_cons_succ]
    refine wpAnyB_take (i := 5) (v := ?nv5) rfl (by kernel_rfl) (by kernel_rfl) (by kernel_rfl) (fun _ _ _ h => h) (Or.inl ⟨by rfl, ?ny5⟩) ?ns5
    case ny5 => (intro w; go_simp) <;> with_reducible rfl
    try simp only [Act.put, List.setIfInBounds_toArray, List.set_cons_zero, List.set_cons_succ]
    refine wpAnyB_load (i := 6) (v := ?nv6) rfl (by kernel_rfl) (by kernel_rfl) (by kernel_rfl) (by kernel_rfl) (fun _ _ _ h => h) (Or.inl ⟨by rfl, ?ny6⟩) (by assumption) ?ns6
    case ny6 => (intro w hSw; obtain ⟨u0, u1, u2⟩ := hSw; go_simp) <;> with_reducible rfl
    try simp only [Act.put, List.setIfInBounds_toArray, List.set_cons_zero, List.set_cons_succ]
    clear hT0
    refine wpAnyB_ready (rs := [4, 9]) (by kernel_rfl) (by simp) ?_
    refine AllReadyB.cons (o := { dst := some 9, op := Op.buildSlice 23 0 #[], type := 23, pos := "law.go:34", after := #[], guard := none }) rfl (fun K hK => ?c4) (AllReadyB.cons (o := { dst := some 3, op := Op.alloc 40, type := 0, pos := "law.go:34", after := #[], guard := none }) rfl (fun K hK => ?c9) AllReadyB.nil)
    case c4 =>
      go_simp
      obtain ⟨V1, hV1⟩ : ∃ x, x = V.alloc (.cells #[] 9) := ⟨_, rfl⟩
      rw [← hV1]
      have hE : SlAt textKind 9 V1 (.slice (some ⟨V.heap.size, 0, none⟩) 0 0) [] := by rw [hV1]; exact sl_empty V
      have hEk : Below V.heap.size V V1 := by rw [hV1]; exact (Below.refl _ _).alloc (Nat.le_refl _) _
      have hEz : V1.heap.size = V.heap.size + 1 := by rw [hV1]; simp
      have hEb : Below w1.heap.size w1 V1 := hV.trans (hEk.mono hV.size)
      obtain ⟨eb, heb⟩ : ∃ eb, eb = V.heap.size := ⟨_, rfl⟩
      rw [← heb] at hE ⊢
      have HEZ := Lib.hid (And.intro heb (And.intro hEz hEk.size))
      refine hK.out _ _ (fun _ _ => hall _ hEb) ?_
      clear hK K hV1 heb hEz
      try simp only [Act.put, List.setIfInBounds_toArray, List.set_cons_zero, List.set_cons_succ]
      refine wpAnyB_ready (rs := [7, 9]) (by kernel_rfl) (by simp) ?_
      obtain ⟨v', V3, hap, hsl, hku, hown⟩ := append_str (v := .slice (some ⟨eb, 0, none⟩) 0 0) hE (HNS.out _ hEb) (by simp; exact HNL.out) 23
      obtain ⟨a', c', hv'⟩ := hsl.shape
      simp only [List.nil_append] at hsl hv'
      subst hv'
      have HVZ := Lib.hid hV.size
      have hown1 : ∀ g, (Value.slice a' ns.length c').ownBlock = some g → g = eb ∨ V1.heap.size ≤ g := fun g hg => by
        rcases hown g hg with e | e
        · simp only [Value.ownBlock, Option.some.injEq] at e; exact .inl e.symm
        · exact .inr e
      have hUb : Below w1.heap.size w1 V3 := below_keeps hEb hku (fun i e => by simp only [Value.ownBlock, Option.some.injEq] at e; have h1 := HEZ.out; have h2 := HVZ.out; (try have h3 := HAZ.out); omega) hEb.size
      refine AllReadyB.cons (o := { dst := some 12, op := Op.call { callee := Callee.builtin Builtin.append, args := #[Operand.tmp 9, Operand.tmp 11], argTypes := #[23, 23] }, type := 23, pos := "law.go:34", after := #[{ on := 4, ground := Ground.data }, { on := 6, ground := Ground.data }], guard := none }) rfl (fun K hK => ?d7) (AllReadyB.cons (o := { dst := some 3, op := Op.alloc 40, type := 0, pos := "law.go:34", after := #[], guard := none }) rfl (fun K hK => ?d9) AllReadyB.nil)
      case d7 =>
        refine step_append_run rfl (.tmp 9) (.tmp 11) 23 rfl _ _ rfl rfl _ _ hap ?_
        refine hK.out _ _ (fun _ _ => hall _ hUb) ?_
        clear hK K
        try simp only [Act.put, List.setIfInBounds_toArray, List.set_cons_zero, List.set_cons_succ]
        refine wpAnyB_take (i := 8) (v := ?pv8) rfl (by kernel_rfl) (by kernel_rfl) (by kernel_rfl) (fun _ _ _ h => h) (Or.inl ⟨by rfl, ?py8⟩) ?ps8
        case py8 => (intro w; go_simp) <;> with_reducible rfl
        try simp only [Act.put, List.setIfInBounds_toArray, List.set_cons_zero, List.set_cons_succ]
        refine wpAnyB_ready (rs := [9]) (by kernel_rfl) (by simp) ?_
        refine AllReadyB.cons (o := { dst := some 3, op := Op.alloc 40, type := 0, pos := "law.go:34", after := #[], guard := none }) rfl (fun K hK => ?_) AllReadyB.nil
        go_simp
        obtain ⟨V4, hV4⟩ : ∃ x, x = V3.alloc (.cells #[.int .i64 0, .string ⟨#[]⟩, .slice none 0 0, .slice none 0 0] 40) := ⟨_, rfl⟩
        rw [← hV4]
        have hA : KBox V4 V3.heap.size raw0 := by rw [hV4]; exact blk_new V3 _
        have hAk : Below V3.heap.size V3 V4 := by rw [hV4]; exact (Below.refl _ _).alloc (Nat.le_refl _) _
        have hAz : V4.heap.size = V3.heap.size + 1 := by rw [hV4]; simp
        have hAb : Below w1.heap.size w1 V4 := hUb.trans (hAk.mono hUb.size)
        obtain ⟨ab, hab⟩ : ∃ ab, ab = V3.heap.size := ⟨_, rfl⟩
        rw [← hab] at hA ⊢
        have HAZ := Lib.hid (And.intro hab (And.intro hAz hAk.size))
        refine hK.out _ _ (fun _ _ => hall _ hAb) ?_
        clear hK K hV4 hab hAz
        try simp only [Act.put, List.setIfInBounds_toArray, List.set_cons_zero, List.set_cons_succ]
        have HFIN := Lib.hid (kfill (k := qk) (t := qt) (w := w1) hA (hsl.below hAk) (fun g hg => ⟨by have h1 := HEZ.out; have h2 := HVZ.out; rcases hown1 g hg with e | e <;> omega, by obtain ⟨cur, hc⟩ := hsl.own g hg; have := lt_of_block hc; have := HAZ.out; omega⟩) hAb (by have := hUb.size; have := HAZ.out; omega))
        obtain ⟨⟨y0, y1, y2, y3⟩, x0, x1, x2, x3⟩ := kbox_cells hA
        refine wpAnyB_ready (rs := [10]) (by kernel_rfl) (by simp) ?_
        refine AllReadyB.cons rfl (fun K hK => ?_) AllReadyB.nil
        go_simp
        refine hK.out _ _ (fun h => by simp at h) ?_
        clear hK K
        try simp only [Act.put, List.setIfInBounds_toArray, List.set_cons_zero, List.set_cons_succ]
        refine wpAnyB_done (by kernel_rfl) ?_ _
        clear hall hV y0 y1 y2 y3 x0 x1 x2 x3
        go_wp2_with (fail)
        go_meet
        exact ⟨_, a', c', rfl, HFIN⟩
      case d9 =>
        go_simp
        obtain ⟨V2, hV2⟩ : ∃ x, x = V1.alloc (.cells #[.int .i64 0, .string ⟨#[]⟩, .slice none 0 0, .slice none 0 0] 40) := ⟨_, rfl⟩
        rw [← hV2]
        have hA : KBox V2 V1.heap.size raw0 := by rw [hV2]; exact blk_new V1 _
        have hAk : Below V1.heap.size V1 V2 := by rw [hV2]; exact (Below.refl _ _).alloc (Nat.le_refl _) _
        have hAz : V2.heap.size = V1.heap.size + 1 := by rw [hV2]; simp
        have hAb : Below w1.heap.size w1 V2 := hEb.trans (hAk.mono hEb.size)
        obtain ⟨ab, hab⟩ : ∃ ab, ab = V1.heap.size := ⟨_, rfl⟩
        rw [← hab] at hA ⊢
        have HAZ := Lib.hid (And.intro hab (And.intro hAz hAk.size))
        refine hK.out _ _ (fun _ _ => hall _ hAb) ?_
        clear hK K hV2 hab hAz
        try simp only [Act.put, List.setIfInBounds_toArray, List.set_cons_zero, List.set_cons_succ]
        clear hsl hku hown hown1 hUb hap
        refine wpAnyB_ready (rs := [7]) (by kernel_rfl) (by simp) ?_
        have hE2 := hE.below hAk
        obtain ⟨v', V3, hap, hsl, hku, hown⟩ := append_str (v := .slice (some ⟨eb, 0, none⟩) 0 0) hE2 (HNS.out _ hAb) (by simp; exact HNL.out) 23
        obtain ⟨a', c', hv'⟩ := hsl.shape
        simp only [List.nil_append] at hsl hv'
        subst hv'
        have HVZ := Lib.hid hV.size
        have hown1 : ∀ g, (Value.slice a' ns.length c').ownBlock = some g → g = eb ∨ V2.heap.size ≤ g := fun g hg => by
          rcases hown g hg with e | e
          · simp only [Value.ownBlock, Option.some.injEq] at e; exact .inl e.symm
          · exact .inr e
        have hUb : Below w1.heap.size w1 V3 := below_keeps hAb hku (fun i e => by simp only [Value.ownBlock, Option.some.injEq] at e; have h1 := HEZ.out; have h2 := HVZ.out; (try have h3 := HAZ.out); omega) hAb.size
        refine AllReadyB.cons (o := { dst := some 12, op := Op.call { callee := Callee.builtin Builtin.append, args := #[Operand.tmp 9, Operand.tmp 11], argTypes := #[23, 23] }, type := 23, pos := "law.go:34", after := #[{ on := 4, ground := Ground.data }, { on := 6, ground := Ground.data }], guard := none }) rfl (fun K hK => ?_) AllReadyB.nil
        refine step_append_run rfl (.tmp 9) (.tmp 11) 23 rfl _ _ rfl rfl _ _ hap ?_
        refine hK.out _ _ (fun _ _ => hall _ hUb) ?_
        clear hK K
        try simp only [Act.put, List.setIfInBounds_toArray, List.set_cons_zero, List.set_cons_succ]
        refine wpAnyB_take (i := 8) (v := ?qv8) rfl (by kernel_rfl) (by kernel_rfl) (by kernel_rfl) (fun _ _ _ h => h) (Or.inl ⟨by rfl, ?qy8⟩) ?qs8
        case qy8 => (intro w; go_simp) <;> with_reducible rfl
        try simp only [Act.put, List.setIfInBounds_toArray, List.set_cons_zero, List.set_cons_succ]
        have hbu : KBox V3 ab raw0 := kbox_keeps hA hku (fun e => by simp only [Value.ownBlock, Option.some.injEq] at e; have h1 := HEZ.out; have h2 := HVZ.out; have h3 := HAZ.out; omega)
        have HFIN := Lib.hid (kfill (k := qk) (t := qt) (w := w1) hbu hsl (fun g hg => ⟨by have h1 := HEZ.out; have h2 := HVZ.out; have h3 := HAZ.out; rcases hown1 g hg with e | e <;> omega, by have h1 := HEZ.out; have h2 := HVZ.out; have h3 := HAZ.out; rcases hown1 g hg with e | e <;> omega⟩) hUb (by have h1 := HEZ.out; have h2 := HVZ.out; have h3 := HAZ.out; omega))
        obtain ⟨⟨y0, y1, y2, y3⟩, x0, x1, x2, x3⟩ := kbox_cells hbu
        refine wpAnyB_ready (rs := [10]) (by kernel_rfl) (by simp) ?_
        refine AllReadyB.cons rfl (fun K hK => ?_) AllReadyB.nil
        go_simp
        refine hK.out _ _ (fun h => by simp at h) ?_
        clear hK K
        try simp only [Act.put, List.setIfInBounds_toArray, List.set_cons_zero, List.set_cons_succ]
        refine wpAnyB_done (by kernel_rfl) ?_ _
        clear hall hV y0 y1 y2 y3 x0 x1 x2 x3
        go_wp2_with (fail)
        go_meet
        exact ⟨_, a', c', rfl, HFIN⟩
    case c9 =>
      go_simp
      obtain ⟨V1, hV1⟩ : ∃ x, x = V.alloc (.cells #[.int .i64 0, .string ⟨#[]⟩, .slice none 0 0, .slice none 0 0] 40) := ⟨_, rfl⟩
      rw [← hV1]
      have hA : KBox V1 V.heap.size raw0 := by rw [hV1]; exact blk_new V _
      have hAk : Below V.heap.size V V1 := by rw [hV1]; exact (Below.refl _ _).alloc (Nat.le_refl _) _
      have hAz : V1.heap.size = V.heap.size + 1 := by rw [hV1]; simp
      have hAb : Below w1.heap.size w1 V1 := hV.trans (hAk.mono hV.size)
      obtain ⟨ab, hab⟩ : ∃ ab, ab = V.heap.size := ⟨_, rfl⟩
      rw [← hab] at hA ⊢
      have HAZ := Lib.hid (And.intro hab (And.intro hAz hAk.size))
      refine hK.out _ _ (fun _ _ => hall _ hAb) ?_
      clear hK K hV1 hab hAz
      try simp only [Act.put, List.setIfInBounds_toArray, List.set_cons_zero, List.set_cons_succ]
      refine wpAnyB_ready (rs := [4]) (by kernel_rfl) (by simp) ?_
      refine AllReadyB.cons (o := { dst := some 9, op := Op.buildSlice 23 0 #[], type := 23, pos := "law.go:34", after := #[], guard := none }) rfl (fun K hK => ?_) AllReadyB.nil
      go_simp
      obtain ⟨V2, hV2⟩ : ∃ x, x = V1.alloc (.cells #[] 9) := ⟨_, rfl⟩
      rw [← hV2]
      have hE : SlAt textKind 9 V2 (.slice (some ⟨V1.heap.size, 0, none⟩) 0 0) [] := by rw [hV2]; exact sl_empty V1
      have hEk : Below V1.heap.size V1 V2 := by rw [hV2]; exact (Below.refl _ _).alloc (Nat.le_refl _) _
      have hEz : V2.heap.size = V1.heap.size + 1 := by rw [hV2]; simp
      have hEb : Below w1.heap.size w1 V2 := hAb.trans (hEk.mono hAb.size)
      obtain ⟨eb, heb⟩ : ∃ eb, eb = V1.heap.size := ⟨_, rfl⟩
      rw [← heb] at hE ⊢
      have HEZ := Lib.hid (And.intro heb (And.intro hEz hEk.size))
      refine hK.out _ _ (fun _ _ => hall _ hEb) ?_
      clear hK K hV2 heb hEz
      try simp only [Act.put, List.setIfInBounds_toArray, List.set_cons_zero, List.set_cons_succ]
      refine wpAnyB_ready (rs := [7]) (by kernel_rfl) (by simp) ?_
      have hA2 := kbox_below hA hEk
      obtain ⟨v', V3, hap, hsl, hku, hown⟩ := append_str (v := .slice (some ⟨eb, 0, none⟩) 0 0) hE (HNS.out _ hEb) (by simp; exact HNL.out) 23
      obtain ⟨a', c', hv'⟩ := hsl.shape
      simp only [List.nil_append] at hsl hv'
      subst hv'
      have HVZ := Lib.hid hV.size
      have hown1 : ∀ g, (Value.slice a' ns.length c').ownBlock = some g → g = eb ∨ V2.heap.size ≤ g := fun g hg => by
        rcases hown g hg with e | e
        · simp only [Value.ownBlock, Option.some.injEq] at e; exact .inl e.symm
        · exact .inr e
      have hUb : Below w1.heap.size w1 V3 := below_keeps hEb hku (fun i e => by simp only [Value.ownBlock, Option.some.injEq] at e; have h1 := HEZ.out; have h2 := HVZ.out; (try have h3 := HAZ.out); omega) hEb.size
      refine AllReadyB.cons (o := { dst := some 12, op := Op.call { callee := Callee.builtin Builtin.append, args := #[Operand.tmp 9, Operand.tmp 11], argTypes := #[23, 23] }, type := 23, pos := "law.go:34", after := #[{ on := 4, ground := Ground.data }, { on := 6, ground := Ground.data }], guard := none }) rfl (fun K hK => ?_) AllReadyB.nil
      refine step_append_run rfl (.tmp 9) (.tmp 11) 23 rfl _ _ rfl rfl _ _ hap ?_
      refine hK.out _ _ (fun _ _ => hall _ hUb) ?_
      clear hK K
      try simp only [Act.put, List.setIfInBounds_toArray, List.set_cons_zero, List.set_cons_succ]
      refine wpAnyB_take (i := 8) (v := ?rv8) rfl (by kernel_rfl) (by kernel_rfl) (by kernel_rfl) (fun _ _ _ h => h) (Or.inl ⟨by rfl, ?ry8⟩) ?rs8
      case ry8 => (intro w; go_simp) <;> with_reducible rfl
      try simp only [Act.put, List.setIfInBounds_toArray, List.set_cons_zero, List.set_cons_succ]
      have hbu : KBox V3 ab raw0 := kbox_keeps hA2 hku (fun e => by simp only [Value.ownBlock, Option.some.injEq] at e; have h1 := HEZ.out; have h2 := HVZ.out; have h3 := HAZ.out; omega)
      have HFIN := Lib.hid (kfill (k := qk) (t := qt) (w := w1) hbu hsl (fun g hg => ⟨by have h1 := HEZ.out; have h2 := HVZ.out; have h3 := HAZ.out; rcases hown1 g hg with e | e <;> omega, by have h1 := HEZ.out; have h2 := HVZ.out; have h3 := HAZ.out; rcases hown1 g hg with e | e <;> omega⟩) hUb (by have h1 := HEZ.out; have h2 := HVZ.out; have h3 := HAZ.out; omega))
      obtain ⟨⟨y0, y1, y2, y3⟩, x0, x1, x2, x3⟩ := kbox_cells hbu
      refine wpAnyB_ready (rs := [10]) (by kernel_rfl) (by simp) ?_
      refine AllReadyB.cons rfl (fun K hK => ?_) AllReadyB.nil
      go_simp
      refine hK.out _ _ (fun h => by simp at h) ?_
      clear hK K
      try simp only [Act.put, List.setIfInBounds_toArray, List.set_cons_zero, List.set_cons_succ]
      refine wpAnyB_done (by kernel_rfl) ?_ _
      clear hall hV y0 y1 y2 y3 x0 x1 x2 x3
      go_wp2_with (fail)
      go_meet
      exact ⟨_, a', c', rfl, HFIN⟩
  case rest =>
    obtain ⟨bx, a2, c2, rfl, HK0⟩ := hcut
    clear b0 b1 b2 b3
    go_wp2_with (fail)
    go_loopw [4] (fun iv wr => ∃ i : Nat, i ≤ l.length ∧ iv = .int .i64 i ∧ Hid (∃ a1 c1, KTurn w1 wr bx qk qt ns (.slice a1 i c1) (.slice a2 ns.length c2) (l.take i))) (fun iv _ => l.length - (intOf iv).toNat)
    case atStart => exact ⟨0, Nat.zero_le _, rfl, Lib.hid ⟨none, 0, HK0.out⟩⟩
    case round =>
      obtain ⟨i, hi, rfl, HI⟩ := hrel
      obtain ⟨a1, c1, hOI⟩ := HI.out
      obtain ⟨⟨b0, b1, b2, b3⟩, -⟩ := jbox_cells (jbox_below HBX.out.1 hOI.below)
      have HOI := Lib.hid hOI
      clear hOI HI
      by_cases hlt : i < l.length
      · have q1 : (0 : Int) ≤ (i : Int) := by omega
        have q2 : (i : Int) < (l.length : Int) := by omega
        obtain ⟨x, hx⟩ : ∃ x, l[i]? = some x := ⟨_, List.getElem?_eq_getElem hlt⟩
        obtain ⟨r, hr, hjr⟩ := HRD.out.2.2.get hx
        have hrd2 := HRD.out.2.1
        obtain ⟨lg, loff, e1, -⟩ := raw_cells hrd2 hr
        subst e1
        have hbw1 : ∀ W, Below w1.heap.size w1 W → Below w.heap.size w W := fun W h => HBB.out.1.trans (h.mono HBB.out.1.size)
        have hrc : ∀ W, Below w1.heap.size w1 W → (W.cell? ⟨lg, loff + i * 4, none⟩ = some (.int .i64 r.k) ∧ W.cell? ⟨lg, loff + i * 4 + 1, none⟩ = some (.string r.t) ∧ W.cell? ⟨lg, loff + i * 4 + 2, none⟩ = some (.slice r.la r.ll r.lc) ∧ W.cell? ⟨lg, loff + i * 4 + 3, none⟩ = some (.slice r.na r.nl r.nc)) := fun W h => raw_cells_at (hrd2.below (hbw1 W h)) hr
        have HRC := Lib.hid (And.intro hrc hbw1)
        have HX := Lib.hid (And.intro hx hjr)
        have HLT := Lib.hid (And.intro hlt hi)
        clear hx hr hjr hrd2 hrc hbw1 hlt
        go_upto_region 5 with (fail)
        have hV : Below wr.heap.size wr wr.drew := (Below.refl _ _).drew
        have hall : ∀ W, Below w1.heap.size w1 W → W.cell? ⟨w.heap.size, 2, none⟩ = some (.slice (some ⟨lg, loff, none⟩) l.length lc) ∧ (W.cell? ⟨lg, loff + i * 4, none⟩ = some (.int .i64 r.k) ∧ W.cell? ⟨lg, loff + i * 4 + 1, none⟩ = some (.string r.t) ∧ W.cell? ⟨lg, loff + i * 4 + 2, none⟩ = some (.slice r.la r.ll r.lc) ∧ W.cell? ⟨lg, loff + i * 4 + 3, none⟩ = some (.slice r.na r.nl r.nc)) := fun W h => ⟨(jbox_cells (jbox_below HBX.out.1 h)).1.2.2.1, HRC.out.1 W h⟩
        have hT0 : (fun W : World => W.cell? ⟨bx, 2, none⟩ = some (.slice a1 i c1) ∧ W.cell? ⟨w.heap.size, 2, none⟩ = some (.slice (some ⟨lg, loff, none⟩) l.length lc) ∧ (W.cell? ⟨lg, loff + i * 4, none⟩ = some (.int .i64 r.k) ∧ W.cell? ⟨lg, loff + i * 4 + 1, none⟩ = some (.string r.t) ∧ W.cell? ⟨lg, loff + i * 4 + 2, none⟩ = some (.slice r.la r.ll r.lc) ∧ W.cell? ⟨lg, loff + i * 4 + 3, none⟩ = some (.slice r.na r.nl r.nc))) wr.drew := ⟨blk_cell (HOI.out.on hV).box 2, hall _ (HOI.out.on hV).below⟩
        refine wp_region_B (T := fun W : World => W.cell? ⟨bx, 2, none⟩ = some (.slice a1 i c1) ∧ W.cell? ⟨w.heap.size, 2, none⟩ = some (.slice (some ⟨lg, loff, none⟩) l.length lc) ∧ (W.cell? ⟨lg, loff + i * 4, none⟩ = some (.int .i64 r.k) ∧ W.cell? ⟨lg, loff + i * 4 + 1, none⟩ = some (.string r.t) ∧ W.cell? ⟨lg, loff + i * 4 + 2, none⟩ = some (.slice r.la r.ll r.lc) ∧ W.cell? ⟨lg, loff + i * 4 + 3, none⟩ = some (.slice r.na r.nl r.nc))) (B := fun j => decide (j < 10)) (by kernel_rfl) ?_
        generalize wr.drew = V at hV hT0 ⊢
        clear b0 b1 b2 b3
        refine wpAnyB_take (i := 0) (v := ?mv0) rfl (by kernel_rfl) (by kernel_rfl) (by kernel_rfl) (fun _ _ _ h => h) (Or.inl ⟨by rfl, ?my0⟩) ?ms0
        case my0 => (intro w; go_simp) <;> with_reducible rfl
        try simp only [Act.put, List.setIfInBounds_toArray, List.set_cons_zero, List.set_cons_succ]
        refine wpAnyB_load (i := 1) (v := ?mv1) rfl (by kernel_rfl) (by kernel_rfl) (by kernel_rfl) (by kernel_rfl) (fun _ _ _ h => h) (Or.inl ⟨by rfl, ?my1⟩) (by assumption) ?ms1
        case my1 => (intro w hSw; obtain ⟨u0, u1, ⟨u2, u3, u4, u5⟩⟩ := hSw; go_simp) <;> with_reducible rfl
        try simp only [Act.put, List.setIfInBounds_toArray, List.set_cons_zero, List.set_cons_succ]
        refine wpAnyB_take (i := 2) (v := ?mv2) rfl (by kernel_rfl) (by kernel_rfl) (by kernel_rfl) (fun _ _ _ h => h) (Or.inl ⟨by rfl, ?my2⟩) ?ms2
        case my2 => (intro w; go_simp) <;> with_reducible rfl
        try simp only [Act.put, List.setIfInBounds_toArray, List.set_cons_zero, List.set_cons_succ]
        refine wpAnyB_load (i := 3) (v := ?mv3) rfl (by kernel_rfl) (by kernel_rfl) (by kernel_rfl) (by kernel_rfl) (fun _ _ _ h => h) (Or.inl ⟨by rfl, ?my3⟩) (by assumption) ?ms3
        case my3 => (intro w hSw; obtain ⟨u0, u1, ⟨u2, u3, u4, u5⟩⟩ := hSw; go_simp) <;> with_reducible rfl
        try simp only [Act.put, List.setIfInBounds_toArray, List.set_cons_zero, List.set_cons_succ]
        refine wpAnyB_take (i := 4) (v := ?mv4) rfl (by kernel_rfl) (by kernel_rfl) (by kernel_rfl) (fun _ _ _ h => h) (Or.inl ⟨by rfl, ?my4⟩) ?ms4
        case my4 => (intro w; go_simp) <;> with_reducible rfl
        try simp only [Act.put, List.setIfInBounds_toArray, List.set_cons_zero, List.set_cons_succ]
        refine wpAnyB_take (i := 5) (v := ?mv5) rfl (by kernel_rfl) (by kernel_rfl) (by kernel_rfl) (fun _ _ _ h => h) (Or.inl ⟨by rfl, ?my5⟩) ?ms5
        case my5 => (intro w; go_simp) <;> with_reducible rfl
        try simp only [Act.put, List.setIfInBounds_toArray, List.set_cons_zero, List.set_cons_succ]
        refine wpAnyB_load (i := 6) (v := ?mv6) rfl (by kernel_rfl) (by kernel_rfl) (by kernel_rfl) (by kernel_rfl) (fun _ _ _ h => h) (Or.inl ⟨by rfl, ?my6⟩) (by assumption) ?ms6
        case my6 => (intro w hSw; obtain ⟨u0, u1, ⟨u2, u3, u4, u5⟩⟩ := hSw; go_simp) <;> with_reducible rfl
        try simp only [Act.put, List.setIfInBounds_toArray, List.set_cons_zero, List.set_cons_succ]
        clear hT0
        have hOV := HOI.out.on hV
        have HTU := Lib.hid (HIH.out x (List.mem_of_getElem? HX.out.1) r V A (FitAll.mem HF.out.2.2.2.2 x (List.mem_of_getElem? HX.out.1)) (HX.out.2.below (HRC.out.2 V hOV.below)))
        refine wpAnyB_ready (rs := [7]) (by kernel_rfl) (by simp) ?_
        refine AllReadyB.cons (o := { dst := some 28, op := Op.call { callee := Callee.value (Operand.func 23), args := #[Operand.tmp 27], argTypes := #[25] }, type := 40, pos := "law.go:36", after := #[{ on := 6, ground := Ground.data }], guard := none }) rfl (fun K hK => ?_) AllReadyB.nil
        go_simp
        go_at_call 23
        refine HTU.out.mono ?_
        rintro e V2 ⟨q2, rfl, HQ⟩
        have hO2 := hOV.on HQ.out.2
        refine hK.out _ _ (fun _ _ => ⟨blk_cell hO2.box 2, hall _ hO2.below⟩) ?_
        clear hK K
        try simp only [Act.put, List.setIfInBounds_toArray, List.set_cons_zero, List.set_cons_succ]
        refine wpAnyB_ready (rs := [8]) (by kernel_rfl) (by simp) ?_
        refine AllReadyB.cons (o := { dst := some 29, op := Op.buildSlice 38 1 #[(0, Operand.tmp 28)], type := 38, pos := "law.go:36", after := #[{ on := 7, ground := Ground.data }], guard := none }) rfl (fun K hK => ?_) AllReadyB.nil
        go_simp
        have hal : Below V2.heap.size V2 (V2.alloc (.cells #[.int .i64 q2.k, .string q2.t, .slice q2.la q2.ll q2.lc, .slice q2.na q2.nl q2.nc] 40)) := (Below.refl _ _).alloc (Nat.le_refl _) _
        refine hK.out _ _ (fun _ _ => ⟨blk_cell (hO2.on hal).box 2, hall _ (hO2.on hal).below⟩) ?_
        clear hK K
        try simp only [Act.put, List.setIfInBounds_toArray, List.set_cons_zero, List.set_cons_succ]
        have htl : (l.take i).length = i := by rw [List.length_take]; have := HLT.out.1; omega
        obtain ⟨a', c', V3, hap, hbu, hku, hpush⟩ := hOV.push HQ.out.2 HQ.out.1 (by rw [htl]; have := HLT.out.1; omega) #[.int .i64 q2.k, .string q2.t, .slice q2.la q2.ll q2.lc, .slice q2.na q2.nl q2.nc] rfl 38
        rw [htl] at hap hpush
        refine wpAnyB_ready (rs := [9]) (by kernel_rfl) (by simp) ?_
        refine AllReadyB.cons (o := { dst := some 30, op := Op.call { callee := Callee.builtin Builtin.append, args := #[Operand.tmp 22, Operand.tmp 29], argTypes := #[38, 38] }, type := 38, pos := "law.go:36", after := #[{ on := 1, ground := Ground.data }, { on := 8, ground := Ground.data }, { on := 7, ground := Ground.chain }], guard := none }) rfl (fun K hK => ?_) AllReadyB.nil
        refine step_append_run rfl (.tmp 22) (.tmp 29) 38 rfl _ _ rfl rfl _ _ hap ?_
        refine hK.out _ _ (fun _ _ => ⟨blk_cell hbu 2, hall _ hku⟩) ?_
        clear hK K
        try simp only [Act.put, List.setIfInBounds_toArray, List.set_cons_zero, List.set_cons_succ]
        refine wpAnyB_take (i := 10) (v := ?mv10) rfl (by kernel_rfl) (by kernel_rfl) (by kernel_rfl) (fun _ _ _ h => h) (Or.inl ⟨by rfl, ?my10⟩) ?ms10
        case my10 => (intro w; go_simp) <;> with_reducible rfl
        try simp only [Act.put, List.setIfInBounds_toArray, List.set_cons_zero, List.set_cons_succ]
        have f0 : V3.frozen? ⟨bx, 2, none⟩ = false := blk_free hbu 2
        have f1 : V3.cell? ⟨bx, 2, none⟩ = some (.slice a1 i c1) := blk_cell hbu 2
        refine wpAnyB_ready (rs := [11]) (by kernel_rfl) (by simp) ?_
        refine AllReadyB.cons rfl (fun K hK => ?_) AllReadyB.nil
        go_simp
        refine hK.out _ _ (fun h => by simp at h) ?_
        clear hK K
        try simp only [Act.put, List.setIfInBounds_toArray, List.set_cons_zero, List.set_cons_succ]
        refine wpAnyB_done (by kernel_rfl) ?_ _
        have HNX : Hid (KTurn w1 (V3.setCell ⟨bx, 2, none⟩ (.slice a' (i + 1) c')) bx qk qt ns (.slice a' (i + 1) c') (.slice a2 ns.length c2) (l.take (i + 1))) := Lib.hid (by
          rw [List.take_add_one, HX.out.1]
          exact hpush)
        clear hap hpush hbu hku hO2 hOV hal hV hall f0 f1 htl
        go_wp2_with (fail)
        go_roundw
        case rel => exact ⟨i + 1, by have := HLT.out.1; omega, by go_num, Lib.hid ⟨a', c', HNX.out⟩⟩
        case measure => simp [intOf]; have := HLT.out.1; omega
      · have j2 : ¬ (i : Int) < (l.length : Int) := by omega
        have hik : i = l.length := by omega
        subst hik
        have hOI := HOI.out
        rw [List.take_length] at hOI
        have hB2 := kbox_below HBX.out.2 hOI.below
        obtain ⟨⟨p0, p1, p2, p3⟩, z0, z1, z2, z3⟩ := kbox_cells hB2
        obtain ⟨⟨s0, s1, s2, s3⟩, -⟩ := kbox_cells (r := ⟨qk, qt, a1, l.length, c1, a2, ns.length, c2⟩) (show KBox wr bx ⟨qk, qt, a1, l.length, c1, a2, ns.length, c2⟩ from hOI.box)
        clear HOI hlt hi
        go_wp2_with (fail)
        have hk := keeps4 wr (w.heap.size + 1) (.int .i64 qk) (.string qt) (.slice a1 l.length c1) (.slice a2 ns.length c2)
        have hbw : Below w.heap.size w wr := HBB.out.1.trans (hOI.below.mono HBB.out.1.size)
        refine bodyPost_ret (v := (⟨qk, qt, a1, l.length, c1, a2, ns.length, c2⟩ : RawV).val) (kres_cell rfl (kbox_set hB2 ⟨qk, qt, a1, l.length, c1, a2, ns.length, c2⟩) _ rfl) rfl ⟨⟨qk, qt, a1, l.length, c1, a2, ns.length, c2⟩, rfl, Lib.hid ⟨?_, ?_⟩⟩
        · exact (hOI.fin.keeps hk (fun g hg e => by have e : g = w.heap.size + 1 := e; have := HBB.out.2; omega)).mono (fun g hg => by have := HBB.out.2; omega)
        · exact below_keeps hbw hk (fun i e => by have e : i = w.heap.size + 1 := e; omega) hbw.size
theorem j_toRef (v : JV) : ToRefOk v := JV.ind (P := ToRefOk) (fun k t l ns ih => j_toRef1 k t l ns ih) v
end
end Go.Proofs.YthjcolehccbihaaGreatDoor
