/- A value copied: what stands in memory on the way. -/
import Derived.Test.YthjcolehccbihaaGreatDoorz32
import Derived.Test.YthjcolehccbihaaGreatDoorz15
import Derived.Deep.CutBlock
set_option linter.unusedSimpArgs false
set_option linter.unusedVariables false
namespace Go.Proofs.YthjcolehccbihaaGreatDoor
open Go.RowKit Go.Shelf
/-- A copy under way: its box at b3, its own list so far, its names; all of it newer than w. -/
structure OwnI (w wr : World) (b3 : Nat) (k : Int) (t : ByteArray) (ns : List ByteArray) (lv nv : Value) (acc : List JV) : Prop where
  box : IsBlk wr b3 #[.int .i64 k, .string t, lv, nv] 25
  lst : ∃ rs, SlAt rawKind 25 wr lv rs ∧ JsAt wr (fun g => w.heap.size ≤ g ∧ lv.ownBlock ≠ some g ∧ g ≠ b3) acc rs
  nms : SlAt textKind 9 wr nv ns
  lown : ∀ g, lv.ownBlock = some g → w.heap.size ≤ g ∧ g ≠ b3
  nown : ∀ g, nv.ownBlock = some g → w.heap.size ≤ g
  below : Below w.heap.size w wr
  ge : w.heap.size ≤ b3
section
variable {w wr : World} {b3 : Nat} {k : Int} {t : ByteArray} {ns : List ByteArray} {lv nv : Value} {acc : List JV}
theorem OwnI.on {wy : World} (h : OwnI w wr b3 k t ns lv nv acc) (hb : Below wr.heap.size wr wy) : OwnI w wy b3 k t ns lv nv acc := by
  obtain ⟨rs, h1, h2⟩ := h.lst
  exact ⟨(hb.block _ (lt_of_block h.box)).trans h.box, ⟨rs, h1.below hb, h2.below hb⟩, h.nms.below hb, h.lown, h.nown, h.below.trans (hb.mono h.below.size), h.ge⟩
theorem ne_types {W : World} {g b : Nat} {cs ds : Array Value} {T U : TypeId} (h1 : IsBlk W g cs T) (h2 : IsBlk W b ds U) (hT : T ≠ U) : g ≠ b := by
  rintro rfl
  have := h1.symm.trans h2
  simp only [Option.some.injEq, Obj.cells.injEq] at this
  exact hT this.2.1
theorem OwnI.push (h : OwnI w wr b3 k t ns lv nv acc) {wy : World} (hy : Below wr.heap.size wr wy) {x : JV} {q : RawV} (hx : JAt wy (fun g => wr.heap.size ≤ g) x q) (hn : acc.length + 1 ≤ 1000000) (cs : Array Value) (hcs : cs = q.cells.toArray) (ty : TypeId) :
    ∃ a' c' wu, (Builtin.append_ #[22, 22] ty #[lv, .slice (some ⟨wy.heap.size, 0, none⟩) 1 1]).run Tryz.prog (wy.alloc (.cells cs 25)) = .ok (.slice a' (acc.length + 1) c') wu ∧ IsBlk wu b3 #[.int .i64 k, .string t, lv, nv] 25 ∧ Keeps (fun g => lv.ownBlock = some g) (wy.alloc (.cells cs 25)) wu ∧
      OwnI w (wu.setCell ⟨b3, 2, none⟩ (.slice a' (acc.length + 1) c')) b3 k t ns (.slice a' (acc.length + 1) c') nv (acc ++ [x]) := by
  have hyy := h.on hy
  have hb3 : b3 < wr.heap.size := lt_of_block h.box
  have hsz := hy.size
  have hwz := h.below.size
  have hlr : ∀ g, lv.ownBlock = some g → g < wr.heap.size := fun g hg => by
    obtain ⟨rs, h1, _⟩ := h.lst
    obtain ⟨cur, hc⟩ := h1.own g hg
    exact lt_of_block hc
  obtain ⟨rs, h3, h4⟩ := hyy.lst
  have h4' := h4.lt
  have hal : Below wy.heap.size wy (wy.alloc (.cells cs 25)) := (Below.refl _ _).alloc (Nat.le_refl _) _
  have hz1 : (wy.alloc (.cells cs 25)).heap.size = wy.heap.size + 1 := by simp
  have ha := hyy.on hal
  have hq := rd_new (ek := rawKind) wy q cs hcs 25
  have hlen : rs.length = acc.length := h4.length
  obtain ⟨v', wu, hrun, hsl, hku, hown⟩ := append_raw (h3.below hal) hq (by rw [hlen]; simp; omega) ty
  obtain ⟨a', c', hv'⟩ := hsl.shape
  have hl1 : (rs ++ [q]).length = acc.length + 1 := by rw [List.length_append, hlen]; rfl
  rw [hl1] at hv'
  subst hv'
  have hbu := hku.obj (w := wy.alloc (.cells cs 25)) ha.box (fun e => (h.lown _ e).2 rfl)
  have hset : Keeps (Only b3) wu (wu.setCell ⟨b3, 2, none⟩ (.slice a' (acc.length + 1) c')) := keeps_set _ _ _ _
  have hvn : ∀ g, (Value.slice a' (acc.length + 1) c').ownBlock = some g → w.heap.size ≤ g ∧ g ≠ b3 := fun g hg => by
    rcases hown g hg with e | e
    · exact h.lown g e
    · rw [hz1] at e
      exact ⟨by omega, by omega⟩
  refine ⟨a', c', wu, hrun, hbu, hku, ?_, ⟨rs ++ [q], hsl.keeps hset (fun g hg e => (hvn g hg).2 e), ?_⟩, ?_, hvn, h.nown, ?_, h.ge⟩
  · exact blk_set hbu 2 _
  · have key : ∀ g, g < wy.heap.size → lv.ownBlock ≠ some g → (Value.slice a' (acc.length + 1) c').ownBlock ≠ some g := fun g hg h1 h2 => by
      rcases hown g h2 with e | e
      · exact h1 e
      · rw [hz1] at e; omega
    have old := ((h4'.below hal).keeps hku (fun g hg e => hg.1.2.1 e)).keeps hset (fun g hg e => hg.1.2.2 e)
    have new := ((hx.lt.below hal).keeps hku (fun g hg e => by have := hlr g e; have := hg.1; omega)).keeps hset (fun g hg e => by have e : g = b3 := e; have := hg.1; omega)
    have old2 := old.mono (A' := fun g => w.heap.size ≤ g ∧ (Value.slice a' (acc.length + 1) c').ownBlock ≠ some g ∧ g ≠ b3) (fun g hg => ⟨hg.1.1, key g hg.2 hg.1.2.1, hg.1.2.2⟩)
    have new2 := new.mono (A' := fun g => w.heap.size ≤ g ∧ (Value.slice a' (acc.length + 1) c').ownBlock ≠ some g ∧ g ≠ b3) (fun g hg => ⟨by have := hg.1; omega, key g hg.2 (fun e => by have := hlr g e; have := hg.1; omega), by have := hg.1; omega⟩)
    exact old2.snoc new2
  · have hn1 : SlAt textKind 9 wu nv ns := ha.nms.keeps hku (fun g hg e => by
      obtain ⟨cur, hc⟩ := ha.nms.own g hg
      obtain ⟨cur2, hc2⟩ := (h3.below hal).own g e
      exact ne_types hc hc2 (by decide) rfl)
    exact hn1.keeps hset (fun g hg e => by
      obtain ⟨cur, hc⟩ := hn1.own g hg
      exact ne_types hc hbu (by decide) e)
  · have h1 : Below w.heap.size w wu := below_keeps ha.below hku (fun i e => (h.lown i e).1) ha.below.size
    exact below_keeps h1 hset (fun i e => by have e : i = b3 := e; have := h.ge; omega) h1.size
/-- A copy whose names are there. -/
theorem OwnI.start {W : World} {a2 : Option Addr} {c2 : Nat} (hb : IsBlk W b3 #[.int .i64 k, .string t, .slice none 0 0, .slice a2 ns.length c2] 25) (hn : SlAt textKind 9 W (.slice a2 ns.length c2) ns) (ho : ∀ g, (Value.slice a2 ns.length c2).ownBlock = some g → w.heap.size ≤ g) (hw : Below w.heap.size w W) (hg : w.heap.size ≤ b3) :
    OwnI w W b3 k t ns (.slice none 0 0) (.slice a2 ns.length c2) [] :=
  ⟨hb, ⟨[], SlAt.nil, by simp only [JsAt]⟩, hn, (fun g hg => by cases hg), ho, hw, hg⟩
/-- The copy, told. -/
theorem OwnI.fin {a1 : Option Addr} {c1 : Nat} {a2 : Option Addr} {c2 : Nat} (h : OwnI w wr b3 k t ns (.slice a1 acc.length c1) (.slice a2 ns.length c2) acc) : JAt wr (fun g => w.heap.size ≤ g) (.mk k t acc ns) ⟨k, t, a1, acc.length, c1, a2, ns.length, c2⟩ := by
  obtain ⟨rs, h3, h4⟩ := h.lst
  simp only [JAt, RawV.lv, RawV.nv]
  exact ⟨trivial, trivial, ⟨h.nms.rd, fun _ g hg => h.nown g hg, h.nms.le_cap rfl⟩, rs, ⟨h3.rd, fun _ g hg => (h.lown g hg).1⟩, h4.mono fun g hg => hg.1⟩
end
end Go.Proofs.YthjcolehccbihaaGreatDoor
namespace Go.Proofs.YthjcolehccbihaaGreatDoor
open Go.RowKit Go.Shelf
/-- The contract of own, at a value. -/
def OwnOk (v : JV) : Prop := ∀ (q : RawV) (w : World) (A : Nat → Prop), v.Fit → JAt w A v q →
  Calls Tryz.prog 45 #[.agg #[.int .i64 q.k, .string q.t, .slice q.la q.ll q.lc, .slice q.na q.nl q.nc]] w fun e w' => ∃ r : RawV, e = .returned (.agg #[.int .i64 r.k, .string r.t, .slice r.la r.ll r.lc, .slice r.na r.nl r.nc]) ∧ Hid (JAt w' (fun g => w.heap.size ≤ g) v r ∧ Below w.heap.size w w')
theorem make_texts (w : World) (n : Nat) (hn : n ≤ 1000000000) : ∃ W1, (Instr.makeSlice 23 (.int .i64 0) (.int .i64 (n : Int))).run Tryz.prog w = .ok (.slice (some ⟨w.heap.size, 0, none⟩) 0 n) W1 ∧ SlAt textKind 9 W1 (.slice (some ⟨w.heap.size, 0, none⟩) 0 n) ([] : List ByteArray) ∧ Below w.heap.size w W1 := by
  obtain ⟨i0, hi, hz0, hz1, hz2⟩ := info_parts infoStr
  have hr := run_make (P := Tryz.prog) w 23 9 i0 _ Tryz.underlying23 hi hz0 .i64 .i64 0 (n : Int) (Int.le_refl _) (by omega) (by rw [hz2]; omega) (by omega)
  simp only [Int.toNat_zero, Int.toNat_natCast] at hr
  refine ⟨_, hr, .inr ⟨w.heap.size, 0, n, _, rfl, heap_alloc_new w _, by simp, by unfold maxLen; omega, ?_, fun i hi => by simp at hi⟩, (Below.refl _ _).alloc (Nat.le_refl _) _⟩
  rw [size_madeCells, hz1]
  show 0 + n * 1 ≤ n * 1
  omega
/-- The names made and copied, in whatever world. -/
theorem copy_names {w W : World} {nv : Value} {ns : List ByteArray} (hr : RdAt textKind w nv ns) (hw : Below w.heap.size w W) (hn : ns.length ≤ 1000000) :
    ∃ W1, (Instr.makeSlice 23 (.int .i64 0) (.int .i64 (ns.length : Int))).run Tryz.prog W = .ok (.slice (some ⟨W.heap.size, 0, none⟩) 0 ns.length) W1 ∧ Below W.heap.size W W1 ∧ W.heap.size < W1.heap.size ∧
      ∀ W2, Below W1.heap.size W1 W2 → ∃ a2 c2 W3, (Builtin.append_ #[23, 23] 23 #[.slice (some ⟨W.heap.size, 0, none⟩) 0 ns.length, nv]).run Tryz.prog W2 = .ok (.slice a2 ns.length c2) W3 ∧ SlAt textKind 9 W3 (.slice a2 ns.length c2) ns ∧
        Keeps (fun k => k = W.heap.size) W2 W3 ∧ ∀ g, (Value.slice a2 ns.length c2).ownBlock = some g → W.heap.size ≤ g := by
  obtain ⟨W1, h1, h2, h3⟩ := make_texts W ns.length (by omega)
  refine ⟨W1, h1, h3, (by obtain ⟨cur, hc⟩ := h2.own W.heap.size rfl; exact lt_of_block hc), fun W2 hW2 => ?_⟩
  have hW : Below W.heap.size W W2 := h3.trans (hW2.mono h3.size)
  obtain ⟨v', W3, hrun, hsl, hk, hown⟩ := append_str (h2.below hW2) (hr.below (hw.trans (hW.mono hw.size))) (by simp; omega) 23
  rw [List.nil_append] at hsl
  obtain ⟨a2, c2, e⟩ := hsl.shape
  subst e
  refine ⟨a2, c2, W3, hrun, hsl, hk.mono fun i _ e => by simpa [Value.ownBlock] using e.symm, fun g hg => ?_⟩
  rcases hown g hg with e | e
  · have : W.heap.size = g := by simpa [Value.ownBlock] using e
    omega
  · have := hW.size
    omega
section
variable {w : World}
theorem own_finish {W w1 : World} {b3 : Nat} {k : Int} {t : ByteArray} {ns : List ByteArray} {a2 : Option Addr} {c2 : Nat} (hb : JBox W b3 raw0) (hs : SlAt textKind 9 W (.slice a2 ns.length c2) ns)
    (ho : ∀ g, (Value.slice a2 ns.length c2).ownBlock = some g → w1.heap.size ≤ g) (hw : Below w1.heap.size w1 W) (hg : w1.heap.size ≤ b3) :
    OwnI w1 (putJ W b3 ⟨k, t, none, 0, 0, a2, ns.length, c2⟩) b3 k t ns (.slice none 0 0) (.slice a2 ns.length c2) [] := by
  have hk := keeps4 W b3 (.int .i64 k) (.string t) (.slice none 0 0) (.slice a2 ns.length c2)
  refine OwnI.start (jbox_set hb ⟨k, t, none, 0, 0, a2, ns.length, c2⟩) (hs.keeps hk fun g hg e => ?_) ho (below_keeps hw hk (fun i e => by have e : i = b3 := e; omega) hw.size) hg
  obtain ⟨cur, hc⟩ := hs.own g hg
  exact ne_types hc hb (by decide) e
set_option maxRecDepth 100000 in
set_option maxHeartbeats 8000000 in
theorem j_own1 (k : Int) (t : ByteArray) (l : List JV) (ns : List ByteArray) (ih : ∀ v ∈ l, OwnOk v) : OwnOk (.mk k t l ns) := by
  intro q w A hf hq
  simp only [JAt] at hq
  obtain ⟨hqk, hqt, ⟨hns, -, -⟩, rs, ⟨hrs, -⟩, hl⟩ := hq
  simp only [JV.Fit] at hf
  obtain ⟨B1, B2, hbb, hzz⟩ := wSame_boxes w q raw0
  have e1 : q.ll = l.length := by
    obtain ⟨_, _, e, _⟩ := hrs
    injection e with _ e _
    rw [e, hl.length]
  have e3 : q.nl = ns.length := by obtain ⟨_, _, e, _⟩ := hns; injection e
  obtain ⟨w1, hw1⟩ : ∃ x, x = wSame w q raw0 := ⟨_, rfl⟩
  rw [← hw1] at B1 B2 hbb hzz
  obtain ⟨qk, qt, la, ll, lc, na, nl, nc⟩ := q
  simp only at hqk hqt e1 e3
  subst hqk hqt e1 e3
  simp only [RawV.lv, RawV.nv] at hns hrs
  obtain ⟨⟨b0, b1, b2, b3⟩, -⟩ := jbox_cells B1
  have HW1 : Hid ((w.alloc (.cells #[.int .i64 qk, .string qt, .slice la l.length lc, .slice na ns.length nc] 25)).alloc (.cells #[.int .i64 0, .string ⟨#[]⟩, .slice none 0 0, .slice none 0 0] 25) = w1) := Lib.hid hw1.symm
  have HBB := Lib.hid (And.intro hbb hzz)
  have HBX := Lib.hid (And.intro B1 B2)
  have HRD := Lib.hid (And.intro hns (And.intro hrs hl))
  have HF := Lib.hid hf
  have HIH := Lib.hid ih
  clear hw1 hf hns hrs hl hbb hzz B1 B2 ih
  go_enter Tryz.func45, Tryz.ntmps45
  go_upto_region 1 with (fail)
  rw [HW1.out]
  go_cut [3] from 6 to 17 (fun p wx => ∃ c3 : Nat, p = .pointer (some ⟨c3, 0, none⟩) ∧ Hid (∃ a2 c2, OwnI w1 wx c3 qk qt ns (.slice none 0 0) (.slice a2 ns.length c2) []))
  case first =>
    have hV : Below w1.heap.size w1 w1.drew := (Below.refl _ _).drew
    have hT0 : (fun W : World => W.cell? ⟨w.heap.size, 0, none⟩ = some (.int .i64 qk) ∧ W.cell? ⟨w.heap.size, 1, none⟩ = some (.string qt) ∧ W.cell? ⟨w.heap.size, 2, none⟩ = some (.slice la l.length lc) ∧ W.cell? ⟨w.heap.size, 3, none⟩ = some (.slice na ns.length nc)) w1.drew := ⟨b0, b1, b2, b3⟩
    refine wp_region_B (T := fun W : World => W.cell? ⟨w.heap.size, 0, none⟩ = some (.int .i64 qk) ∧ W.cell? ⟨w.heap.size, 1, none⟩ = some (.string qt) ∧ W.cell? ⟨w.heap.size, 2, none⟩ = some (.slice la l.length lc) ∧ W.cell? ⟨w.heap.size, 3, none⟩ = some (.slice na ns.length nc)) (B := fun _ => true) (by kernel_rfl) ?_
    generalize w1.drew = V at hV hT0 ⊢
    refine wpAnyB_take (i := 0) (v := ?vv0) rfl (by kernel_rfl) (by kernel_rfl) (by kernel_rfl) (fun _ _ _ h => h) (Or.inl ⟨by rfl, ?hy0⟩) ?rs0
    case hy0 => (intro w; go_simp) <;> with_reducible rfl
    try simp only [Act.put, List.setIfInBounds_toArray, List.set_cons_zero, List.set_cons_succ]
    refine wpAnyB_load (i := 1) (v := ?vv1) rfl (by kernel_rfl) (by kernel_rfl) (by kernel_rfl) (by kernel_rfl) (fun _ _ _ h => h) (Or.inl ⟨by rfl, ?hy1⟩) (by assumption) ?rs1
    case hy1 => (intro w hSw; obtain ⟨s0, s1, s2, s3⟩ := hSw; go_simp) <;> with_reducible rfl
    try simp only [Act.put, List.setIfInBounds_toArray, List.set_cons_zero, List.set_cons_succ]
    refine wpAnyB_take (i := 2) (v := ?vv2) rfl (by kernel_rfl) (by kernel_rfl) (by kernel_rfl) (fun _ _ _ h => h) (Or.inl ⟨by rfl, ?hy2⟩) ?rs2
    case hy2 => (intro w; go_simp) <;> with_reducible rfl
    try simp only [Act.put, List.setIfInBounds_toArray, List.set_cons_zero, List.set_cons_succ]
    refine wpAnyB_load (i := 3) (v := ?vv3) rfl (by kernel_rfl) (by kernel_rfl) (by kernel_rfl) (by kernel_rfl) (fun _ _ _ h => h) (Or.inl ⟨by rfl, ?hy3⟩) (by assumption) ?rs3
    case hy3 => (intro w hSw; obtain ⟨s0, s1, s2, s3⟩ := hSw; go_simp) <;> with_reducible rfl
    try simp only [Act.put, List.setIfInBounds_toArray, List.set_cons_zero, List.set_cons_succ]
    refine wpAnyB_take (i := 4) (v := ?vv4) rfl (by kernel_rfl) (by kernel_rfl) (by kernel_rfl) (fun _ _ _ h => h) (Or.inl ⟨by rfl, ?hy4⟩) ?rs4
    case hy4 => (intro w; go_simp) <;> with_reducible rfl
    try simp only [Act.put, List.setIfInBounds_toArray, List.set_cons_zero, List.set_cons_succ]
    refine wpAnyB_load (i := 5) (v := ?vv5) rfl (by kernel_rfl) (by kernel_rfl) (by kernel_rfl) (by kernel_rfl) (fun _ _ _ h => h) (Or.inl ⟨by rfl, ?hy5⟩) (by assumption) ?rs5
    case hy5 => (intro w hSw; obtain ⟨s0, s1, s2, s3⟩ := hSw; go_simp) <;> with_reducible rfl
    try simp only [Act.put, List.setIfInBounds_toArray, List.set_cons_zero, List.set_cons_succ]
    refine wpAnyB_take (i := 6) (v := ?vv6) rfl (by kernel_rfl) (by kernel_rfl) (by kernel_rfl) (fun _ _ _ h => h) (Or.inl ⟨by rfl, ?hy6⟩) ?rs6
    case hy6 => (intro w; go_simp) <;> with_reducible rfl
    try simp only [Act.put, List.setIfInBounds_toArray, List.set_cons_zero, List.set_cons_succ]
    refine wpAnyB_take (i := 8) (v := ?vv8) rfl (by kernel_rfl) (by kernel_rfl) (by kernel_rfl) (fun _ _ _ h => h) (Or.inl ⟨by rfl, ?hy8⟩) ?rs8
    case hy8 => (intro w; go_simp) <;> with_reducible rfl
    try simp only [Act.put, List.setIfInBounds_toArray, List.set_cons_zero, List.set_cons_succ]
    refine wpAnyB_load (i := 9) (v := ?vv9) rfl (by kernel_rfl) (by kernel_rfl) (by kernel_rfl) (by kernel_rfl) (fun _ _ _ h => h) (Or.inl ⟨by rfl, ?hy9⟩) (by assumption) ?rs9
    case hy9 => (intro w hSw; obtain ⟨s0, s1, s2, s3⟩ := hSw; go_simp) <;> with_reducible rfl
    try simp only [Act.put, List.setIfInBounds_toArray, List.set_cons_zero, List.set_cons_succ]
    clear hT0 b0 b1 b2 b3
    refine wpAnyB_ready (rs := [7, 12]) (by kernel_rfl) (by simp) ?_
    obtain ⟨V1, hm, hmb, hmlt, happ⟩ := copy_names HRD.out.1 (HBB.out.1.trans (hV.mono HBB.out.1.size)) HF.out.2.1
    have hV1 : Below w1.heap.size w1 V1 := hV.trans (hmb.mono hV.size)
    refine AllReadyB.cons (o := { dst := some 13, op := Op.makeSlice 23 (Operand.const (Value.int IntKind.i64 0)) (Operand.tmp 12), type := 23, pos := "json.go:161", after := #[{ on := 6, ground := Ground.data }], guard := none }) rfl (fun K hK => ?_) ?_
    · go_simp
      refine hK.out _ _ (fun _ _ => (jbox_cells (jbox_below HBX.out.1 hV1)).1) ?_
      clear hK K
      try simp only [Act.put, List.setIfInBounds_toArray, List.set_cons_zero, List.set_cons_succ]
      refine wpAnyB_ready (rs := [10, 12]) (by kernel_rfl) (by simp) ?_
      refine AllReadyB.cons (o := { dst := some 16, op := Op.call { callee := Callee.builtin Builtin.append, args := #[Operand.tmp 13, Operand.tmp 15], argTypes := #[23, 23] }, type := 23, pos := "json.go:161", after := #[{ on := 7, ground := Ground.data }, { on := 9, ground := Ground.data }], guard := none }) rfl (fun K hK => ?_) ?_
      · obtain ⟨a2, c2, V2, hap, hsl, hkk, hon⟩ := happ V1 (Below.refl _ _)
        have hV2 : Below w1.heap.size w1 V2 := below_keeps hV1 hkk (fun i e => by have e : i = V.heap.size := e; have := hV.size; omega) hV1.size
        refine step_append_run rfl (.tmp 13) (.tmp 15) 23 rfl _ _ rfl rfl _ _ hap ?_
        refine hK.out _ _ (fun _ _ => (jbox_cells (jbox_below HBX.out.1 hV2)).1) ?_
        clear hK K
        try simp only [Act.put, List.setIfInBounds_toArray, List.set_cons_zero, List.set_cons_succ]
        refine wpAnyB_take (i := 11) (v := ?vv11a) rfl (by kernel_rfl) (by kernel_rfl) (by kernel_rfl) (fun _ _ _ h => h) (Or.inl ⟨by rfl, ?hy11a⟩) ?rs11a
        case hy11a => (intro w; go_simp) <;> with_reducible rfl
        try simp only [Act.put, List.setIfInBounds_toArray, List.set_cons_zero, List.set_cons_succ]
        refine wpAnyB_ready (rs := [12]) (by kernel_rfl) (by simp) ?_
        refine AllReadyB.cons (o := { dst := some 3, op := Op.alloc 25, type := 0, pos := "json.go:161", after := #[], guard := none }) rfl (fun K hK => ?_) AllReadyB.nil
        go_simp
        obtain ⟨VA, hVA⟩ : ∃ x, x = V2.alloc (.cells #[.int .i64 0, .string ⟨#[]⟩, .slice none 0 0, .slice none 0 0] 25) := ⟨_, rfl⟩
        have hal : Below V2.heap.size V2 VA := by rw [hVA]; exact (Below.refl _ _).alloc (Nat.le_refl _) _
        have hV3 : Below w1.heap.size w1 VA := hV2.trans (hal.mono hV2.size)
        have hJ : JBox VA V2.heap.size raw0 := by rw [hVA]; exact blk_new _ _
        rw [← hVA]
        clear hVA
        refine hK.out _ _ (fun _ _ => (jbox_cells (jbox_below HBX.out.1 hV3)).1) ?_
        clear hK K
        try simp only [Act.put, List.setIfInBounds_toArray, List.set_cons_zero, List.set_cons_succ]
        obtain ⟨⟨p0, p1, p2, p3⟩, z0, z1, z2, z3⟩ := jbox_cells hJ
        have HFIN := Lib.hid (own_finish (k := qk) (t := qt) hJ (hsl.below hal) (fun g hg => Nat.le_trans hV.size (hon g hg)) hV3 hV2.size)
        refine wpAnyB_ready (rs := [13]) (by kernel_rfl) (by simp) ?_
        refine AllReadyB.cons rfl (fun K hK => ?_) AllReadyB.nil
        go_simp
        refine hK.out _ _ (fun _ _ => (jbox_cells (jbox_keeps (jbox_below HBX.out.1 hV3) (keeps4 VA V2.heap.size (.int .i64 qk) (.string qt) (.slice none 0 0) (.slice a2 ns.length c2)) (fun e => by have e : w.heap.size = V2.heap.size := e; have := HBB.out.2; have hq := hV2.size; omega))).1) ?_
        clear hK K
        try simp only [Act.put, List.setIfInBounds_toArray, List.set_cons_zero, List.set_cons_succ]
        refine wpAnyB_done (by kernel_rfl) ?_ _
        go_wp2_with (fail)
        go_meet
        exact ⟨_, rfl, Lib.hid ⟨a2, c2, HFIN.out⟩⟩
      · refine AllReadyB.cons (o := { dst := some 3, op := Op.alloc 25, type := 0, pos := "json.go:161", after := #[], guard := none }) rfl (fun K hK => ?_) AllReadyB.nil
        go_simp
        obtain ⟨VA, hVA⟩ : ∃ x, x = V1.alloc (.cells #[.int .i64 0, .string ⟨#[]⟩, .slice none 0 0, .slice none 0 0] 25) := ⟨_, rfl⟩
        have hal : Below V1.heap.size V1 VA := by rw [hVA]; exact (Below.refl _ _).alloc (Nat.le_refl _) _
        have hVa : Below w1.heap.size w1 VA := hV1.trans (hal.mono hV1.size)
        have hJ0 : JBox VA V1.heap.size raw0 := by rw [hVA]; exact blk_new _ _
        rw [← hVA]
        clear hVA
        refine hK.out _ _ (fun _ _ => (jbox_cells (jbox_below HBX.out.1 hVa)).1) ?_
        clear hK K
        try simp only [Act.put, List.setIfInBounds_toArray, List.set_cons_zero, List.set_cons_succ]
        obtain ⟨a2, c2, V2, hap, hsl, hkk, hon⟩ := happ VA hal
        have hV2 : Below w1.heap.size w1 V2 := below_keeps hVa hkk (fun i e => by have e : i = V.heap.size := e; have := hV.size; omega) hVa.size
        have hJ : JBox V2 V1.heap.size raw0 := jbox_keeps hJ0 hkk (fun e => by have e : V1.heap.size = V.heap.size := e; have := hmlt; omega)
        refine wpAnyB_ready (rs := [10]) (by kernel_rfl) (by simp) ?_
        refine AllReadyB.cons (o := { dst := some 16, op := Op.call { callee := Callee.builtin Builtin.append, args := #[Operand.tmp 13, Operand.tmp 15], argTypes := #[23, 23] }, type := 23, pos := "json.go:161", after := #[{ on := 7, ground := Ground.data }, { on := 9, ground := Ground.data }], guard := none }) rfl (fun K hK => ?_) AllReadyB.nil
        refine step_append_run rfl (.tmp 13) (.tmp 15) 23 rfl _ _ rfl rfl _ _ hap ?_
        refine hK.out _ _ (fun _ _ => (jbox_cells (jbox_below HBX.out.1 hV2)).1) ?_
        clear hK K
        try simp only [Act.put, List.setIfInBounds_toArray, List.set_cons_zero, List.set_cons_succ]
        refine wpAnyB_take (i := 11) (v := ?vv11b) rfl (by kernel_rfl) (by kernel_rfl) (by kernel_rfl) (fun _ _ _ h => h) (Or.inl ⟨by rfl, ?hy11b⟩) ?rs11b
        case hy11b => (intro w; go_simp) <;> with_reducible rfl
        try simp only [Act.put, List.setIfInBounds_toArray, List.set_cons_zero, List.set_cons_succ]
        obtain ⟨⟨p0, p1, p2, p3⟩, z0, z1, z2, z3⟩ := jbox_cells hJ
        have HFIN := Lib.hid (own_finish (k := qk) (t := qt) hJ hsl (fun g hg => Nat.le_trans hV.size (hon g hg)) hV2 hV1.size)
        refine wpAnyB_ready (rs := [13]) (by kernel_rfl) (by simp) ?_
        refine AllReadyB.cons rfl (fun K hK => ?_) AllReadyB.nil
        go_simp
        refine hK.out _ _ (fun _ _ => (jbox_cells (jbox_keeps (jbox_below HBX.out.1 hV2) (keeps4 V2 V1.heap.size (.int .i64 qk) (.string qt) (.slice none 0 0) (.slice a2 ns.length c2)) (fun e => by have e : w.heap.size = V1.heap.size := e; have := HBB.out.2; have hq := hV1.size; omega))).1) ?_
        clear hK K
        try simp only [Act.put, List.setIfInBounds_toArray, List.set_cons_zero, List.set_cons_succ]
        refine wpAnyB_done (by kernel_rfl) ?_ _
        go_wp2_with (fail)
        go_meet
        exact ⟨_, rfl, Lib.hid ⟨a2, c2, HFIN.out⟩⟩
    · refine AllReadyB.cons (o := { dst := some 3, op := Op.alloc 25, type := 0, pos := "json.go:161", after := #[], guard := none }) rfl (fun K hK => ?_) AllReadyB.nil
      go_simp
      obtain ⟨VA, hVA⟩ : ∃ x, x = V.alloc (.cells #[.int .i64 0, .string ⟨#[]⟩, .slice none 0 0, .slice none 0 0] 25) := ⟨_, rfl⟩
      have hal : Below V.heap.size V VA := by rw [hVA]; exact (Below.refl _ _).alloc (Nat.le_refl _) _
      have hVa : Below w1.heap.size w1 VA := hV.trans (hal.mono hV.size)
      have hJ0 : JBox VA V.heap.size raw0 := by rw [hVA]; exact blk_new _ _
      have hlt : V.heap.size < VA.heap.size := lt_of_block hJ0
      rw [← hVA]
      clear hVA
      refine hK.out _ _ (fun _ _ => (jbox_cells (jbox_below HBX.out.1 hVa)).1) ?_
      clear hK K
      try simp only [Act.put, List.setIfInBounds_toArray, List.set_cons_zero, List.set_cons_succ]
      refine wpAnyB_ready (rs := [7]) (by kernel_rfl) (by simp) ?_
      obtain ⟨V5, hm5, hmb5, hmlt5, happ5⟩ := copy_names (W := VA) HRD.out.1 (HBB.out.1.trans (hVa.mono HBB.out.1.size)) HF.out.2.1
      have hV5 : Below w1.heap.size w1 V5 := hVa.trans (hmb5.mono hVa.size)
      refine AllReadyB.cons (o := { dst := some 13, op := Op.makeSlice 23 (Operand.const (Value.int IntKind.i64 0)) (Operand.tmp 12), type := 23, pos := "json.go:161", after := #[{ on := 6, ground := Ground.data }], guard := none }) rfl (fun K hK => ?_) AllReadyB.nil
      go_simp
      refine hK.out _ _ (fun _ _ => (jbox_cells (jbox_below HBX.out.1 hV5)).1) ?_
      clear hK K
      try simp only [Act.put, List.setIfInBounds_toArray, List.set_cons_zero, List.set_cons_succ]
      obtain ⟨a2, c2, V2, hap, hsl, hkk, hon⟩ := happ5 V5 (Below.refl _ _)
      have hV2 : Below w1.heap.size w1 V2 := below_keeps hV5 hkk (fun i e => by have e : i = VA.heap.size := e; have := hVa.size; omega) hV5.size
      have hJ : JBox V2 V.heap.size raw0 := jbox_keeps (jbox_below hJ0 hmb5) hkk (fun e => by have e : V.heap.size = VA.heap.size := e; omega)
      refine wpAnyB_ready (rs := [10]) (by kernel_rfl) (by simp) ?_
      refine AllReadyB.cons (o := { dst := some 16, op := Op.call { callee := Callee.builtin Builtin.append, args := #[Operand.tmp 13, Operand.tmp 15], argTypes := #[23, 23] }, type := 23, pos := "json.go:161", after := #[{ on := 7, ground := Ground.data }, { on := 9, ground := Ground.data }], guard := none }) rfl (fun K hK => ?_) AllReadyB.nil
      refine step_append_run rfl (.tmp 13) (.tmp 15) 23 rfl _ _ rfl rfl _ _ hap ?_
      refine hK.out _ _ (fun _ _ => (jbox_cells (jbox_below HBX.out.1 hV2)).1) ?_
      clear hK K
      try simp only [Act.put, List.setIfInBounds_toArray, List.set_cons_zero, List.set_cons_succ]
      refine wpAnyB_take (i := 11) (v := ?vv11c) rfl (by kernel_rfl) (by kernel_rfl) (by kernel_rfl) (fun _ _ _ h => h) (Or.inl ⟨by rfl, ?hy11c⟩) ?rs11c
      case hy11c => (intro w; go_simp) <;> with_reducible rfl
      try simp only [Act.put, List.setIfInBounds_toArray, List.set_cons_zero, List.set_cons_succ]
      obtain ⟨⟨p0, p1, p2, p3⟩, z0, z1, z2, z3⟩ := jbox_cells hJ
      have HFIN := Lib.hid (own_finish (k := qk) (t := qt) hJ hsl (fun g hg => Nat.le_trans hVa.size (hon g hg)) hV2 hV.size)
      refine wpAnyB_ready (rs := [13]) (by kernel_rfl) (by simp) ?_
      refine AllReadyB.cons rfl (fun K hK => ?_) AllReadyB.nil
      go_simp
      refine hK.out _ _ (fun _ _ => (jbox_cells (jbox_keeps (jbox_below HBX.out.1 hV2) (keeps4 V2 V.heap.size (.int .i64 qk) (.string qt) (.slice none 0 0) (.slice a2 ns.length c2)) (fun e => by have e : w.heap.size = V.heap.size := e; have := HBB.out.2; have hq := hV.size; omega))).1) ?_
      clear hK K
      try simp only [Act.put, List.setIfInBounds_toArray, List.set_cons_zero, List.set_cons_succ]
      refine wpAnyB_done (by kernel_rfl) ?_ _
      go_wp2_with (fail)
      go_meet
      exact ⟨_, rfl, Lib.hid ⟨a2, c2, HFIN.out⟩⟩
  case rest =>
    obtain ⟨b3, rfl, HO⟩ := hcut
    obtain ⟨a2, c2, hO⟩ := HO.out
    have HO2 := Lib.hid hO
    obtain ⟨⟨b0, b1, b2, b3'⟩, -⟩ := jbox_cells (jbox_below HBX.out.1 hO.below)
    have hlm : (l.length : Int) ≤ 1000000 := by have := HF.out.2.2.2.1; omega
    clear hO HO
    go_wp2_with (fail)
    clear b0 b1 b2 b3'
    go_loopw [21] (fun iv wr => ∃ i : Nat, i ≤ l.length ∧ iv = .int .i64 i ∧ Hid (∃ a1 c1, OwnI w1 wr b3 qk qt ns (.slice a1 i c1) (.slice a2 ns.length c2) (l.take i))) (fun iv _ => l.length - (intOf iv).toNat)
    case atStart => exact ⟨0, Nat.zero_le _, rfl, Lib.hid ⟨none, 0, HO2.out⟩⟩
    case round =>
      obtain ⟨i, hi, rfl, HI⟩ := hrel
      obtain ⟨a1, c1, hOI⟩ := HI.out
      by_cases hlt : i < l.length
      · have j1 : (0 : Int) ≤ (i : Int) := by omega
        have j2 : (i : Int) < (l.length : Int) := by omega
        obtain ⟨x, hx⟩ : ∃ x, l[i]? = some x := ⟨_, List.getElem?_eq_getElem hlt⟩
        obtain ⟨r, hr, hjr⟩ := HRD.out.2.2.get hx
        have hbw : Below w.heap.size w wr := HBB.out.1.trans (hOI.below.mono HBB.out.1.size)
        obtain ⟨g, off, e1, d0, d1, d2, d3⟩ := raw_cells (HRD.out.2.1.below hbw) hr
        subst e1
        obtain ⟨w5, hw5, HB5⟩ := jbox_new wr r
        obtain ⟨bx, hbx⟩ : ∃ z, z = wr.heap.size := ⟨_, rfl⟩
        have HW5 := Lib.hid hw5
        have HX := Lib.hid (And.intro hx (And.intro hbw hjr))
        have HOI := Lib.hid hOI
        clear hw5 hx hr hjr hbw hOI
        go_upto_region 5 with (fail)
        rw [HW5.out, ← hbx]
        have hJ5 : JBox w5 bx r := by rw [hbx]; exact HB5.out.2
        have hV : Below w5.heap.size w5 w5.drew := (Below.refl _ _).drew
        have hT0 : (fun W : World => W.cell? ⟨b3, 2, none⟩ = some (.slice a1 i c1) ∧ (W.cell? ⟨bx, 0, none⟩ = some (.int .i64 r.k) ∧ W.cell? ⟨bx, 1, none⟩ = some (.string r.t) ∧ W.cell? ⟨bx, 2, none⟩ = some (.slice r.la r.ll r.lc) ∧ W.cell? ⟨bx, 3, none⟩ = some (.slice r.na r.nl r.nc))) w5.drew := ⟨blk_cell ((HOI.out.on HB5.out.1).on hV).box 2, (jbox_cells (jbox_below hJ5 hV)).1⟩
        have HBXX := Lib.hid hbx
        clear d0 d1 d2 d3 hbx
        refine wp_region_B (T := fun W : World => W.cell? ⟨b3, 2, none⟩ = some (.slice a1 i c1) ∧ (W.cell? ⟨bx, 0, none⟩ = some (.int .i64 r.k) ∧ W.cell? ⟨bx, 1, none⟩ = some (.string r.t) ∧ W.cell? ⟨bx, 2, none⟩ = some (.slice r.la r.ll r.lc) ∧ W.cell? ⟨bx, 3, none⟩ = some (.slice r.na r.nl r.nc))) (B := fun j => decide (j < 6)) (by kernel_rfl) ?_
        generalize w5.drew = V at hV hT0 ⊢
        refine wpAnyB_take (i := 0) (v := ?wv0) rfl (by kernel_rfl) (by kernel_rfl) (by kernel_rfl) (fun _ _ _ h => h) (Or.inl ⟨by rfl, ?wy0⟩) ?ws0
        case wy0 => (intro w; go_simp) <;> with_reducible rfl
        try simp only [Act.put, List.setIfInBounds_toArray, List.set_cons_zero, List.set_cons_succ]
        refine wpAnyB_load (i := 1) (v := ?wv1) rfl (by kernel_rfl) (by kernel_rfl) (by kernel_rfl) (by kernel_rfl) (fun _ _ _ h => h) (Or.inl ⟨by rfl, ?wy1⟩) (by assumption) ?ws1
        case wy1 => (intro w hSw; obtain ⟨s0, ⟨s1, s2, s3, s4⟩⟩ := hSw; go_simp) <;> with_reducible rfl
        try simp only [Act.put, List.setIfInBounds_toArray, List.set_cons_zero, List.set_cons_succ]
        refine wpAnyB_load (i := 2) (v := ?wv2) rfl (by kernel_rfl) (by kernel_rfl) (by kernel_rfl) (by kernel_rfl) (fun _ _ _ h => h) (Or.inl ⟨by rfl, ?wy2⟩) (by assumption) ?ws2
        case wy2 => (intro w hSw; obtain ⟨s0, ⟨s1, s2, s3, s4⟩⟩ := hSw; go_simp) <;> with_reducible rfl
        try simp only [Act.put, List.setIfInBounds_toArray, List.set_cons_zero, List.set_cons_succ]
        clear hT0
        have hOV := (HOI.out.on HB5.out.1).on hV
        have hJV := jbox_below hJ5 hV
        have hwV : Below wr.heap.size wr V := HB5.out.1.trans (hV.mono HB5.out.1.size)
        have HOWN := Lib.hid (HIH.out x (List.mem_of_getElem? HX.out.1) r V A (FitAll.mem HF.out.2.2.2.2 x (List.mem_of_getElem? HX.out.1)) (HX.out.2.2.below (HX.out.2.1.trans (hwV.mono HX.out.2.1.size))))
        refine wpAnyB_ready (rs := [3]) (by kernel_rfl) (by simp) ?_
        refine AllReadyB.cons (o := { dst := some 28, op := Op.call { callee := Callee.value (Operand.func 45), args := #[Operand.tmp 27], argTypes := #[25] }, type := 25, pos := "json.go:163", after := #[{ on := 2, ground := Ground.data }], guard := none }) rfl (fun K hK => ?_) AllReadyB.nil
        go_simp
        go_at_call 45
        refine HOWN.out.mono ?_
        rintro e V2 ⟨q2, rfl, HQ⟩
        have hO2 := hOV.on HQ.out.2
        have hJ2 := jbox_below hJV HQ.out.2
        refine hK.out _ _ (fun _ _ => ⟨blk_cell hO2.box 2, (jbox_cells hJ2).1⟩) ?_
        clear hK K
        try simp only [Act.put, List.setIfInBounds_toArray, List.set_cons_zero, List.set_cons_succ]
        refine wpAnyB_ready (rs := [4]) (by kernel_rfl) (by simp) ?_
        refine AllReadyB.cons (o := { dst := some 29, op := Op.buildSlice 22 1 #[(0, Operand.tmp 28)], type := 22, pos := "json.go:163", after := #[{ on := 3, ground := Ground.data }], guard := none }) rfl (fun K hK => ?_) AllReadyB.nil
        go_simp
        have hal : Below V2.heap.size V2 (V2.alloc (.cells #[.int .i64 q2.k, .string q2.t, .slice q2.la q2.ll q2.lc, .slice q2.na q2.nl q2.nc] 25)) := (Below.refl _ _).alloc (Nat.le_refl _) _
        refine hK.out _ _ (fun _ _ => ⟨blk_cell (hO2.on hal).box 2, (jbox_cells (jbox_below hJ2 hal)).1⟩) ?_
        clear hK K
        try simp only [Act.put, List.setIfInBounds_toArray, List.set_cons_zero, List.set_cons_succ]
        obtain ⟨a', c', V3, hap, hbu, hku, hpush⟩ := hOV.push HQ.out.2 HQ.out.1 (by rw [List.length_take]; have := HF.out.2.2.2.1; omega) #[.int .i64 q2.k, .string q2.t, .slice q2.la q2.ll q2.lc, .slice q2.na q2.nl q2.nc] rfl 22
        have htl : (l.take i).length = i := by rw [List.length_take]; omega
        rw [htl] at hap hpush
        have hkb := hap
        refine wpAnyB_ready (rs := [5]) (by kernel_rfl) (by simp) ?_
        refine AllReadyB.cons (o := { dst := some 30, op := Op.call { callee := Callee.builtin Builtin.append, args := #[Operand.tmp 26, Operand.tmp 29], argTypes := #[22, 22] }, type := 22, pos := "json.go:163", after := #[{ on := 1, ground := Ground.data }, { on := 4, ground := Ground.data }, { on := 3, ground := Ground.chain }], guard := none }) rfl (fun K hK => ?_) AllReadyB.nil
        refine step_append_run rfl (.tmp 26) (.tmp 29) 22 rfl _ _ rfl rfl _ _ hap ?_
        refine hK.out _ _ (fun _ _ => ⟨blk_cell hbu 2, (jbox_cells (jbox_keeps (jbox_below hJ2 hal) hku (fun e => by obtain ⟨rs0, t1, -⟩ := HOI.out.lst; obtain ⟨cur, hc⟩ := t1.own _ e; have := lt_of_block hc; have := HBXX.out; omega))).1⟩) ?_
        clear hK K
        try simp only [Act.put, List.setIfInBounds_toArray, List.set_cons_zero, List.set_cons_succ]
        refine wpAnyB_take (i := 6) (v := ?wv6) rfl (by kernel_rfl) (by kernel_rfl) (by kernel_rfl) (fun _ _ _ h => h) (Or.inl ⟨by rfl, ?wy6⟩) ?ws6
        case wy6 => (intro w; go_simp) <;> with_reducible rfl
        try simp only [Act.put, List.setIfInBounds_toArray, List.set_cons_zero, List.set_cons_succ]
        have f0 : V3.frozen? ⟨b3, 2, none⟩ = false := blk_free hbu 2
        have f1 : V3.cell? ⟨b3, 2, none⟩ = some (.slice a1 i c1) := blk_cell hbu 2
        refine wpAnyB_ready (rs := [7]) (by kernel_rfl) (by simp) ?_
        refine AllReadyB.cons rfl (fun K hK => ?_) AllReadyB.nil
        go_simp
        refine hK.out _ _ (fun h => by simp at h) ?_
        clear hK K
        try simp only [Act.put, List.setIfInBounds_toArray, List.set_cons_zero, List.set_cons_succ]
        refine wpAnyB_done (by kernel_rfl) ?_ _
        have HNX : Hid (OwnI w1 (V3.setCell ⟨b3, 2, none⟩ (.slice a' (i + 1) c')) b3 qk qt ns (.slice a' (i + 1) c') (.slice a2 ns.length c2) (l.take (i + 1))) := Lib.hid (by
          rw [List.take_add_one, HX.out.1]
          exact hpush)
        clear hap hpush hbu hku hO2 hJ2 hOV hJV hal hwV hV hJ5 hkb
        go_wp2_with (fail)
        go_roundw
        case rel => exact ⟨i + 1, by omega, by go_num, Lib.hid ⟨a', c', HNX.out⟩⟩
        case measure => simp [intOf]; omega
      · have j2 : ¬ (i : Int) < (l.length : Int) := by omega
        have hik : i = l.length := by omega
        subst hik
        rw [List.take_length] at hOI
        have hB2 := jbox_below HBX.out.2 hOI.below
        obtain ⟨⟨p0, p1, p2, p3⟩, z0, z1, z2, z3⟩ := jbox_cells hB2
        obtain ⟨⟨s0, s1, s2, s3⟩, -⟩ := jbox_cells (r := ⟨qk, qt, a1, l.length, c1, a2, ns.length, c2⟩) (show JBox wr b3 ⟨qk, qt, a1, l.length, c1, a2, ns.length, c2⟩ from hOI.box)
        go_wp2_with (fail)
        have hk := keeps4 wr (w.heap.size + 1) (.int .i64 qk) (.string qt) (.slice a1 l.length c1) (.slice a2 ns.length c2)
        have hbw : Below w.heap.size w wr := HBB.out.1.trans (hOI.below.mono HBB.out.1.size)
        refine bodyPost_ret (v := (⟨qk, qt, a1, l.length, c1, a2, ns.length, c2⟩ : RawV).val) (jres_cell rfl (jbox_set hB2 ⟨qk, qt, a1, l.length, c1, a2, ns.length, c2⟩) _ rfl) rfl ⟨⟨qk, qt, a1, l.length, c1, a2, ns.length, c2⟩, rfl, Lib.hid ⟨?_, ?_⟩⟩
        · exact (hOI.fin.keeps hk (fun g hg e => by have e : g = w.heap.size + 1 := e; have := HBB.out.2; omega)).mono (fun g hg => by have := HBB.out.2; omega)
        · exact below_keeps hbw hk (fun i e => by have e : i = w.heap.size + 1 := e; omega) hbw.size
theorem j_own (v : JV) : OwnOk v := JV.ind (P := OwnOk) (fun k t l ns ih => j_own1 k t l ns ih) v
end
end Go.Proofs.YthjcolehccbihaaGreatDoor
namespace Go.Proofs.YthjcolehccbihaaGreatDoor
open Go.RowKit Go.Shelf
/-- The first place of a name. -/
def FirstAt (ns : List ByteArray) (s : ByteArray) (j : Nat) : Prop := ns[j]? = some s ∧ ∀ m, m < j → ns[m]? ≠ some s
section
variable {w : World}
set_option maxRecDepth 100000 in
set_option maxHeartbeats 4000000 in
theorem s_index {v : Value} {ns : List ByteArray} (h : RdAt textKind w v ns) (hn : ns.length ≤ 1000000) (s : ByteArray) :
    Calls Tryz.prog 44 #[v, .string s] w fun e w' => (∃ i : Int, e = .returned (.int .i64 i) ∧ Hid ((i = -1 ∧ s ∉ ns) ∨ ∃ j : Nat, i = (j : Int) ∧ FirstAt ns s j)) ∧ w = w' := by
  have h2 := h
  obtain ⟨a, cap, hv, -⟩ := h2
  subst hv
  have HR := Lib.hid h
  have hn0 : (ns.length : Int) ≤ 1000000 := by omega
  clear h hn
  go_enter Tryz.func44, Tryz.ntmps44
  go_wp2_with (fail)
  go_loopw [8] (fun iv wr => ∃ i : Nat, i ≤ ns.length ∧ iv = .int .i64 i ∧ wr = w ∧ Hid (∀ m, m < i → ns[m]? ≠ some s)) (fun iv _ => ns.length - (intOf iv).toNat)
  case atStart => exact ⟨0, Nat.zero_le _, rfl, rfl, Lib.hid fun m h => by omega⟩
  case round =>
    obtain ⟨i, hi, rfl, rfl, HA⟩ := hrel
    by_cases hlt : i < ns.length
    · have j1 : (0 : Int) ≤ (i : Int) := by omega
      have j2 : (i : Int) < (ns.length : Int) := by omega
      obtain ⟨x, hx⟩ : ∃ x, ns[i]? = some x := ⟨_, List.getElem?_eq_getElem hlt⟩
      obtain ⟨g, off, rfl, c0⟩ := text_cell HR.out hx
      have HX := Lib.hid hx
      clear hx
      by_cases he : s = x
      · subst he
        have HF : Hid (FirstAt ns s i) := Lib.hid ⟨HX.out, HA.out⟩
        go_wp2_with (fail)
        go_ret
        exact ⟨⟨(i : Int), rfl, Lib.hid (.inr ⟨i, rfl, HF.out⟩)⟩, rfl⟩
      · have hts : (s.toList == x.toList) = false := beq_eq_false_iff_ne.2 (fun e => he (str_inj e))
        have HN : Hid (∀ m, m < i + 1 → ns[m]? ≠ some s) := Lib.hid fun m hm e => by
          by_cases h : m = i
          · subst h
            rw [HX.out] at e
            exact he (Option.some.inj e).symm
          · exact HA.out m (by omega) e
        clear he
        go_wp2_with (fail)
        go_roundw
        case rel => exact ⟨i + 1, by omega, by go_num, by first | rfl | trivial, HN⟩
        case measure => simp [intOf]; omega
    · have j2 : ¬ (i : Int) < (ns.length : Int) := by omega
      have hik : i = ns.length := by omega
      have HN : Hid (s ∉ ns) := Lib.hid fun hm => by
        obtain ⟨j, hj⟩ := List.getElem?_of_mem hm
        exact HA.out j (by have := (List.getElem?_eq_some_iff.1 hj).1; omega) hj
      go_wp2_with (fail)
      go_ret
      exact ⟨⟨-1, rfl, Lib.hid (.inl ⟨rfl, HN.out⟩)⟩, rfl⟩
set_option maxRecDepth 100000 in
theorem get_results {W : World} {b : Nat} {q : RawV} {x : Bool} (hb : JBox W b q) (tmps : Array Value) (h4 : tmps.getD 4 undef = .pointer (some ⟨b, 0, none⟩)) (h5 : tmps.getD 5 undef = .bool x) :
    (results Tryz.f18 tmps).run Tryz.prog W = .ok (.tuple #[q.val, .bool x]) W := by
  obtain ⟨⟨e0, e1, e2, e3⟩, -⟩ := jbox_cells hb
  simp only [results, Tryz.results18]
  simp [Sem.run_bind, Result.andThen, h4, h5, -Array.getD_eq_getD_getElem?]
  go_simp
  rfl
/-- What Get hands back. -/
def GotTo (w : World) (k : Int) (l : List JV) (ns : List ByteArray) (s : ByteArray) (e : Ending) (w' : World) : Prop :=
  (e = .returned (.tuple #[.agg #[.int .i64 0, .string ⟨#[]⟩, .slice none 0 0, .slice none 0 0], .bool false]) ∧ Hid ((∀ j, FirstAt ns s j → k = 6 → l.length ≤ j) ∧ Below w.heap.size w w')) ∨
  ∃ (j : Nat) (x : JV) (r : RawV), e = .returned (.tuple #[.agg #[.int .i64 r.k, .string r.t, .slice r.la r.ll r.lc, .slice r.na r.nl r.nc], .bool true]) ∧ Hid (k = 6 ∧ FirstAt ns s j ∧ l[j]? = some x ∧ JAt w' (fun g => w.heap.size ≤ g) x r ∧ Below w.heap.size w w')
theorem first_unique {ns : List ByteArray} {s : ByteArray} {i j : Nat} (h1 : FirstAt ns s i) (h2 : FirstAt ns s j) : i = j := by
  rcases Nat.lt_trichotomy i j with h | h | h
  · exact absurd h1.1 (h2.2 i h)
  · exact h
  · exact absurd h2.1 (h1.2 j h)
set_option maxRecDepth 100000 in
set_option maxHeartbeats 8000000 in
theorem j_get {k : Int} {t : ByteArray} {l : List JV} {ns : List ByteArray} {q : RawV} {A : Nat → Prop} (hf : (JV.mk k t l ns).Fit) (hq : JAt w A (.mk k t l ns) q) (s : ByteArray) :
    Calls Tryz.prog 18 #[.agg #[.int .i64 q.k, .string q.t, .slice q.la q.ll q.lc, .slice q.na q.nl q.nc], .string s] w (GotTo w k l ns s) := by
  simp only [JAt] at hq
  obtain ⟨hqk, hqt, ⟨hns, -, -⟩, rs, ⟨hrs, -⟩, hl⟩ := hq
  simp only [JV.Fit] at hf
  obtain ⟨B1, B2, hbb, hzz⟩ := wSame_boxes w q raw0
  have e1 : q.ll = l.length := by
    obtain ⟨_, _, e, _⟩ := hrs
    injection e with _ e _
    rw [e, hl.length]
  have e3 : q.nl = ns.length := by obtain ⟨_, _, e, _⟩ := hns; injection e
  obtain ⟨w1, hw1⟩ : ∃ x, x = wSame w q raw0 := ⟨_, rfl⟩
  rw [← hw1] at B1 B2 hbb hzz
  obtain ⟨qk, qt, la, ll, lc, na, nl, nc⟩ := q
  simp only at hqk hqt e1 e3
  subst hqk hqt e1 e3
  simp only [RawV.lv, RawV.nv] at hns hrs
  obtain ⟨⟨b0, b1, b2, b3⟩, -⟩ := jbox_cells B1
  obtain ⟨⟨p0, p1, p2, p3⟩, z0, z1, z2, z3⟩ := jbox_cells B2
  have HW1 : Hid ((w.alloc (.cells #[.int .i64 qk, .string qt, .slice la l.length lc, .slice na ns.length nc] 25)).alloc (.cells #[.int .i64 0, .string ⟨#[]⟩, .slice none 0 0, .slice none 0 0] 25) = w1) := Lib.hid hw1.symm
  have HBB := Lib.hid (And.intro hbb hzz)
  have HBX := Lib.hid (And.intro B1 B2)
  have HRD := Lib.hid (And.intro hns (And.intro hrs hl))
  have HF := Lib.hid hf
  have HIX := Lib.hid (s_index (hns.below hbb) hf.2.1 s)
  have HNO : Hid (∀ W, W = w1 → JBox (putJ W (w.heap.size + 1) raw0) (w.heap.size + 1) raw0 ∧ Below w.heap.size w (putJ W (w.heap.size + 1) raw0)) := Lib.hid fun W hW => by
    subst hW
    have hk := keeps4 W (w.heap.size + 1) (.int .i64 0) (.string ⟨#[]⟩) (.slice none 0 0) (.slice none 0 0)
    exact ⟨jbox_set HBX.out.2 raw0, below_keeps HBB.out.1 hk (fun i e => by have e : i = w.heap.size + 1 := e; omega) HBB.out.1.size⟩
  clear hw1 hf hns hrs hl hbb hzz B1 B2
  by_cases h6 : qk = 6
  · subst h6
    go_enter Tryz.func18, Tryz.ntmps18
    go_upto_region 1 with (fail)
    rw [HW1.out]
    go_wp2_with (fail)
    refine HIX.out.mono ?_
    rintro e w2 ⟨⟨i, rfl, HI⟩, rfl⟩
    by_cases hneg : i < 0
    · have HNEG := Lib.hid hneg
      have t0 : decide (i < 0) = true := by simp [hneg]
      clear HIX
      go_wp2_with (fail)
      refine bodyPost_ret (v := .tuple #[raw0.val, .bool false]) (get_results (HNO.out w1 rfl).1 _ rfl rfl) rfl (.inl ⟨rfl, Lib.hid ⟨?_, (HNO.out w1 rfl).2⟩⟩)
      intro j hj _
      rcases HI.out with ⟨-, h2⟩ | ⟨j', h2, -⟩
      · exact absurd (List.mem_of_getElem? hj.1) h2
      · have := HNEG.out
        omega
    · have t0 : decide (i < 0) = false := by simp; omega
      obtain ⟨j, rfl, hj⟩ : ∃ j : Nat, i = (j : Int) ∧ FirstAt ns s j := by
        rcases HI.out with ⟨h1, -⟩ | h
        · omega
        · exact h
      have HJ := Lib.hid hj
      clear hj HIX HI
      by_cases hlen : j < l.length
      · have k1 : (0 : Int) ≤ (j : Int) := by omega
        have k2 : (j : Int) < (l.length : Int) := by omega
        have k3 : ¬ (l.length : Int) ≤ (j : Int) := by omega
        obtain ⟨x, hx⟩ : ∃ x, l[j]? = some x := ⟨_, List.getElem?_eq_getElem hlen⟩
        obtain ⟨r, hr, hjr⟩ := HRD.out.2.2.get hx
        obtain ⟨g, off, e1, d0, d1, d2, d3⟩ := raw_cells (HRD.out.2.1.below HBB.out.1) hr
        subst e1
        have HOW := Lib.hid (j_own x r w1 A (FitAll.mem HF.out.2.2.2.2 x (List.mem_of_getElem? hx)) (hjr.below HBB.out.1))
        have HX := Lib.hid hx
        clear hx hr hjr hlen HNO
        go_wp2_with (fail)
        refine HOW.out.mono ?_
        rintro e w3 ⟨r2, rfl, HR2⟩
        have hB2 := jbox_below HBX.out.2 HR2.out.2
        clear b0 b1 b2 b3 p0 p1 p2 p3 z0 z1 z2 z3 d0 d1 d2 d3
        obtain ⟨⟨p0, p1, p2, p3⟩, z0, z1, z2, z3⟩ := jbox_cells hB2
        go_wp2_with (fail)
        have hk := keeps4 w3 (w.heap.size + 1) (.int .i64 r2.k) (.string r2.t) (.slice r2.la r2.ll r2.lc) (.slice r2.na r2.nl r2.nc)
        have hbw : Below w.heap.size w w3 := HBB.out.1.trans (HR2.out.2.mono HBB.out.1.size)
        have hs1 : w1.heap.size = w.heap.size + 2 := HBB.out.2
        refine bodyPost_ret (v := .tuple #[r2.val, .bool true]) (get_results (jbox_set hB2 r2) _ rfl rfl) rfl (.inr ⟨j, x, r2, rfl, Lib.hid ⟨rfl, HJ.out, HX.out, ?_, ?_⟩⟩)
        · exact (HR2.out.1.keeps hk (fun g hg e => by have e : g = w.heap.size + 1 := e; omega)).mono (fun g hg => by omega)
        · exact below_keeps hbw hk (fun i e => by have e : i = w.heap.size + 1 := e; omega) hbw.size
      · have k3 : (l.length : Int) ≤ (j : Int) := by omega
        have k4 : l.length ≤ j := by omega
        have HLE := Lib.hid k4
        go_wp2_with (fail)
        refine bodyPost_ret (v := .tuple #[raw0.val, .bool false]) (get_results (HNO.out w1 rfl).1 _ rfl rfl) rfl (.inl ⟨rfl, Lib.hid ⟨?_, (HNO.out w1 rfl).2⟩⟩)
        intro j2 hj2 _
        have := first_unique hj2 HJ.out
        have := HLE.out
        omega
  · have n0 : (qk != 6) = true := by simp [h6]
    have H6 := Lib.hid h6
    clear h6
    go_enter Tryz.func18, Tryz.ntmps18
    go_upto_region 1 with (fail)
    rw [HW1.out]
    go_wp2_with (fail)
    refine HIX.out.mono ?_
    rintro e w2 ⟨⟨i, rfl, HI⟩, rfl⟩
    go_wp2_with (fail)
    exact bodyPost_ret (v := .tuple #[raw0.val, .bool false]) (get_results (HNO.out w1 rfl).1 _ rfl rfl) rfl (.inl ⟨rfl, Lib.hid ⟨fun j _ h => absurd h H6.out, (HNO.out w1 rfl).2⟩⟩)
end
end Go.Proofs.YthjcolehccbihaaGreatDoor
