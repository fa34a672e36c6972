/- Two values compared, plain. -/
import Derived.Test.YthjcolehccbihaaGreatDoorz00
import Derived.Test.YthjcolehccbihaaGreatDoorz30
import Derived.Test.YthjcolehccbihaaGreatDoorz15
import Derived.Lib.MinMax
set_option linter.unusedSimpArgs false
set_option linter.unusedVariables false
namespace Go.Proofs.YthjcolehccbihaaGreatDoor
/-- What stands under a name. -/
def grp {α : Type} (L : List (ByteArray × α)) (k : ByteArray) : List α := (L.filter fun x => decide (x.1 = k)).map (·.2)
def eqL : List (JV → Bool) → List JV → Bool
  | [], [] => true
  | p :: ps, b :: bs => p b && eqL ps bs
  | _, _ => false
def sameObj (ps : List (ByteArray × (JV → Bool))) (qs : List (ByteArray × JV)) : Bool := ps.all fun x => eqL (grp ps x.1) (grp qs x.1)
mutual
/-- json.Same. -/
def sameJ : JV → JV → Bool
  | .mk k t l ns => fun b => if k ≠ b.kind then false else if k = 3 ∨ k = 4 then decide (t = b.text) else if k = 5 then eqL (sameF l) b.list
    else if k = 6 then (decide (l.length = b.list.length) && decide (ns.length = b.names.length)) && sameObj (ns.zip (sameF l)) (b.names.zip b.list) else true
def sameF : List JV → List (JV → Bool)
  | [] => []
  | v :: l => sameJ v :: sameF l
end
theorem sameF_map : ∀ l, sameF l = l.map sameJ
  | [] => rfl
  | v :: l => by simp only [sameF, List.map_cons, sameF_map l]
theorem sameJ_mk (k : Int) (t : ByteArray) (l : List JV) (ns : List ByteArray) (b : JV) : sameJ (.mk k t l ns) b = if k ≠ b.kind then false else if k = 3 ∨ k = 4 then decide (t = b.text) else if k = 5 then eqL (l.map sameJ) b.list
    else if k = 6 then (decide (l.length = b.list.length) && decide (ns.length = b.names.length)) && sameObj ((ns.zip l).map fun x => (x.1, sameJ x.2)) (b.names.zip b.list) else true := by
  simp only [sameJ, sameF_map, zip_map_snd]
theorem eqL_len : ∀ (ps : List (JV → Bool)) (bs : List JV), eqL ps bs = true → ps.length = bs.length
  | [], [], _ => rfl
  | [], _ :: _, h => by simp [eqL] at h
  | _ :: _, [], h => by simp [eqL] at h
  | p :: ps, b :: bs, h => by
    simp only [eqL, Bool.and_eq_true] at h
    simp [eqL_len ps bs h.2]
theorem eqL_iff : ∀ (vs bs : List JV), eqL (vs.map sameJ) bs = true ↔ vs.length = bs.length ∧ ∀ (i : Nat) (x y : JV), vs[i]? = some x → bs[i]? = some y → sameJ x y = true
  | [], [] => by simp [eqL]
  | [], _ :: _ => by simp [eqL]
  | _ :: _, [] => by simp [eqL]
  | v :: vs, b :: bs => by
    simp only [List.map_cons, eqL, Bool.and_eq_true, eqL_iff vs bs, List.length_cons]
    constructor
    · rintro ⟨h1, h2, h3⟩
      refine ⟨by omega, fun i x y hx hy => ?_⟩
      cases i with
      | zero =>
        simp only [List.getElem?_cons_zero, Option.some.injEq] at hx hy
        subst hx hy
        exact h1
      | succ i =>
        simp only [List.getElem?_cons_succ] at hx hy
        exact h3 i x y hx hy
    · rintro ⟨h1, h2⟩
      exact ⟨h2 0 v b rfl rfl, by omega, fun i x y hx hy => h2 (i + 1) x y (by simpa using hx) (by simpa using hy)⟩
theorem grp_map {α β : Type} (f : α → β) (L : List (ByteArray × α)) (k : ByteArray) : grp (L.map fun x => (x.1, f x.2)) k = (grp L k).map f := by
  unfold grp
  rw [List.filter_map, List.map_map, List.map_map]
  rfl
theorem eqL_refl {l : List JV} (h : ∀ v ∈ l, sameJ v v = true) : eqL (l.map sameJ) l = true := by
  rw [eqL_iff]
  refine ⟨rfl, fun i x y hx hy => ?_⟩
  rw [hx] at hy
  cases hy
  exact h x (List.mem_of_getElem? hx)
theorem grp_mem {α : Type} {L : List (ByteArray × α)} {k : ByteArray} {x : α} (h : x ∈ grp L k) : (k, x) ∈ L := by
  unfold grp at h
  obtain ⟨y, hy, rfl⟩ := List.mem_map.1 h
  obtain ⟨h1, h2⟩ := List.mem_filter.1 hy
  simp only [decide_eq_true_eq] at h2
  subst h2
  exact h1
theorem sameJ_refl : ∀ v, sameJ v v = true := JV.ind (P := fun v => sameJ v v = true) fun k t l ns ih => by
  rw [sameJ_mk, if_neg (by simp [JV.kind])]
  split
  · simp [JV.text]
  split
  · exact eqL_refl ih
  split
  · simp only [JV.list, JV.names, decide_true, Bool.true_and]
    unfold sameObj
    rw [List.all_eq_true]
    intro x hx
    rw [grp_map]
    exact eqL_refl fun v hv => ih v (List.of_mem_zip (grp_mem hv)).2
  · rfl
end Go.Proofs.YthjcolehccbihaaGreatDoor
namespace Go.Proofs.YthjcolehccbihaaGreatDoor
open Go.RowKit Go.Shelf
/-- The contract of Same, at a value. -/
def SameOk (v : JV) : Prop := ∀ (b : JV) (q r : RawV) (w : World) (A B : Nat → Prop), v.Fit → JAt w A v q → JAt w B b r →
  Calls Tryz.prog 13 #[.agg #[.int .i64 q.k, .string q.t, .slice q.la q.ll q.lc, .slice q.na q.nl q.nc], .agg #[.int .i64 r.k, .string r.t, .slice r.la r.ll r.lc, .slice r.na r.nl r.nc]] w fun e w' => e = .returned (.bool (sameJ v b)) ∧ Below w.heap.size w w'
section
variable {w : World}
set_option maxRecDepth 100000 in
set_option maxHeartbeats 4000000 in
theorem s_equalFn {vs bs : List JV} {rs1 rs2 : List RawV} {v1 v2 : Value} {A B : Nat → Prop} (h1 : RdAt rawKind w v1 rs1) (j1 : JsAt w A vs rs1) (h2 : RdAt rawKind w v2 rs2) (j2 : JsAt w B bs rs2) (hn : vs.length ≤ 1000000) (ih : ∀ v ∈ vs, SameOk v) (hf : ∀ v ∈ vs, v.Fit) :
    Calls Tryz.prog 41 #[v1, v2, .func (.func 13) #[] #[]] w fun e w' => e = .returned (.bool (eqL (vs.map sameJ) bs)) ∧ Below w.heap.size w w' := by
  have l1 := j1.length
  have l2 := j2.length
  have h1' := h1
  have h2' := h2
  obtain ⟨a1, c1, hv1, -⟩ := h1'
  obtain ⟨a2, c2, hv2, -⟩ := h2'
  rw [l1] at hv1
  rw [l2] at hv2
  subst hv1 hv2
  obtain ⟨RES, hres⟩ : ∃ z, z = eqL (vs.map sameJ) bs := ⟨_, rfl⟩
  rw [← hres]
  have HRES := Lib.hid hres
  have HR := Lib.hid (And.intro h1 (And.intro j1 (And.intro h2 j2)))
  have HIH := Lib.hid (And.intro ih hf)
  have HN := Lib.hid hn
  clear hres h1 j1 h2 j2 ih hf hn l1 l2
  by_cases hl : vs.length = bs.length
  · have t0 : decide ((vs.length : Int) = (bs.length : Int)) = true := by simp; omega
    have t1 : ((vs.length : Int) != (bs.length : Int)) = false := by simp; omega
    have HL := Lib.hid hl
    have hn0 : (vs.length : Int) ≤ 1000000 := by have := HN.out; omega
    clear hl
    go_enter Tryz.func41, Tryz.ntmps41
    go_wp2_with (fail)
    go_loopg [17] (vs.length + 1) (fun gk s wx => ∃ k : Nat, gk = vs.length - k + 1 ∧ k ≤ vs.length ∧ s = .int .i64 (k : Int) ∧ Hid (Below w.heap.size w wx) ∧ Hid (∀ (i : Nat) (x y : JV), i < k → vs[i]? = some x → bs[i]? = some y → sameJ x y = true))
    case atStart => exact ⟨0, rfl, Nat.zero_le _, rfl, Lib.hid (Below.refl _ _), Lib.hid fun i x y h => by omega⟩
    case round =>
      obtain ⟨k, rfl, hk, rfl, HB, HA⟩ := hrel
      by_cases hlt : k < vs.length
      · have ht : decide ((k : Int) < (vs.length : Int)) = true := by simpa using hlt
        have hlt2 : (k : Int) < (vs.length : Int) := by omega
        have hlt3 : (k : Int) < (bs.length : Int) := by have := HL.out; omega
        have k0 : (0 : Int) ≤ (k : Int) := by omega
        obtain ⟨x, hx⟩ : ∃ x, vs[k]? = some x := ⟨_, List.getElem?_eq_getElem hlt⟩
        obtain ⟨y, hy⟩ : ∃ y, bs[k]? = some y := ⟨_, List.getElem?_eq_getElem (by have := HL.out; omega)⟩
        obtain ⟨r1, hr1, hj1⟩ := HR.out.2.1.get hx
        obtain ⟨r2, hr2, hj2⟩ := HR.out.2.2.2.get hy
        have hmem : x ∈ vs := List.mem_of_getElem? hx
        obtain ⟨w2, hw2, HB2⟩ := jbox_new wr r1
        obtain ⟨w3, hw3, HB3⟩ := jbox_new w2 r2
        have hb3 : Below wr.heap.size wr w3 := HB2.out.1.trans (HB3.out.1.mono HB2.out.1.size)
        obtain ⟨g1, o1, e1, d0, d1, d2, d3⟩ := raw_cells (HR.out.1.below HB.out) hr1
        obtain ⟨g2, o2, e2, f0, f1, f2, f3⟩ := raw_cells (HR.out.2.2.1.below (HB.out.trans (HB2.out.1.mono HB.out.size))) hr2
        subst e1 e2
        have HW := Lib.hid (And.intro hw2 hw3)
        have HX := Lib.hid (And.intro hx hy)
        have HXS := Lib.hid (HIH.out.1 x hmem y r1 r2 w3 A B (HIH.out.2 x hmem) (hj1.below (HB.out.trans (hb3.mono HB.out.size))) (hj2.below (HB.out.trans (hb3.mono HB.out.size))))
        have HB4 : Hid (Below w.heap.size w w3) := Lib.hid (HB.out.trans (hb3.mono HB.out.size))
        obtain ⟨⟨p0, p1, p2, p3⟩, -⟩ := jbox_cells (jbox_below HB2.out.2 HB3.out.1)
        obtain ⟨⟨q0, q1, q2, q3⟩, -⟩ := jbox_cells HB3.out.2
        obtain ⟨bb, hbb⟩ : ∃ b, b = sameJ x y := ⟨_, rfl⟩
        rw [← hbb] at HXS
        have HBB := Lib.hid hbb
        have HLT := Lib.hid hlt
        clear hx hy hr1 hr2 hj1 hj2 hmem hw2 hw3 hb3 hbb hlt hk
        go_upto_region 6 with (fail)
        rw [HW.out.1]
        go_upto_region 7 with (fail)
        rw [HW.out.2]
        clear d0 d1 d2 d3 f0 f1 f2 f3 HW HB2 HB3
        cases bb with
        | true =>
          have HA' : Hid (∀ (i : Nat) (x y : JV), i < k + 1 → vs[i]? = some x → bs[i]? = some y → sameJ x y = true) := Lib.hid fun i x' y' hi hx' hy' => by
            by_cases e : i = k
            · subst e
              rw [HX.out.1] at hx'
              rw [HX.out.2] at hy'
              cases hx'
              cases hy'
              exact HBB.out.symm
            · exact HA.out i x' y' (by omega) hx' hy'
          go_wp2_with (go_at_call 13; refine HXS.out.mono ?_; rintro e w' ⟨rfl, hb'⟩)
          have HB5 := Lib.hid (HB4.out.trans (hb'.mono HB4.out.size))
          clear hb'
          go_roundg (vs.length - (k + 1) + 1)
          case measure => have := HLT.out; omega
          case rel => exact ⟨k + 1, rfl, HLT.out, by go_num, HB5, HA'⟩
        | false =>
          go_wp2_with (go_at_call 13; refine HXS.out.mono ?_; rintro e w' ⟨rfl, hb'⟩)
          go_ret
          refine ⟨?_, HB4.out.trans (hb'.mono HB4.out.size)⟩
          have : RES = false := by
            rw [HRES.out]
            cases hc : eqL (vs.map sameJ) bs with
            | false => rfl
            | true =>
              have := ((eqL_iff vs bs).1 hc).2 k x y HX.out.1 HX.out.2
              rw [← HBB.out] at this
              cases this
          rw [this]
          rfl
      · have ht : decide (k < vs.length) = false := by simpa using hlt
        have ht2 : decide ((k : Int) < (vs.length : Int)) = false := by simp; omega
        have hk2 : k = vs.length := by omega
        have HK := Lib.hid hk2
        clear hlt hk hk2
        go_wp2_with (fail)
        go_ret
        refine ⟨?_, HB.out⟩
        have : RES = true := by
          rw [HRES.out, eqL_iff]
          exact ⟨HL.out, fun i x y hx hy => HA.out i x y (by have := (List.getElem?_eq_some_iff.1 hx).1; have := HK.out; omega) hx hy⟩
        rw [this]
        rfl
  · have t0 : decide ((vs.length : Int) = (bs.length : Int)) = false := by simp; omega
    have t1 : ((vs.length : Int) != (bs.length : Int)) = true := by simp; omega
    have HL := Lib.hid hl
    clear hl
    go_enter Tryz.func41, Tryz.ntmps41
    go_wp2_with (fail)
    go_ret
    have : RES = false := by
      rw [HRES.out]
      cases hc : eqL (vs.map sameJ) bs with
      | false => rfl
      | true => exact absurd (by have := eqL_len _ _ hc; rwa [List.length_map] at this) HL.out
    rw [this]
    exact ⟨rfl, Below.refl _ _⟩
end
end Go.Proofs.YthjcolehccbihaaGreatDoor
namespace Go.Proofs.YthjcolehccbihaaGreatDoor
open Go.RowKit Go.Shelf
theorem step_mapUpdate_run {P : Program} {w : World} {ops : Array Oper} {o : Oper} {a : Act} {K : Act → World → Prop} {Q : Exit → Act → World → Prop} {E : Prop} (hgd : o.guard = none) (m x v : Operand) (t : TypeId) (ho : o.op = .mapUpdate t m x v) (mv kv vv : Value) (hm : a.eval m = mv) (hx : a.eval x = kv) (hv : a.eval v = vv) (w' : World)
    (hrun : (Instr.mapUpdate t mv kv vv).run P w = .ok () w') (h : K (a.put o.dst undef) w') : if Region.wanted o (yielded ops a.tmps) = true then Oper.wp P o a w K Q else E := by
  have hw : Region.wanted o (yielded ops a.tmps) = true := by simp [Region.wanted, hgd]
  rw [if_pos hw]
  exact wp_mapUpdate_run m x v t ho mv kv vv hm hx hv w' hrun h
/-- A slice of values, and what it holds. -/
structure SlR where
  a : Option Addr
  n : Nat
  c : Nat
  xs : List RawV
def SlR.val (s : SlR) : Value := .slice s.a s.n s.c
/-- The map at mb holds, by their names, just these; its memory is no older than B. -/
structure GrpM (W : World) (mb B : Nat) (L : List (ByteArray × RawV)) (m : List (ByteArray × SlR)) : Prop where
  map : MapAt strKind SlR.val W mb m
  mine : B ≤ mb
  find : ∀ k, (findL slt m k = none ∧ grp L k = []) ∨ ∃ s, findL slt m k = some s ∧ s.xs = grp L k ∧ s.xs ≠ []
  sl : ∀ x ∈ m, SlAt rawKind 25 W x.2.val x.2.xs ∧ ∀ g, x.2.val.ownBlock = some g → B ≤ g
  apart : ∀ x ∈ m, ∀ y ∈ m, x.1 ≠ y.1 → ∀ g, x.2.val.ownBlock = some g → y.2.val.ownBlock ≠ some g
section
variable {W : World} {mb B : Nat} {L : List (ByteArray × RawV)} {m : List (ByteArray × SlR)}
theorem zeroJVs (w : World) : (zeroValue 22).run Tryz.prog w = .ok (.slice none 0 0) w := by kernel_rfl
theorem grp_snoc {α : Type} (L : List (ByteArray × α)) (n : ByteArray) (r : α) (k : ByteArray) : grp (L ++ [(n, r)]) k = if n = k then grp L k ++ [r] else grp L k := by
  unfold grp
  rw [List.filter_append, List.map_append]
  by_cases h : n = k
  · simp [h]
  · simp [h]
theorem GrpM.lookup (h : GrpM W mb B L m) (k : ByteArray) : ∃ s : SlR, (Instr.lookup 87 (.map (some mb)) (.string k) false).run Tryz.prog W = .ok (.slice s.a s.n s.c) W ∧ s.xs = grp L k ∧ SlAt rawKind 25 W s.val s.xs ∧ (∀ g, s.val.ownBlock = some g → B ≤ g) ∧
    (∀ x ∈ m, x.1 ≠ k → ∀ g, x.2.val.ownBlock = some g → s.val.ownBlock ≠ some g) := by
  have hl := h.map.lookup (P := Tryz.prog) (t := 87) Tryz.underlying87 Tryz.underlying9 (zeroJVs W) k false
  rw [if_neg (by simp)] at hl
  rcases h.find k with ⟨h1, h2⟩ | ⟨s, h1, h2, h3⟩
  · refine ⟨⟨none, 0, 0, []⟩, ?_, h2.symm, SlAt.nil, (fun g hg => by cases hg), (fun x hx hn g hg h => by cases h)⟩
    have e : ((findL strKind.lt m k).map SlR.val).getD (.slice none 0 0) = .slice none 0 0 := by
      show ((findL slt m k).map SlR.val).getD _ = _
      rw [h1]; rfl
    rw [e] at hl
    exact hl
  · have hm := Kv.find_mem h1 h.map.rise
    refine ⟨s, ?_, h2, (h.sl _ hm).1, (h.sl _ hm).2, fun x hx hn g hg => h.apart x hx _ hm hn g hg⟩
    have e : ((findL strKind.lt m k).map SlR.val).getD (.slice none 0 0) = s.val := by
      show ((findL slt m k).map SlR.val).getD _ = _
      rw [h1]; rfl
    rw [e] at hl
    exact hl
theorem GrpM.weaken {B' : Nat} (h : GrpM W mb B L m) (hb : B' ≤ B) : GrpM W mb B' L m := ⟨h.map, Nat.le_trans hb h.mine, h.find, fun x hx => ⟨(h.sl x hx).1, fun g hg => Nat.le_trans hb ((h.sl x hx).2 g hg)⟩, h.apart⟩
theorem GrpM.below {W' : World} (h : GrpM W mb B L m) (hb : Below W.heap.size W W') : GrpM W' mb B L m := by
  refine ⟨h.map.below hb, h.mine, h.find, fun x hx => ⟨(h.sl x hx).1.below hb, (h.sl x hx).2⟩, h.apart⟩
/-- A look-up answers the same behind new memory. -/
theorem GrpM.look_on {W1 W2 : World} (h : GrpM W mb B L m) (h1 : Below W.heap.size W W1) (h2 : Below W1.heap.size W1 W2) {k : ByteArray} {v : Value} (hl : (Instr.lookup 87 (.map (some mb)) (.string k) false).run Tryz.prog W1 = .ok v W1) : (Instr.lookup 87 (.map (some mb)) (.string k) false).run Tryz.prog W2 = .ok v W2 := by
  have a1 := (h.map.below h1).lookup (P := Tryz.prog) (t := 87) Tryz.underlying87 Tryz.underlying9 (zeroJVs W1) k false
  have a2 := ((h.map.below h1).below h2).lookup (P := Tryz.prog) (t := 87) Tryz.underlying87 Tryz.underlying9 (zeroJVs W2) k false
  rw [if_neg (by simp)] at a1 a2
  have e2 := hl.symm.trans a1
  have key : ∀ {a b : Value} {A B : World}, (Result.ok a A : Result Value) = .ok b B → a = b := fun h => by injection h
  rw [key e2]
  exact a2
theorem raw_cells_at {w : World} {g off n cap : Nat} {xs : List RawV} (h : RdAt rawKind w (.slice (some ⟨g, off, none⟩) n cap) xs) {i : Nat} {r : RawV} (hr : xs[i]? = some r) :
    w.cell? ⟨g, off + i * 4, none⟩ = some (.int .i64 r.k) ∧ w.cell? ⟨g, off + i * 4 + 1, none⟩ = some (.string r.t) ∧ w.cell? ⟨g, off + i * 4 + 2, none⟩ = some (.slice r.la r.ll r.lc) ∧ w.cell? ⟨g, off + i * 4 + 3, none⟩ = some (.slice r.na r.nl r.nc) := by
  obtain ⟨g', off', e, t⟩ := raw_cells h hr
  cases e
  exact t
theorem sl_ne_map {v : Value} {xs : List RawV} (h : SlAt rawKind 25 W v xs) {m : List (ByteArray × SlR)} (hm : MapAt strKind SlR.val W mb m) {g : Nat} (hg : v.ownBlock = some g) : g ≠ mb := by
  obtain ⟨cur, hc⟩ := h.own g hg
  exact hm.not_blk hc
theorem sl_lt {v : Value} {xs : List RawV} (h : SlAt rawKind 25 W v xs) {g : Nat} (hg : v.ownBlock = some g) : g < W.heap.size := by
  obtain ⟨cur, hc⟩ := h.own g hg
  exact lt_of_block hc
theorem GrpM.step (h : GrpM W mb B L m) (hB : B ≤ W.heap.size) (k : ByteArray) (r : RawV) (hn : L.length + 1 ≤ 1000000) (cs : Array Value) (hcs : cs = r.cells.toArray) (ty : TypeId) :
    ∃ s : SlR, (Instr.lookup 87 (.map (some mb)) (.string k) false).run Tryz.prog W = .ok (.slice s.a s.n s.c) W ∧
      ∃ a' n' c' w', (Builtin.append_ #[22, 22] ty #[.slice s.a s.n s.c, .slice (some ⟨W.heap.size, 0, none⟩) 1 1]).run Tryz.prog (W.alloc (.cells cs 25)) = .ok (.slice a' n' c') w' ∧
      ((Instr.lookup 87 (.map (some mb)) (.string k) false).run Tryz.prog w' = .ok (.slice s.a s.n s.c) w' ∧ Keeps (fun i => B ≤ i) W w') ∧
      ∃ w'' m', (Instr.mapUpdate 87 (.map (some mb)) (.string k) (.slice a' n' c')).run Tryz.prog w' = .ok () w'' ∧ GrpM w'' mb B (L ++ [(k, r)]) m' ∧ Keeps (fun i => B ≤ i) W w'' := by
  obtain ⟨s, hl, hxs, hsl, hown, hap⟩ := h.lookup k
  have hal : Below W.heap.size W (W.alloc (.cells cs 25)) := (Below.refl _ _).alloc (Nat.le_refl _) _
  have hz : (W.alloc (.cells cs 25)).heap.size = W.heap.size + 1 := by simp
  have h1 := h.below hal
  have hlen : s.xs.length ≤ L.length := by rw [hxs]; unfold grp; rw [List.length_map]; exact List.length_filter_le _ _
  obtain ⟨v', w', hrun, hsl', hk', hown'⟩ := append_raw (hsl.below hal) (rd_new (ek := rawKind) W r cs hcs 25) (by simp; omega) ty
  obtain ⟨a', c', hv'⟩ := hsl'.shape
  have hmb : s.val.ownBlock ≠ some mb := fun e => sl_ne_map hsl h.map e rfl
  have hm1 : MapAt strKind SlR.val w' mb m := h1.map.keeps hk' hmb
  obtain ⟨w'', hup, hm2, hk2, hz2⟩ := hm1.update (P := Tryz.prog) (t := 87) Tryz.underlying87 Tryz.underlying9 k ⟨a', (s.xs ++ [r]).length, c', s.xs ++ [r]⟩
  subst hv'
  have hnew : ∀ g, (Value.slice a' (s.xs ++ [r]).length c').ownBlock = some g → s.val.ownBlock = some g ∨ W.heap.size + 1 ≤ g := fun g hg => by
    rcases hown' g hg with e | e
    · exact .inl e
    · exact .inr (by omega)
  have hsl2 : SlAt rawKind 25 w'' (.slice a' (s.xs ++ [r]).length c') (s.xs ++ [r]) := hsl'.keeps hk2 fun g hg e => sl_ne_map hsl' hm1 hg e
  have mem : ∀ x ∈ putL slt m k (⟨a', (s.xs ++ [r]).length, c', s.xs ++ [r]⟩ : SlR), (x.1 = k ∧ x.2 = ⟨a', (s.xs ++ [r]).length, c', s.xs ++ [r]⟩) ∨ (x.1 ≠ k ∧ x ∈ m) := fun x hx => by
    by_cases e : x.1 = k
    · left
      have h3 := Kv.find_of_mem hm2.rise hx
      have h4 := Kv.find_put (n := k) (y := (⟨a', (s.xs ++ [r]).length, c', s.xs ++ [r]⟩ : SlR)) h.map.rise
      rw [e] at h3
      have h5 : findL slt (putL slt m k (⟨a', (s.xs ++ [r]).length, c', s.xs ++ [r]⟩ : SlR)) k = some x.2 := h3
      rw [h4] at h5
      exact ⟨e, (Option.some.inj h5).symm⟩
    · exact .inr ⟨e, (Kv.mem_put (n := x.1) (m := k) e).1 hx⟩
  have hkk : Keeps (fun i => B ≤ i) W w' := ((Keeps.of_below hal).mono fun _ _ h => h.elim).trans' (hk'.mono fun i _ e => hown i e)
  have hl' : (Instr.lookup 87 (.map (some mb)) (.string k) false).run Tryz.prog w' = .ok (.slice s.a s.n s.c) w' := by
    have a1 := h.map.lookup (P := Tryz.prog) (t := 87) Tryz.underlying87 Tryz.underlying9 (zeroJVs W) k false
    have a2 := hm1.lookup (P := Tryz.prog) (t := 87) Tryz.underlying87 Tryz.underlying9 (zeroJVs w') k false
    rw [if_neg (by simp)] at a1 a2
    have e2 := hl.symm.trans a1
    have key : ∀ {a b : Value} {A B : World}, (Result.ok a A : Result Value) = .ok b B → a = b := fun h => by injection h
    rw [key e2]
    exact a2
  refine ⟨s, hl, a', _, c', w', hrun, ⟨hl', hkk⟩, w'', _, hup, ⟨hm2, h.mine, fun j => ?_, fun x hx => ?_, fun x hx y hy hne g hg => ?_⟩, ?_⟩
  · rw [grp_snoc]
    by_cases e : k = j
    · subst e
      rw [if_pos rfl]
      exact .inr ⟨_, Kv.find_put h.map.rise, by rw [hxs], by simp⟩
    · rw [if_neg e]
      rcases h.find j with ⟨h2, h3⟩ | ⟨t, h2, h3, h4⟩
      · exact .inl ⟨(Kv.find_put_ne h.map.rise (fun e' => e e'.symm)).trans h2, h3⟩
      · exact .inr ⟨t, (Kv.find_put_ne h.map.rise (fun e' => e e'.symm)).trans h2, h3, h4⟩
  · rcases mem x hx with ⟨-, e⟩ | ⟨hne, hx'⟩
    · rw [e]
      refine ⟨hsl2, fun g hg => ?_⟩
      rcases hnew g hg with e2 | e2
      · exact hown g e2
      · omega
    · obtain ⟨hs, ho⟩ := h1.sl x hx'
      refine ⟨(hs.keeps hk' (fun g hg e => hap x hx' hne g hg e)).keeps hk2 fun g hg e => ?_, ho⟩
      exact sl_ne_map hs h1.map hg e
  · rcases mem x hx with ⟨e1, e⟩ | ⟨hn1, hx'⟩
    · rcases mem y hy with ⟨e2, -⟩ | ⟨hn2, hy'⟩
      · exact absurd (e1.trans e2.symm) hne
      · rw [e] at hg
        rcases hnew g hg with e3 | e3
        · exact fun e4 => hap y hy' hn2 g e4 e3
        · intro e4
          have := sl_lt (h.sl y hy').1 e4
          omega
    · rcases mem y hy with ⟨e2, e⟩ | ⟨hn2, hy'⟩
      · rw [e]
        intro e4
        rcases hnew g e4 with e3 | e3
        · exact hap x hx' hn1 g hg e3
        · have := sl_lt (h.sl x hx').1 hg
          omega
      · exact h.apart x hx' y hy' hne g hg
  · refine hkk.trans' (hk2.mono fun i _ e => ?_)
    have e : i = mb := e
    rw [e]; exact h.mine
end
end Go.Proofs.YthjcolehccbihaaGreatDoor
namespace Go.Proofs.YthjcolehccbihaaGreatDoor
open Go.RowKit Go.Shelf
section
variable {w : World}
set_option maxRecDepth 100000 in
set_option maxHeartbeats 8000000 in
theorem j_members {q : RawV} {ns : List ByteArray} {rs : List RawV} (hns : RdAt textKind w q.nv ns) (hrs : RdAt rawKind w q.lv rs) (hroom : ns.length ≤ q.nc) (hn : ns.length ≤ 1000000) (hl : rs.length ≤ 1000000) :
    Calls Tryz.prog 42 #[.agg #[.int .i64 q.k, .string q.t, .slice q.la q.ll q.lc, .slice q.na q.nl q.nc]] w fun e w' => ∃ mb : Nat, e = .returned (.map (some mb)) ∧ Hid ((∃ m, GrpM w' mb w.heap.size (ns.zip rs) m) ∧ Below w.heap.size w w') := by
  obtain ⟨qk, qt, la, ll, lc, na, nl, nc⟩ := q
  simp only [RawV.lv, RawV.nv] at hns hrs hroom
  have hnl : nl = ns.length := by obtain ⟨_, _, e, _⟩ := hns; injection e
  have hll : ll = rs.length := by obtain ⟨_, _, e, _⟩ := hrs; injection e
  subst hnl hll
  obtain ⟨w1, hw1, HBX⟩ := jbox_new w ⟨qk, qt, la, rs.length, lc, na, ns.length, nc⟩
  have hs1 : w1.heap.size = w.heap.size + 1 := by rw [← hw1]; simp
  obtain ⟨w2, hw2⟩ : ∃ x, x = w1.alloc (.map #[] 0) := ⟨_, rfl⟩
  have hb12 : Below w1.heap.size w1 w2 := by rw [hw2]; exact (Below.refl _ _).alloc (Nat.le_refl _) _
  have hG0 : GrpM w2 w1.heap.size w1.heap.size [] [] := ⟨by rw [hw2]; exact mapAt_made w1, Nat.le_refl _, (fun k => .inl ⟨rfl, rfl⟩), (fun x hx => by cases hx), (fun x hx => by cases hx)⟩
  obtain ⟨mb, hmb⟩ : ∃ x, x = w1.heap.size := ⟨_, rfl⟩
  have HW1 := Lib.hid hw1
  have HW2 := Lib.hid hw2
  have HB2 : Hid (Below w.heap.size w w2) := Lib.hid (HBX.out.1.trans (hb12.mono (by omega)))
  have HX2 := Lib.hid (jbox_below HBX.out.2 hb12)
  have HG := Lib.hid hG0
  have HRR := Lib.hid (And.intro hns hrs)
  have HMB := Lib.hid (And.intro hmb hs1)
  obtain ⟨K, hK⟩ : ∃ K, K = min ns.length rs.length := ⟨_, rfl⟩
  have hK1 : K ≤ ns.length := by omega
  have hK2 : K ≤ rs.length := by omega
  have HKK := Lib.hid (And.intro hK (And.intro hK1 (And.intro hK2 (And.intro hn hl))))
  have hmin : min (ns.length : Int) (rs.length : Int) = (K : Int) := by omega
  have k1 : (0 : Int) ≤ (K : Int) := by omega
  have k2 : (K : Int) ≤ (nc : Int) := by omega
  have k3 : (K : Int) ≤ 1000000 := by omega
  obtain ⟨⟨b0, b1, b2, b3⟩, -⟩ := jbox_cells HX2.out
  clear hw1 hw2 hb12 hG0 hns hrs hs1 hn hl hK1 hK2 hK
  have hmm := run_makeMap (P := Tryz.prog) 87 w1
  go_enter Tryz.func42, Tryz.ntmps42
  go_upto_region 1 with (fail)
  rw [show w.alloc (.cells #[.int .i64 qk, .string qt, .slice la rs.length lc, .slice na ns.length nc] 25) = w1 from HW1.out]
  go_upto_region 2 with (fail)
  rw [show w1.alloc (.map #[] 0) = w2 from HW2.out.symm, ← hmb]
  rw [← hmb] at HG
  clear hmb hmm
  go_wp2_with (fail)
  go_loopw [18] (fun iv wr => ∃ (i : Nat) (m : List (ByteArray × SlR)), i ≤ K ∧ iv = .int .i64 i ∧ Hid (GrpM wr mb mb ((ns.zip rs).take i) m ∧ Below w.heap.size w wr ∧ mb ≤ wr.heap.size ∧ JBox wr w.heap.size ⟨qk, qt, la, rs.length, lc, na, ns.length, nc⟩)) (fun iv _ => K - (intOf iv).toNat)
  case atStart => exact ⟨0, [], Nat.zero_le _, rfl, Lib.hid ⟨HG.out, HB2.out, by have := HG.out.map.lt; omega, HX2.out⟩⟩
  case round =>
    obtain ⟨i, m, hi, rfl, HI⟩ := hrel
    clear b0 b1 b2 b3
    by_cases hlt : i < K
    · have j1 : (0 : Int) ≤ (i : Int) := by omega
      have j2 : (i : Int) < (K : Int) := by omega
      have j3 : (i : Int) < (rs.length : Int) := by have := HKK.out; omega
      have j4 : (i : Int) < (ns.length : Int) := by have := HKK.out; omega
      obtain ⟨x, hx⟩ : ∃ x, ns[i]? = some x := ⟨_, List.getElem?_eq_getElem (by have := HKK.out; omega)⟩
      obtain ⟨r, hr⟩ : ∃ r, rs[i]? = some r := ⟨_, List.getElem?_eq_getElem (by have := HKK.out; omega)⟩
      obtain ⟨g, off, e1, c0⟩ := text_cell (HRR.out.1.below HI.out.2.1) hx
      have hdr : Below wr.heap.size wr wr.drew := (Below.refl _ _).drew
      obtain ⟨g2, off2, e2, d0, d1, d2, d3⟩ := raw_cells (HRR.out.2.below (HI.out.2.1.trans (hdr.mono HI.out.2.1.size))) hr
      subst e1 e2
      obtain ⟨⟨b0, b1, b2, b3⟩, -⟩ := jbox_cells (jbox_below HI.out.2.2.2 hdr)
      obtain ⟨s, hlk, a', n', c', w5, happ, ⟨hlk5, hk5⟩, w6, m', hup, hg6, hk6⟩ := (HI.out.1.below hdr).step (by have := HI.out.2.2.1; exact this) x r (by rw [List.length_take]; have := HKK.out; omega) #[.int .i64 r.k, .string r.t, .slice r.la r.ll r.lc, .slice r.na r.nl r.nc] rfl 22
      have hal : Below wr.drew.heap.size wr.drew (wr.drew.alloc (.cells #[.int .i64 r.k, .string r.t, .slice r.la r.ll r.lc, .slice r.na r.nl r.nc] 25)) := (Below.refl _ _).alloc (Nat.le_refl _) _
      have hlk2 := HI.out.1.look_on hdr hal hlk
      have HTA := And.intro hlk2 (And.intro ((jbox_cells (jbox_below (jbox_below HI.out.2.2.2 hdr) hal)).1.2.2.1) (raw_cells_at (HRR.out.2.below (HI.out.2.1.trans ((hdr.trans hal).mono HI.out.2.1.size))) hr))
      have HTB := And.intro hlk5 (And.intro ((jbox_cells (jbox_keeps (jbox_below HI.out.2.2.2 hdr) hk5 (fun e => by have e : mb ≤ w.heap.size := e; have := HMB.out; omega))).1.2.2.1) (raw_cells_at (HRR.out.2.below (below_keeps (HI.out.2.1.trans (hdr.mono HI.out.2.1.size)) hk5 (fun i e => by have e : mb ≤ i := e; have := HMB.out; omega) (HI.out.2.1.trans (hdr.mono HI.out.2.1.size)).size)) hr))
      have HX := Lib.hid (And.intro hx hr)
      have HN := Lib.hid (And.intro hg6 hk6)
      clear hx hr hg6 hk6 hdr hlt hal hlk2 hlk5 hk5
      go_upto_region 5 with (fail)
      clear c0
      have hT0 : (fun w' : World => (Instr.lookup 87 (.map (some mb)) (.string x) false).run Tryz.prog w' = .ok (.slice s.a s.n s.c) w' ∧ w'.cell? ⟨w.heap.size, 2, none⟩ = some (.slice (some ⟨g2, off2, none⟩) rs.length lc) ∧ w'.cell? ⟨g2, off2 + i * 4, none⟩ = some (.int .i64 r.k) ∧ w'.cell? ⟨g2, off2 + i * 4 + 1, none⟩ = some (.string r.t) ∧ w'.cell? ⟨g2, off2 + i * 4 + 2, none⟩ = some (.slice r.la r.ll r.lc) ∧ w'.cell? ⟨g2, off2 + i * 4 + 3, none⟩ = some (.slice r.na r.nl r.nc)) wr.drew := ⟨hlk, b2, d0, d1, d2, d3⟩
      have HTN : Hid ((fun w' : World => (Instr.lookup 87 (.map (some mb)) (.string x) false).run Tryz.prog w' = .ok (.slice s.a s.n s.c) w' ∧ w'.cell? ⟨w.heap.size, 2, none⟩ = some (.slice (some ⟨g2, off2, none⟩) rs.length lc) ∧ w'.cell? ⟨g2, off2 + i * 4, none⟩ = some (.int .i64 r.k) ∧ w'.cell? ⟨g2, off2 + i * 4 + 1, none⟩ = some (.string r.t) ∧ w'.cell? ⟨g2, off2 + i * 4 + 2, none⟩ = some (.slice r.la r.ll r.lc) ∧ w'.cell? ⟨g2, off2 + i * 4 + 3, none⟩ = some (.slice r.na r.nl r.nc)) (wr.drew.alloc (.cells #[.int .i64 r.k, .string r.t, .slice r.la r.ll r.lc, .slice r.na r.nl r.nc] 25))) := Lib.hid HTA
      have HTM : Hid ((fun w' : World => (Instr.lookup 87 (.map (some mb)) (.string x) false).run Tryz.prog w' = .ok (.slice s.a s.n s.c) w' ∧ w'.cell? ⟨w.heap.size, 2, none⟩ = some (.slice (some ⟨g2, off2, none⟩) rs.length lc) ∧ w'.cell? ⟨g2, off2 + i * 4, none⟩ = some (.int .i64 r.k) ∧ w'.cell? ⟨g2, off2 + i * 4 + 1, none⟩ = some (.string r.t) ∧ w'.cell? ⟨g2, off2 + i * 4 + 2, none⟩ = some (.slice r.la r.ll r.lc) ∧ w'.cell? ⟨g2, off2 + i * 4 + 3, none⟩ = some (.slice r.na r.nl r.nc)) w5) := Lib.hid HTB
      clear hlk b0 b1 b2 b3 d0 d1 d2 d3 HTA HTB
      refine wp_region_B (T := fun w' => (Instr.lookup 87 (.map (some mb)) (.string x) false).run Tryz.prog w' = .ok (.slice s.a s.n s.c) w' ∧ w'.cell? ⟨w.heap.size, 2, none⟩ = some (.slice (some ⟨g2, off2, none⟩) rs.length lc) ∧ w'.cell? ⟨g2, off2 + i * 4, none⟩ = some (.int .i64 r.k) ∧ w'.cell? ⟨g2, off2 + i * 4 + 1, none⟩ = some (.string r.t) ∧ w'.cell? ⟨g2, off2 + i * 4 + 2, none⟩ = some (.slice r.la r.ll r.lc) ∧ w'.cell? ⟨g2, off2 + i * 4 + 3, none⟩ = some (.slice r.na r.nl r.nc)) (B := fun j => decide (j < 12)) (by kernel_rfl) ?_
      refine wpAnyB_take (i := 0) (v := ?vv0) rfl (by kernel_rfl) (by kernel_rfl) (by kernel_rfl) (fun _ _ _ h => h) (Or.inl ⟨by rfl, ?hy0⟩) ?rs0
      case hy0 => (intro w; go_simp) <;> with_reducible rfl
      try simp only [Act.put, List.setIfInBounds_toArray, List.set_cons_zero, List.set_cons_succ]
      refine wpAnyB_take (i := 1) (v := ?vv1) rfl (by kernel_rfl) (by kernel_rfl) (by kernel_rfl) (fun _ _ _ h => h) (Or.inl ⟨by rfl, ?hy1⟩) ?rs1
      case hy1 => (intro w; go_simp) <;> with_reducible rfl
      try simp only [Act.put, List.setIfInBounds_toArray, List.set_cons_zero, List.set_cons_succ]
      refine wpAnyB_take (i := 2) (v := ?vv2) rfl (by kernel_rfl) (by kernel_rfl) (by kernel_rfl) (fun _ _ _ h => h) (Or.inl ⟨by rfl, ?hy2⟩) ?rs2
      case hy2 => (intro w; go_simp) <;> with_reducible rfl
      try simp only [Act.put, List.setIfInBounds_toArray, List.set_cons_zero, List.set_cons_succ]
      refine wpAnyB_take (i := 3) (v := ?vv3) rfl (by kernel_rfl) (by kernel_rfl) (by kernel_rfl) (fun _ _ _ h => h) (Or.inl ⟨by rfl, ?hy3⟩) ?rs3
      case hy3 => (intro w; go_simp) <;> with_reducible rfl
      try simp only [Act.put, List.setIfInBounds_toArray, List.set_cons_zero, List.set_cons_succ]
      refine wpAnyB_load (i := 4) (v := ?vv4) rfl (by kernel_rfl) (by kernel_rfl) (by kernel_rfl) (by kernel_rfl) (fun _ _ _ h => h) (Or.inl ⟨by rfl, ?hy4⟩) (by assumption) ?rs4
      case hy4 => (intro w hSw; obtain ⟨s0, s1, s2, s3, s4, s5⟩ := hSw; go_simp) <;> with_reducible rfl
      try simp only [Act.put, List.setIfInBounds_toArray, List.set_cons_zero, List.set_cons_succ]
      refine wpAnyB_take (i := 5) (v := ?vv5) rfl (by kernel_rfl) (by kernel_rfl) (by kernel_rfl) (fun _ _ _ h => h) (Or.inl ⟨by rfl, ?hy5⟩) ?rs5
      case hy5 => (intro w; go_simp) <;> with_reducible rfl
      try simp only [Act.put, List.setIfInBounds_toArray, List.set_cons_zero, List.set_cons_succ]
      refine wpAnyB_load (i := 6) (v := ?vv6) rfl (by kernel_rfl) (by kernel_rfl) (by kernel_rfl) (by kernel_rfl) (fun _ _ _ h => h) (Or.inl ⟨by rfl, ?hy6⟩) (by assumption) ?rs6
      case hy6 => (intro w hSw; obtain ⟨s0, s1, s2, s3, s4, s5⟩ := hSw; go_simp) <;> with_reducible rfl
      try simp only [Act.put, List.setIfInBounds_toArray, List.set_cons_zero, List.set_cons_succ]
      refine wpAnyB_take (i := 7) (v := ?vv7) rfl (by kernel_rfl) (by kernel_rfl) (by kernel_rfl) (fun _ _ _ h => h) (Or.inl ⟨by rfl, ?hy7⟩) ?rs7
      case hy7 => (intro w; go_simp) <;> with_reducible rfl
      try simp only [Act.put, List.setIfInBounds_toArray, List.set_cons_zero, List.set_cons_succ]
      refine wpAnyB_take (i := 8) (v := ?vv8) rfl (by kernel_rfl) (by kernel_rfl) (by kernel_rfl) (fun _ _ _ h => h) (Or.inl ⟨by rfl, ?hy8⟩) ?rs8
      case hy8 => (intro w; go_simp) <;> with_reducible rfl
      try simp only [Act.put, List.setIfInBounds_toArray, List.set_cons_zero, List.set_cons_succ]
      refine wpAnyB_load (i := 9) (v := ?vv9) rfl (by kernel_rfl) (by kernel_rfl) (by kernel_rfl) (by kernel_rfl) (fun _ _ _ h => h) (Or.inl ⟨by rfl, ?hy9⟩) (by assumption) ?rs9
      case hy9 => (intro w hSw; obtain ⟨s0, s1, s2, s3, s4, s5⟩ := hSw; go_simp) <;> with_reducible rfl
      try simp only [Act.put, List.setIfInBounds_toArray, List.set_cons_zero, List.set_cons_succ]
      clear hT0
      refine wpAnyB_ready (rs := [10]) (by kernel_rfl) (by simp) ?_
      refine AllReadyB.cons (o := { dst := some 33, op := Op.buildSlice 22 1 #[(0, Operand.tmp 32)], type := 22, pos := "json.go:204", after := #[{ on := 9, ground := Ground.data }], guard := none }) rfl (fun K hK => ?_) AllReadyB.nil
      go_simp
      refine hK.out _ _ (fun _ _ => HTN.out) ?_
      clear hK K
      try simp only [Act.put, List.setIfInBounds_toArray, List.set_cons_zero, List.set_cons_succ]
      refine wpAnyB_ready (rs := [11]) (by kernel_rfl) (by simp) ?_
      refine AllReadyB.cons (o := { dst := some 34, op := Op.call { callee := Callee.builtin Builtin.append, args := #[Operand.tmp 27, Operand.tmp 33], argTypes := #[22, 22] }, type := 22, pos := "json.go:204", after := #[{ on := 4, ground := Ground.data }, { on := 10, ground := Ground.data }], guard := none }) rfl (fun K hK => ?_) AllReadyB.nil
      refine step_append_run rfl (.tmp 27) (.tmp 33) 22 rfl _ _ rfl rfl _ _ happ ?_
      refine hK.out _ _ (fun _ _ => HTM.out) ?_
      clear hK K
      try simp only [Act.put, List.setIfInBounds_toArray, List.set_cons_zero, List.set_cons_succ]
      refine wpAnyB_ready (rs := [12]) (by kernel_rfl) (by simp) ?_
      refine AllReadyB.cons rfl (fun K hK => ?_) AllReadyB.nil
      refine step_mapUpdate_run rfl (.tmp 23) (.tmp 24) (.tmp 34) 87 rfl _ _ _ rfl rfl rfl _ hup ?_
      refine hK.out _ _ (fun h => by simp at h) ?_
      clear hK K
      try simp only [Act.put, List.setIfInBounds_toArray, List.set_cons_zero, List.set_cons_succ]
      refine wpAnyB_done (by kernel_rfl) ?_ _
      have HNX : Hid (GrpM w6 mb mb ((ns.zip rs).take (i + 1)) m' ∧ Below w.heap.size w w6 ∧ mb ≤ w6.heap.size ∧ JBox w6 w.heap.size ⟨qk, qt, some ⟨g2, off2, none⟩, rs.length, lc, some ⟨g, off, none⟩, ns.length, nc⟩) := Lib.hid (by
        have e : (ns.zip rs)[i]? = some (x, r) := List.getElem?_zip_eq_some.2 HX.out
        have hd2 : Below wr.heap.size wr wr.drew := (Below.refl _ _).drew
        have hms : mb = w.heap.size + 1 := by have := HMB.out; omega
        refine ⟨?_, below_keeps (HI.out.2.1.trans (hd2.mono HI.out.2.1.size)) HN.out.2 (fun k e => by have e : mb ≤ k := e; omega) (HI.out.2.1.trans (hd2.mono HI.out.2.1.size)).size, ?_, jbox_keeps (jbox_below HI.out.2.2.2 hd2) HN.out.2 (fun e => by have e : mb ≤ w.heap.size := e; omega)⟩
        · rw [List.take_add_one, e]
          exact HN.out.1
        · have := HN.out.2.size
          have := HI.out.2.2.1
          exact Nat.le_trans HI.out.2.2.1 HN.out.2.size)
      go_wp2_with (fail)
      go_roundw
      case rel => exact ⟨i + 1, m', by omega, by go_num, HNX⟩
      case measure => simp [intOf]; omega
    · have j2 : ¬ (i : Int) < (K : Int) := by omega
      have hik : i = K := by omega
      subst hik
      go_wp2_with (fail)
      go_ret
      refine ⟨mb, rfl, Lib.hid ⟨⟨m, ?_⟩, HI.out.2.1⟩⟩
      have := HI.out.1.weaken (B' := w.heap.size) (by have := HMB.out; omega)
      rw [List.take_of_length_le (by rw [List.length_zip]; have := HKK.out; omega)] at this
      exact this
end
end Go.Proofs.YthjcolehccbihaaGreatDoor
