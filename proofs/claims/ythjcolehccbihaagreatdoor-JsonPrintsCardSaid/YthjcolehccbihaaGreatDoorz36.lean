/- What the arguments and the listed tables of a JSON statement give. -/
import Derived.Test.YthjcolehccbihaaGreatDoorz30
import Derived.Test.YthjcolehccbihaaGreatDoorTie
import Derived.Test.YthjcolehccbihaaGreatDoorCards
import Derived.Lib.LaidU8T
import Derived.ProofKit
import Derived.OpenShut
import Derived.JoinedCond
import Derived.Deep.Slices
import Derived.Deep.Fields
import Derived.ChangeSame
import Derived.LaidMore
import Derived.Lay
import Derived.SevenTiedAt
import Derived.Stop.Joined
import Derived.Test.YthjcolehccbihaaGreatDoorz31
namespace Go.Proofs.YthjcolehccbihaaGreatDoor
open Go.ChangeShapes Go.WideShapes Go.ChangeAt Go.RowKit Go.Shelf
theorem own_knob : ownKnob Tryz.prog.godebug = none := by kernel_rfl
theorem first_data : Rows.laid_unicode_utf8_first = Lib.firstData := by kernel_rfl
theorem accept_data : (Rows.laid_unicode_utf8_acceptRanges : DataW Unit) = Lib.acceptData := by kernel_rfl
theorem Tryz.laidOut : laidOutB Tryz.prog = true := by kernel_rfl
section
variable {H : Type} {enc : TypeId × Value → H} {W : World} {base : Nat} {spare : Nat → Bool} {held : Bool}
theorem spot_of_cell {a : Addr} {v : Value} (h : W.cell? a = some v) : a.spot = none := by
  unfold World.cell? at h
  split at h
  · split at h
    · simp at h
    · rename_i hn; cases hs : a.spot with
      | none => rfl
      | some k => rw [hs] at hn; simp at hn
  · simp at h
theorem add_plain {a : Addr} (h : a.spot = none) (n : Nat) : a.add n = ⟨a.block, a.off + n, none⟩ := by
  obtain ⟨b, o, sp⟩ := a
  have : sp = none := h
  subst this
  unfold Addr.add
  split
  · rename_i h0; subst h0; rfl
  · rfl
end
end Go.Proofs.YthjcolehccbihaaGreatDoor
set_option linter.unusedSimpArgs false
set_option linter.unusedVariables false
namespace Go.Proofs.YthjcolehccbihaaGreatDoor
open Go.ChangeShapes Go.WideShapes Go.ChangeAt Go.RowKit Go.Shelf
mutual
/-- No part is greater than a process's memory. -/
def JV.Sz : JV → Prop
  | .mk _ t l ns => t.size ≤ 140737488355328 ∧ ns.length ≤ 140737488355328 ∧ (∀ s ∈ ns, s.size ≤ 140737488355328) ∧ l.length ≤ 140737488355328 ∧ SzAll l
def SzAll : List JV → Prop
  | [] => True
  | v :: l => v.Sz ∧ SzAll l
end
theorem szAll_iff : ∀ l, SzAll l ↔ ∀ v ∈ l, v.Sz
  | [] => by simp [SzAll]
  | v :: l => by simp [SzAll, szAll_iff l]
theorem cellsJV : Tryz.prog.cellsOf 25 = 4 := by kernel_rfl
theorem cellsInt : Tryz.prog.cellsOf 3 = 1 := by kernel_rfl
theorem cellsStr : Tryz.prog.cellsOf 9 = 1 := by kernel_rfl
theorem cellsJVs : Tryz.prog.cellsOf 22 = 1 := by kernel_rfl
theorem cellsTexts : Tryz.prog.cellsOf 23 = 1 := by kernel_rfl
theorem bytesJV : Tryz.prog.bytesOf 25 = 72 := by kernel_rfl
theorem bytesStr : Tryz.prog.bytesOf 9 = 16 := by kernel_rfl
instance : Inhabited RawV := ⟨⟨0, .empty, none, 0, 0, none, 0, 0⟩⟩
instance : Inhabited ByteArray := ⟨.empty⟩
section
variable {H : Type} {enc : TypeId × Value → H} {W : World} {base : Nat} {spare : Nat → Bool} {held : Bool}
theorem slice_open {β : Type} [Inhabited β] (ek : ElKind β) {t e : TypeId} (ht : Tryz.prog.underlying t = some (.slice e)) (hc : Tryz.prog.cellsOf e = ek.size) {fuel : Nat} {cs : List Value} {x : DataW H × List MemPlace} (h : DataW.trod enc Tryz.prog W base spare held fuel t cs = some x) {Q : β → Prop}
    (hel : ∀ m cs' y, m < fuel → DataW.trod enc Tryz.prog W base spare held m e cs' = some y → (∀ z ∈ y.1.weights Tryz.prog e, z ∈ x.1.weights Tryz.prog t) → ∃ b, cs' = ek.enc b ∧ Q b) :
    ∃ (a : Option Addr) (cap : Nat) (bs : List β), cs = [.slice a bs.length cap] ∧ RdAt ek W (.slice a bs.length cap) bs ∧ (∀ b ∈ bs, Q b) ∧ bs.length ≤ cap ∧ (bs = [] ∨ ∃ z ∈ x.1.weights Tryz.prog t, bs.length * Tryz.prog.bytesOf e ≤ z) := by
  rcases DataW.trod_slice ht h with ⟨hcs, _⟩ | ⟨a, len, cap, elems, rest, n, hfu, hcs, hx, _, hlc, _, hlen, hat, _, _⟩
  · exact ⟨none, 0, [], hcs, ⟨none, 0, rfl, fun j x hx => by simp at hx⟩, fun b hb => (by cases hb), Nat.le_refl _, .inl rfl⟩
  have hw : x.1.weights Tryz.prog t = (elems.length + rest.length) * Tryz.prog.bytesOf e :: (DataW.weightsAll Tryz.prog e (elems.map (·.1)) ++ DataW.weightsAll Tryz.prog e (rest.map (·.1))) := by
    rw [hx]
    simp [DataW.weights, ht]
  have hall : ∀ y ∈ elems, ∀ z ∈ y.1.weights Tryz.prog e, z ∈ x.1.weights Tryz.prog t := by
    intro y hy z hz
    rw [hw]
    refine List.mem_cons_of_mem _ (List.mem_append.2 (.inl ?_))
    have : ∀ L : List (DataW H × List MemPlace), y ∈ L → z ∈ DataW.weightsAll Tryz.prog e (L.map (·.1)) := by
      intro L
      induction L with
      | nil => intro h; cases h
      | cons u L ih =>
        intro h
        simp only [List.map_cons, DataW.weightsAll, List.mem_append]
        rcases List.mem_cons.1 h with rfl | h
        · exact .inl hz
        · exact .inr (ih h)
    exact this elems hy
  have cell : ∀ i, i < len → ∃ b : β, (∀ u, u < ek.size → W.cell? ((a.add (i * ek.size)).add u) = (ek.enc b)[u]?) ∧ Q b := by
    intro i hi
    have key := hat i hi
    rw [List.getElem?_eq_getElem (by omega)] at key
    obtain ⟨cs', h1, h2⟩ := Option.bind_eq_some_iff.1 key
    obtain ⟨b, rfl, hq⟩ := hel n cs' _ (by omega) h2 (hall _ (List.getElem_mem _))
    rw [hc] at h1
    obtain ⟨_, hl2, hcell⟩ := World.cells?_some h1
    refine ⟨b, fun u hu => ?_, hq⟩
    rw [hcell u hu]
  obtain ⟨f, hf⟩ := Go.Deep.choose_lt cell
  have hl : ((List.range len).map f).length = len := by rw [List.length_map, List.length_range]
  refine ⟨some a, cap, (List.range len).map f, by rw [hl]; exact hcs, ⟨some a, cap, rfl, fun j x hx => ?_⟩, fun b hb => ?_, by rw [hl]; exact hlc, .inr ⟨(elems.length + rest.length) * Tryz.prog.bytesOf e, by rw [hw]; simp, by rw [hl]; exact Nat.mul_le_mul_right _ (by omega)⟩⟩
  · have hj : j < len := by
      have := (List.getElem?_eq_some_iff.1 hx).1
      omega
    have ex : x = f j := by
      rw [List.getElem?_map, List.getElem?_range hj] at hx
      exact (Option.some.inj hx).symm
    subst ex
    have sp : a.spot = none := by
      have h0 := (hf 0 (by omega)).1 0 ek.pos
      have hlen0 := ek.len (f 0)
      have hpos := ek.pos
      rw [List.getElem?_eq_getElem (by omega)] at h0
      exact spot_of_cell (a := a) (by simpa [Addr.add] using h0)
    have e1 : ∀ u, (a.add (j * ek.size)).add u = ⟨a.block, a.off + j * ek.size + u, none⟩ := fun u => by
      rw [add_plain sp (j * ek.size)]
      exact add_plain rfl u
    refine ⟨a.block, a.off, ?_, fun i hi => ?_⟩
    · have := add_plain sp 0
      rw [show a.add 0 = a from rfl] at this
      rw [this]
    · have := (hf j hj).1 i hi
      rw [e1] at this
      exact this
  · obtain ⟨j, hj, rfl⟩ := List.mem_map.1 hb
    exact (hf j (List.mem_range.1 hj)).2
theorem str_open {fuel : Nat} {cs : List Value} {x : DataW H × List MemPlace} (h : DataW.trod enc Tryz.prog W base spare held fuel 9 cs = some x) (hw : ∀ z ∈ x.1.weights Tryz.prog 9, z ≤ reachBytes) : ∃ s : ByteArray, cs = [.string s] ∧ s.size ≤ 140737488355328 := by
  obtain ⟨s, e, e2, _⟩ := DataW.trod_string Tryz.underlying9 h
  refine ⟨s, e, ?_⟩
  have e2' : x.1 = .lit (.string s.data.toList) := by rw [e2]
  have := hw s.size (by
    rw [e2']
    simp only [DataW.weights, List.mem_singleton]
    show s.data.size = s.data.toList.length
    rw [Array.length_toList])
  unfold reachBytes at this
  omega
theorem jsAt_of {A : Nat → Prop} : ∀ rs : List RawV, (∀ q ∈ rs, ∃ v, JAt W A v q ∧ v.Sz) → ∃ l, JsAt W A l rs ∧ ∀ v ∈ l, v.Sz
  | [], _ => ⟨[], by simp [JsAt], by simp⟩
  | q :: rs, h => by
    obtain ⟨v, h1, h2⟩ := h q (by simp)
    obtain ⟨l, h3, h4⟩ := jsAt_of rs (fun q hq => h q (by simp [hq]))
    refine ⟨v :: l, by simp only [JsAt]; exact ⟨h1, h3⟩, fun x hx => ?_⟩
    rcases List.mem_cons.1 hx with rfl | hx
    · exact h2
    · exact h4 x hx
set_option maxRecDepth 100000 in
theorem jv_open : ∀ (fuel : Nat) (cs : List Value) (x : DataW H × List MemPlace), DataW.trod enc Tryz.prog W base spare held fuel 25 cs = some x → (∀ z ∈ x.1.weights Tryz.prog 25, z ≤ reachBytes) →
    ∃ (v : JV) (q : RawV), cs = q.cells ∧ JAt W (fun _ => True) v q ∧ v.Sz := by
  intro fuel
  induction fuel using Nat.strongRecOn with
  | ind fuel ih =>
    intro cs x h hw
    obtain ⟨xs, m, hfu, hx0, hl, hx, hf⟩ := DataW.trod_struct Tryz.underlying25 h
    have hl : cs.length = 4 := hl.trans cellsJV
    have hx : xs.length = 4 := hx
    obtain ⟨c0, c1, c2, c3, rfl⟩ : ∃ c0 c1 c2 c3, cs = [c0, c1, c2, c3] := by
      match cs, hl with
      | [c0, c1, c2, c3], _ => exact ⟨_, _, _, _, rfl⟩
    obtain ⟨y0, y1, y2, y3, rfl⟩ : ∃ y0 y1 y2 y3, xs = [y0, y1, y2, y3] := by
      match xs, hx with
      | [c0, c1, c2, c3], _ => exact ⟨_, _, _, _, rfl⟩
    have hww : x.1.weights Tryz.prog 25 = y0.1.weights Tryz.prog 3 ++ (y1.1.weights Tryz.prog 9 ++ (y2.1.weights Tryz.prog 22 ++ (y3.1.weights Tryz.prog 23 ++ []))) := by
      rw [hx0]
      simp only [List.map_cons, List.map_nil, DataW.weights, Tryz.underlying25, DataW.weightsEach]
    have g0 : DataW.trod enc Tryz.prog W base spare held m 3 (([c0, c1, c2, c3].drop 0).take (Tryz.prog.cellsOf 3)) = some y0 := hf 0 _ rfl
    rw [cellsInt] at g0
    have g1 : DataW.trod enc Tryz.prog W base spare held m 9 (([c0, c1, c2, c3].drop 1).take (Tryz.prog.cellsOf 9)) = some y1 := hf 1 _ rfl
    rw [cellsStr] at g1
    have g2 : DataW.trod enc Tryz.prog W base spare held m 22 (([c0, c1, c2, c3].drop 2).take (Tryz.prog.cellsOf 22)) = some y2 := hf 2 _ rfl
    rw [cellsJVs] at g2
    have g3 : DataW.trod enc Tryz.prog W base spare held m 23 (([c0, c1, c2, c3].drop 3).take (Tryz.prog.cellsOf 23)) = some y3 := hf 3 _ rfl
    rw [cellsTexts] at g3
    obtain ⟨k, e0, _⟩ := DataW.trod_int Tryz.underlying3 (x := y0) g0
    obtain ⟨s, e1, z1⟩ := str_open (x := y1) g1 (fun z hz => hw z (by rw [hww]; simp [hz]))
    obtain ⟨la, lc, rs, e2, hr2, hq2, hlc, hb2⟩ := slice_open rawKind Tryz.underlying22 cellsJV g2 (Q := fun q => ∃ v, JAt W (fun _ => True) v q ∧ v.Sz) (fun m' cs' y hm' hy hz => by
      obtain ⟨v, q, e, hj, hs⟩ := ih m' (by omega) cs' y hy (fun z h => hw z (by rw [hww]; simp [hz z h]))
      exact ⟨q, e, v, hj, hs⟩)
    obtain ⟨na, nc, ns, e3, hr3, hq3, hnc, hb3⟩ := slice_open textKind Tryz.underlying23 cellsStr g3 (Q := fun s => s.size ≤ 140737488355328) (fun m' cs' y hm' hy hz => by
      obtain ⟨s, e, hs⟩ := str_open hy (fun z h => hw z (by rw [hww]; simp [hz z h]))
      exact ⟨s, e, hs⟩)
    obtain ⟨l, hjs, hsz⟩ := jsAt_of rs hq2
    injection e0 with e0 _
    injection e1 with e1 _
    injection e2 with e2 _
    injection e3 with e3 _
    subst e0 e1 e2 e3
    have hll := hjs.length
    have b2 : rs.length ≤ 140737488355328 := by
      rcases hb2 with rfl | ⟨z, hz, hle⟩
      · simp
      · have := hw z (by rw [hww]; simp [hz])
        rw [bytesJV] at hle
        unfold reachBytes at this
        omega
    have b3 : ns.length ≤ 140737488355328 := by
      rcases hb3 with rfl | ⟨z, hz, hle⟩
      · simp
      · have := hw z (by rw [hww]; simp [hz])
        rw [bytesStr] at hle
        unfold reachBytes at this
        omega
    refine ⟨.mk k s l ns, ⟨k, s, la, rs.length, lc, na, ns.length, nc⟩, rfl, ?_, ?_⟩
    · simp only [JAt, RawV.lv, RawV.nv]
      exact ⟨trivial, trivial, ⟨hr3, fun _ _ _ => trivial, hnc⟩, rs, ⟨hr2, fun _ _ _ => trivial⟩, hjs⟩
    · simp only [JV.Sz, szAll_iff]
      exact ⟨z1, b3, hq3, by omega, hsz⟩
end
end Go.Proofs.YthjcolehccbihaaGreatDoor
namespace Go.Proofs.YthjcolehccbihaaGreatDoor
open Go.RowKit Go.Shelf
def namesN (p : Nat) : Nat → List ByteArray → Nat
  | n, [] => n
  | n, s :: ns => if n ≤ p then namesN p (n + 1 + s.size / 20) ns else n
def smallL (p : Nat) : Nat → List (Nat → Nat) → Nat
  | n, [] => n
  | n, f :: fs => if n ≤ p then smallL p (n + f (p - n)) fs else n
mutual
/-- exlaw7.Small. -/
def smallJ : JV → Nat → Nat
  | .mk _ t l ns => fun p => smallL p (namesN p (1 + (t.size + ns.length + l.length) / 20) ns) (smallF l)
def smallF : List JV → List (Nat → Nat)
  | [] => []
  | v :: l => smallJ v :: smallF l
end
theorem smallF_map : ∀ l, smallF l = l.map smallJ
  | [] => rfl
  | v :: l => by simp only [smallF, List.map_cons, smallF_map l]
theorem smallJ_mk (k : Int) (t : ByteArray) (l : List JV) (ns : List ByteArray) (p : Nat) : smallJ (.mk k t l ns) p = smallL p (namesN p (1 + (t.size + ns.length + l.length) / 20) ns) (l.map smallJ) := by
  simp only [smallJ, smallF_map]
theorem namesN_stop {p n : Nat} (h : p < n) : ∀ ns, namesN p n ns = n
  | [] => rfl
  | s :: ns => by unfold namesN; rw [if_neg (by omega)]
theorem smallL_stop {p n : Nat} (h : p < n) : ∀ fs, smallL p n fs = n
  | [] => rfl
  | f :: fs => by unfold smallL; rw [if_neg (by omega)]
theorem namesN_le {p C : Nat} (hC : 7036874417767 ≤ C) : ∀ (ns : List ByteArray) (n : Nat), (∀ s ∈ ns, s.size ≤ 140737488355328) → n ≤ p + 1 + C → namesN p n ns ≤ p + 1 + C
  | [], n, _, h => h
  | s :: ns, n, hs, h => by
    unfold namesN
    split
    · have := hs s (by simp)
      exact namesN_le hC ns _ (fun x hx => hs x (by simp [hx])) (by omega)
    · exact h
theorem smallL_le {p C : Nat} : ∀ (fs : List (Nat → Nat)) (n : Nat), (∀ f ∈ fs, ∀ p, f p ≤ p + 1 + C) → n ≤ p + 1 + C → smallL p n fs ≤ p + 1 + C
  | [], n, _, h => h
  | f :: fs, n, hf, h => by
    unfold smallL
    split
    · rename_i hn
      have := hf f (by simp) (p - n)
      exact smallL_le fs _ (fun g hg => hf g (by simp [hg])) (by omega)
    · exact h
theorem small_le : ∀ v : JV, v.Sz → ∀ p, smallJ v p ≤ p + 1 + 30000000000000 := JV.ind (P := fun v => v.Sz → ∀ p, smallJ v p ≤ p + 1 + 30000000000000) fun k t l ns ih h p => by
  simp only [JV.Sz, szAll_iff] at h
  obtain ⟨h1, h2, h3, h4, h5⟩ := h
  rw [smallJ_mk]
  refine smallL_le _ _ (fun f hf p => ?_) (namesN_le (by decide) _ _ h3 (by omega))
  obtain ⟨v, hv, rfl⟩ := List.mem_map.1 hf
  exact ih v hv (h5 v hv) p
/-- The contract of Small. -/
def SmallOk (v : JV) : Prop := ∀ (q : RawV) (w : World) (A : Nat → Prop) (p : Nat), v.Sz → JAt w A v q → p ≤ 200 →
  Calls Tryz.prog 9 #[.agg #[.int .i64 q.k, .string q.t, .slice q.la q.ll q.lc, .slice q.na q.nl q.nc], .int .i64 (p : Int)] w fun e w' => e = .returned (.int .i64 (smallJ v p : Int)) ∧ Below w.heap.size w w'
section
variable {w : World}
set_option maxRecDepth 100000 in
set_option maxHeartbeats 8000000 in
theorem j_small1 (k : Int) (t : ByteArray) (l : List JV) (ns : List ByteArray) (ih : ∀ v ∈ l, SmallOk v) : SmallOk (.mk k t l ns) := by
  intro q w A p hz hq hp
  simp only [JAt] at hq
  obtain ⟨hqk, hqt, ⟨hns, -⟩, rs, ⟨hrs, -⟩, hl⟩ := hq
  simp only [JV.Sz, szAll_iff] at hz
  have e1 : q.ll = l.length := by
    obtain ⟨_, _, e, _⟩ := hrs
    injection e with _ e _
    rw [e, hl.length]
  have e3 : q.nl = ns.length := by obtain ⟨_, _, e, _⟩ := hns; injection e
  obtain ⟨w1, hw1, HBX⟩ := jbox_new w q
  obtain ⟨qk, qt, la, ll, lc, na, nl, nc⟩ := q
  simp only at hqk hqt e1 e3
  subst hqk hqt e1 e3
  simp only [RawV.lv, RawV.nv] at hns hrs
  obtain ⟨N0, hN0⟩ : ∃ n : Nat, n = 1 + (qt.size + ns.length + l.length) / 20 := ⟨_, rfl⟩
  obtain ⟨N1, hN1⟩ : ∃ n : Nat, n = namesN p N0 ns := ⟨_, rfl⟩
  obtain ⟨N2, hN2⟩ : ∃ n : Nat, n = smallL p N1 (l.map smallJ) := ⟨_, rfl⟩
  have hres : smallJ (.mk qk qt l ns) p = N2 := by rw [smallJ_mk, hN2, hN1, hN0]
  rw [hres]
  have HW1 := Lib.hid hw1
  have HRD := Lib.hid (And.intro hns (And.intro hrs hl))
  have HZ := Lib.hid hz
  have HIH := Lib.hid ih
  have HP := Lib.hid hp
  have HN := Lib.hid (And.intro hN0 (And.intro hN1 hN2))
  have HX1 := Lib.hid HBX.out.2
  have HB1 := Lib.hid HBX.out.1
  obtain ⟨⟨b0, b1, b2, b3⟩, -⟩ := jbox_cells HBX.out.2
  have s1 : (qt.size : Int) ≤ 140737488355328 := by omega
  have s2 : (ns.length : Int) ≤ 140737488355328 := by omega
  have s3 : (l.length : Int) ≤ 140737488355328 := by omega
  have p1 : (p : Int) ≤ 200 := by omega
  clear hw1 hns hrs hl hz ih hp hN0 hN1 hN2 hres HBX
  go_enter Tryz.func9, Tryz.ntmps9
  go_upto_region 1 with (fail)
  rw [show w.alloc (.cells #[.int .i64 qk, .string qt, .slice la l.length lc, .slice na ns.length nc] 25) = w1 from HW1.out]
  go_upto_region 2 with (fail)
  have e0 : (1 + ((qt.size : Int) + (ns.length : Int) + (l.length : Int)) / 20) = (N0 : Int) := by have := HN.out.1; omega
  rw [e0]
  clear e0 b0 b1 b2 b3
  have hN0 : (N0 : Int) ≤ 40000000000000 := by have := HN.out.1; omega
  obtain ⟨⟨b0, b1, b2, b3⟩, -⟩ := jbox_cells HX1.out
  go_upto_block 0 with (fail)
  go_cut [5, 6] from 21 to 42 (fun nv _ wx => wx = w1 ∧ nv = .int .i64 (N1 : Int))
  case first =>
    go_wp2_with (fail)
    go_loopw [5, 6] (fun nv iv wr => ∃ i n : Nat, i ≤ ns.length ∧ (n : Int) ≤ 40000000000000 ∧ iv = .int .i64 i ∧ nv = .int .i64 n ∧ wr = w1 ∧ Hid (namesN p n (ns.drop i) = N1)) (fun _ iv _ => ns.length - (intOf iv).toNat)
    case atStart => exact ⟨0, N0, Nat.zero_le _, hN0, rfl, rfl, rfl, Lib.hid HN.out.2.1.symm⟩
    case round =>
      obtain ⟨i, n, hi, hn, rfl, rfl, rfl, HA⟩ := hrel
      by_cases hlt : i < ns.length
      · have j1 : (0 : Int) ≤ (i : Int) := by omega
        have j2 : (i : Int) < (ns.length : Int) := by omega
        obtain ⟨x, hx⟩ : ∃ x, ns[i]? = some x := ⟨_, List.getElem?_eq_getElem hlt⟩
        obtain ⟨g, off, e1, c0⟩ := text_cell (HRD.out.1.below HB1.out) hx
        subst e1
        have hdr : ns.drop i = x :: ns.drop (i + 1) := by
          rw [List.drop_eq_getElem_cons hlt]
          have := List.getElem?_eq_getElem hlt
          rw [hx] at this
          rw [Option.some.inj this]
        have HD := Lib.hid hdr
        have hxz : (x.size : Int) ≤ 140737488355328 := by have := HZ.out.2.2.1 x (List.mem_of_getElem? hx); omega
        clear hx hdr
        by_cases hle : n ≤ p
        · have l1 : decide ((n : Int) ≤ (p : Int)) = true := by simp; omega
          have l2 : (n : Int) ≤ (p : Int) := by omega
          have HNX : Hid (namesN p (n + 1 + x.size / 20) (ns.drop (i + 1)) = N1) := Lib.hid (by
            have := HA.out
            rw [HD.out] at this
            unfold namesN at this
            rw [if_pos hle] at this
            exact this)
          go_wp2_with (fail)
          go_roundw
          case rel => exact ⟨i + 1, n + 1 + x.size / 20, by omega, by omega, by go_num, by simp, by first | rfl | trivial, HNX⟩
          case measure => simp [intOf]; omega
        · have l1 : decide ((n : Int) ≤ (p : Int)) = false := by simp; omega
          have l2 : ¬ (n : Int) ≤ (p : Int) := by omega
          have hN : n = N1 := by rw [← HA.out, namesN_stop (by omega)]
          subst hN
          go_wp2_with (fail)
          go_meet
          exact ⟨rfl, rfl⟩
      · have j2 : ¬ (i : Int) < (ns.length : Int) := by omega
        have j3 : decide ((i : Int) < (ns.length : Int)) = false := by simp; omega
        have hN : n = N1 := by
          rw [← HA.out, List.drop_eq_nil_of_le (by omega)]
          rfl
        subst hN
        go_wp2_with (fail)
        go_meet
        exact ⟨rfl, rfl⟩
  case rest =>
    obtain ⟨rfl, rfl⟩ := hcut
    have hN1 : (N1 : Int) ≤ 40000000000000 := by
      have := namesN_le (p := p) (C := 30000000000000) (by decide) ns N0 HZ.out.2.2.1 (by have := HN.out.1; omega)
      rw [← HN.out.2.1] at this
      have := HP.out
      omega
    clear b0 b1 b2 b3
    have HI0 : Hid (JBox wc w.heap.size ⟨qk, qt, la, l.length, lc, na, ns.length, nc⟩ ∧ Below w.heap.size w wc) := Lib.hid ⟨HX1.out, HB1.out⟩
    have HN2 : Hid (smallL p N1 (l.map smallJ) = N2) := Lib.hid HN.out.2.2.symm
    go_upto_block 2 with (fail)
    go_cut [5, 7] from 43 to 65 (fun nv _ wx => nv = .int .i64 (N2 : Int) ∧ Hid (Below w.heap.size w wx))
    case first =>
      go_wp2_with (fail)
      go_loopw [5, 7] (fun nv iv wr => ∃ i n : Nat, i ≤ l.length ∧ (n : Int) ≤ 40000000000000 ∧ iv = .int .i64 i ∧ nv = .int .i64 n ∧ Hid (JBox wr w.heap.size ⟨qk, qt, la, l.length, lc, na, ns.length, nc⟩ ∧ Below w.heap.size w wr) ∧ Hid (smallL p n ((l.map smallJ).drop i) = N2)) (fun _ iv _ => l.length - (intOf iv).toNat)
      case atStart => exact ⟨0, N1, Nat.zero_le _, hN1, rfl, rfl, HI0, HN2⟩
      case round =>
        obtain ⟨i, n, hi, hn, rfl, rfl, HI, HA⟩ := hrel
        obtain ⟨⟨b0, b1, b2, b3⟩, -⟩ := jbox_cells HI.out.1
        by_cases hlt : i < l.length
        · have j1 : (0 : Int) ≤ (i : Int) := by omega
          have j2 : (i : Int) < (l.length : Int) := by omega
          obtain ⟨x, hx⟩ : ∃ x, l[i]? = some x := ⟨_, List.getElem?_eq_getElem hlt⟩
          have hdr : (l.map smallJ).drop i = smallJ x :: (l.map smallJ).drop (i + 1) := by
            rw [← List.map_drop, List.drop_eq_getElem_cons hlt, List.map_cons, List.map_drop]
            have := List.getElem?_eq_getElem hlt
            rw [hx] at this
            rw [Option.some.inj this]
          have HD := Lib.hid hdr
          by_cases hle : n ≤ p
          · have l1 : decide ((n : Int) ≤ (p : Int)) = true := by simp; omega
            have l2 : (n : Int) ≤ (p : Int) := by omega
            obtain ⟨r, hr, hjr⟩ := HRD.out.2.2.get hx
            obtain ⟨g, off, e1, d0, d1, d2, d3⟩ := raw_cells (HRD.out.2.1.below HI.out.2) hr
            subst e1
            have hxm := List.mem_of_getElem? hx
            obtain ⟨m, hm⟩ : ∃ m : Nat, m = p - n := ⟨_, rfl⟩
            have hmi : (p : Int) - (n : Int) = (m : Int) := by omega
            have hsm := HIH.out x hxm r wr A m (HZ.out.2.2.2.2 x hxm) (hjr.below HI.out.2) (by have := HP.out; omega)
            rw [← hmi] at hsm
            have HSM := Lib.hid hsm
            obtain ⟨u, hu⟩ : ∃ u : Nat, u = smallJ x m := ⟨_, rfl⟩
            rw [← hu] at HSM
            have hu2 : (u : Int) ≤ 31000000000000 := by
              have := small_le x (HZ.out.2.2.2.2 x hxm) m
              have := HP.out
              omega
            have HNX : Hid (smallL p (n + u) ((l.map smallJ).drop (i + 1)) = N2) := Lib.hid (by
              have := HA.out
              rw [HD.out] at this
              unfold smallL at this
              rw [if_pos hle, ← hm, ← hu] at this
              exact this)
            clear hx hdr hr hjr hxm hsm hu hm hmi
            go_wp2_with (fail)
            refine HSM.out.mono ?_
            rintro e w5 ⟨rfl, hb5⟩
            have HI5 : Hid (JBox w5 w.heap.size ⟨qk, qt, some ⟨g, off, none⟩, l.length, lc, na, ns.length, nc⟩ ∧ Below w.heap.size w w5) := Lib.hid ⟨jbox_below HI.out.1 hb5, HI.out.2.trans (hb5.mono HI.out.2.size)⟩
            clear hb5 d0 d1 d2 d3 b0 b1 b2 b3
            go_wp2_with (fail)
            go_roundw
            case rel => exact ⟨i + 1, n + u, by omega, by omega, by go_num, by simp, HI5, HNX⟩
            case measure => simp [intOf]; omega
          · have l1 : decide ((n : Int) ≤ (p : Int)) = false := by simp; omega
            have l2 : ¬ (n : Int) ≤ (p : Int) := by omega
            have hN : n = N2 := by rw [← HA.out, smallL_stop (by omega)]
            subst hN
            clear hx hdr
            go_wp2_with (fail)
            go_meet
            exact ⟨rfl, Lib.hid HI.out.2⟩
        · have j2 : ¬ (i : Int) < (l.length : Int) := by omega
          have j3 : decide ((i : Int) < (l.length : Int)) = false := by simp; omega
          have hN : n = N2 := by
            rw [← HA.out, List.drop_eq_nil_of_le (by rw [List.length_map]; omega)]
            rfl
          subst hN
          go_wp2_with (fail)
          go_meet
          exact ⟨rfl, Lib.hid HI.out.2⟩
    case rest =>
      obtain ⟨rfl, HB⟩ := hcut
      go_wp2_with (fail)
      go_ret
      exact ⟨rfl, HB.out⟩
theorem j_small (v : JV) : SmallOk v := JV.ind (P := SmallOk) (fun k t l ns ih => j_small1 k t l ns ih) v
end
end Go.Proofs.YthjcolehccbihaaGreatDoor
