/- Of the laws: few; first. -/
import Derived.Test.YtkbdofbjfcajbaaGreatE14
namespace Go.Proofs.YtkbdofbjfcajbaaGreat
open Go.RowKit Go.Shelf Go.Sort

theorem m_num (x : Int) (w : World) : Calls Tryz.prog 11 #[.int .i64 x] w fun e w' => e = .returned (.int .i64 x) ∧ w = w' := by
  go_enter Tryz.func11, Tryz.ntmps11
  go_wp2
  go_ret
  exact ⟨rfl, rfl⟩
/-- Short words. -/
def Short (x : Ev) : Prop := x.key.size ≤ 100 ∧ x.acct.size ≤ 100 ∧ x.mtr.size ≤ 100
theorem rd_cells {w : World} {a : Option Addr} {cap : Nat} {L : List Ev} (h : RdAt evKind w (.slice a L.length cap) L) {j : Nat} {x : Ev} (hx : L[j]? = some x) :
    ∃ g off, a = some ⟨g, off, none⟩ ∧ w.cell? ⟨g, off + j * 5, none⟩ = some (.string x.key) ∧ w.cell? ⟨g, off + j * 5 + 1, none⟩ = some (.string x.acct) ∧ w.cell? ⟨g, off + j * 5 + 2, none⟩ = some (.string x.mtr) ∧ w.cell? ⟨g, off + j * 5 + 3, none⟩ = some (.int .i64 x.qty) ∧ w.cell? ⟨g, off + j * 5 + 4, none⟩ = some (.int .i64 x.at_) := by
  obtain ⟨a', cap', hv, hc⟩ := h
  simp only [Value.slice.injEq] at hv
  obtain ⟨rfl, -, rfl⟩ := hv
  obtain ⟨g, off, ha, hcell⟩ := hc j x hx
  have h0 := hcell 0 (by decide)
  have h1 := hcell 1 (by decide)
  have h2 := hcell 2 (by decide)
  have h3 := hcell 3 (by decide)
  have h4 := hcell 4 (by decide)
  exact ⟨g, off, ha, h0, h1, h2, h3, h4⟩
def FewPost (L : List Ev) (e : Ending) : Prop := ∃ f, e = .returned (.bool f) ∧ (f = true → L.length ≤ 200 ∧ ∀ x ∈ L, Short x)
set_option maxRecDepth 100000 in
set_option maxHeartbeats 4000000 in
theorem m_few (w : World) (a : Option Addr) (cap : Nat) (L : List Ev) (h : RdAt evKind w (.slice a L.length cap) L) :
    Calls Tryz.prog 7 #[.slice a L.length cap] w fun e w' => FewPost L e ∧ w = w' := by
  have HR := Lib.hid h
  clear h
  go_enter Tryz.func7, Tryz.ntmps7
  go_wp2
  go_loopw [3] (fun i wr => ∃ q : Nat, q ≤ L.length ∧ q ≤ 201 ∧ i = .int .i64 q ∧ wr = w ∧ Hid (∀ j, j < q → ∀ x, L[j]? = some x → Short x)) (fun i _ => 201 - (intOf i).toNat)
  case atStart => exact ⟨0, Nat.zero_le _, Nat.zero_le _, rfl, rfl, Lib.hid (fun j hj => absurd hj (Nat.not_lt_zero _))⟩
  case round =>
    obtain ⟨q, hq, hq2, rfl, rfl, HS⟩ := hrel
    by_cases hql : q < L.length
    · have k2 : (q : Int) < (L.length : Int) := by omega
      by_cases hq3 : q ≤ 200
      · have k3 : (q : Int) ≤ 200 := by omega
        have k1 : (0 : Int) ≤ (q : Int) := by omega
        obtain ⟨x, hx⟩ : ∃ x, L[q]? = some x := ⟨_, List.getElem?_eq_getElem hql⟩
        obtain ⟨g, off, rfl, d0, d1, d2, d3, d4⟩ := rd_cells HR.out hx
        by_cases s0 : (100 : Int) < (x.key.size : Int)
        · go_wp2
          go_ret
          exact ⟨⟨false, rfl, fun h => by cases h⟩, rfl⟩
        by_cases s1 : (100 : Int) < (x.acct.size : Int)
        · go_wp2
          go_ret
          exact ⟨⟨false, rfl, fun h => by cases h⟩, rfl⟩
        by_cases s2 : (100 : Int) < (x.mtr.size : Int)
        · go_wp2
          go_ret
          exact ⟨⟨false, rfl, fun h => by cases h⟩, rfl⟩
        have HN : Hid (∀ j, j < q + 1 → ∀ x, L[j]? = some x → Short x) := Lib.hid (fun j hj y hy => by
          by_cases e : j = q
          · subst e
            rw [hx] at hy
            cases hy
            exact ⟨by omega, by omega, by omega⟩
          · exact HS.out j (by omega) y hy)
        clear hx
        go_wp2
        go_roundw
        case rel => exact ⟨q + 1, by omega, by omega, by go_num, trivial, HN⟩
        case measure => simp [intOf]; omega
      · have k3 : ¬ (q : Int) ≤ 200 := by omega
        have k4 : ¬ (L.length : Int) ≤ 200 := by omega
        go_wp2
        go_ret
        exact ⟨⟨false, rfl, fun h => by cases h⟩, rfl⟩
    · have k2 : ¬ (q : Int) < (L.length : Int) := by omega
      have hqe : q = L.length := by omega
      have HN : Hid (∀ x ∈ L, Short x) := Lib.hid (fun x hx => by
        obtain ⟨j, hj, he⟩ := List.getElem_of_mem hx
        exact HS.out j (by omega) x (by rw [List.getElem?_eq_getElem hj, he]))
      by_cases k3 : (L.length : Int) ≤ 200
      · go_wp2
        go_ret
        exact ⟨⟨true, rfl, fun _ => ⟨by omega, HN.out⟩⟩, rfl⟩
      · go_wp2
        go_ret
        exact ⟨⟨false, rfl, fun h => by cases h⟩, rfl⟩
def fk : ByteArray := ⟨#[107, 49]⟩
def fa : ByteArray := ⟨#[97, 99, 109, 101]⟩
def fm : ByteArray := ⟨#[99, 97, 108, 108, 115]⟩
def fe1 : Ev := ⟨fk, fa, fm, 5, 10⟩
def fe2 : Ev := ⟨fk, fa, fm, 6, 10⟩
def fs0 : MSt := ⟨.leaf, 0, 0⟩
def fs1 : MSt := ⟨.node fk fe1 .leaf .leaf, 0, 1⟩
def fs2 : MSt := ⟨.node fk fe1 .leaf .leaf, 1, 1⟩
theorem fc1 : checkE fe1 = 0 := by decide
theorem fc2 : checkE fe2 = 0 := by decide
theorem fr1 : ingR fs0 fe1 = (false, 0) := by unfold ingR; rw [if_pos fc1]; rfl
theorem ft1 : ingS fs0 fe1 = fs1 := by unfold ingS; rw [if_pos fc1]; rfl
theorem fg : fs1.t.get slt fk = some fe1 := by
  show (if slt fk fk = true then _ else if slt fk fk = true then _ else some fe1) = _
  rw [slt_ord.irr]; rfl
theorem fr2 : ingR fs1 fe1 = (true, 0) := by unfold ingR; rw [if_pos fc1]; show (match fs1.t.get slt fk with | some u => _ | none => _) = _; rw [fg]; rfl
theorem ft2 : ingS fs1 fe1 = fs2 := by unfold ingS; rw [if_pos fc1]; show (match fs1.t.get slt fk with | some u => _ | none => _) = _; rw [fg]; rfl
theorem fr3 : ingR fs2 fe2 = (false, 24) := by unfold ingR; rw [if_pos fc2]; show (match fs1.t.get slt fk with | some u => _ | none => _) = _; rw [fg]; rfl
theorem ft3 : ingS fs2 fe2 = fs2 := by unfold ingS; rw [if_pos fc2]; show (match fs1.t.get slt fk with | some u => _ | none => _) = _; rw [fg]; rfl
theorem fw : withinE fa 10 21 = 0 := by decide
theorem fse : selE fa 10 21 fs2.t.ino = [fe1] := by
  have h : inE fa 10 21 fe1 = true := by unfold inE; simp [fe1]
  show [fe1].filter (inE fa 10 21) = [fe1]
  rw [List.filter_cons, if_pos h]; rfl
end Go.Proofs.YtkbdofbjfcajbaaGreat
