/- The walks of the statements' helpers: Few, Made, alike. -/
import Derived.Test.YtmfiibehclbnjaaFsX
namespace Go.Proofs.Ytmfiibehclbnjaa
open Go.RowKit Go.Shelf

/-- A slice of operations. -/
def FOpsAt (w : World) (v : Value) (os : List FOp) : Prop :=
  ∃ (a : Option Addr) (cap : Nat), v = .slice a os.length cap ∧ ∀ j o, os[j]? = some o → ∃ g off ba bcap, a = some ⟨g, off, none⟩ ∧
    (w.cell? ⟨g, off + j * 5, none⟩ = some (.int .i64 o.kind) ∧ w.cell? ⟨g, off + j * 5 + 1, none⟩ = some (.int .i64 o.n) ∧ w.cell? ⟨g, off + j * 5 + 2, none⟩ = some (.string o.name) ∧ w.cell? ⟨g, off + j * 5 + 3, none⟩ = some (.string o.to) ∧
      w.cell? ⟨g, off + j * 5 + 4, none⟩ = some (.slice ba o.b.length bcap)) ∧ OpVal w o (.slice ba o.b.length bcap) ∧ o.name.size ≤ 9223372036854775807 ∧ o.to.size ≤ 9223372036854775807
theorem FOpsAt.below {w w' : World} {v : Value} {os : List FOp} (h : FOpsAt w v os) (hk : Below w.heap.size w w') : FOpsAt w' v os := by
  obtain ⟨a, cap, rfl, h⟩ := h
  refine ⟨a, cap, rfl, fun j x hx => ?_⟩
  obtain ⟨g, off, ba, bcap, e, ⟨c0, c1, c2, c3, c4⟩, hv, z1, z2⟩ := h j x hx
  have hc : ∀ a u, w.cell? a = some u → w'.cell? a = some u := fun a u hc => (hk.cell (p := a) (World.block_lt_of_cell? w _ hc)).trans hc
  exact ⟨g, off, ba, bcap, e, ⟨hc _ _ c0, hc _ _ c1, hc _ _ c2, hc _ _ c3, hc _ _ c4⟩, hv.below hk, z1, z2⟩
theorem FOpsAt.n1 {w : World} {v : Value} {os : List FOp} (h : FOpsAt w v os) : ∀ o ∈ os, o.n ≤ 9223372036854775807 := by
  intro o ho
  obtain ⟨a, cap, rfl, h⟩ := h
  obtain ⟨j, hj⟩ := List.getElem?_of_mem ho
  obtain ⟨g, off, ba, bcap, e, _, hv, _⟩ := h j o hj
  exact hv.n1

/-- What Few hands back: some bool, true only of at most 300 operations. -/
def FewPost (n : Nat) (w : World) (e : Ending) (w' : World) : Prop := ∃ b : Bool, e = .returned (.bool b) ∧ (b = true → n ≤ 300) ∧ Below w.heap.size w w'
set_option maxRecDepth 100000 in
set_option maxHeartbeats 2000000 in
theorem x_few (w : World) (v : Value) (xs : List FOp) (h : FOpsAt w v xs) (hm : xs.length ≤ maxLen) :
    Calls Try.prog 12 #[v] w (FewPost xs.length w) := by
  obtain ⟨a, cap, rfl, hrd⟩ := h
  have HR := Lib.hid hrd
  unfold maxLen at hm
  clear hrd
  go_enter Try.func12, Try.ntmps12
  go_wp2
  go_loopw [3, 4] (fun n i wr => ∃ (j : Nat) (m : Int), j ≤ xs.length ∧ j ≤ 300 ∧ i = .int .i64 j ∧ n = .int .i64 m ∧ 0 ≤ m ∧ m ≤ 40000 ∧ Below w.heap.size w wr) (fun _ i _ => xs.length - (intOf i).toNat)
  case atStart => exact ⟨0, 0, Nat.zero_le _, by omega, rfl, rfl, by omega, by omega, Below.refl _ _⟩
  case round =>
    obtain ⟨j, m, hj, hj2, rfl, rfl, hm0, hm1, hb⟩ := hrel
    have fin : ∀ W, Below w.heap.size w W → Hid (∀ b : Bool, (b = true → xs.length ≤ 300) → FewPost xs.length w (.returned (.bool b)) W) := fun W hW => Lib.hid fun b hb => ⟨b, rfl, hb, hW⟩
    have FIN := fin _ hb
    clear fin
    have HB := Lib.hid hb
    by_cases hlt : j < xs.length
    · by_cases hlt2 : j < 300
      · have hx : xs[j]? = some xs[j] := List.getElem?_eq_getElem hlt
        generalize xs[j] = x at hx
        obtain ⟨g, off, ba, bcap, rfl, ⟨c0, c1, c2, c3, c4⟩, hv, z1, z2⟩ := HR.out j x hx
        have c2' := (hb.cell (p := ⟨g, off + j * 5 + 2, none⟩) (World.block_lt_of_cell? w _ c2)).trans c2
        have c3' := (hb.cell (p := ⟨g, off + j * 5 + 3, none⟩) (World.block_lt_of_cell? w _ c3)).trans c3
        have c4' := (hb.cell (p := ⟨g, off + j * 5 + 4, none⟩) (World.block_lt_of_cell? w _ c4)).trans c4
        have z1' : (x.name.size : Int) ≤ 9223372036854775807 := by omega
        have z2' : (x.to.size : Int) ≤ 9223372036854775807 := by omega
        have z3' : (x.b.length : Int) ≤ 9223372036854775807 := by have := hv.small; omega
        have k1 : (0 : Int) ≤ (j : Int) := by omega
        have k2 : (j : Int) < (xs.length : Int) := by omega
        have k3 : (j : Int) < 300 := by omega
        clear c0 c1 c2 c3 c4 hb hx hv z1 z2 FIN
        go_wp2
        go_quiet (fail)
        go_wp2
        go_roundw
        case rel =>
          have g1 : (0 : Int) ≤ min (x.name.size : Int) 20000 := by omega
          have g2 : (0 : Int) ≤ min (x.to.size : Int) 20000 := by omega
          have g3 : (0 : Int) ≤ min (x.b.length : Int) 20000 := by omega
          exact ⟨j + 1, _, by omega, by omega, by go_num, rfl, by omega, by omega, HB.out.trans (below_drewN _ _ _)⟩
        case measure => simp [intOf]; omega
      · have k3 : ¬ ((j : Int) < 300) := by omega
        have k2 : (j : Int) < (xs.length : Int) := by omega
        have hgt : ¬ ((xs.length : Int) ≤ 300) := by omega
        clear hb
        go_wp2
        go_ret
        exact FIN.out _ (fun h => by simp at h)
    · have k2 : ¬ (j : Int) < (xs.length : Int) := by omega
      have hle : (xs.length : Int) ≤ 300 := by omega
      clear hb
      by_cases h20 : m ≤ 20000
      · go_wp2
        go_ret
        exact FIN.out _ (fun _ => by omega)
      · go_wp2
        go_ret
        exact FIN.out _ (fun _ => by omega)
/-- A new file system. -/
def FsS.new (m : Int) : FsS := ⟨min (max m 0) 67108864, 0, [], 0, 0, false⟩
theorem FsOk.new0 (m : Int) : FsOk (FsS.new m) 0 :=
  { rise := List.Pairwise.nil, room0 := by show 0 ≤ min (max m 0) 67108864; omega, room1 := by show min (max m 0) 67108864 ≤ _; omega, used := rfl, fits := by show 0 ≤ min (max m 0) 67108864; omega, synced := fun x hx => by simp [FsS.new] at hx,
    armed0 := Int.le_refl _, armed1 := by show (0 : Int) ≤ _; omega, steps0 := Int.le_refl _, steps1 := Int.le_refl _, few := Nat.zero_le _, valid := fun x hx => by simp [FsS.new] at hx }
section
variable {w : World}
theorem below_of_post {B : Nat} {a b c : World} {fb : Nat} {F : FsS} {S : Nat → Prop} (h : Below B a b) (hk : FsPost b fb F S c) (hs : ∀ i, S i → B ≤ i) (hB : B ≤ b.heap.size) : Below B a c := below_keeps h hk.2 hs hB
structure MadeI (w : World) (fb : Nat) (F : FsS) (os : List FOp) (j : Nat) (wr : World) : Prop where
  fs : FsIs wr fb (F.toldAll (os.take j)) (New w wr fun _ => False)
  below : Below w.heap.size w wr
theorem MadeI.step {fb : Nat} {F : FsS} {os : List FOp} {j : Nat} {o : FOp} {wr w' : World} (h : MadeI w fb F os j wr) (ho : os[j]? = some o) (hp : FsPost wr fb ((F.toldAll (os.take j)).told o).1 (New w wr fun _ => False) w') : MadeI w fb F os (j + 1) w' := by
  have e : F.toldAll (os.take (j + 1)) = ((F.toldAll (os.take j)).told o).1 := by
    obtain ⟨hj, he⟩ := List.getElem?_eq_some_iff.1 ho
    rw [List.take_succ_eq_append_getElem hj, FsS.toldAll_snoc, he]
  refine ⟨?_, below_of_post h.below hp (fun i e => by rcases e with e | e; exact e.elim; exact e.1) h.below.size⟩
  rw [e]
  exact hp.1.mono (fun k e => by
    rcases e with (e | e) | e
    · exact e.elim
    · exact .inr ⟨e.1, by have := hp.2.size; omega⟩
    · exact .inr ⟨by have := h.below.size; omega, e.2⟩) (fun k e => by
    rcases e with e | e
    · exact e.elim
    · exact e.2)
set_option maxRecDepth 100000 in
set_option maxHeartbeats 2000000 in
theorem x_made {v : Value} {os : List FOp} (h : FOpsAt w v os) (hl : os.length ≤ 300) (m : Int) (h0 : -9223372036854775808 ≤ m) (h1 : m ≤ 9223372036854775807) :
    Calls Try.prog 13 #[.int .i64 m, v] w fun e w' => ∃ fb, e = .returned (.pointer (some ⟨fb, 0, none⟩)) ∧ MadeI w fb (FsS.new m) os os.length w' := by
  have HOS := Lib.hid h
  have HN1 := Lib.hid h.n1
  obtain ⟨a, cap, rfl, hrd⟩ := h
  clear hrd
  have hl' : (os.length : Int) ≤ 300 := by omega
  have HL := Lib.hid hl
  clear hl
  go_enter Try.func13, Try.ntmps13
  go_wp2_with (fail)
  refine (f_new m h0 h1).mono ?_
  rintro e w1 ⟨fb, rfl, hf, hb⟩
  have HI : Hid (MadeI w fb (FsS.new m) os 0 w1) := Lib.hid ⟨hf, hb⟩
  clear hf hb
  go_wp2_with (fail)
  go_loopw [6] (fun i wr => ∃ j : Nat, j ≤ os.length ∧ i = .int .i64 j ∧ Hid (MadeI w fb (FsS.new m) os j wr)) (fun i _ => os.length - (intOf i).toNat)
  case atStart => exact ⟨0, Nat.zero_le _, rfl, HI⟩
  case round =>
    obtain ⟨j, hj, rfl, HJ⟩ := hrel
    by_cases hlt : j < os.length
    · have hx : os[j]? = some os[j] := List.getElem?_eq_getElem hlt
      generalize os[j] = o at hx
      obtain ⟨_, _, ea, hrd⟩ := HOS.out.below HJ.out.below
      injection ea with ea _ e3
      subst ea e3
      obtain ⟨g, off, ba, bcap, rfl, ⟨c0, c1, c2, c3, c4⟩, hv, z1, z2⟩ := hrd j o hx
      have k1 : (0 : Int) ≤ (j : Int) := by omega
      have k2 : (j : Int) < (os.length : Int) := by omega
      have HX := Lib.hid hx
      have HV := Lib.hid hv
      clear hx hv z1 z2 hrd
      go_wp2_with (fail)
      refine (x_told HJ.out.fs (((FsOk.new0 m).toldAll (os.take j) (fun o ho => HN1.out o (List.mem_of_mem_take ho))).mono (Nat.le_refl _)) (by rw [List.length_take]; omega) o _ HV.out).mono ?_
      rintro e w2 ⟨rfl, hp⟩
      have HI2 := Lib.hid (HJ.out.step HX.out hp)
      clear hp c0 c1 c2 c3 c4
      go_wp2_with (fail)
      go_roundw
      case rel => exact ⟨j + 1, by omega, by go_num, HI2⟩
      case measure => simp [intOf]; omega
    · have k2 : ¬ (j : Int) < (os.length : Int) := by omega
      have hj2 : j = os.length := by omega
      subst hj2
      go_wp2_with (fail)
      go_ret
      exact ⟨fb, rfl, HJ.out⟩
end
end Go.Proofs.Ytmfiibehclbnjaa
