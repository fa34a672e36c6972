/- The log in memory; the walk of does. -/
import Derived.Test.YthbfkjmpaifblaaWi
namespace Go.Proofs.Ythbfkjmpaifblaa
open Go.RowKit Go.Shelf

/-- A log. -/
structure LogS where
  dir : ByteArray
  size : Int
  first : Nat
  last : Nat
  cut : Nat
  stuck : Bool
abbrev logCells (fb : Nat) (L : LogS) : Array Value := #[.pointer (some ⟨fb, 0, none⟩), .string L.dir, .int .i64 L.size, .int .i64 (L.first : Int), .int .i64 (L.last : Int), .int .i64 (L.cut : Int), .bool L.stuck]
/-- Where a log lies: outside of S, above B. -/
structure LogAt (B : Nat) (S : Nat → Prop) (w : World) (lb fb : Nat) (L : LogS) : Prop where
  blk : IsBlk w lb (logCells fb L) 79
  out : ¬ S lb
  low : B ≤ lb
theorem LogAt.post {B : Nat} {S : Nat → Prop} {w w' : World} {lb fb : Nat} {L : LogS} (h : LogAt B S w lb fb L) (k : Keeps S w w') : LogAt B (New w w' S) w' lb fb L :=
  ⟨k.obj h.blk h.out, fun e => by
    rcases e with e | e
    · exact h.out e
    · have := lt_of_block h.blk; omega, h.low⟩
theorem LogAt.below {B : Nat} {S : Nat → Prop} {w w' : World} {lb fb : Nat} {L : LogS} (h : LogAt B S w lb fb L) (k : Below w.heap.size w w') : LogAt B S w' lb fb L :=
  ⟨(k.block _ (lt_of_block h.blk)).trans h.blk, h.out, h.low⟩

/-- A function's value. -/
structure FnV where
  g : Nat
  lb : Array Value
abbrev FnV.val (f : FnV) : Value := .func (.func f.g) #[] f.lb
/-- What does owes: all went well, or the first that did not. -/
def DoesPost (lb : Nat) (n : Nat) (P : Nat → World → Prop) (Q : Int → Bool → World → Prop) (e : Ending) (w' : World) : Prop :=
  (e = .returned (.int .i64 0) ∧ P n w') ∨ ∃ (r : Int) (sb : Bool) (W : World), e = .returned (.int .i64 r) ∧ r ≠ 0 ∧ Q r sb W ∧ w' = W.setCell ⟨lb, 6, none⟩ (.bool (sb || r == 5))
/-- What one write owes. -/
def DoPost (lb : Nat) (j : Nat) (P : Nat → World → Prop) (Q : Int → Bool → World → Prop) (e : Ending) (w' : World) : Prop :=
  (e = .returned (.int .i64 0) ∧ P (j + 1) w') ∨ ∃ (r : Int) (sb : Bool), e = .returned (.int .i64 r) ∧ r ≠ 0 ∧ Q r sb w' ∧ w'.cell? ⟨lb, 6, none⟩ = some (.bool sb) ∧ w'.frozen? ⟨lb, 6, none⟩ = false
set_option maxRecDepth 100000 in
set_option maxHeartbeats 1000000 in
theorem w_does {w : World} (ab lb : Nat) (fs : List FnV) (hn : fs.length ≤ 10) (P : Nat → World → Prop) (Q : Int → Bool → World → Prop) (h0 : P 0 w) (hcell : ∀ j W f, P j W → fs[j]? = some f → W.cell? ⟨ab, j, none⟩ = some f.val)
    (eg : ∀ f ∈ fs, ∀ args w, (callFunc f.g args).run Try.prog w = .ok (.enter f.g args) w) (hcall : ∀ j W f, P j W → fs[j]? = some f → Calls Try.prog f.g f.lb W (DoPost lb j P Q)) :
    Calls Try.prog 56 #[.pointer (some ⟨lb, 0, none⟩), .slice (some ⟨ab, 0, none⟩) fs.length fs.length] w (DoesPost lb fs.length P Q) := by
  have H0 := Lib.hid h0
  have HC := Lib.hid hcell
  have HE := Lib.hid eg
  have HK := Lib.hid hcall
  have hn2 : (fs.length : Int) ≤ 10 := by omega
  clear h0 hcell eg hcall hn
  go_enter Try.func56, Try.ntmps56
  go_wp2_with (fail)
  go_loopw [10] (fun i wr => ∃ j : Nat, j ≤ fs.length ∧ i = .int .i64 j ∧ Hid (P j wr)) (fun i _ => fs.length - (intOf i).toNat)
  case atStart => exact ⟨0, Nat.zero_le _, rfl, H0⟩
  case round =>
    obtain ⟨j, hj, rfl, HP⟩ := hrel
    by_cases hlt : j < fs.length
    · obtain ⟨f, hf⟩ : ∃ f, fs[j]? = some f := ⟨_, List.getElem?_eq_getElem hlt⟩
      have hc := HC.out j wr f HP.out hf
      have e := HE.out f (List.mem_of_getElem? hf)
      have HD := Lib.hid (HK.out j wr f HP.out hf)
      have hk0 : (0 : Int) ≤ (j : Int) := by omega
      have hk1 : (j : Int) < (fs.length : Int) := by omega
      clear hf
      go_wp2_with (fail)
      refine HD.out.mono ?_
      rintro e w' (⟨rfl, hp⟩ | ⟨r, sb, rfl, hr, hq, hc6, hz6⟩)
      · have HP2 := Lib.hid hp
        clear hp hc
        go_wp2_with (fail)
        go_roundw
        case rel => exact ⟨j + 1, by omega, by go_num, HP2⟩
        case measure => simp [intOf]; omega
      · have hr1 : (r != 0) = true := by rw [bne_iff_ne]; exact hr
        have HQ := Lib.hid hq
        have HR := Lib.hid hr
        clear hq hc hr
        cases sb with
        | true =>
          go_wp2_with (fail)
          go_ret
          exact .inr ⟨r, true, w', rfl, HR.out, HQ.out, rfl⟩
        | false =>
          cases h5 : (r == 5) with
          | true =>
            go_wp2_with (fail)
            go_ret
            exact .inr ⟨r, false, w', rfl, HR.out, HQ.out, by rw [h5]; rfl⟩
          | false =>
            go_wp2_with (fail)
            go_ret
            exact .inr ⟨r, false, w', rfl, HR.out, HQ.out, by rw [h5]; rfl⟩
    · have hk1 : ¬ ((j : Int) < (fs.length : Int)) := by omega
      obtain rfl : j = fs.length := by omega
      go_wp2_with (fail)
      go_ret
      exact .inl ⟨rfl, HP.out⟩
end Go.Proofs.Ythbfkjmpaifblaa
