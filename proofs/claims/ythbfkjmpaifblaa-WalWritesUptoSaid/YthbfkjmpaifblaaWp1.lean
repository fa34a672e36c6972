/- The log's bytes as plain data: sums, frames, what is scanned. No program. -/
import Derived.Laws.BitsAllLaws
import Derived.Test.YthbfkjmpaifblaaFsP
namespace Go.Proofs.Ythbfkjmpaifblaa

/-- One bit of the sum. -/
def crcBit (c : Nat) : Nat := if c % 2 = 1 then (c / 2) ^^^ 3988292384 else c / 2
def crcBits : Nat → Nat → Nat
  | 0, c => c
  | k + 1, c => crcBit (crcBits k c)
def crcByte (c : Nat) (x : UInt8) : Nat := crcBits 8 (c ^^^ x.toNat)
def crcOf (ys : List UInt8) : Nat := ys.foldl crcByte 4294967295
def sumOf (ys : List UInt8) : Nat := 4294967295 ^^^ crcOf ys
theorem crcBit_lt {c : Nat} (h : c < 4294967296) : crcBit c < 4294967296 := by
  unfold crcBit
  split
  · exact Nat.xor_lt_two_pow (n := 32) (by omega) (by omega)
  · omega
theorem crcBits_lt {c : Nat} (h : c < 4294967296) : ∀ k, crcBits k c < 4294967296
  | 0 => h
  | k + 1 => crcBit_lt (crcBits_lt h k)
theorem crcXor_lt {c : Nat} (h : c < 4294967296) (x : UInt8) : c ^^^ x.toNat < 4294967296 := Nat.xor_lt_two_pow (n := 32) h (by have := x.toNat_lt; omega)
theorem crcByte_lt {c : Nat} (h : c < 4294967296) (x : UInt8) : crcByte c x < 4294967296 := crcBits_lt (crcXor_lt h x) 8
theorem crcFold_lt : ∀ (ys : List UInt8) (c : Nat), c < 4294967296 → ys.foldl crcByte c < 4294967296
  | [], _, h => h
  | y :: ys, _, h => crcFold_lt ys _ (crcByte_lt h y)
theorem crcOf_lt (ys : List UInt8) : crcOf ys < 4294967296 := crcFold_lt ys _ (by omega)
theorem sumOf_lt (ys : List UInt8) : sumOf ys < 4294967296 := Nat.xor_lt_two_pow (n := 32) (by omega) (crcOf_lt ys)
theorem crcOf_snoc (ys : List UInt8) (x : UInt8) : crcOf (ys ++ [x]) = crcByte (crcOf ys) x := by unfold crcOf; rw [List.foldl_append]; rfl
theorem crcOf_take {ys : List UInt8} {k : Nat} {x : UInt8} (h : ys[k]? = some x) : crcOf (ys.take (k + 1)) = crcByte (crcOf (ys.take k)) x := by
  rw [List.take_add_one, h]; exact crcOf_snoc _ _

/-- A number's bytes, the low one first. -/
def lowN : Nat → Nat → List UInt8
  | 0, _ => []
  | k + 1, n => UInt8.ofNat n :: lowN k (n / 256)
/-- The number of bytes, the low one first. -/
def numOf : List UInt8 → Nat
  | [] => 0
  | x :: xs => x.toNat + 256 * numOf xs
theorem lowN_len : ∀ k n, (lowN k n).length = k
  | 0, _ => rfl
  | k + 1, n => by simp [lowN, lowN_len k]
theorem numOf_lowN : ∀ k n, n < 256 ^ k → numOf (lowN k n) = n
  | 0, n, h => by simp at h; simp [lowN, numOf, h]
  | k + 1, n, h => by
    have h1 : n / 256 < 256 ^ k := by rw [Nat.pow_succ] at h; omega
    simp only [lowN, numOf, numOf_lowN k _ h1]
    rw [UInt8.toNat_ofNat']
    omega
theorem numOf_lt : ∀ xs : List UInt8, numOf xs < 256 ^ xs.length
  | [] => by simp [numOf]
  | x :: xs => by
    have h1 := numOf_lt xs
    have h2 := x.toNat_lt
    simp only [numOf, List.length_cons, Nat.pow_succ]
    omega
theorem numOf_four {xs : List UInt8} (h : xs.length ≤ 4) : numOf xs < 4294967296 := by
  have h1 := numOf_lt xs
  have h2 : 256 ^ xs.length ≤ 256 ^ 4 := Nat.pow_le_pow_right (by omega) h
  omega

def frameOf (p : List UInt8) : List UInt8 := lowN 4 p.length ++ (lowN 4 (sumOf p) ++ p)
theorem frameOf_len (p : List UInt8) : (frameOf p).length = 8 + p.length := by simp [frameOf, lowN_len]; omega
/-- The record of the frame at the beginning of bytes. -/
def headOf (b : List UInt8) : Option (List UInt8) :=
  if b.length < 8 then none else if 1048576 < numOf (b.take 4) ∨ b.length < 8 + numOf (b.take 4) then none
  else if sumOf ((b.drop 8).take (numOf (b.take 4))) = numOf ((b.drop 4).take 4) then some ((b.drop 8).take (numOf (b.take 4))) else none
theorem headOf_some {b p : List UInt8} : headOf b = some p ↔ 8 + p.length ≤ b.length ∧ p.length ≤ 1048576 ∧ numOf (b.take 4) = p.length ∧ p = (b.drop 8).take p.length ∧ sumOf p = numOf ((b.drop 4).take 4) := by
  unfold headOf
  constructor
  · intro h
    split at h
    · cases h
    · split at h
      · cases h
      · split at h
        · rename_i h1 h2 h3
          have e : (b.drop 8).take (numOf (b.take 4)) = p := Option.some.inj h
          have hl : p.length = numOf (b.take 4) := by rw [← e, List.length_take, List.length_drop]; omega
          rw [e] at h3
          refine ⟨by omega, by omega, hl.symm, ?_, h3⟩
          rw [hl]; exact e.symm
        · cases h
  · rintro ⟨h1, h2, h3, h4, h5⟩
    rw [if_neg (by omega), h3, if_neg (by omega), ← h4, if_pos h5]
theorem headOf_frame {p r : List UInt8} (h : p.length ≤ 1048576) : headOf (frameOf p ++ r) = some p := by
  have hs := sumOf_lt p
  have l1 := lowN_len 4 p.length
  have l2 := lowN_len 4 (sumOf p)
  refine headOf_some.2 ⟨by rw [List.length_append, frameOf_len]; omega, h, ?_, ?_, ?_⟩
  · unfold frameOf
    rw [List.append_assoc, List.take_left' l1]
    exact numOf_lowN 4 _ (by omega)
  · unfold frameOf
    rw [List.append_assoc, List.append_assoc, ← List.append_assoc (lowN 4 p.length), List.drop_left' (by rw [List.length_append]; omega), List.take_left' rfl]
  · unfold frameOf
    rw [List.append_assoc, List.append_assoc, List.drop_left' l1, List.take_left' l2]
    exact (numOf_lowN 4 _ (by omega)).symm

def scanF : Nat → List UInt8 → List (List UInt8)
  | 0, _ => []
  | k + 1, b => match headOf b with
    | none => []
    | some p => p :: scanF k (b.drop (8 + p.length))
theorem scanF_fuel : ∀ (k m : Nat) (b : List UInt8), b.length ≤ k → b.length ≤ m → scanF k b = scanF m b
  | 0, 0, _, _, _ => rfl
  | 0, m + 1, b, h, _ => by
    have : headOf b = none := by unfold headOf; rw [if_pos (by omega)]
    simp [scanF, this]
  | k + 1, 0, b, _, h => by
    have : headOf b = none := by unfold headOf; rw [if_pos (by omega)]
    simp [scanF, this]
  | k + 1, m + 1, b, h1, h2 => by
    unfold scanF
    cases hh : headOf b with
    | none => rfl
    | some p =>
      simp only
      rw [scanF_fuel k m _ (by rw [List.length_drop]; omega) (by rw [List.length_drop]; omega)]
/-- The records of the frames at the beginning of bytes. -/
def scanOf (b : List UInt8) : List (List UInt8) := scanF b.length b
theorem scanOf_none {b : List UInt8} (h : headOf b = none) : scanOf b = [] := by
  unfold scanOf
  cases b with
  | nil => rfl
  | cons x b => simp [scanF, h]
theorem scanOf_some {b p : List UInt8} (h : headOf b = some p) : scanOf b = p :: scanOf (b.drop (8 + p.length)) := by
  have h1 := headOf_some.1 h
  unfold scanOf
  obtain ⟨k, hk⟩ : ∃ k, b.length = k + 1 := ⟨b.length - 1, by omega⟩
  rw [hk]
  simp only [scanF, h]
  rw [scanF_fuel k (b.drop (8 + p.length)).length _ (by rw [List.length_drop]; omega) (Nat.le_refl _)]
/-- Where frames end. -/
def endOf (rs : List (List UInt8)) : Nat := (rs.map fun p => 8 + p.length).sum
theorem endOf_cons (p : List UInt8) (rs : List (List UInt8)) : endOf (p :: rs) = 8 + p.length + endOf rs := by simp [endOf]
theorem endOf_append (a b : List (List UInt8)) : endOf (a ++ b) = endOf a + endOf b := by simp [endOf]
theorem endOf_frames (rs : List (List UInt8)) : (rs.flatMap frameOf).length = endOf rs := by
  induction rs with
  | nil => rfl
  | cons p rs ih => rw [List.flatMap_cons, List.length_append, ih, frameOf_len, endOf_cons]
/-- Induction over what is scanned. -/
theorem scan_ind {C : List UInt8 → Prop} (h0 : ∀ b, headOf b = none → C b) (h1 : ∀ b p, headOf b = some p → C (b.drop (8 + p.length)) → C b) (b : List UInt8) : C b := by
  suffices h : ∀ k (b : List UInt8), b.length ≤ k → C b from h b.length b (Nat.le_refl _)
  intro k
  induction k with
  | zero => intro b hb; exact h0 b (by unfold headOf; rw [if_pos (by omega)])
  | succ k ih =>
    intro b hb
    cases hh : headOf b with
    | none => exact h0 b hh
    | some p =>
      have := headOf_some.1 hh
      exact h1 b p hh (ih _ (by rw [List.length_drop]; omega))
theorem scan_end (b : List UInt8) : endOf (scanOf b) ≤ b.length := by
  refine scan_ind (C := fun b => endOf (scanOf b) ≤ b.length) (fun b h => ?_) (fun b p h ih => ?_) b
  · rw [scanOf_none h]; simp [endOf]
  · have := headOf_some.1 h
    rw [scanOf_some h, endOf_cons]
    rw [List.length_drop] at ih
    omega
theorem scan_small (b : List UInt8) : ∀ p ∈ scanOf b, p.length ≤ 1048576 := by
  refine scan_ind (C := fun b => ∀ p ∈ scanOf b, p.length ≤ 1048576) (fun b h => ?_) (fun b p h ih => ?_) b
  · rw [scanOf_none h]; simp
  · rw [scanOf_some h]
    intro q hq
    rcases List.mem_cons.1 hq with rfl | hq
    · exact (headOf_some.1 h).2.1
    · exact ih q hq
theorem scan_frames (ps : List (List UInt8)) (r : List UInt8) (h : ∀ p ∈ ps, p.length ≤ 1048576) : scanOf (ps.flatMap frameOf ++ r) = ps ++ scanOf r := by
  induction ps with
  | nil => rfl
  | cons p ps ih =>
    have h1 := headOf_frame (r := ps.flatMap frameOf ++ r) (h p (by simp))
    rw [List.flatMap_cons, List.append_assoc, scanOf_some h1, List.drop_left' (frameOf_len p), ih (fun q hq => h q (by simp [hq]))]
    rfl
/-- A part of a frame is none. -/
theorem headOf_torn {p : List UInt8} {k : Nat} (h : p.length ≤ 1048576) (hk : k < 8 + p.length) : headOf ((frameOf p).take k) = none := by
  cases hh : headOf ((frameOf p).take k) with
  | none => rfl
  | some q =>
    obtain ⟨h1, h2, h3, h4, h5⟩ := headOf_some.1 hh
    have hl := frameOf_len p
    rw [List.length_take, hl] at h1
    have l1 := lowN_len 4 p.length
    have e : ((frameOf p).take k).take 4 = lowN 4 p.length := by
      rw [List.take_take, Nat.min_eq_left (by omega)]
      unfold frameOf
      exact List.take_left' l1
    rw [e, numOf_lowN 4 _ (by omega)] at h3
    omega
theorem headOf_take {b p : List UInt8} {c : Nat} (h : headOf b = some p) (hc : 8 + p.length ≤ c) : headOf (b.take c) = some p := by
  obtain ⟨h1, h2, h3, h4, h5⟩ := headOf_some.1 h
  refine headOf_some.2 ⟨by rw [List.length_take]; omega, h2, by rw [List.take_take, Nat.min_eq_left (by omega)]; exact h3, ?_, ?_⟩
  · rw [List.drop_take, List.take_take, Nat.min_eq_left (by omega)]; exact h4
  · rw [List.drop_take, List.take_take, Nat.min_eq_left (by omega)]; exact h5
theorem headOf_untake {b p : List UInt8} {c : Nat} (h : headOf (b.take c) = some p) : headOf b = some p ∧ 8 + p.length ≤ c := by
  obtain ⟨h1, h2, h3, h4, h5⟩ := headOf_some.1 h
  rw [List.length_take] at h1
  rw [List.take_take, Nat.min_eq_left (by omega)] at h3
  rw [List.drop_take, List.take_take, Nat.min_eq_left (by omega)] at h4 h5
  exact ⟨headOf_some.2 ⟨by omega, h2, h3, h4, h5⟩, by omega⟩
/-- A front of bytes has a front of their records. -/
theorem scan_take (b : List UInt8) : ∀ c, ∃ k, k ≤ (scanOf b).length ∧ scanOf (b.take c) = (scanOf b).take k := by
  refine scan_ind (C := fun b => ∀ c, ∃ k, k ≤ (scanOf b).length ∧ scanOf (b.take c) = (scanOf b).take k) (fun b h c => ?_) (fun b p h ih c => ?_) b
  · refine ⟨0, Nat.zero_le _, ?_⟩
    rw [scanOf_none, List.take_zero]
    cases hh : headOf (b.take c) with
    | none => rfl
    | some q => rw [(headOf_untake hh).1] at h; cases h
  · by_cases hc : 8 + p.length ≤ c
    · obtain ⟨k, hk, e⟩ := ih (c - (8 + p.length))
      rw [← List.drop_take] at e
      rw [scanOf_some (headOf_take h hc), scanOf_some h, e]
      exact ⟨k + 1, by simpa using hk, by simp⟩
    · refine ⟨0, Nat.zero_le _, ?_⟩
      rw [scanOf_none, List.take_zero]
      cases hh : headOf (b.take c) with
      | none => rfl
      | some q =>
        obtain ⟨h1, h2⟩ := headOf_untake hh
        rw [h] at h1
        obtain rfl := Option.some.inj h1
        omega
/-- What is cut behind its last whole frame is whole. -/
theorem scan_cut (b : List UInt8) : scanOf (b.take (endOf (scanOf b))) = scanOf b := by
  refine scan_ind (C := fun b => scanOf (b.take (endOf (scanOf b))) = scanOf b) (fun b h => ?_) (fun b p h ih => ?_) b
  · rw [scanOf_none h]; rfl
  · rw [scanOf_some h, endOf_cons, scanOf_some (headOf_take h (by omega)), List.drop_take, Nat.add_sub_cancel_left, ih]
/-- What is whole is its records' frames. -/
theorem frame_of_head {b p : List UInt8} (h : headOf b = some p) : b = frameOf p ++ b.drop (8 + p.length) := by
  obtain ⟨h1, h2, h3, h4, h5⟩ := headOf_some.1 h
  have lown : ∀ (xs : List UInt8) (k : Nat), xs.length = k → lowN k (numOf xs) = xs := by
    intro xs
    induction xs with
    | nil => intro k hk; subst hk; rfl
    | cons x xs ih =>
      intro k hk
      subst hk
      have hx := x.toNat_lt
      simp only [List.length_cons, lowN, numOf]
      rw [show (x.toNat + 256 * numOf xs) / 256 = numOf xs by omega, ih _ rfl]
      congr 1
      apply UInt8.toNat_inj.1
      rw [UInt8.toNat_ofNat']
      omega
  have e1 := lown (b.take 4) 4 (by rw [List.length_take]; omega)
  have e2 := lown ((b.drop 4).take 4) 4 (by rw [List.length_take, List.length_drop]; omega)
  rw [h3] at e1
  rw [← h5] at e2
  unfold frameOf
  rw [e1, e2]
  conv => rhs; rw [List.append_assoc, List.append_assoc]; rhs; rhs; lhs; rw [h4]
  rw [← List.drop_drop, List.take_append_drop]
  have e3 : b.drop 8 = (b.drop 4).drop 4 := by rw [List.drop_drop]
  rw [e3, List.take_append_drop, List.take_append_drop]
theorem scan_frames_of (b : List UInt8) : (scanOf b).flatMap frameOf = b.take (endOf (scanOf b)) := by
  refine scan_ind (C := fun b => (scanOf b).flatMap frameOf = b.take (endOf (scanOf b))) (fun b h => ?_) (fun b p h ih => ?_) b
  · rw [scanOf_none h]; rfl
  · rw [scanOf_some h, endOf_cons, List.flatMap_cons, ih]
    generalize endOf (scanOf (b.drop (8 + p.length))) = m
    have e : b.take (8 + p.length + m) = (frameOf p ++ b.drop (8 + p.length)).take (8 + p.length + m) := congrArg _ (frame_of_head h)
    rw [e, List.take_append, List.take_of_length_le (l := frameOf p) (by rw [frameOf_len]; omega), frameOf_len, Nat.add_sub_cancel_left]
end Go.Proofs.Ythbfkjmpaifblaa
/- Segments' names as plain data. No program. -/
namespace Go.Proofs.Ythbfkjmpaifblaa

/-- A number's last digits. -/
def digs : Nat → Nat → List UInt8
  | 0, _ => []
  | k + 1, n => digs k (n / 10) ++ [UInt8.ofNat (48 + n % 10)]
theorem digs_len : ∀ k n, (digs k n).length = k
  | 0, _ => rfl
  | k + 1, n => by simp [digs, digs_len k]
/-- The number that digits say. -/
def numDigs (l : List UInt8) : Nat := l.foldl (fun n x => 10 * n + (x.toNat - 48)) 0
theorem numDigs_snoc (l : List UInt8) (x : UInt8) : numDigs (l ++ [x]) = 10 * numDigs l + (x.toNat - 48) := by unfold numDigs; rw [List.foldl_append]; rfl
theorem numDigs_digs : ∀ k n, n < 10 ^ k → numDigs (digs k n) = n
  | 0, n, h => by simp at h; simp [digs, numDigs, h]
  | k + 1, n, h => by
    have h1 : n / 10 < 10 ^ k := by rw [Nat.pow_succ] at h; omega
    simp only [digs]
    rw [numDigs_snoc, numDigs_digs k _ h1, UInt8.toNat_ofNat']
    omega
def isDig (x : UInt8) : Bool := decide (48 ≤ x.toNat) && decide (x.toNat ≤ 57)
theorem digs_all : ∀ k n, (digs k n).all isDig = true
  | 0, _ => rfl
  | k + 1, n => by
    simp only [digs, List.all_append, digs_all k, List.all_cons, List.all_nil, Bool.and_true, Bool.true_and, isDig]
    rw [UInt8.toNat_ofNat']
    simp only [Bool.and_eq_true, decide_eq_true_eq]
    omega
theorem numDigs_lt : ∀ l : List UInt8, l.all isDig = true → numDigs l < 10 ^ l.length := by
  intro l
  obtain ⟨r, rfl⟩ : ∃ r : List UInt8, l = r.reverse := ⟨l.reverse, by simp⟩
  induction r with
  | nil => intro _; simp [numDigs]
  | cons x r ih =>
    intro h
    rw [List.reverse_cons, List.all_append] at h
    simp only [Bool.and_eq_true, List.all_cons, List.all_nil, Bool.and_true] at h
    have h1 := ih h.1
    have h2 := h.2
    unfold isDig at h2
    simp only [Bool.and_eq_true, decide_eq_true_eq] at h2
    rw [List.reverse_cons, numDigs_snoc, List.length_append, List.length_singleton, Nat.pow_succ]
    omega
/-- Digits are those of their number. -/
theorem digs_numDigs : ∀ l : List UInt8, l.all isDig = true → digs l.length (numDigs l) = l := by
  intro l
  obtain ⟨r, rfl⟩ : ∃ r : List UInt8, l = r.reverse := ⟨l.reverse, by simp⟩
  induction r with
  | nil => intro _; rfl
  | cons x r ih =>
    intro h
    rw [List.reverse_cons, List.all_append] at h
    simp only [Bool.and_eq_true, List.all_cons, List.all_nil, Bool.and_true] at h
    have h1 := ih h.1
    have h2 := h.2
    unfold isDig at h2
    simp only [Bool.and_eq_true, decide_eq_true_eq] at h2
    rw [List.reverse_cons, numDigs_snoc, List.length_append, List.length_singleton]
    simp only [digs]
    rw [show (10 * numDigs r.reverse + (x.toNat - 48)) / 10 = numDigs r.reverse by omega, h1]
    congr 2
    apply UInt8.toNat_inj.1
    rw [UInt8.toNat_ofNat']
    omega
theorem digs_inj {a b : Nat} (k : Nat) (ha : a < 10 ^ k) (hb : b < 10 ^ k) (h : digs k a = digs k b) : a = b := by
  have := congrArg numDigs h
  rwa [numDigs_digs k a ha, numDigs_digs k b hb] at this

/-- A segment's name. -/
def segName (dir : ByteArray) (n : Nat) : ByteArray := ⟨(dir.data.toList ++ 47 :: digs 8 n).toArray⟩
/-- What the names of a directory's files begin with. -/
def dirOf (dir : ByteArray) : ByteArray := ⟨(dir.data.toList ++ [47]).toArray⟩
/-- The number of a segment's name; 0: it is none. -/
def numTail (l : List UInt8) : Nat := if l.length = 8 ∧ l.all isDig = true then numDigs l else 0
def segNum (dir name : ByteArray) : Nat :=
  if Lib.hasPrefix name.data.toList (dirOf dir).data.toList = true then numTail (name.data.toList.drop (dir.data.toList.length + 1)) else 0
theorem segName_list (dir : ByteArray) (n : Nat) : (segName dir n).data.toList = dir.data.toList ++ 47 :: digs 8 n := rfl
theorem dirOf_list (dir : ByteArray) : (dirOf dir).data.toList = dir.data.toList ++ [47] := rfl
end Go.Proofs.Ythbfkjmpaifblaa
