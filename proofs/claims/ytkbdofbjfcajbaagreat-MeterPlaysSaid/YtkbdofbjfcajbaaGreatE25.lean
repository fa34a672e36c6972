/- The document's answer of chapter 13, plain: keys by bytes, sorted events, rising texts. No program. -/
import Derived.Test.YtkbdofbjfcajbaaGreatE22
namespace Go.Proofs.YtkbdofbjfcajbaaGreat
open Go.RowKit

/-- May a byte not stand in a key? -/
def oddB (c : UInt8) : Bool := decide ((c.toNat : Int) < 33) || decide (126 < (c.toNat : Int))
def keyB (k : ByteArray) : Bool := k.data.toList.all (fun c => !oddB c)
theorem get_bang {s : ByteArray} {i : Nat} (h : i < s.size) : s.get! i = s.data.toList[i]'(by simpa using h) := by
  show s.data[i]! = _
  rw [getElem!_pos s.data i h, Array.getElem_toList]
theorem decode_high {s : ByteArray} {i : Nat} (h : ¬ (s.get! i).toNat < 128) : 128 ≤ (Utf8.decode s i).1 := by
  unfold Utf8.decode Utf8.runeError
  simp only [Nat.add_zero]
  rw [if_neg h]
  repeat' split
  all_goals simp only
  all_goals (try simp only [Bool.and_eq_true, decide_eq_true_eq] at *)
  all_goals omega
theorem decode_low {s : ByteArray} {i : Nat} (h : (s.get! i).toNat < 128) : Utf8.decode s i = ((s.get! i).toNat, 1) := by
  unfold Utf8.decode
  simp only [Nat.add_zero]
  rw [if_pos h]
theorem idx_odd (s : ByteArray) : ∀ (f pos : Nat), s.size ≤ pos + f → (0 ≤ Lib.idxFuncFrom oddE true s f pos ↔ ∃ i, pos ≤ i ∧ i < s.size ∧ oddB (s.get! i) = true)
  | 0, pos, h => by
    simp only [Lib.idxFuncFrom]
    constructor
    · intro h; omega
    · rintro ⟨i, h1, h2, _⟩; omega
  | f + 1, pos, h => by
    unfold Lib.idxFuncFrom
    by_cases hp : pos < s.size
    · rw [if_pos hp]
      by_cases hl : (s.get! pos).toNat < 128
      · rw [decode_low hl]
        simp only
        by_cases ho : oddE (s.get! pos).toNat = true
        · rw [if_pos ho]
          refine ⟨fun _ => ⟨pos, Nat.le_refl _, hp, ?_⟩, fun _ => by omega⟩
          unfold oddE at ho
          unfold oddB
          simp only [Bool.or_eq_true, decide_eq_true_eq] at ho ⊢
          omega
        · rw [if_neg ho, idx_odd s f (pos + 1) (by omega)]
          constructor
          · rintro ⟨i, h1, h2, h3⟩; exact ⟨i, by omega, h2, h3⟩
          · rintro ⟨i, h1, h2, h3⟩
            refine ⟨i, ?_, h2, h3⟩
            by_cases e : i = pos
            · subst e
              exfalso
              apply ho
              unfold oddB at h3
              unfold oddE
              simp only [Bool.or_eq_true, decide_eq_true_eq] at h3 ⊢
              omega
            · omega
      · have hd := decode_high hl
        have ho : oddE (Utf8.decode s pos).1 = true := by
          unfold oddE
          simp only [Bool.or_eq_true, decide_eq_true_eq]
          omega
        rw [if_pos ho]
        refine ⟨fun _ => ⟨pos, Nat.le_refl _, hp, ?_⟩, fun _ => by omega⟩
        unfold oddB
        simp only [Bool.or_eq_true, decide_eq_true_eq]
        omega
    · rw [if_neg hp]
      constructor
      · intro h; omega
      · rintro ⟨i, h1, h2, _⟩; omega
theorem keyOk_eq (k : ByteArray) : keyOk k = (decide (¬ k.size = 0) && decide (k.size ≤ 40) && keyB k) := by
  unfold keyOk
  congr 1
  unfold Lib.idxFunc keyB
  have h := idx_odd k k.size 0 (by omega)
  rw [Bool.eq_iff_iff, decide_eq_true_iff, h, List.all_eq_true]
  constructor
  · intro hn c hc
    obtain ⟨i, hi, rfl⟩ := List.getElem_of_mem hc
    cases ho : oddB k.data.toList[i] with
    | false => rfl
    | true =>
      have hs : i < k.size := by simpa using hi
      exact absurd ⟨i, Nat.zero_le _, hs, by rw [get_bang hs]; exact ho⟩ hn
  · rintro hall ⟨i, _, hi, ho⟩
    rw [get_bang hi] at ho
    have := hall _ (List.getElem_mem (by simpa using hi : i < k.data.toList.length))
    rw [ho] at this
    cases this
/-- The document's list of events, beside a meter's state. -/
def Beside (s : MSt) (l : List Ev) : Prop := l.Perm s.vals
theorem beside0 : Beside ms0 [] := List.Perm.refl _
def hFind (l : List Ev) (k : ByteArray) : Option Ev := l.find? (fun e => decide (e.key = k))
theorem find_beside {s : MSt} {l : List Ev} {k : Nat} (h : Beside s l) (ok : MOk s k) (n : ByteArray) : hFind l n = findL slt s.t.ino n := by
  unfold hFind
  cases h1 : l.find? (fun e => decide (e.key = n)) with
  | some v =>
    have h2 := List.find?_some h1
    have h3 := List.mem_of_find?_eq_some h1
    simp only [decide_eq_true_eq] at h2
    obtain ⟨x, hx, rfl⟩ := List.mem_map.1 (h.mem_iff.1 h3)
    have h4 := (ok.ok x hx).1
    rw [← h2, ← h4]
    exact (Kv.find_of_mem ok.rise (show (x.1, x.2) ∈ s.t.ino from hx)).symm
  | none =>
    cases h2 : findL slt s.t.ino n with
    | none => rfl
    | some v =>
      have h3 := Kv.find_mem h2 ok.rise
      have h4 : v ∈ l := h.mem_iff.2 (List.mem_map.2 ⟨_, h3, rfl⟩)
      have h5 := List.find?_eq_none.1 h1 v h4
      exact absurd (decide_eq_true (ok.ok _ h3).1.symm) h5
def hR (l : List Ev) (v : Ev) : Bool × Int :=
  if checkE v = 0 then
    match hFind l v.key with
    | some u => if u = v then (true, 0) else (false, 24)
    | none => if 5000 ≤ l.length then (false, 9) else (false, 0)
  else (false, checkE v)
def hS (l : List Ev) (v : Ev) : List Ev :=
  if checkE v = 0 then
    match hFind l v.key with
    | some _ => l
    | none => if 5000 ≤ l.length then l else l ++ [v]
  else l
theorem beside_len {s : MSt} {l : List Ev} (h : Beside s l) : l.length = s.t.size := by rw [h.length_eq, List.length_map, Tr.ino_length]
theorem ing_beside {s : MSt} {l : List Ev} {k : Nat} (h : Beside s l) (ok : MOk s k) (v : Ev) : hR l v = ingR s v ∧ Beside (ingS s v) (hS l v) := by
  have hl := beside_len h
  have hf := find_beside h ok v.key
  cases ing_cases s v ok.rise with
  | bad c hc hc2 hR' hs => rw [hR', hs]; unfold hR hS; rw [if_neg (by rw [hc2]; exact hc), if_neg (by rw [hc2]; exact hc), hc2]; exact ⟨rfl, h⟩
  | known hc hf2 hR' hs => rw [hR', hs]; unfold hR hS; rw [if_pos hc, if_pos hc, hf, hf2]; exact ⟨by simp, h⟩
  | other u hc hf2 hu hR' hs => rw [hR', hs]; unfold hR hS; rw [if_pos hc, if_pos hc, hf, hf2]; exact ⟨by simp [hu], h⟩
  | full hc hf2 hb hR' hs => rw [hR', hs]; unfold hR hS; rw [if_pos hc, if_pos hc, hf, hf2]; simp only [hl, if_pos hb]; exact ⟨trivial, h⟩
  | taken hc hf2 hb hR' hs =>
    rw [hR', hs]; unfold hR hS; rw [if_pos hc, if_pos hc, hf, hf2]; simp only [hl]
    rw [if_neg (by omega), if_neg (by omega)]
    refine ⟨rfl, ?_⟩
    show (l ++ [v]).Perm _
    exact (List.perm_append_singleton v l).trans ((h.cons v).trans (taken_vals ok.rise hf2).symm)
/-- Events by rising times and keys: just one order. -/
theorem evs_unique {s : MSt} {k : Nat} (ok : MOk s k) {L M : List Ev} (hp : L.Perm M) (hin : ∀ x ∈ L, x ∈ s.vals) (h1 : L.Pairwise (fun x y => evLt y x = false)) (h2 : M.Pairwise (fun x y => evLt y x = false)) : L = M := by
  refine hp.eq_of_pairwise (le := fun x y : Ev => evLt y x = false) ?_ h1 h2
  intro x y hx hy h3 h4
  have hx2 := hin x hx
  have hy2 := hin y (hp.mem_iff.2 hy)
  unfold evLt at h3 h4
  simp only [Bool.or_eq_false_iff, Bool.and_eq_false_iff, decide_eq_false_iff_not] at h3 h4
  have ht : x.at_ = y.at_ := by omega
  have hk : x.key = y.key := slt_ord.eq _ _ (by rcases h4.2 with h | h; omega; exact h) (by rcases h3.2 with h | h; omega; exact h)
  obtain ⟨a, ha, rfl⟩ := List.mem_map.1 hx2
  obtain ⟨b, hb, rfl⟩ := List.mem_map.1 hy2
  have e1 := (ok.ok a ha).1
  have e2 := (ok.ok b hb).1
  have f1 := Kv.find_of_mem ok.rise (show (a.1, a.2) ∈ s.t.ino from ha)
  have f2 := Kv.find_of_mem ok.rise (show (b.1, b.2) ∈ s.t.ino from hb)
  rw [e1, hk, ← e2, f2] at f1
  exact (Option.some.inj f1).symm
/-- Texts, rising, each once. -/
structure Rising (l R : List ByteArray) : Prop where
  up : R.Pairwise (fun a b => slt a b = true)
  mem : ∀ x, x ∈ R ↔ x ∈ l
theorem rising_unique {l R S : List ByteArray} (h1 : Rising l R) (h2 : Rising l S) : R = S := by
  have hr : ∀ {R : List ByteArray}, R.Pairwise (fun a b => slt a b = true) → Rise slt (R.map fun x => (x, ())) := fun h => by unfold Rise; rw [List.pairwise_map]; exact h
  have := rise_ext slt_ord _ _ (hr h1.up) (hr h2.up) fun x => by
    simp only [List.mem_map]
    constructor
    · rintro ⟨a, ha, rfl⟩; exact ⟨a, (h2.mem a).2 ((h1.mem a).1 ha), rfl⟩
    · rintro ⟨a, ha, rfl⟩; exact ⟨a, (h1.mem a).2 ((h2.mem a).1 ha), rfl⟩
  have h3 := congrArg (List.map (·.1)) this
  rw [List.map_map, List.map_map] at h3
  have e : ((fun x : ByteArray × Unit => x.1) ∘ fun x : ByteArray => (x, ())) = id := rfl
  rw [e, List.map_id, List.map_id] at h3
  exact h3
theorem rising_congr {l m R : List ByteArray} (h : Rising l R) (he : ∀ x, x ∈ l ↔ x ∈ m) : Rising m R := ⟨h.up, fun x => by rw [h.mem, he]⟩
theorem rising_nil : Rising [] [] := ⟨List.Pairwise.nil, fun _ => Iff.rfl⟩
/-- One text more: it is there; or it comes in between. -/
theorem rising_known {l R : List ByteArray} {x : ByteArray} (h : Rising l R) (hx : x ∈ R) : Rising (l ++ [x]) R := ⟨h.up, fun y => by
  rw [h.mem, List.mem_append, List.mem_singleton]
  exact ⟨.inl, fun e => e.elim id (fun e => by subst e; exact (h.mem _).1 hx)⟩⟩
theorem rising_put {l R : List ByteArray} {x : ByteArray} {at_ : Nat} (h : Rising l R) (hlt : ∀ j y, j < at_ → R[j]? = some y → slt y x = true) (hge : ∀ y, R[at_]? = some y → slt y x = false ∧ y ≠ x) : Rising (l ++ [x]) (R.take at_ ++ x :: R.drop at_) := by
  have hd : ∀ y ∈ R.drop at_, slt x y = true := by
    intro y hy
    cases hr : R.drop at_ with
    | nil => rw [hr] at hy; cases hy
    | cons z rest =>
      have hz : R[at_]? = some z := by
        have : (R.drop at_)[0]? = some z := by rw [hr]; rfl
        rwa [List.getElem?_drop, Nat.add_zero] at this
      have h1 := hge z hz
      have hxz : slt x z = true := by
        cases e : slt x z with
        | true => rfl
        | false => exact absurd (slt_ord.eq _ _ h1.1 e) h1.2
      rw [hr] at hy
      rcases List.mem_cons.1 hy with rfl | hy
      · exact hxz
      · have hp : (R.drop at_).Pairwise (fun a b => slt a b = true) := h.up.sublist (List.drop_sublist _ _)
        rw [hr, List.pairwise_cons] at hp
        exact slt_ord.tr _ _ _ hxz (hp.1 y hy)
  have ht : ∀ y ∈ R.take at_, slt y x = true := by
    intro y hy
    obtain ⟨j, hj⟩ := List.getElem?_of_mem hy
    have hl := (List.getElem?_eq_some_iff.1 hj).1
    rw [List.length_take] at hl
    rw [List.getElem?_take_of_lt (by omega)] at hj
    exact hlt j y (by omega) hj
  refine ⟨?_, fun y => ?_⟩
  · rw [List.pairwise_append, List.pairwise_cons]
    refine ⟨h.up.sublist (List.take_sublist _ _), ⟨hd, h.up.sublist (List.drop_sublist _ _)⟩, fun a ha b hb => ?_⟩
    rcases List.mem_cons.1 hb with rfl | hb
    · exact ht a ha
    · exact slt_ord.tr _ _ _ (ht a ha) (hd b hb)
  · rw [List.mem_append, List.mem_cons, List.mem_append, List.mem_singleton, ← h.mem y]
    have : y ∈ R ↔ y ∈ R.take at_ ∨ y ∈ R.drop at_ := by rw [← List.mem_append, List.take_append_drop]
    rw [this]
    constructor
    · rintro (h | h | h)
      · exact .inl (.inl h)
      · exact .inr h
      · exact .inl (.inr h)
    · rintro ((h | h) | h)
      · exact .inl h
      · exact .inr (.inr h)
      · exact .inr (.inl h)
/-- The keys of a tally are its keys, rising. -/
theorem rising_tally {E V : Type} (key : E → ByteArray) (up : Option V → E → V) (l : List E) : Rising (l.map key) ((Kv.tally key up l).map (·.1)) := by
  refine ⟨?_, fun x => ?_⟩
  · rw [List.pairwise_map]; exact Kv.tally_rise key up l
  · constructor
    · intro h
      obtain ⟨e, he, rfl⟩ := tally_from key up h
      exact List.mem_map.2 ⟨e, he, rfl⟩
    · intro h
      obtain ⟨e, he, rfl⟩ := List.mem_map.1 h
      exact tally_has key up he
/-- The document's totals: each meter's, by rising meters. -/
theorem tots_rising {L : List Ev} {R : List ByteArray} (h : Rising (L.map (·.mtr)) R) : (totM L).map (·.2) = R.map fun m => ⟨m, qsum (ofM m L), ((ofM m L).length : Int)⟩ := by
  have hR := rising_unique h (rising_tally (fun e : Ev => e.mtr) upT L)
  rw [hR, List.map_map]
  refine List.map_congr_left fun x hx => ?_
  exact tot_entry hx
/-- An event put among sorted ones. -/
theorem sorted_put {L : List Ev} {x : Ev} {at_ : Nat} (h : L.Pairwise (fun x y => evLt y x = false)) (hat : at_ ≤ L.length) (hgt : ∀ j y, at_ ≤ j → L[j]? = some y → evLt x y = true) (hle : at_ = 0 ∨ ∃ y, L[at_ - 1]? = some y ∧ evLt x y = false) :
    (L.take at_ ++ x :: L.drop at_).Pairwise (fun x y => evLt y x = false) ∧ (L.take at_ ++ x :: L.drop at_).Perm (L ++ [x]) := by
  have asym : ∀ a b : Ev, evLt a b = true → evLt b a = false := fun a b h => by
    unfold evLt at h ⊢
    simp only [Bool.or_eq_true, Bool.and_eq_true, decide_eq_true_eq, Bool.or_eq_false_iff, Bool.and_eq_false_iff, decide_eq_false_iff_not] at h ⊢
    rcases h with h | ⟨h1, h2⟩
    · exact ⟨by omega, .inl (by omega)⟩
    · exact ⟨by omega, .inr (slt_ord.asymm h2)⟩
  have tr : ∀ a b c : Ev, evLt b a = false → evLt c b = false → evLt c a = false := fun a b c h1 h2 => by
    unfold evLt at h1 h2 ⊢
    simp only [Bool.or_eq_false_iff, Bool.and_eq_false_iff, decide_eq_false_iff_not] at h1 h2 ⊢
    refine ⟨by omega, ?_⟩
    by_cases e : c.at_ = a.at_
    · right
      have k1 : slt b.key a.key = false := by rcases h1.2 with h | h; omega; exact h
      have k2 : slt c.key b.key = false := by rcases h2.2 with h | h; omega; exact h
      cases e2 : slt c.key a.key with
      | false => rfl
      | true =>
        cases e3 : slt a.key b.key with
        | true => rw [slt_ord.tr _ _ _ e2 e3] at k2; cases k2
        | false => rw [slt_ord.eq _ _ e3 k1] at e2; rw [e2] at k2; cases k2
    · exact .inl e
  have hd : ∀ y ∈ L.drop at_, evLt y x = false := fun y hy => by
    obtain ⟨j, hj⟩ := List.getElem?_of_mem hy
    rw [List.getElem?_drop] at hj
    exact asym _ _ (hgt (at_ + j) y (by omega) hj)
  have ht : ∀ y ∈ L.take at_, evLt x y = false := fun y hy => by
    rcases hle with rfl | ⟨z, hz, hzx⟩
    · simp at hy
    · obtain ⟨j, hj⟩ := List.getElem?_of_mem hy
      have hl := (List.getElem?_eq_some_iff.1 hj).1
      rw [List.length_take] at hl
      rw [List.getElem?_take_of_lt (by omega)] at hj
      by_cases e : j = at_ - 1
      · subst e; rw [hz] at hj; cases hj; exact hzx
      · obtain ⟨hj1, hj2⟩ := List.getElem?_eq_some_iff.1 hj
        obtain ⟨hz1, hz2⟩ := List.getElem?_eq_some_iff.1 hz
        have := List.pairwise_iff_getElem.1 h j (at_ - 1) hj1 hz1 (by omega)
        rw [hj2, hz2] at this
        exact tr _ _ _ this hzx
  refine ⟨?_, ?_⟩
  · rw [List.pairwise_append, List.pairwise_cons]
    refine ⟨h.sublist (List.take_sublist _ _), ⟨hd, h.sublist (List.drop_sublist _ _)⟩, fun a ha b hb => ?_⟩
    rcases List.mem_cons.1 hb with rfl | hb
    · exact ht a ha
    · have := List.pairwise_append.1 (by rw [List.take_append_drop]; exact h : (L.take at_ ++ L.drop at_).Pairwise _)
      exact this.2.2 a ha b hb
  · refine (List.perm_middle).trans ?_
    rw [List.take_append_drop]
    exact (List.perm_append_singleton x L).symm
end Go.Proofs.YtkbdofbjfcajbaaGreat
