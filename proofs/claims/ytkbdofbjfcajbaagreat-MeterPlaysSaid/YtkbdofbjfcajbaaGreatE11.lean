/- The keys of a map, sorted, in a slice. -/
import Derived.Test.YtkbdofbjfcajbaaGreatSl
import Derived.Test.YtkbdofbjfcajbaaGreatMp
import Derived.Test.YtkbdofbjfcajbaaGreatShelf
import Derived.Test.YtkbdofbjfcajbaaGreatShelf2
namespace Go.Proofs.YtkbdofbjfcajbaaGreat
open Go.RowKit Go.Shelf Go.Sort Go.Maps
open Go.WideElems (Fit rd rg rd_mk rg_of)

abbrev anyElem : Value → Option (DataW Nat × List MemPlace) := fun _ => some (.lit (.bool true), [])
theorem map_owns {V : Type} {P : Program} {k : TypeId} {ev : V → Value} {w : World} {b : Nat} {m : List (ByteArray × V)} (h : MapAt strKind ev w b m) (hk : P.underlying k = some .string) (hm : m.length ≤ maxLen) (hs : ∀ x ∈ m, x.1.size ≤ maxLen) :
    ∃ D0 : DataW Nat, w.ownsMap P k anyElem b m.length D0 ∧ (strKeys D0).Perm (m.map fun x => x.1.data.toList) ∧ Maps.size D0 = m.length := by
  obtain ⟨hr, es, clock, hb, hst, hp⟩ := h
  have hlen : es.size = m.length := by
    have := hp.length_eq
    simpa using this
  have hread : ∀ x ∈ es.toList, ∃ y ∈ m, x.key = .string y.1 ∧ rd P k anyElem x = some (.string y.1.data.toList, .lit (.bool true)) := by
    intro x hx
    have : (x.key, x.val) ∈ m.map fun x => (strKind.ek x.1, ev x.2) := (hp.mem_iff).1 (List.mem_map.2 ⟨x, hx, rfl⟩)
    obtain ⟨y, hy, e⟩ := List.mem_map.1 this
    have e1 : Value.string y.1 = x.key := (Prod.mk.injEq _ _ _ _ ▸ e).1
    refine ⟨y, hy, e1.symm, ?_⟩
    obtain ⟨xk, xv, xb⟩ := x
    simp only at e1
    subst e1
    refine rd_mk (kl := .string y.1.data.toList) (yv := (.lit (.bool true), [])) ?_ rfl
    unfold keyOf
    rw [hk]
    simp only [mapKey, hk]
    rw [if_pos (hs y hy)]
  have hF : Fit P k anyElem es clock := ⟨by omega, hst, fun x hx => by obtain ⟨y, _, _, h⟩ := hread x hx; exact ⟨_, h⟩⟩
  refine ⟨.map ((es.toList.map (rg P k anyElem)).foldr DataW.insert []), ⟨es, clock, hb, hF, by omega, rfl⟩, ?_, ?_⟩
  · show (((es.toList.map (rg P k anyElem)).foldr DataW.insert []).map fun p => strOf p.1).Perm _
    refine ((Go.WideShapes.sorted_perm _).map _).trans ?_
    rw [List.map_map]
    have e1 : es.toList.map ((fun p : Lit × DataW Nat => strOf p.1) ∘ rg P k anyElem) = (es.toList.map fun e => (e.key, e.val)).map (fun q => match q.1 with | .string s => s.data.toList | _ => []) := by
      rw [List.map_map]
      refine List.map_congr_left fun x hx => ?_
      obtain ⟨y, _, h1, h2⟩ := hread x hx
      simp only [Function.comp]
      rw [rg_of h2, h1]
      rfl
    rw [e1]
    refine (hp.map _).trans ?_
    rw [List.map_map]
    exact List.Perm.of_eq (List.map_congr_left fun x _ => rfl)
  · rw [Maps.size_eq, length_sorted]; simp [hlen]
theorem sorts_in (m : Nat) : AnyZ.SortsIn Tryz.prog Tryz.sortedS_ren Fence.wide m :=
  ⟨fun blk off cap ss W hH hblk hsz => callsIn_wide.2 (Tryz.slices_Sort_string blk off cap ss W hH hblk hsz),
   fun p cap W => callsIn_wide.2 (Tryz.slices_Sort_string_none p cap W)⟩
theorem rise_le {V : Type} {m : List (ByteArray × V)} (hr : Rise slt m) : (m.map fun x => x.1.data.toList).Pairwise (fun a b => decide (a ≤ b) = true) := by
  rw [List.pairwise_map]
  refine hr.imp ?_
  intro a b hab
  unfold slt at hab
  rw [Lib.toList_data, Lib.toList_data, bytesLess_eq] at hab
  simp only [decide_eq_true_eq] at *
  exact List.le_of_lt hab
theorem row_texts {w : World} {base : Nat} {v : Value} {ks : List (List UInt8)} (h : w.ownsRow base 9 1 v ks.length (ks.map encStr)) : SlAt textKind 9 w v (ks.map fun x => (⟨x.toArray⟩ : ByteArray)) ∧ ∀ g, v.ownBlock = some g → base ≤ g := by
  obtain ⟨hl, ⟨rfl, hn⟩ | ⟨g, cap, cur, rfl, hb, hg, hc, hm, hs, ht⟩⟩ := h
  · obtain rfl : ks = [] := List.length_eq_zero_iff.1 hn
    exact ⟨SlAt.nil, fun g hg => by cases hg⟩
  · refine ⟨.inr ⟨g, 0, cap, cur, by rw [List.length_map], hg, by rw [List.length_map]; exact hc, hm, by show 0 + cap * 1 ≤ cur.size; omega, ?_⟩, fun g' hg' => by cases hg'; exact hb⟩
    intro i hi
    rw [List.length_map] at hi
    have hi' : i < ks.length := by have : textKind.size = 1 := rfl; rw [this] at hi; omega
    have h1 : cur.toList[i]? = (ks.map encStr)[i]? := by
      rw [← ht, List.getElem?_take_of_lt (by omega)]
    have h2 : (ks.map (fun x => (⟨x.toArray⟩ : ByteArray))).flatMap textKind.enc = ks.map encStr := by
      have : ∀ L : List ByteArray, L.flatMap textKind.enc = L.map Value.string := fun L => by
        induction L with
        | nil => rfl
        | cons x xs ih => simp only [List.flatMap_cons, List.map_cons, ih]; rfl
      rw [this, List.map_map]
      rfl
    rw [h2, ← h1]
    simp
theorem keys_sorted {V : Type} {m : List (ByteArray × V)} (hr : Rise slt m) {ss L : List (List UInt8)} (h1 : ss.Perm L) (h2 : L.Perm (m.map fun x => x.1.data.toList)) : (ss.mergeSort (fun x y => decide (x ≤ y))).map (fun x => (⟨x.toArray⟩ : ByteArray)) = m.map (·.1) := by
  have hp := (List.mergeSort_perm ss (fun x y => decide (x ≤ y))).trans (h1.trans h2)
  have hpair : (List.mergeSort ss (fun x y => decide (x ≤ y))).Pairwise (fun a b => decide (a ≤ b) = true) := List.pairwise_mergeSort (fun a b c h k => by
    simp only [decide_eq_true_eq] at *; exact List.le_trans h k) (fun a b => by
    simp only [Bool.or_eq_true, decide_eq_true_eq]; exact List.le_total a b) _
  have he := List.Perm.eq_of_pairwise (le := fun a b => decide (a ≤ b) = true) (fun a b _ _ h k => by
    simp only [decide_eq_true_eq] at *; exact List.le_antisymm h k) hpair (rise_le hr) hp
  rw [he, List.map_map]
  exact List.map_congr_left fun x _ => by simp
theorem keysTot (mb : Option Nat) (w : World) : Calls Tryz.prog 30 #[.map mb] w fun e w' => e = .returned (.func (.func 61) #[] #[.pointer (some ⟨w.heap.size, 0, none⟩)]) ∧ w' = w.alloc (.cells #[.map mb] 76) :=
  (callsIn_wide (n := 5)).1 (AnyZ.keys_in Tryz.keysTot Fence.wide 5 trivial rfl mb w)
theorem sortedTot {V : Type} {ev : V → Value} {w : World} {b : Nat} {m : List (ByteArray × V)} (h : MapAt strKind ev w b m) (hm : m.length ≤ 1000000) (hs : ∀ x ∈ m, x.1.size ≤ maxLen) :
    Calls Tryz.prog 29 #[.func (.func 61) #[] #[.pointer (some ⟨w.heap.size, 0, none⟩)]] (w.alloc (.cells #[.map (some b)] 76)) fun e w' => ∃ v, e = .returned v ∧ SlAt textKind 9 w' v (m.map (·.1)) ∧ (∀ g, v.ownBlock = some g → w.heap.size ≤ g) ∧ Below w.heap.size w w' := by
  obtain ⟨D0, hown, hpd, hsz⟩ := map_owns (P := Tryz.prog) (k := 9) h Tryz.underlying9 (by unfold maxLen; omega) hs
  have hbl := hown.lt
  have hseq : SeqGives Fence.wide 2 Tryz.prog 61 #[.pointer (some ⟨w.heap.size, 0, none⟩)] encStr (fun ss => ss.Perm (strKeys D0)) (Maps.size D0) (w.alloc (.cells #[.map (some b)] 76)) :=
    AnyZ.keys_gives (ρ := Tryz.keysTot_ren) { Tryz.keysTot with } Fence.wide _ trivial rfl (by omega) w.heap.size b m.length D0 _ (by simp) (by simp) (by
      obtain ⟨es, clock, hb, Ft, hs, hD⟩ := hown
      exact ⟨es, clock, (Below.heap_alloc _ _ b hbl).trans hb, Ft, hs, hD⟩)
  have cS := AnyZ.sorted_in Tryz.sortedS Fence.wide 5 trivial trivial trivial trivial rfl (by omega) (sorts_in _) (enters_of Tryz.func60 (by kernel_rfl) rfl) 61 #[.pointer (some ⟨w.heap.size, 0, none⟩)] trivial (enters_of Tryz.func61 (by kernel_rfl) rfl) _ _ (by rw [hsz]; unfold maxLen; omega) (by rw [hsz]; omega) _ hseq
  refine Calls.mono (P := Tryz.prog) (f := 29) (callsIn_wide.1 cS) ?_
  rintro e w' ⟨v, ss, rfl, hS, hrow, -, hb⟩
  rw [World.size_alloc] at hrow
  have hr2 : w'.ownsRow (w.heap.size + 1) 9 1 v (ss.mergeSort (fun x y => decide (x ≤ y))).length ((ss.mergeSort (fun x y => decide (x ≤ y))).map encStr) := by rw [List.length_mergeSort]; exact hrow
  obtain ⟨h1, h2⟩ := row_texts hr2
  rw [keys_sorted h.rise hS hpd] at h1
  exact ⟨v, rfl, h1, fun g hg => by have := h2 g hg; omega, ((Below.refl _ w).alloc (Nat.le_refl _) _).trans (hb.mono (by simp))⟩
theorem keysInt (mb : Option Nat) (w : World) : Calls Tryz.prog 32 #[.map mb] w fun e w' => e = .returned (.func (.func 64) #[] #[.pointer (some ⟨w.heap.size, 0, none⟩)]) ∧ w' = w.alloc (.cells #[.map mb] 81) :=
  (callsIn_wide (n := 5)).1 (AnyZ.keys_in Tryz.keysInt Fence.wide 5 trivial rfl mb w)
theorem sortedInt {V : Type} {ev : V → Value} {w : World} {b : Nat} {m : List (ByteArray × V)} (h : MapAt strKind ev w b m) (hm : m.length ≤ 1000000) (hs : ∀ x ∈ m, x.1.size ≤ maxLen) :
    Calls Tryz.prog 29 #[.func (.func 64) #[] #[.pointer (some ⟨w.heap.size, 0, none⟩)]] (w.alloc (.cells #[.map (some b)] 81)) fun e w' => ∃ v, e = .returned v ∧ SlAt textKind 9 w' v (m.map (·.1)) ∧ (∀ g, v.ownBlock = some g → w.heap.size ≤ g) ∧ Below w.heap.size w w' := by
  obtain ⟨D0, hown, hpd, hsz⟩ := map_owns (P := Tryz.prog) (k := 9) h Tryz.underlying9 (by unfold maxLen; omega) hs
  have hbl := hown.lt
  have hseq : SeqGives Fence.wide 2 Tryz.prog 64 #[.pointer (some ⟨w.heap.size, 0, none⟩)] encStr (fun ss => ss.Perm (strKeys D0)) (Maps.size D0) (w.alloc (.cells #[.map (some b)] 81)) :=
    AnyZ.keys_gives (ρ := Tryz.keysInt_ren) { Tryz.keysInt with } Fence.wide _ trivial rfl (by omega) w.heap.size b m.length D0 _ (by simp) (by simp) (by
      obtain ⟨es, clock, hb, Ft, hs, hD⟩ := hown
      exact ⟨es, clock, (Below.heap_alloc _ _ b hbl).trans hb, Ft, hs, hD⟩)
  have cS := AnyZ.sorted_in Tryz.sortedS Fence.wide 5 trivial trivial trivial trivial rfl (by omega) (sorts_in _) (enters_of Tryz.func60 (by kernel_rfl) rfl) 64 #[.pointer (some ⟨w.heap.size, 0, none⟩)] trivial (enters_of Tryz.func64 (by kernel_rfl) rfl) _ _ (by rw [hsz]; unfold maxLen; omega) (by rw [hsz]; omega) _ hseq
  refine Calls.mono (P := Tryz.prog) (f := 29) (callsIn_wide.1 cS) ?_
  rintro e w' ⟨v, ss, rfl, hS, hrow, -, hb⟩
  rw [World.size_alloc] at hrow
  have hr2 : w'.ownsRow (w.heap.size + 1) 9 1 v (ss.mergeSort (fun x y => decide (x ≤ y))).length ((ss.mergeSort (fun x y => decide (x ≤ y))).map encStr) := by rw [List.length_mergeSort]; exact hrow
  obtain ⟨h1, h2⟩ := row_texts hr2
  rw [keys_sorted h.rise hS hpd] at h1
  exact ⟨v, rfl, h1, fun g hg => by have := h2 g hg; omega, ((Below.refl _ w).alloc (Nat.le_refl _) _).trans (hb.mono (by simp))⟩
end Go.Proofs.YtkbdofbjfcajbaaGreat
