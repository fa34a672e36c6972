/- The walk of the file system's Names: a range over the map, a sort. -/
import Derived.Test.YtmfiibehclbnjaaFsI
import Derived.Sort.Walk0
namespace Go.Proofs.Ytmfiibehclbnjaa
open Go.RowKit Go.Shelf Go.Sort

theorem mapBlock_heap (w : World) (g : Nat) (f : Array Value → Array Value) {cs : Array Value} {T : TypeId} (h : IsBlk w g cs T) : IsBlk (mapBlock w g f) g (f cs) T := by
  show (w.heap.modify g (onCells f))[g]? = _
  rw [Array.getElem?_modify, if_pos rfl]
  have : w.heap[g]? = some (.cells cs T (0, 0)) := h
  rw [this]; rfl
theorem keeps_mapBlock (w : World) (g : Nat) (f : Array Value → Array Value) : Keeps (fun k => some g = some k) w (mapBlock w g f) :=
  ⟨rfl, rfl, rfl, by simp [mapBlock], fun k _ hn => by
    show (w.heap.modify g (onCells f))[k]? = _
    rw [Array.getElem?_modify, if_neg (fun e => hn (by rw [e]))]⟩
theorem keeps_grow {S : Nat → Prop} (w : World) (os : Array Obj) : Keeps S w (grow w os) :=
  ⟨rfl, rfl, rfl, by simp [grow], fun k hk _ => by
    show (w.heap ++ os)[k]? = _
    rw [Array.getElem?_append_left hk]⟩
theorem keeps_ahead {S : Nat → Prop} (w : World) (n : Nat) : Keeps S w (Sort.ahead w n) := ⟨rfl, rfl, rfl, Nat.le_refl _, fun _ _ _ => rfl⟩
theorem text_flat (L : List ByteArray) : L.flatMap textKind.enc = L.map Value.string := by
  induction L with
  | nil => rfl
  | cons x xs ih => simp only [List.flatMap_cons, List.map_cons, ih]; rfl
theorem put_texts {w : World} {g off cap k : Nat} {cur : Array Value} (hb : IsBlk w g cur 9) (hc : k ≤ cap) (hm : cap ≤ maxLen) (hs : off + cap * textKind.size ≤ cur.size) (M : List (List UInt8)) (hM : M.length = k) (n : Nat) (os : Array Obj) :
    SlAt textKind 9 (grow (putRow encStr (Sort.ahead w n) g off M.toArray) os) (.slice (some ⟨g, off, none⟩) k cap) (M.map fun x => (⟨x.toArray⟩ : ByteArray)) ∧ Keeps (fun i => (Value.slice (some ⟨g, off, none⟩) k cap).ownBlock = some i) w (grow (putRow encStr (Sort.ahead w n) g off M.toArray) os) := by
  have hl : (M.map (fun x => (⟨x.toArray⟩ : ByteArray))).length = k := by rw [List.length_map, hM]
  have hb1 : IsBlk (Sort.ahead w n) g cur 9 := hb
  have hb2 : IsBlk (putRow encStr (Sort.ahead w n) g off M.toArray) g (putCells encStr off M.toArray cur) 9 := mapBlock_heap (Sort.ahead w n) g _ hb1
  have hb3 := (keeps_grow (S := fun _ => False) (putRow encStr (Sort.ahead w n) g off M.toArray) os).obj hb2 (fun e => e.elim)
  have e1 : ∀ j : Nat, j * textKind.size = j := fun j => Nat.mul_one j
  refine ⟨.inr ⟨g, off, cap, _, by rw [hl], hb3, by rw [hl]; exact hc, hm, ?_, ?_⟩, ?_⟩
  · simp only [putCells, Array.size_mapIdx]; exact hs
  · intro i hi
    rw [text_flat]
    rw [e1] at hi hs
    rw [hl] at hi
    have hsz : off + i < cur.size := by omega
    simp only [putCells]
    rw [Array.getElem?_mapIdx, Array.getElem?_eq_getElem hsz, Option.map_some]
    rw [if_pos (by simp only [List.size_toArray]; omega)]
    rw [Nat.add_sub_cancel_left, getElem!_pos _ i (by simp only [List.size_toArray]; omega)]
    rw [List.map_map, List.getElem?_map, List.getElem?_eq_getElem (by omega), Option.map_some, List.getElem_toArray]
    rfl
  · exact ((keeps_ahead w n).trans' (keeps_mapBlock (Sort.ahead w n) g _)).trans' (keeps_grow _ os)
theorem f_sort {w : World} {v : Value} {L : List ByteArray} (h : SlAt textKind 9 w v L) (hn : L.length < 4611686018427387904) :
    Calls Try.prog 55 #[v] w fun e w' => e = .returned (.tuple #[]) ∧ ∃ L', L'.Perm L ∧ L'.Pairwise (fun a b => slt b a = false) ∧ SlAt textKind 9 w' v L' ∧ Keeps (fun k => v.ownBlock = some k) w w' := by
  rcases h with ⟨rfl, rfl⟩ | ⟨g, off, cap, cur, rfl, hb, hc, hm, hs, hr⟩
  · refine (Try.slices_Sort_string_none none 0 w).mono ?_
    rintro e w' ⟨rfl, rfl⟩
    exact ⟨rfl, [], List.Perm.nil, List.Pairwise.nil, SlAt.nil, Keeps.refl _ _⟩
  · have hcur : ∀ i, i < L.length → cur[off + i]? = (L.map Value.string)[i]? := by
      intro i hi
      have := hr i (by show i < L.length * 1; omega)
      rw [this, text_flat]
    have hH : Holds encStr w g off (L.map fun x => x.data.toList).toArray := by
      intro j hj
      simp only [List.size_toArray, List.length_map] at hj
      refine ⟨?_, ?_⟩
      · rw [blk_cell hb, hcur j hj]
        rw [getElem!_pos _ j (by simpa using hj)]
        simp [hj]
      · exact blk_free hb _
    have hblk := lt_of_block hb
    have := Try.slices_Sort_string g off cap (L.map fun x => x.data.toList) w hH hblk (by simpa using hn)
    rw [List.length_map] at this
    refine this.mono ?_
    rintro e w' ⟨rfl, n, os, rfl⟩
    have hperm := List.mergeSort_perm (L.map fun x => x.data.toList) (fun x y => decide (x ≤ y))
    have hpair : (List.mergeSort (L.map fun x => x.data.toList) (fun x y => decide (x ≤ y))).Pairwise (fun a b => decide (a ≤ b) = true) := List.pairwise_mergeSort (fun a b c h k => by
        simp only [decide_eq_true_eq] at *; exact List.le_trans h k) (fun a b => by
        simp only [Bool.or_eq_true, decide_eq_true_eq]; exact List.le_total a b) _
    generalize List.mergeSort (L.map fun x => x.data.toList) (fun x y => decide (x ≤ y)) = M at hperm hpair ⊢
    have hlen : M.length = L.length := by rw [hperm.length_eq, List.length_map]
    refine ⟨rfl, M.map (fun x => ⟨x.toArray⟩), ?_, ?_, (put_texts hb hc hm hs M hlen n os).1, (put_texts hb hc hm hs M hlen n os).2⟩
    · refine (hperm.map (fun x => (⟨x.toArray⟩ : ByteArray))).trans ?_
      rw [List.map_map]
      have : ((fun x => (⟨x.toArray⟩ : ByteArray)) ∘ fun x : ByteArray => x.data.toList) = id := by funext x; simp
      rw [this, List.map_id]
    · rw [List.pairwise_map]
      refine hpair.imp ?_
      intro a b hab
      simp only [decide_eq_true_eq] at hab
      unfold slt
      rw [Lib.toList_data, Lib.toList_data, bytesLess_eq]
      simpa using hab
end Go.Proofs.Ytmfiibehclbnjaa
