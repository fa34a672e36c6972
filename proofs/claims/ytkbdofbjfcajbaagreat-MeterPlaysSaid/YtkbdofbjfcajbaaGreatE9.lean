/- The sort of the meter's events. -/
import Derived.Test.YtkbdofbjfcajbaaGreatE8
import Derived.Sort.Walk0
namespace Go.Proofs.YtkbdofbjfcajbaaGreat
open Go.RowKit Go.Shelf Go.Sort

instance : Inhabited Ev := ⟨Ev.zero⟩
theorem mapBlock_heap (w : World) (g : Nat) (f : Array Value → Array Value) {cs : Array Value} {T : TypeId} (h : IsBlk w g cs T) : IsBlk (mapBlock w g f) g (f cs) T := by
  show (w.heap.modify g (onCells f))[g]? = _
  rw [Array.getElem?_modify, if_pos rfl]
  have : w.heap[g]? = some (.cells cs T (0, 0)) := h
  rw [this]; rfl
theorem keeps_mapBlock (w : World) (g : Nat) (f : Array Value → Array Value) : Keeps (fun k => some g = some k) w (mapBlock w g f) :=
  ⟨rfl, rfl, rfl, by simp [mapBlock], fun k _ hn => by
    show (w.heap.modify g (onCells f))[k]? = _
    rw [Array.getElem?_modify, if_neg (fun e => hn (by rw [e]))]⟩
theorem keeps_grow {S : Nat → Prop} (w : World) (os : Array Obj) : Keeps S w (grow w os) :=
  ⟨rfl, rfl, rfl, by simp [grow], fun k hk _ => by
    show (w.heap ++ os)[k]? = _
    rw [Array.getElem?_append_left hk]⟩
theorem keeps_ahead {S : Nat → Prop} (w : World) (n : Nat) : Keeps S w (Sort.ahead w n) := ⟨rfl, rfl, rfl, Nat.le_refl _, fun _ _ _ => rfl⟩
theorem flat_K (xs : List Ev) (t : Nat) (h : t < xs.length * 5) : (xs.flatMap evCells)[t]? = some (flatK evCells 5 xs.toArray)[t]! := by
  have hq : t / 5 < xs.length := by omega
  have hx : xs[t / 5]? = some xs[t / 5] := List.getElem?_eq_getElem hq
  have hm : t % 5 < 5 := Nat.mod_lt _ (by decide)
  have h1 := flat_at (enc := evCells) (size := 5) (fun _ => rfl) xs (t / 5) (t % 5) _ hx hm
  rw [show t / 5 * 5 + t % 5 = t by omega] at h1
  rw [h1, get_flatK evCells 5 xs.toArray t (by simpa using h)]
  rw [getElem!_pos xs.toArray (t / 5) (by simpa using hq), List.getElem_toArray]
  rw [getElem!_pos _ (t % 5) (by exact hm)]
  exact List.getElem?_eq_getElem _
theorem put_evs {w : World} {g off cap k : Nat} {cur : Array Value} (hb : IsBlk w g cur 32) (hc : k ≤ cap) (hm : cap ≤ maxLen) (hs : off + cap * evKind.size ≤ cur.size) (M : List Ev) (hM : M.length = k) (n : Nat) (os : Array Obj) :
    SlAt evKind 32 (sortWorldK evCells 5 w g off n M.toArray os) (.slice (some ⟨g, off, none⟩) k cap) M ∧ Keeps (fun i => (Value.slice (some ⟨g, off, none⟩) k cap).ownBlock = some i) w (sortWorldK evCells 5 w g off n M.toArray os) := by
  have hb1 : IsBlk (Sort.ahead w n) g cur 32 := hb
  have hb2 : IsBlk (putRow id (Sort.ahead w n) g off (flatK evCells 5 M.toArray)) g (putCells id off (flatK evCells 5 M.toArray) cur) 32 := mapBlock_heap (Sort.ahead w n) g _ hb1
  have hb3 := (keeps_grow (S := fun _ => False) (putRow id (Sort.ahead w n) g off (flatK evCells 5 M.toArray)) os).obj hb2 (fun e => e.elim)
  have e1 : evKind.size = 5 := rfl
  refine ⟨.inr ⟨g, off, cap, _, by rw [hM], hb3, by rw [hM]; exact hc, hm, ?_, ?_⟩, ?_⟩
  · simp only [putCells, Array.size_mapIdx]; exact hs
  · intro i hi
    rw [e1] at hi hs
    rw [hM] at hi
    have hsz : off + i < cur.size := by omega
    have hfs : (flatK evCells 5 M.toArray).size = k * 5 := by rw [size_flatK]; simp [hM]
    simp only [putCells]
    rw [Array.getElem?_mapIdx, Array.getElem?_eq_getElem hsz, Option.map_some]
    rw [if_pos (by rw [hfs]; omega)]
    rw [Nat.add_sub_cancel_left]
    exact (flat_K M i (by rw [hM]; exact hi)).symm
  · exact ((keeps_ahead w n).trans' (keeps_mapBlock (Sort.ahead w n) g _)).trans' (keeps_grow _ os)
theorem cmpB_lt : ∀ a b : List UInt8, decide (Lib.compareBytes a b < 0) = Op.bytesLess a b
  | [], [] => rfl
  | [], _ :: _ => rfl
  | _ :: _, [] => rfl
  | a :: xs, b :: bs => by
    unfold Lib.compareBytes Op.bytesLess
    by_cases h1 : a < b
    · simp [h1]
    · by_cases h2 : b < a
      · have hne : ¬ a = b := by rintro rfl; exact h1 h2
        simp [h1, h2, hne]
      · have he : a = b := UInt8.le_antisymm (UInt8.not_lt.1 h2) (UInt8.not_lt.1 h1)
        subst he
        simp only [h1, if_false, decide_false, Bool.false_or, beq_self_eq_true, Bool.true_and]
        exact cmpB_lt xs bs
/-- One event is ahead of another one. -/
def evLt (a b : Ev) : Bool := decide (a.at_ < b.at_) || (decide (a.at_ = b.at_) && slt a.key b.key)
theorem ltOf_cfE (a b : Ev) : ltOf cfE a b = evLt a b := by
  unfold ltOf cfE evLt Lib.compareInt slt
  rw [Lib.toList_data, Lib.toList_data, ← cmpB_lt]
  by_cases h1 : a.at_ < b.at_
  · simp [h1]
  · by_cases h2 : a.at_ > b.at_
    · have : ¬ a.at_ = b.at_ := by omega
      simp [h1, h2, this]
    · have : a.at_ = b.at_ := by omega
      simp [h1, h2, this]
theorem swoE : SWO (ltOf cfE) where
  irrefl x := by rw [ltOf_cfE]; unfold evLt; simp [slt_ord.irr]
  trans x y z h1 h2 := by
    rw [ltOf_cfE] at *
    unfold evLt at *
    simp only [Bool.or_eq_true, decide_eq_true_eq, Bool.and_eq_true] at *
    rcases h1 with h1 | ⟨h1, k1⟩ <;> rcases h2 with h2 | ⟨h2, k2⟩
    · left; omega
    · left; omega
    · left; omega
    · right; exact ⟨by omega, slt_ord.tr _ _ _ k1 k2⟩
  ntrans x y z h1 h2 := by
    rw [ltOf_cfE] at *
    unfold evLt at *
    simp only [Bool.or_eq_false_iff, decide_eq_false_iff_not, Bool.and_eq_false_iff] at *
    refine ⟨by omega, ?_⟩
    obtain ⟨a1, b1⟩ := h1
    obtain ⟨a2, b2⟩ := h2
    by_cases e : x.at_ = z.at_
    · right
      have e1 : x.at_ = y.at_ := by omega
      have e2 : y.at_ = z.at_ := by omega
      have k1 : slt x.key y.key = false := by rcases b1 with b1 | b1; exact absurd e1 b1; exact b1
      have k2 : slt y.key z.key = false := by rcases b2 with b2 | b2; exact absurd e2 b2; exact b2
      cases hxz : slt x.key z.key with
      | false => rfl
      | true =>
        cases hyx : slt y.key x.key with
        | true => rw [slt_ord.tr _ _ _ hyx hxz] at k2; cases k2
        | false => rw [slt_ord.eq _ _ k1 hyx] at hxz; rw [hxz] at k2; cases k2
    · left; exact e
theorem m_sort {w : World} {v : Value} {L : List Ev} (h : SlAt evKind 32 w v L) (hn : L.length < 4611686018427387904) :
    Calls Tryz.prog 33 #[v, .func (.func 34) #[] #[]] w fun e w' => e = .returned (.tuple #[]) ∧ ∃ L', L'.Perm L ∧ L'.Pairwise (fun a b => evLt b a = false) ∧ SlAt evKind 32 w' v L' ∧ Keeps (fun k => v.ownBlock = some k) w w' := by
  rcases h with ⟨rfl, rfl⟩ | ⟨g, off, cap, cur, rfl, hb, hc, hm, hs, hr⟩
  · have := AnyF.slices_SortFunc_none Tryz.sortEv none 0 (.func (.func 34) #[] #[]) w
    refine Calls.mono (P := Tryz.prog) (f := 33) this ?_
    rintro e w' ⟨rfl, rfl⟩
    exact ⟨rfl, [], List.Perm.nil, List.Pairwise.nil, SlAt.nil, Keeps.refl _ _⟩
  · have hH : HoldsK evCells 5 w g off L.toArray := by
      intro j hj
      have hj' : j < L.length * 5 := by rw [size_flatK] at hj; simpa using hj
      refine ⟨?_, blk_free hb _⟩
      rw [blk_cell hb, hr j hj']
      exact flat_K L j hj'
    have hblk := lt_of_block hb
    have eg := enters_of Tryz.func34 (P := Tryz.prog) (by kernel_rfl) rfl
    have := AnyQ.slices_SortFunc Tryz.sortEv 5 Tryz.isAgg32 Tryz.sizeOf32 evCells (fun _ => rfl) evKind.one cfE swoE 34 #[] g off cap L.toArray w eg (fun _ _ _ _ x y => m_cmp x y _) hH hblk (by simpa using hn)
    rw [List.size_toArray] at this
    refine Calls.mono (P := Tryz.prog) (f := 33) this ?_
    rintro e w' ⟨rfl, d', n, os, hp, hss, rfl⟩
    obtain ⟨hsz, -, hperm⟩ := hp
    obtain ⟨M, rfl⟩ : ∃ M : List Ev, d' = M.toArray := ⟨d'.toList, by simp⟩
    have hlen : M.length = L.length := by simpa using hsz
    have hperm' : M.Perm L := by
      have : (M.toArray.extract 0 L.length).toList = M := by simp [← hlen]
      have h2 : (L.toArray.extract 0 L.length).toList = L := by simp
      rw [this, h2] at hperm
      exact hperm
    refine ⟨rfl, M, hperm', ?_, (put_evs hb hc hm hs M hlen n os).1, (put_evs hb hc hm hs M hlen n os).2⟩
    rw [List.pairwise_iff_getElem]
    intro i j hi hj hij
    have := hss i j (Nat.zero_le _) hij (by rw [← hlen]; exact hj)
    rw [ltOf_cfE] at this
    rw [getElem!_pos M.toArray i (by simpa using hi), getElem!_pos M.toArray j (by simpa using hj)] at this
    simpa using this
end Go.Proofs.YtkbdofbjfcajbaaGreat
