/- Slices: what they hold, where their array may be written to; append onto them, from whatever place of an array on. Over whatever program. -/
import Derived.Test.YtagdchgkjjpacaaGreatb00
import Derived.Laws.AppendOwn
import Derived.OwnWalk
import Derived.OwnWalkIn
namespace Go.Proofs.YtagdchgkjjpacaaGreat
open Go.RowKit
structure ElKind (α : Type) where
 enc : α → List Value
 size : Nat
 len : ∀ x, (enc x).length = size
 pos : 0 < size
 one : ∀ x, ∀ u ∈ enc x, u.oneCell' = true
def byteKind : ElKind UInt8 := ⟨fun b => [.int .u8 (b.toNat : Int)], 1, fun _ => rfl, Nat.one_pos, fun _ u hu => by
 simp only [List.mem_cons, List.not_mem_nil, or_false] at hu; subst hu; rfl⟩
def textKind : ElKind ByteArray := ⟨fun b => [.string b], 1, fun _ => rfl, Nat.one_pos, fun _ u hu => by
 simp only [List.mem_cons, List.not_mem_nil, or_false] at hu; subst hu; rfl⟩
theorem flat_len {α : Type} {enc : α → List Value} {size : Nat} (h : ∀ x, (enc x).length = size) (xs : List α) : (xs.flatMap enc).length = xs.length * size := by
 induction xs with
 | nil => simp
 | cons x xs ih => simp [ih, h x, Nat.add_mul]; omega
theorem flat_at {α : Type} {enc : α → List Value} {size : Nat} (h : ∀ x, (enc x).length = size) : ∀ (xs : List α) (j i : Nat) (x : α), xs[j]? = some x → i < size → (xs.flatMap enc)[j * size + i]? = (enc x)[i]?
 | [], _, _, _, hx, _ => by simp at hx
 | y :: xs, 0, i, x, hx, hi => by
   simp only [List.getElem?_cons_zero, Option.some.injEq] at hx
   subst hx
   simp only [List.flatMap_cons, Nat.zero_mul, Nat.zero_add]
   rw [List.getElem?_append_left (by rw [h]; exact hi)]
 | y :: xs, j + 1, i, x, hx, hi => by
   simp only [List.getElem?_cons_succ] at hx
   have := flat_at h xs j i x hx hi
   simp only [List.flatMap_cons]
   rw [List.getElem?_append_right (by rw [h, Nat.add_mul]; omega), h]
   rw [show (j + 1) * size + i - size = j * size + i by rw [Nat.add_mul]; omega]
   exact this
theorem add_lit (g off j : Nat) : (⟨g, off, none⟩ : Addr).add j = ⟨g, off + j, none⟩ := by unfold Addr.add; split <;> simp_all
section
variable {α : Type} (ek : ElKind α) (e : TypeId)
def SlAt (w : World) (v : Value) (xs : List α) : Prop :=
 (v = .slice none 0 0 ∧ xs = []) ∨ ∃ g off cap cur, v = .slice (some ⟨g, off, none⟩) xs.length cap ∧ IsBlk w g cur e ∧ xs.length ≤ cap ∧ cap ≤ maxLen ∧ off + cap * ek.size ≤ cur.size ∧
   ∀ i, i < xs.length * ek.size → cur[off + i]? = (xs.flatMap ek.enc)[i]?
def RdAt (w : World) (v : Value) (xs : List α) : Prop :=
 ∃ a cap, v = .slice a xs.length cap ∧ ∀ j x, xs[j]? = some x → ∃ g off, a = some ⟨g, off, none⟩ ∧ ∀ i, i < ek.size → w.cell? ⟨g, off + j * ek.size + i, none⟩ = (ek.enc x)[i]?
variable {ek : ElKind α} {e : TypeId} {w w' : World} {v : Value} {xs : List α}
theorem SlAt.nil : SlAt ek e w (.slice none 0 0) ([] : List α) := .inl ⟨rfl, rfl⟩
theorem SlAt.block (h : SlAt ek e w v xs) (hb : ∀ g, v.ownBlock = some g → w'.heap[g]? = w.heap[g]?) : SlAt ek e w' v xs := by
 rcases h with h | ⟨g, off, cap, cur, hv, hg, r⟩
 ·exact .inl h
 ·exact .inr ⟨g, off, cap, cur, hv, (hb g (by rw [hv]; rfl)).trans hg, r⟩
theorem SlAt.own (h : SlAt ek e w v xs) : ∀ g, v.ownBlock = some g → ∃ cur, IsBlk w g cur e := by
 intro g hg
 rcases h with ⟨h, _⟩ | ⟨g', off, cap, cur, hv, hb, _⟩
 ·rw [h] at hg; simp [Value.ownBlock] at hg
 ·rw [hv] at hg
  obtain rfl : g' = g := by simpa [Value.ownBlock] using hg
  exact ⟨_, hb⟩
theorem SlAt.keeps {S : Nat → Prop} (h : SlAt ek e w v xs) (hk : Keeps S w w') (hn : ∀ g, v.ownBlock = some g → ¬ S g) : SlAt ek e w' v xs :=
 h.block fun g hg => by obtain ⟨cur, hb⟩ := h.own g hg; exact hk.block g (lt_of_block hb) (hn g hg)
theorem SlAt.below (h : SlAt ek e w v xs) (hk : Below w.heap.size w w') : SlAt ek e w' v xs := h.keeps (Keeps.of_below hk) (fun _ _ h => h)
theorem RdAt.keeps {S : Nat → Prop} (h : RdAt ek w v xs) (hk : Keeps S w w') (hn : ∀ g, v.ownBlock = some g → ¬ S g) : RdAt ek w' v xs := by
 obtain ⟨a, cap, rfl, hr⟩ := h
 refine ⟨a, cap, rfl, fun j x hx => ?_⟩
 obtain ⟨g, off, rfl, hc⟩ := hr j x hx
 refine ⟨g, off, rfl, fun i hi => ?_⟩
 have h0 : ∃ u, w.cell? ⟨g, off + j * ek.size + i, none⟩ = some u := by
  rw [hc i hi, List.getElem?_eq_getElem (by rw [ek.len]; exact hi)]; exact ⟨_, rfl⟩
 obtain ⟨u, hu⟩ := h0
 exact (hk.cell (p := ⟨g, off + j * ek.size + i, none⟩) (World.block_lt_of_cell? w _ hu) (hn g rfl)).trans (hc i hi)
theorem RdAt.keeps' {S : Nat → Prop} (h : RdAt ek w v xs) (hk : Keeps S w w') (hn : ∀ g, v.ownBlock = some g → xs ≠ [] → ¬ S g) : RdAt ek w' v xs := by
 by_cases hx : xs = []
 ·obtain ⟨a, cap, e, _⟩ := h
  subst hx
  exact ⟨a, cap, e, fun j x hx => by simp at hx⟩
 ·exact h.keeps hk fun g hg => hn g hg hx
theorem RdAt.first (h : RdAt ek w v xs) (hx : xs ≠ []) {g : Nat} (hg : v.ownBlock = some g) : ∃ off x, w.cell? ⟨g, off, none⟩ = (ek.enc x)[0]? := by
 obtain ⟨a, cap, rfl, hr⟩ := h
 cases xs with
 | nil => exact absurd rfl hx
 | cons x xs =>
   obtain ⟨g', off, rfl, hc⟩ := hr 0 x rfl
   obtain rfl : g' = g := by simpa [Value.ownBlock] using hg
   have := hc 0 ek.pos
   simp only [Nat.zero_mul, Nat.add_zero] at this
   exact ⟨off, x, this⟩
theorem RdAt.below (h : RdAt ek w v xs) (hk : Below w.heap.size w w') : RdAt ek w' v xs := h.keeps (Keeps.of_below hk) (fun _ _ h => h)
theorem SlAt.rd (h : SlAt ek e w v xs) : RdAt ek w v xs := by
 rcases h with ⟨rfl, rfl⟩ | ⟨g, off, cap, cur, rfl, hb, hc, hm, hs, hr⟩
 ·exact ⟨none, 0, rfl, fun j x hx => by simp at hx⟩
 ·refine ⟨_, _, rfl, fun j x hx => ⟨g, off, rfl, fun i hi => ?_⟩⟩
  have hj := (List.getElem?_eq_some_iff.1 hx).1
  have hlt : j * ek.size + i < xs.length * ek.size := by
   have := Nat.mul_le_mul_right ek.size (Nat.succ_le_of_lt hj)
   rw [Nat.succ_mul] at this; omega
  rw [blk_cell hb, Nat.add_assoc, hr _ hlt, flat_at ek.len xs j i x hx hi]
theorem SlAt.shape (h : SlAt ek e w v xs) : ∃ a cap, v = .slice a xs.length cap := by
 obtain ⟨a, cap, hv, _⟩ := h.rd; exact ⟨a, cap, hv⟩
theorem RdAt.cells (h : RdAt ek w v xs) : ∃ a cap, v = .slice a xs.length cap ∧ (a = none → xs = []) ∧ ∀ b, a = some b → ∀ j u, (xs.flatMap ek.enc)[j]? = some u → w.cell? (b.add j) = some u := by
 obtain ⟨a, cap, rfl, hr⟩ := h
 refine ⟨a, cap, rfl, fun ha => ?_, fun b hb j u hu => ?_⟩
 ·cases xs with
  | nil => rfl
  | cons x xs => obtain ⟨g, off, h1, _⟩ := hr 0 x rfl; rw [ha] at h1; cases h1
 ·have hj := (List.getElem?_eq_some_iff.1 hu).1
  rw [flat_len ek.len] at hj
  have hq : j / ek.size < xs.length := Nat.div_lt_of_lt_mul (by rw [Nat.mul_comm]; exact hj)
  have hx : xs[j / ek.size]? = some xs[j / ek.size] := List.getElem?_eq_getElem hq
  obtain ⟨g, off, h1, hc⟩ := hr _ _ hx
  have e1 : j = j / ek.size * ek.size + j % ek.size := (Nat.div_add_mod' j ek.size).symm
  have hm := Nat.mod_lt j ek.pos
  have h2 := flat_at ek.len xs (j / ek.size) (j % ek.size) _ hx hm
  rw [← e1, hu] at h2
  have h3 := hc _ hm
  rw [← h2] at h3
  rw [h1] at hb
  cases hb
  rw [Nat.add_assoc, ← e1] at h3
  have e2 := add_lit g off j
  rw [e2]; exact h3
variable {P : Program}
theorem run_append_sl (t ty : TypeId) (i : TypeInfo) (z : Value) (bytes : Nat) (ht : P.underlying t = some (.slice e)) (hi : P.info? e = some i) (hz : i.zero = some z) (hsize : i.size = ek.size) (hby : i.bytes = bytes) (hzs : z.cells.size = ek.size)
 {u : Value} {ys : List α} (hv : SlAt ek e w v xs) (hu : RdAt ek w u ys) (h63 : xs.length + ys.length ≤ maxLen) (hbytes : (xs.length + ys.length) * bytes ≤ 140737488355328) :
 ∃ v' w', (Builtin.append_ #[t, t] ty #[v, u]).run P w = .ok v' w' ∧ SlAt ek e w' v' (xs ++ ys) ∧ Keeps (fun k => v.ownBlock = some k) w w' ∧
   (∀ k, v'.ownBlock = some k → v.ownBlock = some k ∨ w.heap.size ≤ k) ∧ (v' = .slice none 0 0 ↔ v = .slice none 0 0 ∧ ys = []) := by
 subst hby
 obtain ⟨a, c, rfl, ha, hcell⟩ := hu.cells
 have hsmall : xs.length + ys.length ≤ 9223372036854775807 := by unfold maxLen at h63; omega
 have hly : (ys.flatMap ek.enc).length = ys.length * i.size := by rw [flat_len ek.len, hsize]
 have hlx : (xs.flatMap ek.enc).length = xs.length * i.size := by rw [flat_len ek.len, hsize]
 have h1 : ∀ u ∈ ys.flatMap ek.enc, u.oneCell' = true := by
  intro u hu
  obtain ⟨x, _, hx⟩ := List.mem_flatMap.1 hu
  exact ek.one x u hx
 have grown : ∀ (old : Nat), SlAt ek e (w.drew.alloc (.cells ((xs.flatMap ek.enc).toArray ++ (ys.flatMap ek.enc).toArray ++ Builtin.zeroCells z.cells (grownCap w (xs.length + ys.length) old e - (xs.length + ys.length))) e))
     (.slice (some ⟨w.heap.size, 0, none⟩) (xs.length + ys.length) (grownCap w (xs.length + ys.length) old e)) (xs ++ ys) := by
   intro old
   have hge := grownCap_ge w (xs.length + ys.length) old e
   have hcm : grownCap w (xs.length + ys.length) old e ≤ maxLen := grownCap_le_maxLen w (xs.length + ys.length) old e h63
   refine .inr ⟨w.heap.size, 0, _, _, by rw [List.length_append], heap_alloc_new w.drew _, by rw [List.length_append]; exact hge, hcm, ?_, ?_⟩
   ·simp only [Array.size_append, List.size_toArray, size_zeroCells, hzs, hlx, hly, hsize, ← Nat.add_mul, Nat.zero_add]
    apply Nat.mul_le_mul_right
    omega
   ·intro j hj
    rw [List.length_append, Nat.add_mul, ← hsize] at hj
    rw [Nat.zero_add, List.flatMap_append]
    rw [← Array.getElem?_toList, Array.toList_append, Array.toList_append, List.getElem?_append_left]
    rw [List.length_append, hlx, hly]; exact hj
 have grownK : ∀ (old : Nat) (S : Nat → Prop), Keeps S w (w.drew.alloc (.cells ((xs.flatMap ek.enc).toArray ++ (ys.flatMap ek.enc).toArray ++ Builtin.zeroCells z.cells (grownCap w (xs.length + ys.length) old e - (xs.length + ys.length))) e)) :=
  fun old S => ((Keeps.refl S w).drew).alloc _
 rcases hv with ⟨rfl, rfl⟩ | ⟨g, off, cap, cur, rfl, hg, hnc, hcm, hcs, htake⟩
 ·cases a with
  | none =>
    obtain rfl := ha rfl
    refine ⟨.slice none 0 0, w, ?_, .inl ⟨rfl, rfl⟩, Keeps.refl _ _, fun k hk => .inl hk, by simp⟩
    simp [Builtin.append_, run_underlying ht, sizeOf, typeInfo, hi, Builtin.lenOf, Builtin.firstCells]
  | some b =>
    by_cases hm : ys.length = 0
    ·have : ys = [] := List.length_eq_zero_iff.1 hm
     subst this
     refine ⟨.slice none 0 0, w, ?_, .inl ⟨rfl, rfl⟩, Keeps.refl _ _, fun k hk => .inl hk, by simp⟩
     simp [Builtin.append_, run_underlying ht, sizeOf, typeInfo, hi, Builtin.lenOf, Builtin.firstCells, loadCells, loadCellsFrom]
    ·have hr := run_append_nil (P := P) w t ty e i z ht hi hz b ys.length c _ hly (fun j u hu => hcell b rfl j u hu) (by omega) (by simp at hsmall; omega) (by have hb := hbytes; simp only [List.length_nil, Nat.zero_add] at hb; omega)
     have hgr := grown 0
     have hgk := grownK 0 (fun k => (Value.slice none 0 0).ownBlock = some k)
     simp only [List.length_nil, Nat.zero_add, List.nil_append, List.flatMap_nil, Array.empty_append] at hgr hgk ⊢
     refine ⟨_, _, hr, hgr, hgk, fun k hk => .inr ?_, ?_⟩
     ·have : w.heap.size = k := by simpa [Value.ownBlock] using hk
      omega
     ·simp only [reduceCtorEq, Value.slice.injEq, false_and, true_and, false_iff]
      intro h; exact hm (by rw [h]; rfl)
 ·have holds : ∀ j u, (xs.flatMap ek.enc)[j]? = some u → w.cell? ((⟨g, off, none⟩ : Addr).add j) = some u := by
   intro j u hu
   have hj := (List.getElem?_eq_some_iff.1 hu).1
   rw [flat_len ek.len] at hj
   have e2 := add_lit g off j
   rw [e2, blk_cell hg, htake j hj, hu]
  by_cases hroom : xs.length + ys.length ≤ cap
  ·have hfit : off + xs.length * i.size + 0 + (ys.flatMap ek.enc).length ≤ cur.size := by
    have := Nat.mul_le_mul_right ek.size hroom
    rw [Nat.add_mul] at this
    rw [hly, hsize]; omega
   have e3 := add_lit g off (xs.length * i.size)
   have hst := run_storeCells_at P g (off + xs.length * i.size) e (ys.flatMap ek.enc) 0 cur w hg hfit h1
   have hcz : (cur.toList.take (off + xs.length * i.size) ++ (ys.flatMap ek.enc) ++ cur.toList.drop (off + xs.length * i.size + (ys.flatMap ek.enc).length)).toArray.size = cur.size := by
    simp only [List.size_toArray, List.length_append, List.length_take, List.length_drop, Array.length_toList]
    omega
   have hf : (Builtin.firstCells i.size ys.length (.slice a ys.length c)).run P w = .ok (ys.flatMap ek.enc).toArray w := by
    cases a with
    | none => obtain rfl := ha rfl; simp [Builtin.firstCells]
    | some b => exact run_firstCells_some (P := P) w i.size ys.length b ys.length c _ hly (hcell b rfl)
   simp only [Nat.add_zero] at hst
   refine ⟨.slice (some ⟨g, off, none⟩) (xs.length + ys.length) cap, w.setRow g (cur.toList.take (off + xs.length * i.size) ++ (ys.flatMap ek.enc) ++ cur.toList.drop (off + xs.length * i.size + (ys.flatMap ek.enc).length)).toArray, ?_,
     .inr ⟨g, off, cap, _, by rw [List.length_append], setRow_heap w g cur _ e _ hg, by rw [List.length_append]; exact hroom, hcm, ?_, ?_⟩,
     ⟨rfl, rfl, rfl, by simp, fun k _ hk => setRow_other w g k _ (fun e => hk (by simp [Value.ownBlock, e]))⟩, fun k hk => .inl hk, by simp⟩
   ·simp [Builtin.append_, run_underlying ht, sizeOf, typeInfo, hi, Builtin.lenOf, hroom, hf, e3, hst]
   ·rw [hcz]; exact hcs
   ·intro j hj
    rw [List.length_append, Nat.add_mul] at hj
    simp only [List.getElem?_toArray]
    rw [List.append_assoc]
    have hl0 : (cur.toList.take (off + xs.length * i.size)).length = off + xs.length * i.size := by
     have h8 : cur.toList.length = cur.size := Array.length_toList
     have h9 := hfit
     rw [List.length_take]; omega
    rw [List.flatMap_append]
    by_cases hjx : j < xs.length * ek.size
    ·rw [List.getElem?_append_left (by rw [hl0, hsize]; omega), List.getElem?_take_of_lt (by rw [hsize]; omega), Array.getElem?_toList, htake j hjx,
       List.getElem?_append_left (by rw [flat_len ek.len]; exact hjx)]
    ·rw [List.getElem?_append_right (by rw [hl0, hsize]; omega), hl0, List.getElem?_append_left (by rw [flat_len ek.len, hsize]; omega),
       List.getElem?_append_right (by rw [flat_len ek.len]; omega), flat_len ek.len]
     congr 1
     rw [hsize]; omega
  ·cases a with
   | none =>
     obtain rfl := ha rfl
     exact absurd hnc (by simpa using hroom)
   | some b =>
     have hr := run_append_grow (P := P) w t ty e i z ht hi hz ⟨g, off, none⟩ xs.length cap _ hlx holds b ys.length c _ hly (hcell b rfl) (by omega) (by omega) (growslice_fits (by omega) hbytes)
     refine ⟨_, _, hr, grown cap, grownK cap _, fun k hk => .inr ?_, by simp⟩
     have : w.heap.size = k := by simpa [Value.ownBlock] using hk
     omega
end
section
variable {P : Program} {w : World} {ops : Array Oper} {rest : List Oper} {o : Oper} {a : Act}
theorem wp_append_run {K : Act → World → Prop} {Q : Exit → Act → World → Prop} (s x : Operand) (t : TypeId) (ho : o.op = .call { callee := .builtin .append, args := #[s, x], argTypes := #[t, t] })
 (v u : Value) (hs : a.eval s = v) (hx : a.eval x = u) (v' : Value) (w' : World) (hrun : (Builtin.append_ #[t, t] o.type #[v, u]).run P w = .ok v' w') (h : K (a.put o.dst v') w') : Oper.wp P o a w K Q := by
 unfold Oper.wp
 simp [execOp, ho, resolve, invoke, builtin, hs, hx, hrun, Result.andThen]
 exact h
theorem step_append_run {K : Act → World → Prop} {Q : Exit → Act → World → Prop} {E : Prop} (hgd : o.guard = none) (s x : Operand) (t : TypeId) (ho : o.op = .call { callee := .builtin .append, args := #[s, x], argTypes := #[t, t] })
 (v u : Value) (hs : a.eval s = v) (hx : a.eval x = u) (v' : Value) (w' : World) (hrun : (Builtin.append_ #[t, t] o.type #[v, u]).run P w = .ok v' w') (h : K (a.put o.dst v') w') :
 if Region.wanted o (yielded ops a.tmps) = true then Oper.wp P o a w K Q else E := by
 have hw : Region.wanted o (yielded ops a.tmps) = true := by simp [Region.wanted, hgd]
 rw [if_pos hw]
 exact wp_append_run s x t ho v u hs hx v' w' hrun h
theorem wpList_append_run {Q : Exit → Act → World → Prop} (hgd : o.guard = none) (s x : Operand) (t : TypeId) (ho : o.op = .call { callee := .builtin .append, args := #[s, x], argTypes := #[t, t] })
 (v u : Value) (hs : a.eval s = v) (hx : a.eval x = u) (v' : Value) (w' : World) (hrun : (Builtin.append_ #[t, t] o.type #[v, u]).run P w = .ok v' w') (h : wpList P ops Q rest (a.put o.dst v') w') : wpList P ops Q (o :: rest) a w :=
 wpList_plain hgd fun _ hK => wp_append_run s x t ho v u hs hx v' w' hrun (hK _ _ h)
theorem wpList_delete_run {Q : Exit → Act → World → Prop} (hgd : o.guard = none) (s x : Operand) (t k : TypeId) (ho : o.op = .call { callee := .builtin .delete, args := #[s, x], argTypes := #[t, k] })
 (v u : Value) (hs : a.eval s = v) (hx : a.eval x = u) (v' : Value) (w' : World) (hrun : (Builtin.delete_ #[t, k] o.type #[v, u]).run P w = .ok v' w') (h : wpList P ops Q rest (a.put o.dst v') w') : wpList P ops Q (o :: rest) a w := by
 refine wpList_plain hgd fun _ hK => ?_
 unfold Oper.wp
 simp [execOp, ho, resolve, invoke, builtin, hs, hx, hrun, Result.andThen]
 exact hK _ _ h
theorem wp_mapUpdate_run {K : Act → World → Prop} {Q : Exit → Act → World → Prop} (m x v : Operand) (t : TypeId) (ho : o.op = .mapUpdate t m x v) (mv kv vv : Value) (hm : a.eval m = mv) (hx : a.eval x = kv) (hv : a.eval v = vv) (w' : World)
 (hrun : (Instr.mapUpdate t mv kv vv).run P w = .ok () w') (h : K (a.put o.dst undef) w') : Oper.wp P o a w K Q := by
 unfold Oper.wp
 simp [execOp, ho, hm, hx, hv, hrun, Result.andThen]
 exact h
theorem wpList_mapUpdate_run {Q : Exit → Act → World → Prop} (hgd : o.guard = none) (m x v : Operand) (t : TypeId) (ho : o.op = .mapUpdate t m x v) (mv kv vv : Value) (hm : a.eval m = mv) (hx : a.eval x = kv) (hv : a.eval v = vv) (w' : World)
 (hrun : (Instr.mapUpdate t mv kv vv).run P w = .ok () w') (h : wpList P ops Q rest (a.put o.dst undef) w') : wpList P ops Q (o :: rest) a w :=
 wpList_plain hgd fun _ hK => wp_mapUpdate_run m x v t ho mv kv vv hm hx hv w' hrun (hK _ _ h)
end
end Go.Proofs.YtagdchgkjjpacaaGreat
