/- Members by rising names, plain: what the document lays is what the program lays. -/
import Derived.Test.YthjcolehccbihaaGreatDoorz44
import Derived.Test.YthjcolehccbihaaGreatDoorz29
set_option linter.unusedSectionVars false
set_option linter.unusedSimpArgs false
set_option linter.unusedVariables false
namespace Go.Proofs.YthjcolehccbihaaGreatDoor
theorem less_ltB : ∀ a b : List UInt8, Op.bytesLess a b = ltB a b
  | [], [] => rfl
  | [], _ :: _ => rfl
  | _ :: _, [] => rfl
  | a :: x, b :: y => by
    unfold Op.bytesLess ltB
    rw [less_ltB x y]
theorem slt_ltB (a b : ByteArray) : slt a b = ltB (raw a) (raw b) := by
  unfold slt
  rw [Lib.toList_data, Lib.toList_data, less_ltB]
  rfl
theorem raw_inj {a b : ByteArray} (h : raw a = raw b) : a = b := by rw [← str_of a, ← str_of b]; exact congrArg str h
/-- The pairs, by rising names. -/
def layPairs (ns : List ByteArray) (l : List JV) : List (List UInt8 × List UInt8) := sortP ((ns.map raw).zip (layAll l))
theorem lay_obj (t : ByteArray) (l : List JV) (ns : List ByteArray) : lay (.mk 6 t l ns) = 123 :: (commas ((layPairs ns l).map layPair) ++ [125]) := by
  unfold lay layPairs
  simp
theorem lay_arr (t : ByteArray) (l : List JV) (ns : List ByteArray) : lay (.mk 5 t l ns) = 91 :: (commas (layAll l) ++ [93]) := by
  unfold lay
  simp
theorem names_fst {ns : List ByteArray} {l : List JV} {R : List ByteArray} (h : ns.length = l.length) (hd : distinct (ns.map raw) = true) (hr : Rising ns R) : (layPairs ns l).map (·.1) = R.map raw := by
  have hz : ((ns.map raw).zip (layAll l)).map (·.1) = ns.map raw := zip_fst _ _ (by rw [layAll_map]; simpa using h)
  have hnd : (ns.map raw).Nodup := (distinct_nodup _).1 hd
  have h1 : Rises (layPairs ns l) := sortP_rises _ (by rw [hz]; exact hnd)
  have hp : (layPairs ns l).Perm ((ns.map raw).zip (layAll l)) := sortP_perm _
  have hU : Rises ((layPairs ns l).map fun p => (p.1, ())) := by unfold Rises; rw [List.pairwise_map]; exact h1
  have hV : Rises (R.map fun s => (raw s, ())) := by
    unfold Rises
    rw [List.pairwise_map]
    exact hr.up.imp fun {a b} hab => by rw [← slt_ltB]; exact hab
  have hperm : ((layPairs ns l).map fun p => (p.1, ())).Perm (R.map fun s => (raw s, ())) := by
    have hm1 := (hp.map (fun p => (p.1, ())))
    refine hm1.trans ?_
    have e1 : (((ns.map raw).zip (layAll l)).map fun p => (p.1, ())) = (ns.map raw).map fun x => (x, ()) := by
      rw [← hz, List.map_map]
      rw [hz]
      rfl
    rw [e1, List.map_map]
    have hRn : R.Nodup := by
      refine hr.up.imp ?_
      intro a b hab e
      rw [e, slt_ord.irr] at hab
      cases hab
    have hNn : ns.Nodup := by
      rw [List.Nodup, List.pairwise_map] at hnd
      exact hnd.imp fun h e => h (congrArg raw e)
    exact ((List.perm_ext_iff_of_nodup hNn hRn).2 fun x => (hr.mem x).symm).map (fun s => (raw s, ()))
  have := rises_unique _ _ hU hV hperm
  have h3 := congrArg (List.map (·.1)) this
  rw [List.map_map, List.map_map] at h3
  exact h3
/-- At each place: the name, and its value's text. -/
theorem names_at {ns : List ByteArray} {l : List JV} {R : List ByteArray} (h : ns.length = l.length) (hd : distinct (ns.map raw) = true) (hr : Rising ns R) {i : Nat} {s : ByteArray} (hs : R[i]? = some s) :
    ∃ (k : Nat) (x : JV), ns[k]? = some s ∧ l[k]? = some x ∧ (layPairs ns l)[i]? = some (raw s, lay x) := by
  have hf := names_fst h hd hr
  have h1 : ((layPairs ns l).map (·.1))[i]? = some (raw s) := by rw [hf, List.getElem?_map, hs]; rfl
  rw [List.getElem?_map, Option.map_eq_some_iff] at h1
  obtain ⟨p, hp, hp1⟩ := h1
  have hm : p ∈ (ns.map raw).zip (layAll l) := (sortP_perm _).mem_iff.1 (List.mem_of_getElem? hp)
  obtain ⟨k, hk⟩ := List.getElem?_of_mem hm
  rw [List.getElem?_zip_eq_some] at hk
  obtain ⟨ha, hb⟩ := hk
  rw [List.getElem?_map, Option.map_eq_some_iff] at ha
  obtain ⟨n, hn, hn1⟩ := ha
  rw [layAll_map, List.getElem?_map, Option.map_eq_some_iff] at hb
  obtain ⟨x, hx, hx1⟩ := hb
  have : n = s := raw_inj (by rw [hn1, hp1])
  subst this
  exact ⟨k, x, hn, hx, by rw [hp]; exact congrArg some (Prod.ext hp1 hx1.symm)⟩
theorem names_len {ns : List ByteArray} {l : List JV} {R : List ByteArray} (h : ns.length = l.length) (hd : distinct (ns.map raw) = true) (hr : Rising ns R) : R.length = (layPairs ns l).length := by
  have := congrArg List.length (names_fst h hd hr)
  simpa using this.symm
end Go.Proofs.YthjcolehccbihaaGreatDoor
