/- Plain laws of Open of any files: numbers with a gap; segments ahead of the last one that are not whole. -/
import Derived.Test.YthbfkjmpaifblaaWx8
namespace Go.Proofs.Ythbfkjmpaifblaa
open Go.RowKit

theorem sorted_ext : ∀ (a b : List Nat), a.Pairwise (· < ·) → b.Pairwise (· < ·) → (∀ n, n ∈ a ↔ n ∈ b) → a = b
  | [], [], _, _, _ => rfl
  | [], y :: b, _, _, h => by have := (h y).2 (by simp); simp at this
  | x :: a, [], _, _, h => by have := (h x).1 (by simp); simp at this
  | x :: a, y :: b, ha, hb, h => by
    rw [List.pairwise_cons] at ha hb
    have e : x = y := by
      rcases List.mem_cons.1 ((h x).1 (by simp)) with e | e
      · exact e
      · rcases List.mem_cons.1 ((h y).2 (by simp)) with e2 | e2
        · exact e2.symm
        · have := ha.1 y e2; have := hb.1 x e; omega
    subst e
    congr 1
    refine sorted_ext a b ha.2 hb.2 fun n => ⟨fun hn => ?_, fun hn => ?_⟩
    · rcases List.mem_cons.1 ((h n).1 (by simp [hn])) with e | e
      · have := ha.1 n hn; omega
      · exact e
    · rcases List.mem_cons.1 ((h n).2 (by simp [hn])) with e | e
      · have := hb.1 n hn; omega
      · exact e
/-- Files of these numbers, with these bytes, lie in the directory; and no other segments. -/
structure Laid (F : FsS) (dir : ByteArray) (ns : List Nat) (bs : List (List UInt8)) : Prop where
  rise : Rise slt F.files
  sort : ns.Pairwise (· < ·)
  pos : ∀ n ∈ ns, 1 ≤ n ∧ n < 100000000
  len : ns.length = bs.length
  at_ : ∀ (i n : Nat) (b : List UInt8), ns[i]? = some n → bs[i]? = some b → F.find (segName dir n) = some ⟨b, 0⟩
  only : ∀ n x, F.find n = some x → segNum dir n ≠ 0 → segNum dir n ∈ ns
section
variable {F G : FsS} {dir : ByteArray} {ns : List Nat} {bs : List (List UInt8)} {b : List UInt8} {n : Nat}
theorem Laid.new (m : Int) (dir : ByteArray) : Laid (FsS.new m) dir [] [] := ⟨List.Pairwise.nil, List.Pairwise.nil, fun n hn => by simp at hn, rfl, fun i n b hn => by simp at hn, fun n x hx => by cases hx⟩
theorem Laid.nums (h : Laid F dir ns bs) : (segNums F dir).filter (fun n => decide (n ≠ 0)) = ns := by
  have hs : (namesL (dirOf dir) F.files).Pairwise fun a b => slt a b = true := by
    unfold namesL
    rw [List.pairwise_map]
    exact h.rise.filter _
  have hm : ∀ a, a ∈ (namesL (dirOf dir) F.files).filter (fun n => decide (segNum dir n ≠ 0)) → segNum dir a ≠ 0 ∧ (∃ x, F.find a = some x) := by
    intro a ha
    rw [List.mem_filter] at ha
    obtain ⟨h1, h2⟩ := ha
    refine ⟨by simpa using h2, ?_⟩
    unfold namesL at h1
    obtain ⟨y, hy, rfl⟩ := List.mem_map.1 h1
    exact ⟨y.2, (mem_files h.rise).1 (List.mem_filter.1 hy).1⟩
  have e : (segNums F dir).filter (fun n => decide (n ≠ 0)) = ((namesL (dirOf dir) F.files).filter (fun n => decide (segNum dir n ≠ 0))).map (segNum dir) := by
    unfold segNums
    rw [List.filter_map]
    rfl
  rw [e]
  refine sorted_ext _ _ ?_ h.sort fun n => ⟨fun hn => ?_, fun hn => ?_⟩
  · rw [List.pairwise_map]
    refine (hs.filter _).imp_of_mem fun {a b} ha hb hab => ?_
    have ea := name_of_num dir a (hm a ha).1
    have eb := name_of_num dir b (hm b hb).1
    rw [ea, eb, slt_seg dir (segNum_lt dir a) (segNum_lt dir b)] at hab
    exact of_decide_eq_true hab
  · obtain ⟨a, ha, rfl⟩ := List.mem_map.1 hn
    obtain ⟨h1, x, h2⟩ := hm a ha
    exact h.only a x h2 h1
  · obtain ⟨i, hi⟩ := List.getElem?_of_mem hn
    have hil := (List.getElem?_eq_some_iff.1 hi).1
    have hf := h.at_ i n _ hi (List.getElem?_eq_getElem (l := bs) (i := i) (by have := h.len; omega))
    have hp := h.pos n hn
    refine List.mem_map.2 ⟨segName dir n, ?_, segNum_name dir hp.2⟩
    rw [List.mem_filter]
    refine ⟨?_, by rw [segNum_name dir hp.2]; simp; omega⟩
    unfold namesL
    exact List.mem_map.2 ⟨_, List.mem_filter.2 ⟨(mem_files h.rise).2 hf, dir_front dir n⟩, rfl⟩
/-- Another segment behind the others. -/
theorem Laid.more (h : Laid F dir ns bs) (hn : ∀ m ∈ ns, m < n) (h1 : 1 ≤ n) (h8 : n < 100000000) (hf : G.files = putL slt F.files (segName dir n) ⟨b, 0⟩) : Laid G dir (ns ++ [n]) (bs ++ [b]) := by
  have hfp := find_put h.rise hf
  refine ⟨by rw [hf]; exact rise_putL slt_ord h.rise _ _, ?_, fun m hm => ?_, by simp [h.len], fun i m c hm hc => ?_, fun m x hx hz => ?_⟩
  · rw [List.pairwise_append]
    exact ⟨h.sort, List.pairwise_singleton _ _, fun a ha c hc => by rw [List.mem_singleton.1 hc]; exact hn a ha⟩
  · rcases List.mem_append.1 hm with e | e
    · exact h.pos m e
    · rw [List.mem_singleton.1 e]; exact ⟨h1, h8⟩
  · rw [hfp]
    by_cases hi : i < ns.length
    · rw [List.getElem?_append_left hi] at hm
      rw [List.getElem?_append_left (by rw [← h.len]; exact hi)] at hc
      have hmem := List.mem_of_getElem? hm
      rw [if_neg (fun e => by have := segName_inj dir (h.pos m hmem).2 h8 e; have := hn m hmem; omega)]
      exact h.at_ i m c hm hc
    · have hl := (List.getElem?_eq_some_iff.1 hm).1
      rw [List.length_append, List.length_singleton] at hl
      obtain rfl : i = ns.length := by omega
      rw [List.getElem?_append_right (Nat.le_refl _), Nat.sub_self] at hm
      rw [h.len, List.getElem?_append_right (Nat.le_refl _), Nat.sub_self] at hc
      simp only [List.getElem?_cons_zero, Option.some.injEq] at hm hc
      subst hm hc
      rw [if_pos rfl]
  · rw [hfp] at hx
    split at hx
    · rename_i e
      subst e
      rw [segNum_name dir h8]
      simp
    · exact List.mem_append_left _ (h.only m x hx hz)
theorem Laid.other (h : Laid F dir ns bs) {m : ByteArray} {y : FileS} (hm : segNum dir m = 0) (hf : G.files = putL slt F.files m y) : Laid G dir ns bs := by
  have hfp := find_put h.rise hf
  refine ⟨by rw [hf]; exact rise_putL slt_ord h.rise _ _, h.sort, h.pos, h.len, fun i n b hn hb => ?_, fun n x hx hz => ?_⟩
  · have hp := h.pos n (List.mem_of_getElem? hn)
    rw [hfp, if_neg (fun e => by have := segNum_name dir hp.2; rw [e, hm] at this; omega)]
    exact h.at_ i n b hn hb
  · rw [hfp] at hx
    split at hx
    · rename_i e; subst e; exact absurd hm hz
    · exact h.only n x hx hz
theorem Laid.free (h : Laid F dir ns bs) (hn : ∀ m ∈ ns, m < n) (h1 : 1 ≤ n) (h8 : n < 100000000) : F.find (segName dir n) = none := by
  cases hx : F.find (segName dir n) with
  | none => rfl
  | some x =>
    have := h.only _ x hx
    rw [segNum_name dir h8] at this
    have := hn n (this (by omega))
    omega
/-- Without a gap. -/
theorem Laid.segs {first : Nat} (h : Laid F dir (List.range' first bs.length) bs) (h1 : 1 ≤ first) (h8 : first + bs.length ≤ 100000000) : Segs F dir first (bs.map fun b => ⟨b, 0⟩) := by
  refine ⟨h.rise, h1, by rw [List.length_map]; exact h8, fun i d hd => ?_, fun n x hx hz => ?_⟩
  · rw [List.getElem?_map] at hd
    obtain ⟨c, hc, rfl⟩ := Option.map_eq_some_iff.1 hd
    have hi := (List.getElem?_eq_some_iff.1 hc).1
    exact h.at_ i (first + i) c (by rw [List.getElem?_range' hi]; congr 1; omega) hc
  · have := h.only n x hx hz
    rw [List.mem_range'_1] at this
    rw [List.length_map]
    exact this
theorem scan_gap {f a c : Nat} (hf : 1 ≤ f) (ha : 0 < a) (hc : 0 < c) : scanNums (List.range' f a ++ List.range' (f + a + 1) c) 0 0 = none := by
  have key : ∀ (a l : Nat), scanNums (List.range' (l + 1) a ++ List.range' (l + 1 + a + 1) c) f l = none := by
    intro a
    induction a with
    | zero =>
      intro l
      obtain ⟨c, rfl⟩ : ∃ e, c = e + 1 := ⟨c - 1, by omega⟩
      rw [List.range'_zero, List.nil_append, List.range'_succ, scanNums_gap _ (by omega) (by omega) (by omega)]
    | succ a ih =>
      intro l
      rw [List.range'_succ, List.cons_append, scanNums_next _ (by omega) (by omega) rfl]
      have := ih (l + 1)
      rwa [show l + 1 + 1 + a + 1 = l + 1 + (a + 1) + 1 by omega] at this
  obtain ⟨a, rfl⟩ : ∃ e, a = e + 1 := ⟨a - 1, by omega⟩
  rw [List.range'_succ, List.cons_append, scanNums_first _ (by omega) rfl]
  have := key a f
  rwa [show f + 1 + a + 1 = f + (a + 1) + 1 by omega] at this
theorem Laid.gap {f a c : Nat} (h : Laid F dir (List.range' f a ++ List.range' (f + a + 1) c) bs) (hf : 1 ≤ f) (ha : 0 < a) (hc : 0 < c) : scanNums (segNums F dir) 0 0 = none := by
  rw [scanNums_filter, h.nums, scan_gap hf ha hc]
theorem open_gap {size : Int} (hok : okName (segName dir 1) = true) (h16 : 16 ≤ size) (h20 : size ≤ 1048576) (hd : F.down = false) (h : scanNums (segNums F dir) 0 0 = none) : openL F dir size = (F, ⟨dir, size, 0, 0, 0, false⟩, [], 14) := by
  unfold openL
  rw [if_neg (by simp [hok]), if_neg (by omega), if_neg (by simp [hd]), h]
theorem open_down {size : Int} (hok : okName (segName dir 1) = true) (h16 : 16 ≤ size) (h20 : size ≤ 1048576) (hd : F.down = true) : openL F dir size = (F, ⟨dir, size, 0, 0, 0, false⟩, [], 5) := by
  unfold openL
  rw [if_neg (by simp [hok]), if_neg (by omega), if_pos hd]
/-- A segment ahead of the last one is not whole. -/
theorem read_bad {last cut : Nat} : ∀ (ds : List FileS) (n : Nat) (out : List (List UInt8)) (c : Nat), (∀ i d, ds[i]? = some d → F.find (segName dir (n + i)) = some d) → n + ds.length ≤ last → (∃ d ∈ ds, ¬ Whole_ d) → readF dir last (ds.length + c) n F cut out = (F, cut, [], 14)
  | [], _, _, _, _, _, ⟨d, hd, _⟩ => by simp at hd
  | d :: r, n, out, c, h, hl, hb => by
    have h0 := h 0 d rfl
    rw [Nat.add_zero] at h0
    rw [List.length_cons] at hl
    rw [show (d :: r).length + c = (r.length + c) + 1 by simp; omega]
    by_cases hw : Whole_ d
    · rw [readF_whole rfl h0 hw]
      refine read_bad r (n + 1) _ c (fun i e hi => by have := h (i + 1) e (by simpa using hi); rwa [show n + 1 + i = n + (i + 1) by omega]) (by omega) ?_
      obtain ⟨e, he, hn⟩ := hb
      rcases List.mem_cons.1 he with h3 | h3
      · subst h3; exact absurd hw hn
      · exact ⟨e, h3, hn⟩
    · exact readF_bad rfl h0 hw (by omega)
theorem open_bad {size : Int} {first : Nat} {ds : List FileS} {x : FileS} (hs : Segs F dir first (ds ++ [x])) (hok : okName (segName dir 1) = true) (h16 : 16 ≤ size) (h20 : size ≤ 1048576) (hd : F.down = false) (hb : ∃ d ∈ ds, ¬ Whole_ d) : (openL F dir size).1 = F ∧ (openL F dir size).2.2 = ([], 14) := by
  have hpos := hs.pos
  have hn := hs.nums (by simp)
  have hlen : (ds ++ [x]).length = ds.length + 1 := by simp
  rw [hlen, show first + (ds.length + 1) - 1 = first + ds.length by omega] at hn
  have hO : openL F dir size = openR F dir size first (first + ds.length) := by
    unfold openL
    rw [if_neg (by simp [hok]), if_neg (by omega), if_neg (by simp [hd]), hn]
    simp only
    rw [if_neg (by omega)]
  have hrd := read_bad (F := F) (dir := dir) (last := first + ds.length) (cut := 0) ds first [] 1 (fun i d hi => hs.at_ i d (by rw [List.getElem?_append_left (List.getElem?_eq_some_iff.1 hi).1]; exact hi)) (Nat.le_refl _) hb
  unfold openR at hO
  rw [show first + ds.length + 1 - first = ds.length + 1 by omega, hrd] at hO
  rw [hO]
  exact ⟨rfl, rfl⟩
end
end Go.Proofs.Ythbfkjmpaifblaa
