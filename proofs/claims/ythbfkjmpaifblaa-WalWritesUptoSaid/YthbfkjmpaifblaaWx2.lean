/- Plain laws of a log's files: what the segments of a directory are, what Open finds in them. -/
import Derived.Test.YthbfkjmpaifblaaWr
import Derived.Test.YthbfkjmpaifblaaWx1
namespace Go.Proofs.Ythbfkjmpaifblaa
open Go.RowKit

theorem scanNums_filter : ∀ (ns : List Nat) (f l : Nat), scanNums ns f l = scanNums (ns.filter (fun n => decide (n ≠ 0))) f l
  | [], _, _ => rfl
  | n :: r, f, l => by
    by_cases hn : n = 0
    · rw [scanNums_zero r hn, List.filter_cons_of_neg (by simp [hn])]
      exact scanNums_filter r f l
    · rw [List.filter_cons_of_pos (by simp [hn])]
      by_cases hf : f = 0
      · rw [scanNums_first _ hn hf, scanNums_first _ hn hf]; exact scanNums_filter r n n
      · by_cases hg : n = l + 1
        · rw [scanNums_next _ hn hf hg, scanNums_next _ hn hf hg]; exact scanNums_filter r f n
        · rw [scanNums_gap _ hn hf hg, scanNums_gap _ hn hf hg]
theorem scanNums_on : ∀ (c f l : Nat), f ≠ 0 → scanNums (List.range' (l + 1) c) f l = some (f, l + c)
  | 0, _, _, _ => rfl
  | c + 1, f, l, hf => by
    rw [List.range'_succ, scanNums_next _ (by omega) hf rfl, scanNums_on c f (l + 1) hf]
    congr 2; omega
theorem scanNums_range (f c : Nat) (hf : 1 ≤ f) : scanNums (List.range' f (c + 1)) 0 0 = some (f, f + c) := by
  rw [List.range'_succ, scanNums_first _ (by omega) rfl, scanNums_on c f f (by omega)]
/-- The segments of a directory: their numbers follow one another. -/
structure Segs (F : FsS) (dir : ByteArray) (first : Nat) (ds : List FileS) : Prop where
  rise : Rise slt F.files
  pos : 1 ≤ first
  top : first + ds.length ≤ 100000000
  at_ : ∀ i d, ds[i]? = some d → F.find (segName dir (first + i)) = some d
  only : ∀ n x, F.find n = some x → segNum dir n ≠ 0 → first ≤ segNum dir n ∧ segNum dir n < first + ds.length
section
variable {F G : FsS} {dir : ByteArray} {first : Nat} {ds : List FileS} {d : FileS}
theorem mem_files {F : FsS} (hr : Rise slt F.files) {n : ByteArray} {x : FileS} : (n, x) ∈ F.files ↔ F.find n = some x :=
  ⟨fun h => findL_of_mem hr h, fun h => FsOk.find_mem h⟩
theorem Segs.names (h : Segs F dir first ds) : (namesL (dirOf dir) F.files).filter (fun n => decide (segNum dir n ≠ 0)) = (List.range' first ds.length).map (segName dir) := by
  have hs : (namesL (dirOf dir) F.files).Pairwise fun a b => slt a b = true := by
    unfold namesL
    rw [List.pairwise_map]
    exact h.rise.filter _
  obtain ⟨ns, hns⟩ : ∃ ns, ns = (namesL (dirOf dir) F.files).filter (fun n => decide (segNum dir n ≠ 0)) := ⟨_, rfl⟩
  have hm : ∀ a, a ∈ ns → segNum dir a ≠ 0 ∧ (∃ x, F.find a = some x) := by
    intro a ha
    rw [hns, List.mem_filter] at ha
    obtain ⟨h1, h2⟩ := ha
    refine ⟨by simpa using h2, ?_⟩
    unfold namesL at h1
    obtain ⟨y, hy, rfl⟩ := List.mem_map.1 h1
    exact ⟨y.2, (mem_files h.rise).1 (List.mem_filter.1 hy).1⟩
  have hp : (ns.map (segNum dir)).Pairwise (· < ·) := by
    rw [List.pairwise_map]
    have h1 : ns.Pairwise fun a b => slt a b = true := by rw [hns]; exact hs.filter _
    refine h1.imp_of_mem fun {a b} ha hb hab => ?_
    have ea := name_of_num dir a (hm a ha).1
    have eb := name_of_num dir b (hm b hb).1
    rw [ea, eb, slt_seg dir (segNum_lt dir a) (segNum_lt dir b)] at hab
    exact of_decide_eq_true hab
  have hr : ns.map (segNum dir) = List.range' first ds.length := by
    refine sorted_range _ _ _ hp fun n => ⟨fun hn => ?_, fun hn => ?_⟩
    · obtain ⟨a, ha, rfl⟩ := List.mem_map.1 hn
      obtain ⟨h1, x, h2⟩ := hm a ha
      exact h.only a x h2 h1
    · have hi : n - first < ds.length := by omega
      have hf := h.at_ (n - first) _ (List.getElem?_eq_getElem hi)
      rw [show first + (n - first) = n by omega] at hf
      have hn8 : n < 100000000 := by have := h.top; omega
      refine List.mem_map.2 ⟨segName dir n, ?_, segNum_name dir hn8⟩
      rw [hns, List.mem_filter]
      refine ⟨?_, by rw [segNum_name dir hn8]; have := h.pos; simp; omega⟩
      unfold namesL
      exact List.mem_map.2 ⟨_, List.mem_filter.2 ⟨(mem_files h.rise).2 hf, dir_front dir n⟩, rfl⟩
  rw [← hns, ← hr, List.map_map]
  conv => lhs; rw [← List.map_id ns]
  refine List.map_congr_left fun a ha => ?_
  exact name_of_num dir a (hm a ha).1
theorem Segs.nums (h : Segs F dir first ds) (hne : ds ≠ []) : scanNums (segNums F dir) 0 0 = some (first, first + ds.length - 1) := by
  have e : (segNums F dir).filter (fun n => decide (n ≠ 0)) = List.range' first ds.length := by
    unfold segNums
    rw [List.filter_map]
    have := h.names
    have e2 : ((fun n => decide (n ≠ 0)) ∘ segNum dir) = fun n => decide (segNum dir n ≠ 0) := rfl
    rw [e2, this, List.map_map]
    conv => rhs; rw [← List.map_id (List.range' first ds.length)]
    refine List.map_congr_left fun n hn => ?_
    rw [List.mem_range'_1] at hn
    exact segNum_name dir (by have := h.top; omega)
  rw [scanNums_filter, e]
  cases ds with
  | nil => exact absurd rfl hne
  | cons a r =>
    rw [List.length_cons, scanNums_range first r.length h.pos]
    congr 2
theorem Segs.empty (h : Segs F dir first []) : scanNums (segNums F dir) 0 0 = some (0, 0) := by
  have e : (segNums F dir).filter (fun n => decide (n ≠ 0)) = [] := by
    rw [List.filter_eq_nil_iff]
    intro n hn
    unfold segNums namesL at hn
    obtain ⟨a, ha, rfl⟩ := List.mem_map.1 hn
    obtain ⟨y, hy, rfl⟩ := List.mem_map.1 ha
    have := h.only y.1 y.2 ((mem_files h.rise).1 (List.mem_filter.1 hy).1)
    simp only [List.length_nil, Nat.add_zero] at this
    simp only [ne_eq, decide_not, Bool.not_eq_eq_eq_not, Bool.not_true, decide_eq_false_iff_not, Classical.not_not]
    apply Classical.byContradiction
    intro hc
    have := this hc
    omega
  rw [scanNums_filter, e]; rfl
/-- Is a file whole? -/
def Whole_ (d : FileS) : Prop := endOf (scanOf d.data) = d.data.length
theorem read_whole {last cut : Nat} : ∀ (ds : List FileS) (n : Nat) (out : List (List UInt8)), (∀ i d, ds[i]? = some d → F.find (segName dir (n + i)) = some d ∧ Whole_ d) → ∀ c, readF dir last (ds.length + c) n F cut out = readF dir last c (n + ds.length) F cut (out ++ ds.flatMap fun d => scanOf d.data)
  | [], n, out, _, c => by simp
  | d :: r, n, out, h, c => by
    have h0 := h 0 d rfl
    rw [Nat.add_zero] at h0
    rw [show (d :: r).length + c = (r.length + c) + 1 by simp; omega, readF_whole rfl h0.1 h0.2, read_whole r (n + 1) _ (fun i e hi => by have := h (i + 1) e (by simpa using hi); rwa [show n + 1 + i = n + (i + 1) by omega]) c]
    congr 1
    · simp; omega
    · simp
theorem Segs.read_all (h : Segs F dir first ds) (hw : ∀ d ∈ ds, Whole_ d) (last cut : Nat) : readF dir last ds.length first F cut [] = (F, cut, ds.flatMap fun d => scanOf d.data, 0) := by
  have := read_whole (F := F) (dir := dir) (last := last) (cut := cut) ds first [] (fun i d hd => ⟨h.at_ i d hd, hw d (List.mem_of_getElem? hd)⟩) 0
  rw [Nat.add_zero] at this
  rw [this]
  simp [readF]
end
end Go.Proofs.Ythbfkjmpaifblaa
