/- A crash, as plain data. No program. -/
import Derived.Test.YtmfiibehclbnjaaFsK
namespace Go.Proofs.Ytmfiibehclbnjaa
/-- How many bytes of a file a crash leaves, if keep says so many. -/
def leftOfFile (x : FileS) (kept : Int) : Nat := x.synced + (min (max kept 0) ((x.data.length : Int) - x.synced)).toNat
def crashFile (kf : ByteArray → Int → Int) (n : ByteArray) (x : FileS) : FileS :=
  if (x.data.length : Int) - x.synced ≤ 0 then ⟨x.data.take x.synced, (x.data.take x.synced).length⟩
  else ⟨x.data.take (leftOfFile x (kf n ((x.data.length : Int) - x.synced))), (x.data.take (leftOfFile x (kf n ((x.data.length : Int) - x.synced)))).length⟩
/-- Behind so many files. -/
def crashTo (kf : ByteArray → Int → Int) (l : List (ByteArray × FileS)) (i : Nat) : List (ByteArray × FileS) := (l.take i).map (fun x => (x.1, crashFile kf x.1 x.2)) ++ l.drop i
namespace FsS
def crashAt (F : FsS) (kf : ByteArray → Int → Int) (i : Nat) : FsS := { F with files := crashTo kf F.files i, used := sumLen (crashTo kf F.files i) }
def crash (F : FsS) (kf : ByteArray → Int → Int) : FsS := { F.crashAt kf F.files.length with armed := 0, down := false }
end FsS
section
variable {kf : ByteArray → Int → Int} {l : List (ByteArray × FileS)} {i : Nat} {n : ByteArray} {x : FileS}
theorem crashTo_zero : crashTo kf l 0 = l := by simp [crashTo]
theorem crashTo_split (h : l[i]? = some (n, x)) : crashTo kf l i = (l.take i).map (fun x => (x.1, crashFile kf x.1 x.2)) ++ (n, x) :: l.drop (i + 1) ∧
    crashTo kf l (i + 1) = (l.take i).map (fun x => (x.1, crashFile kf x.1 x.2)) ++ (n, crashFile kf n x) :: l.drop (i + 1) := by
  obtain ⟨hi, he⟩ := List.getElem?_eq_some_iff.1 h
  constructor
  · unfold crashTo
    rw [List.drop_eq_getElem_cons hi, he]
  · unfold crashTo
    rw [List.take_succ_eq_append_getElem hi, List.map_append, he]
    simp
theorem crashFile_le (hs : x.synced ≤ x.data.length) : (crashFile kf n x).data.length ≤ x.data.length ∧ (crashFile kf n x).synced = (crashFile kf n x).data.length ∧ x.synced ≤ (crashFile kf n x).data.length := by
  unfold crashFile
  split
  · refine ⟨?_, rfl, ?_⟩ <;> simp only [List.length_take] <;> omega
  · generalize hq : leftOfFile x _ = q
    have hq2 : x.synced ≤ q := by rw [← hq]; unfold leftOfFile; omega
    refine ⟨?_, rfl, ?_⟩ <;> simp only [List.length_take] <;> omega
theorem rise_crashTo (h : Rise slt l) : Rise slt (crashTo kf l i) := by
  have e : (crashTo kf l i).map (·.1) = l.map (·.1) := by
    unfold crashTo
    rw [List.map_append, List.map_map]
    conv => rhs; rw [← List.take_append_drop i l, List.map_append]
    rfl
  unfold Rise at *
  have h1 : (l.map (·.1)).Pairwise (fun a b => slt a b = true) := by rw [List.pairwise_map]; exact h
  rw [← e, List.pairwise_map] at h1
  exact h1
theorem crashAt_step {F : FsS} (hr : Rise slt F.files) (h : F.files[i]? = some (n, x)) (hs : x.synced ≤ x.data.length) (k : Nat) (hk : k ≤ x.data.length) (hc : crashFile kf n x = ⟨x.data.take k, k⟩) :
    (((F.crashAt kf i).cut n x k).set n ⟨x.data.take k, k⟩) = F.crashAt kf (i + 1) := by
  obtain ⟨e1, e2⟩ := crashTo_split (kf := kf) h
  have hr1 := rise_crashTo (kf := kf) (i := i) hr
  rw [e1] at hr1
  unfold FsS.crashAt FsS.cut FsS.set
  simp only
  have ef : putL slt (putL slt (crashTo kf F.files i) n ⟨x.data.take k, min x.synced k⟩) n ⟨x.data.take k, k⟩ = crashTo kf F.files (i + 1) := by
    rw [e1, putL_eq slt_ord hr1]
    have hr2 : Rise slt ((F.files.take i).map (fun x => (x.1, crashFile kf x.1 x.2)) ++ (n, (⟨x.data.take k, min x.synced k⟩ : FileS)) :: F.files.drop (i + 1)) := by
      have := rise_putL slt_ord hr1 n (⟨x.data.take k, min x.synced k⟩ : FileS)
      rwa [putL_eq slt_ord hr1] at this
    rw [putL_eq slt_ord hr2, e2, hc]
  rw [ef]
  congr 1
  rw [e1, e2, hc, sumLen_append, sumLen_append, sumLen_cons, sumLen_cons]
  simp only [List.length_take]
  omega
theorem crashAt_find {F : FsS} (hr : Rise slt F.files) (h : F.files[i]? = some (n, x)) : (F.crashAt kf i).find n = some x := by
  obtain ⟨e1, _⟩ := crashTo_split (kf := kf) h
  have hr1 := rise_crashTo (kf := kf) (i := i) hr
  unfold FsS.find FsS.crashAt
  simp only
  rw [e1] at hr1 ⊢
  exact findL_eq slt_ord hr1
theorem crashAt_len (hs : ∀ x ∈ l, x.2.synced ≤ x.2.data.length) : ∀ i, sumLen (crashTo kf l i) ≤ sumLen l := by
  intro i
  have h1 : ∀ m : List (ByteArray × FileS), (∀ x ∈ m, x.2.synced ≤ x.2.data.length) → sumLen (m.map (fun x => (x.1, crashFile kf x.1 x.2))) ≤ sumLen m := by
    intro m
    induction m with
    | nil => intro _; exact Int.le_refl _
    | cons y m ih =>
      intro hm
      rw [List.map_cons, sumLen_cons, sumLen_cons]
      have := ih (fun x hx => hm x (by simp [hx]))
      have := (crashFile_le (kf := kf) (n := y.1) (hm y (by simp))).1
      simp only
      omega
  unfold crashTo
  rw [sumLen_append]
  have e : sumLen l = sumLen (l.take i) + sumLen (l.drop i) := by rw [← sumLen_append, List.take_append_drop]
  have := h1 (l.take i) (fun x hx => hs x (List.mem_of_mem_take hx))
  omega
end
end Go.Proofs.Ytmfiibehclbnjaa
