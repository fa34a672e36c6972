/- What the statements ask, as plain facts on the plain file system. No program. -/
import Derived.Test.YtmfiibehclbnjaaFsY
namespace Go.Proofs.Ytmfiibehclbnjaa

/-- Names and bytes. -/
def FsS.dataOf (F : FsS) : List (ByteArray × List UInt8) := F.files.map fun x => (x.1, x.2.data)
/-- All bytes are synced. -/
def AllSynced (F : FsS) : Prop := ∀ x ∈ F.files, x.2.synced = x.2.data.length
section
variable {F G : FsS} {k : Nat} {n : ByteArray} {x : FileS}
theorem FsOk.find_at (h : FsOk F k) {j : Nat} (hx : F.files[j]? = some (n, x)) : F.find n = some x := by
  obtain ⟨hj, he⟩ := List.getElem?_eq_some_iff.1 hx
  have hs : F.files = F.files.take j ++ (n, x) :: F.files.drop (j + 1) := by
    have := List.take_append_drop j F.files
    rw [List.drop_eq_getElem_cons hj, he] at this
    exact this.symm
  unfold FsS.find
  have hr := h.rise
  rw [hs] at hr ⊢
  exact findL_eq slt_ord hr
theorem FsOk.find_of_mem (h : FsOk F k) (hx : (n, x) ∈ F.files) : F.find n = some x := by
  obtain ⟨j, hj⟩ := List.getElem?_of_mem hx
  exact h.find_at hj
theorem crash_files (kf : ByteArray → Int → Int) : (F.crash kf).files = F.files.map fun x => (x.1, crashFile kf x.1 x.2) := by
  show crashTo kf F.files F.files.length = _
  unfold crashTo
  rw [List.take_length, List.drop_length, List.append_nil]
theorem crashFile_synced {kf : ByteArray → Int → Int} (hx : x.synced = x.data.length) : crashFile kf n x = x := by
  unfold crashFile
  rw [if_pos (by omega), hx, List.take_length]
  cases x
  simp only at hx
  rw [hx]
theorem crash_synced (h : FsOk F k) (kf : ByteArray → Int → Int) : AllSynced (F.crash kf) := by
  intro x hx
  rw [crash_files] at hx
  obtain ⟨y, hy, rfl⟩ := List.mem_map.1 hx
  exact (crashFile_le (kf := kf) (n := y.1) (h.synced y hy)).2.1
theorem crash_all (h : FsOk F k) (ha : AllSynced F) (kf : ByteArray → Int → Int) : F.crash kf = { F with armed := 0, down := false } := by
  have e : crashTo kf F.files F.files.length = F.files := by
    have h1 := crash_files (F := F) kf
    have h2 : (F.crash kf).files = crashTo kf F.files F.files.length := rfl
    rw [← h2, h1]
    refine (List.map_congr_left fun x hx => ?_).trans (List.map_id _)
    show (x.1, crashFile kf x.1 x.2) = x
    rw [crashFile_synced (ha x hx)]
  unfold FsS.crash FsS.crashAt
  rw [e, ← h.used]
theorem crash_down (kf : ByteArray → Int → Int) : (F.crash kf).down = false := rfl
theorem crash_armed (kf : ByteArray → Int → Int) : (F.crash kf).armed = 0 := rfl
theorem write_of {eff : FsS → FsS} (ha : F.armed = 0) : F.write eff = ({ eff F with steps := (eff F).steps + 1 }, 0) := by
  unfold FsS.write; rw [if_neg (by omega)]
theorem on_none {g : FileS → FsS × Int} (hd : F.down = false) (hx : F.find n = none) : F.on n g = (F, 2) := by unfold FsS.on; rw [if_neg (by simp [hd]), hx]
theorem on_some {g : FileS → FsS × Int} (hd : F.down = false) (hx : F.find n = some x) : F.on n g = g x := by unfold FsS.on; rw [if_neg (by simp [hd]), hx]
/-- What a file has been set to. -/
theorem find_set (h : FsOk F k) (y : FileS) : (F.set n y).find n = some y := by
  unfold FsS.find FsS.set
  simp only
  obtain ⟨a, b, e, hr⟩ : ∃ a b, putL slt F.files n y = a ++ (n, y) :: b ∧ Rise slt (a ++ (n, y) :: b) := ⟨_, _, rfl, rise_putL slt_ord h.rise n y⟩
  rw [e]
  exact findL_eq slt_ord hr
theorem findL_congr {l l' : List (ByteArray × FileS)} (hr : Rise slt l) (hr' : Rise slt l') (h : ∀ y, (n, y) ∈ l ↔ (n, y) ∈ l') : findL slt l n = findL slt l' n := by
  rcases find_split slt_ord l hr n with ⟨h1, h2⟩ | ⟨a, v, b, e, h1⟩
  · rcases find_split slt_ord l' hr' n with ⟨h3, _⟩ | ⟨a', v', b', e', h3⟩
    · rw [h1, h3]
    · exact absurd rfl (h2 _ ((h v').2 (by rw [e']; simp)))
  · rcases find_split slt_ord l' hr' n with ⟨_, h4⟩ | ⟨a', v', b', e', h3⟩
    · exact absurd rfl (h4 _ ((h v).1 (by rw [e]; simp)))
    · have hm : (n, v) ∈ l' := (h v).1 (by rw [e]; simp)
      rw [h1, h3]
      congr 1
      obtain ⟨c, d, e2⟩ := List.append_of_mem hm
      have : findL slt l' n = some v := by rw [e2] at hr' ⊢; exact findL_eq slt_ord hr'
      rw [h3] at this
      exact (Option.some.inj this).symm
theorem mem_putL {l : List (ByteArray × FileS)} {m : ByteArray} {y z : FileS} (hne : n ≠ m) : (n, z) ∈ putL slt l m y ↔ (n, z) ∈ l := by
  unfold putL
  have hb : (slt n m || slt m n) = true := by
    cases h1 : slt n m with
    | true => rfl
    | false =>
      cases h2 : slt m n with
      | true => rfl
      | false => exact absurd (slt_ord.eq _ _ h1 h2) hne
  simp only [List.mem_append, List.mem_cons, List.mem_filter, Prod.mk.injEq]
  constructor
  · rintro (⟨h, _⟩ | ⟨h, _⟩ | ⟨h, _⟩)
    · exact h
    · exact absurd h hne
    · exact h
  · intro h
    rcases Bool.or_eq_true_iff.1 hb with hb | hb
    · exact .inl ⟨h, hb⟩
    · exact .inr (.inr ⟨h, hb⟩)
theorem mem_dropL {l : List (ByteArray × FileS)} {m : ByteArray} {z : FileS} : (n, z) ∈ dropL slt l m ↔ (n, z) ∈ l ∧ n ≠ m := by
  unfold dropL
  simp only [List.mem_filter]
  constructor
  · rintro ⟨h, hb⟩
    refine ⟨h, ?_⟩
    rintro rfl
    simp [slt_ord.irr] at hb
  · rintro ⟨h, hne⟩
    refine ⟨h, ?_⟩
    cases h1 : slt n m with
    | true => rfl
    | false =>
      cases h2 : slt m n with
      | true => rfl
      | false => exact absurd (slt_ord.eq _ _ h1 h2) hne
theorem find_drop (h : Rise slt F.files) : findL slt (dropL slt F.files n) n = none := by
  rcases find_split slt_ord (dropL slt F.files n) (rise_dropL h n) n with ⟨h1, _⟩ | ⟨a, v, b, e, _⟩
  · exact h1
  · have : (n, v) ∈ dropL slt F.files n := by rw [e]; simp
    exact absurd rfl (mem_dropL.1 this).2
theorem sum_dataOf : F.dataOf = G.dataOf → F.files.map (·.1) = G.files.map (·.1) := by
  intro h
  have := congrArg (List.map Prod.fst) h
  unfold FsS.dataOf at this
  rw [List.map_map, List.map_map] at this
  exact this
theorem dataOf_at (h : F.dataOf = G.dataOf) {j : Nat} (hx : F.files[j]? = some (n, x)) : ∃ y, G.files[j]? = some (n, y) ∧ y.data = x.data := by
  have h1 : F.dataOf[j]? = some (n, x.data) := by unfold FsS.dataOf; rw [List.getElem?_map, hx]; rfl
  rw [h] at h1
  unfold FsS.dataOf at h1
  rw [List.getElem?_map] at h1
  obtain ⟨⟨m, y⟩, hy, e⟩ := Option.map_eq_some_iff.1 h1
  simp only [Prod.mk.injEq] at e
  obtain ⟨rfl, e⟩ := e
  exact ⟨y, hy, e⟩
end
end Go.Proofs.Ytmfiibehclbnjaa
