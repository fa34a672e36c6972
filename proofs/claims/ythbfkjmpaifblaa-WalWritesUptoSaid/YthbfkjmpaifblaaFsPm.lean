/- What the statements ask, as plain facts on the plain file system: cuts, renames, writes behind a crash. No program. -/
import Derived.Test.YthbfkjmpaifblaaFsPl
namespace Go.Proofs.Ythbfkjmpaifblaa
section
variable {F G : FsS} {k : Nat} {n : ByteArray} {x y : FileS} {l : List (ByteArray × FileS)}
theorem findL_of_mem (hr : Rise slt l) (h : (n, y) ∈ l) : findL slt l n = some y := by
  obtain ⟨a, b, e⟩ := List.append_of_mem h
  rw [e] at hr ⊢
  exact findL_eq slt_ord hr
theorem findL_putL (hr : Rise slt l) : findL slt (putL slt l n y) n = some y := by
  obtain ⟨a, b, e, hr⟩ : ∃ a b, putL slt l n y = a ++ (n, y) :: b ∧ Rise slt (a ++ (n, y) :: b) := ⟨_, _, rfl, rise_putL slt_ord hr n y⟩
  rw [e]
  exact findL_eq slt_ord hr
theorem findL_putL_ne (hr : Rise slt l) {m : ByteArray} (hne : n ≠ m) : findL slt (putL slt l m y) n = findL slt l n := findL_congr (rise_putL slt_ord hr m y) hr fun _ => mem_putL hne
theorem findL_dropL_ne (hr : Rise slt l) {m : ByteArray} (hne : n ≠ m) : findL slt (dropL slt l m) n = findL slt l n := findL_congr (rise_dropL hr m) hr fun _ => ⟨fun h => (mem_dropL.1 h).1, fun h => mem_dropL.2 ⟨h, hne⟩⟩
theorem findL_dropL (hr : Rise slt l) : findL slt (dropL slt l n) n = none := by
  rcases find_split slt_ord (dropL slt l n) (rise_dropL hr n) n with ⟨h1, _⟩ | ⟨a, v, b, e, _⟩
  · exact h1
  · have : (n, v) ∈ dropL slt l n := by rw [e]; simp
    exact absurd rfl (mem_dropL.1 this).2
theorem synced_putL (hr : Rise slt l) (ha : ∀ z ∈ l, z.2.synced = z.2.data.length) (hy : y.synced = y.data.length) : ∀ z ∈ putL slt l n y, z.2.synced = z.2.data.length := by
  rintro ⟨m, z⟩ hz
  by_cases hn : m = n
  · subst hn
    have h1 := findL_of_mem (rise_putL slt_ord hr m y) hz
    rw [findL_putL hr] at h1
    obtain rfl := Option.some.inj h1
    exact hy
  · exact ha _ ((mem_putL hn).1 hz)
theorem crash_find_all (h : FsOk F k) (ha : AllSynced F) (kf : ByteArray → Int → Int) : (F.crash kf).find n = F.find n := by rw [crash_all h ha]; rfl

/-- A file of which all is synced is cut. -/
theorem trunc_plain (h : FsOk F k) (ha : AllSynced F) (hd : F.down = false) (h0 : F.armed = 0) (hx : F.find n = some x) {m : Nat} (hm : m ≤ x.data.length) (kf : ByteArray → Int → Int) :
    (F.truncate n m).2 = 0 ∧ ((F.truncate n m).1.crash kf).find n = some ⟨x.data.take m, m⟩ ∧ ((F.truncate n m).1.crash kf).used = F.used - x.data.length + m := by
  have hs : x.synced = x.data.length := ha _ (FsOk.find_mem hx)
  have hok := h.truncate n (m : Int)
  have e : F.truncate n m = ({ F.cut n x m with steps := F.steps + 1 }, 0) := by
    unfold FsS.truncate
    rw [on_some hd hx, if_neg (by omega), write_of h0]
    simp only [Int.toNat_natCast]
    rfl
  have hmin : min x.synced m = m := by omega
  have hl : (x.data.take m).length = m := by rw [List.length_take]; omega
  have hall : AllSynced (F.truncate n m).1 := by
    rw [e]
    exact synced_putL h.rise ha (by simp only [hl, hmin])
  refine ⟨by rw [e], ?_, ?_⟩
  · rw [crash_find_all hok hall, e]
    show findL slt (putL slt F.files n ⟨x.data.take m, min x.synced m⟩) n = _
    rw [findL_putL h.rise, hmin]
  · rw [crash_all hok hall, e]
    show F.used - (x.data.length - m) = _
    omega
theorem trunc_none (hd : F.down = false) (hx : F.find n = none) (m : Int) : F.truncate n m = (F, 2) := on_none hd hx
theorem trunc_range (hd : F.down = false) (hx : F.find n = some x) {m : Int} (hm : m < 0 ∨ (x.data.length : Int) < m) : F.truncate n m = (F, 6) := by
  unfold FsS.truncate
  rw [on_some hd hx, if_pos hm]
end
end Go.Proofs.Ythbfkjmpaifblaa
