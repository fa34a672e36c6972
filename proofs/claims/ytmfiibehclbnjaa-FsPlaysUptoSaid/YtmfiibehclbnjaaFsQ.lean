/- Every operation keeps what holds always. No program. -/
import Derived.Test.YtmfiibehclbnjaaFsO
namespace Go.Proofs.Ytmfiibehclbnjaa

theorem sumLen_perm {l l' : List (ByteArray × FileS)} (h : l.Perm l') : sumLen l = sumLen l' := by
  induction h with
  | nil => rfl
  | cons x _ ih => rw [sumLen_cons, sumLen_cons, ih]
  | swap x y l => rw [sumLen_cons, sumLen_cons, sumLen_cons, sumLen_cons]; omega
  | trans _ _ h1 h2 => exact h1.trans h2
abbrev FileOk (x : ByteArray × FileS) : Prop := x.2.synced ≤ x.2.data.length ∧ okName x.1 = true
section
variable {F : FsS} {k : Nat} {n : ByteArray} {x y : FileS}
theorem FsOk.all (h : FsOk F k) : ∀ x ∈ F.files, FileOk x := fun x hx => ⟨h.synced x hx, h.valid x hx⟩
theorem FsOk.mono (h : FsOk F k) {k' : Nat} (hk : k ≤ k') : FsOk F k' := { h with steps1 := by have := h.steps1; omega }
/-- Its files are others. -/
theorem FsOk.re (h : FsOk F k) {l : List (ByteArray × FileS)} {u : Int} (hr : Rise slt l) (hu : u = sumLen l) (hf : u ≤ F.room) (ha : ∀ x ∈ l, FileOk x) (hl : l.length ≤ 400) : FsOk { F with files := l, used := u } k :=
  { rise := hr, room0 := h.room0, room1 := h.room1, used := hu, fits := hf, synced := fun x hx => (ha x hx).1, armed0 := h.armed0, armed1 := h.armed1, steps0 := h.steps0, steps1 := h.steps1, few := hl, valid := fun x hx => (ha x hx).2 }
theorem FsOk.arm (h : FsOk F k) {a : Int} (h0 : 0 ≤ a) (h1 : a ≤ 9223372036854775807) : FsOk { F with armed := a } k := { h with armed0 := h0, armed1 := h1 }
theorem FsOk.write (h : FsOk F k) {eff : FsS → FsS} (he : ∀ a, 0 ≤ a → a ≤ 9223372036854775807 → FsOk (eff { F with armed := a }) k) : FsOk (F.write eff).1 (k + 1) := by
  have fin : ∀ a, 0 ≤ a → a ≤ 9223372036854775807 → FsOk { eff { F with armed := a } with steps := (eff { F with armed := a }).steps + 1 } (k + 1) := fun a h0 h1 =>
    { he a h0 h1 with steps0 := by have := (he a h0 h1).steps0; show 0 ≤ _ + 1; omega, steps1 := by have := (he a h0 h1).steps1; show _ + 1 ≤ _; omega }
  unfold FsS.write
  have h0 := h.armed0
  have h1 := h.armed1
  split
  · split
    · exact { (h.arm (a := 0) (by omega) (by omega)).mono (Nat.le_succ k) with }
    · exact fin _ (by omega) (by omega)
  · exact fin _ h0 h1
/-- A file is another. -/
theorem FsOk.put (h : FsOk F k) (hx : F.find n = some x) (hy : y.synced ≤ y.data.length) (hfit : F.used - x.data.length + y.data.length ≤ F.room) : FsOk { F with files := putL slt F.files n y, used := F.used - x.data.length + y.data.length } k := by
  have h1 := putL_perm slt_ord F.files n y
  have h2 := putL_self slt_ord h.rise hx
  have e1 := sumLen_perm h1
  have e2 := sumLen_perm h2
  rw [sumLen_cons] at e1 e2
  have hu := h.used
  have hv : okName n = true := h.valid _ (FsOk.find_mem hx)
  refine h.re (rise_putL slt_ord h.rise n y) (by simp only at e1 e2; omega) hfit (fun z hz => ?_) ?_
  · rcases List.mem_cons.1 (h1.mem_iff.1 hz) with rfl | hz
    · exact ⟨hy, hv⟩
    · exact h.all z ((dropL_sub _ _).subset hz)
  · have e3 := h1.length_eq
    have e4 := h2.length_eq
    have := h.few
    simp only [List.length_cons] at e3 e4
    omega
theorem FsOk.drop (h : FsOk F k) (hx : F.find n = some x) : FsOk { F with used := F.used - x.data.length, files := dropL slt F.files n } k := by
  have h2 := putL_self slt_ord h.rise hx
  have e2 := sumLen_perm h2
  rw [sumLen_cons] at e2
  have hu := h.used
  have hf := h.fits
  refine h.re (rise_dropL h.rise n) (by simp only at e2; omega) (by omega) (fun z hz => h.all z ((dropL_sub _ _).subset hz)) (Nat.le_trans (dropL_sub _ _).length_le h.few)
theorem FsOk.new (h : FsOk F k) (hx : F.find n = none) (hv : okName n = true) (hl : F.files.length < 400) : FsOk (F.set n ⟨[], 0⟩) k := by
  have h1 := putL_perm slt_ord F.files n (⟨[], 0⟩ : FileS)
  have h2 : dropL slt F.files n = F.files := by
    unfold dropL
    rw [List.filter_eq_self]
    intro z hz
    unfold FsS.find findL at hx
    rw [Option.map_eq_none_iff, List.find?_eq_none] at hx
    have := hx z hz
    cases c1 : slt z.1 n <;> cases c2 : slt n z.1 <;> simp_all
  rw [h2] at h1
  have e1 := sumLen_perm h1
  rw [sumLen_cons] at e1
  have hu := h.used
  have e3 := h1.length_eq
  simp only [List.length_cons] at e3
  have := h.re (l := putL slt F.files n ⟨[], 0⟩) (u := F.used) (rise_putL slt_ord h.rise n _) (by simp only [List.length_nil] at e1; omega) h.fits (fun z hz => by
    rcases List.mem_cons.1 (h1.mem_iff.1 hz) with rfl | hz
    · exact ⟨Nat.le_refl _, hv⟩
    · exact h.all z hz) (by omega)
  exact this
theorem FsOk.on (h : FsOk F k) {g : FileS → FsS × Int} (hg : ∀ x, F.find n = some x → FsOk (g x).1 (k + 1)) : FsOk (F.on n g).1 (k + 1) := by
  unfold FsS.on
  split
  · exact h.mono (Nat.le_succ k)
  · cases hx : F.find n with
    | none => exact h.mono (Nat.le_succ k)
    | some x => exact hg x hx
theorem FsOk.sync (h : FsOk F k) (n : ByteArray) : FsOk (F.sync n).1 (k + 1) := h.on fun x hx => h.write fun a h0 h1 => by
  have := (h.arm h0 h1).put (n := n) (x := x) (y := ⟨x.data, x.data.length⟩) hx (Nat.le_refl _) (by have := h.fits; show F.used - (x.data.length : Int) + (x.data.length : Int) ≤ F.room; omega)
  have e : F.used - x.data.length + (⟨x.data, x.data.length⟩ : FileS).data.length = F.used := by simp only; omega
  simp only at this e
  rw [e] at this
  exact this
theorem FsOk.append (h : FsOk F k) (n : ByteArray) (b : List UInt8) : FsOk (F.append n b).1 (k + 1) := h.on fun x hx => by
  split
  · exact h.mono (Nat.le_succ k)
  · rename_i hfit
    refine h.write fun a h0 h1 => ?_
    have hs : x.synced ≤ x.data.length := h.synced _ (FsOk.find_mem hx)
    have hl : (x.data ++ b).length = x.data.length + b.length := List.length_append
    have := (h.arm h0 h1).put (n := n) (x := x) (y := ⟨x.data ++ b, x.synced⟩) hx (by show x.synced ≤ (x.data ++ b).length; omega) (by show F.used - (x.data.length : Int) + ((x.data ++ b).length : Nat) ≤ F.room; omega)
    have e : F.used - x.data.length + ((x.data ++ b).length : Nat) = F.used + b.length := by rw [List.length_append]; omega
    simp only at this
    rw [e] at this
    exact this
theorem FsOk.cut (h : FsOk F k) (hx : F.find n = some x) {c : Nat} (hc : c ≤ x.data.length) : FsOk (F.cut n x c) k := by
  have hs := h.synced _ (FsOk.find_mem hx)
  simp only at hs
  have hl : (x.data.take c).length = c := by rw [List.length_take]; omega
  have := h.put (n := n) (x := x) (y := ⟨x.data.take c, min x.synced c⟩) hx (by simp only [hl]; omega) (by have := h.fits; simp only [hl]; omega)
  have e : F.used - x.data.length + ((x.data.take c).length : Nat) = F.used - (x.data.length - c) := by rw [hl]; omega
  simp only at this
  rw [e] at this
  exact this
theorem FsOk.truncate (h : FsOk F k) (n : ByteArray) (m : Int) : FsOk (F.truncate n m).1 (k + 1) := h.on fun x hx => by
  split
  · exact h.mono (Nat.le_succ k)
  · exact h.write fun a h0 h1 => (h.arm h0 h1).cut hx (by omega)
theorem FsOk.remove (h : FsOk F k) (n : ByteArray) : FsOk (F.remove n).1 (k + 1) := h.on fun x hx => h.write fun a h0 h1 => (h.arm h0 h1).drop hx
theorem FsOk.create (h : FsOk F k) (n : ByteArray) : FsOk (F.create n).1 (k + 1) := by
  unfold FsS.create
  split
  · exact h.mono (Nat.le_succ k)
  split
  · exact h.mono (Nat.le_succ k)
  split
  · exact h.mono (Nat.le_succ k)
  split
  · exact h.mono (Nat.le_succ k)
  · rename_i h1 h2 h3 h4
    refine h.write fun a h5 h6 => (h.arm h5 h6).new ?_ ?_ (by show F.files.length < 400; omega)
    · show F.find n = none
      simpa using h3
    · simpa using h2
theorem FsOk.moved (h : FsOk F k) {a b : ByteArray} (hx : F.find a = some x) (hv : okName b = true) : FsOk (F.moved a b x) k := by
  unfold FsS.moved
  split
  · exact h
  · rename_i hne
    have hs := h.synced _ (FsOk.find_mem hx)
    have p1 := putL_perm slt_ord F.files b x
    have hb : (slt b a || slt a b) = true := by
      cases h1 : slt b a with
      | true => rfl
      | false =>
        cases h2 : slt a b with
        | true => rfl
        | false => exact absurd (slt_ord.eq _ _ h2 h1) hne
    have p2 : (dropL slt (putL slt F.files b x) a).Perm ((b, x) :: dropL slt (dropL slt F.files b) a) := by
      have := p1.filter (fun z => slt z.1 a || slt a z.1)
      rw [List.filter_cons, if_pos hb] at this
      exact this
    have pa : (dropL slt F.files b).Perm ((a, x) :: dropL slt (dropL slt F.files b) a) := by
      refine putL_self slt_ord (rise_dropL h.rise b) ?_
      obtain ⟨A, B, e⟩ := findL_split slt_ord hx
      have hr := h.rise
      rw [e] at hr ⊢
      unfold dropL
      rw [List.filter_append, List.filter_cons, if_pos (by simpa [Bool.or_comm] using hb)]
      refine findL_eq slt_ord ?_
      have := hr.filter (fun z => slt z.1 b || slt b z.1)
      rw [List.filter_append, List.filter_cons, if_pos (by simpa [Bool.or_comm] using hb)] at this
      exact this
    have e1 := sumLen_perm p2
    have e2 := sumLen_perm pa
    rw [sumLen_cons] at e1 e2
    have hu := h.used
    have hf := h.fits
    have hl2 := p2.length_eq
    have hl3 := pa.length_eq
    simp only [List.length_cons] at hl2 hl3
    have hl4 := (dropL_sub (lt := slt) F.files b).length_le
    have hfew := h.few
    have hall : ∀ z ∈ dropL slt (putL slt F.files b x) a, FileOk z := by
      intro z hz
      rcases List.mem_cons.1 (p2.mem_iff.1 hz) with rfl | hz
      · exact ⟨hs, hv⟩
      · exact h.all z ((dropL_sub _ _).subset ((dropL_sub _ _).subset hz))
    have hr : Rise slt (dropL slt (putL slt F.files b x) a) := rise_dropL (rise_putL slt_ord h.rise b x) a
    cases hy : F.find b with
    | none =>
      have hd : dropL slt F.files b = F.files := by
        unfold dropL
        rw [List.filter_eq_self]
        intro z hz
        unfold FsS.find findL at hy
        rw [Option.map_eq_none_iff, List.find?_eq_none] at hy
        have := hy z hz
        cases c1 : slt z.1 b <;> cases c2 : slt b z.1 <;> simp_all
      have e3 : sumLen (dropL slt F.files b) = sumLen F.files := by rw [hd]
      exact h.re hr (by simp only at *; omega) (by simp only at *; omega) hall (by omega)
    | some y =>
      have e3 := sumLen_perm (putL_self slt_ord h.rise hy)
      rw [sumLen_cons] at e3
      exact h.re hr (by simp only at *; omega) (by simp only at *; omega) hall (by omega)
theorem FsOk.rename (h : FsOk F k) (a b : ByteArray) : FsOk (F.rename a b).1 (k + 1) := h.on fun x hx => by
  split
  · exact h.mono (Nat.le_succ k)
  · rename_i hv
    exact h.write fun c h0 h1 => (h.arm h0 h1).moved hx (by simpa using hv)
theorem FsOk.crash (h : FsOk F k) (kf : ByteArray → Int → Int) : FsOk (F.crash kf) k := by
  have hle := crashAt_len (kf := kf) h.synced F.files.length
  have e : crashTo kf F.files F.files.length = F.files.map (fun x => (x.1, crashFile kf x.1 x.2)) := by unfold crashTo; simp
  have h1 := h.re (l := crashTo kf F.files F.files.length) (u := sumLen (crashTo kf F.files F.files.length)) (rise_crashTo h.rise) rfl (by have := h.used; have := h.fits; omega) (by
    rw [e]
    intro z hz
    obtain ⟨y, hy, rfl⟩ := List.mem_map.1 hz
    have := crashFile_le (kf := kf) (n := y.1) (h.synced y hy)
    exact ⟨by simp only; omega, h.valid y hy⟩) (by rw [e, List.length_map]; exact h.few)
  exact { h1.arm (a := 0) (by omega) (by omega) with }
end
end Go.Proofs.Ytmfiibehclbnjaa
