/- What the walks of the statements on package store use: batches' weights, one batch among few, crashes. -/
import Derived.Test.YtagdchgkjjpacaaGreatz49
import Derived.Deep.CutBlock
import Derived.Deep.DeepCutAuto
set_option linter.unusedSimpArgs false
set_option linter.unusedVariables false
set_option linter.unusedSectionVars false
namespace Go.Proofs.YtagdchgkjjpacaaGreat
open Go.RowKit Go.Shelf
abbrev nmDb : ByteArray := ⟨#[100, 98]⟩
theorem dirS_db : DirS nmDb := ⟨by decide, by decide, by decide, by decide⟩
def batsV (ls : List (List Chg)) (i : Nat) : Nat := ((ls.take i).map batV).sum
theorem batsV_zero (ls : List (List Chg)) : batsV ls 0 = 0 := by simp [batsV]
theorem batsV_next {ls : List (List Chg)} {i : Nat} {l : List Chg} (h : ls[i]? = some l) : batsV ls (i + 1) = batsV ls i + batV l := sum_take batV ls h
theorem sumV : ∀ ls : List (List Chg), (ls.map batV).sum = 3000 * ls.length + batsW ls
 | [] => by simp [batsW]
 | l :: ls => by
   have h := sumV ls
   have h2 : batsW (l :: ls) = batW l + batsW ls := by simp [batsW]
   rw [List.map_cons, List.sum_cons, h, h2, List.length_cons]
   unfold batV
   omega
theorem batsW_take : ∀ (ls : List (List Chg)) (i : Nat), batsW (ls.take i) ≤ batsW ls
 | [], i => by simp
 | l :: ls, 0 => by simp [batsW]
 | l :: ls, i + 1 => by
   have h := batsW_take ls i
   have h2 : batsW (l :: ls) = batW l + batsW ls := by simp [batsW]
   have h3 : batsW (l :: ls.take i) = batW l + batsW (ls.take i) := by simp [batsW]
   rw [List.take_succ_cons, h2, h3]
   omega
theorem FewB.small {ls : List (List Chg)} (h : FewB ls) (i : Nat) : batsV ls i ≤ 200000 := by
 unfold batsV
 rw [sumV]
 have h1 := batsW_take ls i
 have h2 := h.sum
 have h3 := h.len
 have h4 : (ls.take i).length ≤ ls.length := by rw [List.length_take]; omega
 omega
theorem FewB.bat {ls : List (List Chg)} (h : FewB ls) {i : Nat} {l : List Chg} (hl : ls[i]? = some l) : batW l ≤ 80000 := by
 have h1 := sum_take batW ls hl
 have h2 := batsW_take ls (i + 1)
 have h3 := h.sum
 have h4 : batsW (ls.take (i + 1)) = batsW (ls.take i) + batW l := h1
 omega
theorem WrOut.calm {F : FsS} {s : StS} {size : Int} {n : Nat} {l : List Chg} {R : StS × FsS × Int} (h : WrOut F s size n l R) (ha : F.armed = 0) : R.2.2 ≠ 5 := by
 rcases h with ⟨e, he, h5', henc, rfl⟩ | ⟨henc, hl, rfl⟩ | ⟨henc, hl, hR, _⟩ | ⟨henc, hl, hR, _⟩ | ⟨henc, hl, hR, hd, arm, _⟩
 ·show (e : Int) ≠ 5; omega
 ·show (0 : Int) ≠ 5; decide
 ·omega
 ·omega
 ·exact absurd ha arm
theorem ChkOut.calm {F : FsS} {s : StS} {size : Int} {n : Nat} {R : StS × FsS × Int} (h : ChkOut F s size n R) (ha : F.armed = 0) : R.2.1.down = false := by
 rcases h with ⟨hR, on, _⟩ | ⟨hR, on, _⟩ | ⟨_, _, arm, _⟩
 ·exact on.up
 ·exact on.up
 ·exact absurd ha arm
section
variable {w0 w w' : World} {fb n c V lb sb tb k N : Nat} {F : FsS} {S : Nat → Prop} {s : StS} {v : Value} {m : Prs}
theorem want_keeps (h : Db w0 w fb F k S lb sb tb s N) (hs : SlAt prKind 85 w v m) (hk : Keeps (StoU S lb sb tb) w w') : SlAt prKind 85 w' v m :=
 hs.keeps hk fun g hg => by
  obtain ⟨cs, hcs⟩ := hs.own g hg
  exact h.notU hcs (by decide) (by decide) (by decide) (by decide) (by decide) (by decide)
end
theorem crashFile_len (kf : ByteArray → Int → Int) (n : ByteArray) (x : FileS) : (crashFile kf n x).data.length ≤ x.data.length := by
 unfold crashFile
 split
 ·simp only [List.length_take]; omega
 ·simp only [List.length_take]; omega
theorem crash_used (F : FsS) {k : Nat} (h : FsOk F k) (kf : ByteArray → Int → Int) : (F.crash kf).used ≤ F.used := by
 have h1 := (h.crash kf).used
 rw [h1, h.used, crash_files (F := F) kf]
 have h2 : ∀ l : List (ByteArray × FileS), sumLen (l.map fun x => (x.1, crashFile kf x.1 x.2)) ≤ sumLen l := by
  intro l
  induction l with
  | nil => exact Int.le_refl _
  | cons x l ih =>
    rw [List.map_cons, sumLen_cons, sumLen_cons]
    have := crashFile_len kf x.1 x.2
    simp only at this ⊢
    omega
 exact h2 _
end Go.Proofs.YtagdchgkjjpacaaGreat
