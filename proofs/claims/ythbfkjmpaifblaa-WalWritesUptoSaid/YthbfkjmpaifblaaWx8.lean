/- Plain laws of a log: a directory that has nothing else; what Drop does. -/
import Derived.Test.YthbfkjmpaifblaaWx7
namespace Go.Proofs.Ythbfkjmpaifblaa
open Go.RowKit

/-- All files are segments of the directory. -/
def AllSeg (F : FsS) (dir : ByteArray) : Prop := ∀ n x, F.find n = some x → segNum dir n ≠ 0
section
variable {F G : FsS} {L L' : LogS} {dir : ByteArray} {first : Nat} {ds : List FileS} {segs pre : List (List UInt8)} {b p : List UInt8}
theorem AllSeg.of (h : AllSeg F dir) (ho : ∀ m, segNum dir m = 0 → G.find m = F.find m) : AllSeg G dir := fun n x hx e => by
  rw [ho n e] at hx; exact h n x hx e
theorem AllSeg.names (h : AllSeg F dir) (hs : Segs F dir first ds) : namesL ⟨#[]⟩ F.files = (List.range' first ds.length).map (segName dir) := by
  rw [← hs.names]
  unfold namesL
  rw [List.filter_map, List.filter_filter]
  congr 1
  refine List.filter_congr fun x hx => ?_
  have h1 := h x.1 x.2 ((mem_files hs.rise).1 hx)
  have h2 := name_of_num dir x.1 h1
  have h3 : Lib.hasPrefix x.1.data.toList (dirOf dir).data.toList = true := by rw [h2]; exact dir_front dir _
  rw [h3]
  simp [h1, Lib.hasPrefix]
/-- Drop takes the first segments away. -/
theorem drop_seg : ∀ (d : Nat) {F : FsS} {L : LogS} {segs : List (List UInt8)}, LogOn F L segs → F.armed = 0 → d < segs.length → ∃ F', dropF d L F = ({ L with first := L.first + d }, F', 0) ∧ LogOn F' { L with first := L.first + d } (segs.drop d) ∧ F'.armed = 0 ∧ F'.room = F.room ∧ F'.used ≤ F.used ∧ F'.files.length ≤ F.files.length ∧ ∀ m, segNum L.dir m = 0 → F'.find m = F.find m
  | 0, F, L, segs, h, ha, _ => ⟨F, by cases L; rfl, by cases L; exact h, ha, rfl, Int.le_refl _, Nat.le_refl _, fun _ _ => rfl⟩
  | d + 1, F, L, [], _, _, hd => by simp at hd
  | d + 1, F, L, s :: r, h, ha, hd => by
    have hx : F.find (segName L.dir L.first) = some (fl s) := h.sg.at_ 0 (fl s) rfl
    have hlt : L.first < 100000000 := by have := h.sg.top; simp only [List.length_map, List.length_cons] at this; omega
    have hp := h.sg.pos
    rcases remove_wr h.up hx with ⟨e, D⟩ | ⟨_, D⟩
    · have hs : Segs (F.remove (segName L.dir L.first)).1 L.dir (L.first + 1) (r.map fl) := h.sg.tail D.files
      have hr : r ≠ [] := by rintro rfl; simp at hd
      have hl := h.last
      simp only [List.length_cons] at hl
      have h1 : LogOn (F.remove (segName L.dir L.first)).1 { L with first := L.first + 1 } r := ⟨hs, hr, by show L.last + 1 = L.first + 1 + r.length; omega, h.free, by rw [← h.up]; exact D.down, h.name⟩
      obtain ⟨F', e2, hL, h2, h3, h4, h5, h6⟩ := drop_seg d h1 (D.calm ha) (by simpa using hd)
      refine ⟨F', ?_, ?_, h2, by rw [h3, D.room], ?_, ?_, fun m hm => ?_⟩
      · unfold dropF
        rw [if_pos e, e2]
        simp only [Prod.mk.injEq, and_true]
        congr 1
        omega
      · have : ({ L with first := L.first + (d + 1) } : LogS) = { ({ L with first := L.first + 1 } : LogS) with first := L.first + 1 + d } := by simp only; congr 1; omega
        rw [this]
        exact hL
      · have := D.used; omega
      · have h7 : (F.remove (segName L.dir L.first)).1.files.length ≤ F.files.length := by rw [D.files]; exact (dropL_sub _ _).length_le
        omega
      · rw [h6 m hm, find_drop_ h.sg.rise D.files, if_neg]
        intro e3
        rw [e3, segNum_name L.dir hlt] at hm
        omega
    · exact absurd ha D.arm
theorem drop_out (h : LogOn F L segs) (ha : F.armed = 0) (d : Nat) :
    (segs.length ≤ d ∧ dropLg L F ((L.first + d : Nat) : Int) = (L, F, 6)) ∨
    (d < segs.length ∧ ∃ F', dropLg L F ((L.first + d : Nat) : Int) = ({ L with first := L.first + d }, F', 0) ∧ LogOn F' { L with first := L.first + d } (segs.drop d) ∧ F'.armed = 0 ∧ F'.room = F.room ∧ F'.used ≤ F.used ∧ F'.files.length ≤ F.files.length ∧ ∀ m, segNum L.dir m = 0 → F'.find m = F.find m) := by
  have hl := h.last
  unfold dropLg
  rw [if_neg (by simp [h.free])]
  by_cases hd : segs.length ≤ d
  · rw [if_pos (by omega)]
    exact .inl ⟨hd, rfl⟩
  · rw [if_neg (by omega)]
    refine .inr ⟨by omega, ?_⟩
    rw [show ((L.first + d : Nat) : Int) - (L.first : Int) = (d : Int) by omega, Int.toNat_natCast]
    exact drop_seg d h ha (by omega)
end
end Go.Proofs.Ythbfkjmpaifblaa
