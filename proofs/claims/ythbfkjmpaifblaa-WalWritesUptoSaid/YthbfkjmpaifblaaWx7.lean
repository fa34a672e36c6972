/- Plain laws of a log: a crash, and Open behind it; Open of a directory that has no segment. -/
import Derived.Test.YthbfkjmpaifblaaWx6
namespace Go.Proofs.Ythbfkjmpaifblaa
open Go.RowKit

section
variable {F G : FsS} {L L' : LogS} {dir : ByteArray} {size : Int} {first j : Nat} {segs pre want : List (List UInt8)} {b c t p : List UInt8}
theorem LogOn.crash (h : LogOn F L segs) (kf : ByteArray → Int → Int) : Segs (F.crash kf) L.dir L.first (segs.map fl) := by
  refine h.sg.crash kf _ rfl fun i d hd => ?_
  rw [List.getElem?_map] at hd
  obtain ⟨s, hs, rfl⟩ := Option.map_eq_some_iff.1 hd
  rw [crashFile_synced rfl, List.getElem?_map, hs]
  rfl
theorem crash_torn (kf : ByteArray → Int → Int) (n : ByteArray) (c t : List UInt8) : ∃ j, crashFile kf n ⟨c ++ t, c.length⟩ = fl (c ++ t.take j) := by
  unfold crashFile
  simp only [List.length_append]
  split
  · rename_i h
    have ht : t = [] := List.length_eq_zero_iff.1 (by omega)
    subst ht
    exact ⟨0, by simp⟩
  · generalize hq : leftOfFile _ _ = q
    have hq2 : c.length ≤ q := by rw [← hq]; unfold leftOfFile; simp only; omega
    refine ⟨q - c.length, ?_⟩
    rw [List.take_append, List.take_of_length_le hq2]
theorem torn_crash (h : Segs G dir first (pre.map fl ++ [⟨c ++ t, c.length⟩])) (kf : ByteArray → Int → Int) : ∃ j, Segs (G.crash kf) dir first (pre.map fl ++ [fl (c ++ t.take j)]) := by
  obtain ⟨j, hj⟩ := crash_torn kf (segName dir (first + pre.length)) c t
  refine ⟨j, h.crash kf _ (by simp) fun i d hd => ?_⟩
  by_cases hi : i < pre.length
  · rw [List.getElem?_append_left (by simpa using hi)] at hd ⊢
    rw [List.getElem?_map] at hd
    obtain ⟨s, hs, rfl⟩ := Option.map_eq_some_iff.1 hd
    rw [crashFile_synced rfl, List.getElem?_map, hs]
    rfl
  · have hl := (List.getElem?_eq_some_iff.1 hd).1
    simp only [List.length_append, List.length_map, List.length_singleton] at hl
    obtain rfl : i = pre.length := by omega
    rw [List.getElem?_append_right (by simp)] at hd ⊢
    simp only [List.length_map, Nat.sub_self, List.getElem?_cons_zero, Option.some.injEq] at hd ⊢
    subst hd
    exact hj.symm
/-- Open behind a crash. -/
structure Again (G : FsS) (dir : ByteArray) (size : Int) (first : Nat) (pre want : List (List UInt8)) (p : List UInt8) (G' : FsS) (L' : LogS) (rs : List (List UInt8)) : Prop where
  open_ : openL G dir size = (G', L', rs, 0)
  log : ∃ c, LogOn G' L' (pre ++ [c]) ∧ Holds (pre ++ [c]) rs
  recs : rs = want ∨ rs = want ++ [p]
  hdir : L'.dir = dir
  hsize : L'.size = size
  hfirst : L'.first = first
  calm : G'.armed = 0
  room : G'.room = G.room
  few : G'.files.length = G.files.length
  used : G'.used ≤ G.used
  others : ∀ m, segNum dir m = 0 → G'.find m = G.find m
theorem reopen (hs : Segs G dir first (pre.map fl ++ [fl (c ++ t.take j)])) (hh : Holds (pre ++ [c]) want) (ht : t = [] ∨ t = frameOf p) (hp : p.length ≤ 1048576) (hd : DirOk dir) (h16 : 16 ≤ size) (h20 : size ≤ 1048576) (hdn : G.down = false) (ha : G.armed = 0) :
    ∃ G' L' rs, Again G dir size first pre want p G' L' rs ∧ (t = [] → rs = want ∧ G' = G) := by
  have hwh := hh.whole
  obtain ⟨rss, rs, h1, h2, h3, h4⟩ := hh.split
  have hrs : ∀ q ∈ rs, q.length ≤ 1048576 := fun q hq => h4 q (by rw [← h3]; simp [hq])
  have hw : ∀ d ∈ pre.map fl, Whole_ d := fun d hd => hwh.1 d (by rw [List.map_append]; exact List.mem_append_left _ hd)
  have hpre : recsOf (pre.map fl) = rss.flatten := by
    have e := hwh.2
    rw [List.map_append] at e
    simp only [recsOf, List.flatMap_append, List.map_cons, List.map_nil, List.flatMap_cons, List.flatMap_nil, List.append_nil] at e ⊢
    rw [h2, scan_of_frames hrs, ← h3] at e
    exact List.append_cancel_right e
  obtain ⟨q, hq, hq2⟩ : ∃ q : List (List UInt8), scanOf (t.take j) = q ∧ ((q = [] ∧ (t.take j = [] ∨ True)) ∨ (q = [p] ∧ t.take j = frameOf p)) := by
    rcases ht with rfl | rfl
    · exact ⟨[], by rw [List.take_nil, scanOf_none (by unfold headOf; simp)], .inl ⟨rfl, .inr trivial⟩⟩
    · refine ⟨_, scan_front hp j, ?_⟩
      split
      · exact .inl ⟨rfl, .inr trivial⟩
      · rename_i hk
        exact .inr ⟨rfl, List.take_of_length_le (by rw [frameOf_len]; omega)⟩
  have hx : scanOf (c ++ t.take j) = rs ++ q := by rw [h2, scan_frames rs _ hrs, hq]
  obtain ⟨G', y, ho, hO⟩ := open_out hs hw hdn ha (okName_seg hd 1) h16 h20
  have hrecs : recsOf (pre.map fl ++ [fl (c ++ t.take j)]) = want ++ q := by
    simp only [recsOf, List.flatMap_append, List.flatMap_cons, List.flatMap_nil, List.append_nil] at hpre ⊢
    rw [hpre, hx, ← h3]; simp
  have hy := hO.data
  simp only at hy
  rw [hx] at hy
  have hend : endOf (rs ++ q) = c.length + endOf q := by rw [endOf_append, h2, endOf_frames]
  rw [hend] at hy
  have hyd : y = fl y.data := by
    have := hO.synced rfl
    cases y
    simp only at this
    simp [fl, this]
  have hlog : ∀ c', y.data = c' → LogOn G' ⟨dir, size, first, first + pre.length, (c ++ t.take j).length - endOf (scanOf (c ++ t.take j)), false⟩ (pre ++ [c']) := fun c' hc => by
    refine ⟨?_, by simp, by simp; omega, rfl, hO.down, fun n _ => okName_seg hd n⟩
    have := hO.sg
    rw [hyd, hc] at this
    simpa using this
  rw [hrecs] at ho
  simp only [List.length_map] at ho
  rcases hq2 with ⟨e, _⟩ | ⟨e, e2⟩
  · subst e
    have hy2 : y.data = c := by rw [hy]; simp [endOf]
    refine ⟨G', _, want, ⟨by rw [ho, List.append_nil], ⟨c, hlog c hy2, by simpa using hh⟩, .inl rfl, rfl, rfl, rfl, hO.calm, hO.room, hO.few, by have h5 := hO.used; have h6 := scan_end (fl (c ++ t.take j)).data; omega, hO.others⟩, fun e => ⟨rfl, hO.whole ?_⟩⟩
    subst e
    show endOf (scanOf (c ++ List.take j [])) = (c ++ List.take j []).length
    rw [hx, hend]
    simp [endOf]
  · subst e
    have hy2 : y.data = c ++ frameOf p := by
      rw [hy, e2, List.take_of_length_le]
      simp [endOf, frameOf_len]
    refine ⟨G', _, want ++ [p], ⟨ho, ⟨c ++ frameOf p, hlog _ hy2, hh.next hp⟩, .inr rfl, rfl, rfl, rfl, hO.calm, hO.room, hO.few, by have h5 := hO.used; have h6 := scan_end (fl (c ++ t.take j)).data; omega, hO.others⟩, fun e => ?_⟩
    subst e
    rw [List.take_nil] at e2
    have := congrArg List.length e2
    rw [frameOf_len, List.length_nil] at this
    omega
/-- Open of a directory that has no segment. -/
theorem open_none (hs : Segs F dir 1 []) (hd : DirOk dir) (h16 : 16 ≤ size) (h20 : size ≤ 1048576) (hdn : F.down = false) (ha : F.armed = 0) (hf : F.files.length < 400) :
    ∃ G, openL F dir size = (G, ⟨dir, size, 1, 1, 0, false⟩, [], 0) ∧ LogOn G ⟨dir, size, 1, 1, 0, false⟩ [[]] ∧ G.armed = 0 ∧ G.room = F.room ∧ G.used = F.used ∧ G.files = putL slt F.files (segName dir 1) (fl []) := by
  have hfree : F.find (segName dir 1) = none := hs.free (by simp)
  rcases create_wr hdn (okName_seg hd 1) hfree hf with ⟨e, D⟩ | ⟨_, D⟩
  · have hS : Segs (F.create (segName dir 1)).1 dir 1 ([[]].map fl) := hs.more (y := fl []) (by simp) D.files
    refine ⟨(F.create (segName dir 1)).1, ?_, ⟨hS, by simp, rfl, rfl, by rw [D.down]; exact hdn, fun n _ => okName_seg hd n⟩, D.calm ha, D.room, D.used, D.files⟩
    unfold openL
    rw [if_neg (by simp [okName_seg hd 1]), if_neg (by omega), if_neg (by simp [hdn]), hs.empty]
    simp only
    rw [if_pos trivial, if_pos e]
    unfold openR
    have := hS.read_all (fun d hd => by
      simp only [List.map_cons, List.map_nil, List.mem_singleton] at hd
      subst hd
      show endOf (scanOf []) = ([] : List UInt8).length
      rw [scanOf_none (by unfold headOf; simp)]; rfl) 1 0
    simp only [List.map_cons, List.map_nil, List.length_singleton] at this
    rw [this]
    simp only [List.flatMap_cons, List.flatMap_nil, List.append_nil]
    rw [scanOf_none (by unfold headOf; simp)]
  · exact absurd ha D.arm
theorem segs_new (m : Int) (dir : ByteArray) : Segs (FsS.new m) dir 1 [] := ⟨List.Pairwise.nil, Nat.le_refl _, by simp, fun i d hd => by simp at hd, fun n x hx => by cases hx⟩
end
end Go.Proofs.Ythbfkjmpaifblaa
