/- Plain laws of a log: what its calls do to the segments. -/
import Derived.Test.YthbfkjmpaifblaaWx3
namespace Go.Proofs.Ythbfkjmpaifblaa
open Go.RowKit

/-- A log on a file system: its segments, all synced. -/
structure LogOn (F : FsS) (L : LogS) (segs : List (List UInt8)) : Prop where
  sg : Segs F L.dir L.first (segs.map fl)
  ne : segs ≠ []
  last : L.last + 1 = L.first + segs.length
  free : L.stuck = false
  up : F.down = false
  name : ∀ n, n < 100000000 → okName (segName L.dir n) = true
/-- What a call leaves of the file system's numbers. -/
structure Calm (dir : ByteArray) (F G : FsS) (du : Int) : Prop where
  others : ∀ m, segNum dir m = 0 → G.find m = F.find m
  used : G.used = F.used + du
  room : G.room = F.room
  calm : F.armed = 0 → G.armed = 0
  few : G.files.length ≤ F.files.length + 1
/-- A log whose last write met the failing step. -/
structure Torn (F : FsS) (L : LogS) (segs : List (List UInt8)) (p : List UInt8) (G : FsS) (L' : LogS) : Prop where
  arm : F.armed ≠ 0
  down : G.down = true
  stuck : L'.stuck = true
  ex : ∃ pre c t, (pre ++ [c] = segs ∨ pre ++ [c] = segs ++ [[]]) ∧ (t = [] ∨ t = frameOf p) ∧ Segs G L.dir L.first (pre.map fl ++ [⟨c ++ t, c.length⟩])
  few : G.files.length ≤ F.files.length + 1
  used : G.used ≤ F.used + ((8 + p.length : Nat) : Int)
section
variable {F G : FsS} {L : LogS} {segs pre : List (List UInt8)} {b p : List UInt8}
theorem after_zero (L : LogS) : L.after 0 = L := rfl
theorem after_four (h : L.stuck = false) : L.after 4 = L := by
  unfold LogS.after
  rw [if_neg (by decide)]
  cases L
  simp_all
theorem LogOn.find_last (h : LogOn F L (pre ++ [b])) : F.find (segName L.dir L.last) = some (fl b) := by
  have := h.sg.at_ pre.length (fl b) (by simp)
  have e := h.last
  rw [List.length_append, List.length_singleton] at e
  rwa [show L.first + pre.length = L.last by omega] at this
theorem LogOn.setLast (h : LogOn F L (pre ++ [b])) {y : FileS} (hf : G.files = putL slt F.files (segName L.dir L.last) y) : Segs G L.dir L.first (pre.map fl ++ [y]) := by
  have e := h.last
  rw [List.length_append, List.length_singleton] at e
  have hi : pre.length < ((pre ++ [b]).map fl).length := by simp
  have := h.sg.put (i := pre.length) (y := y) (G := G) hi (by rw [show L.first + pre.length = L.last by omega]; exact hf)
  simpa using this
theorem LogOn.pos (h : LogOn F L segs) : 1 ≤ L.last ∧ L.last < 100000000 := by
  have h1 := h.sg.pos
  have h2 := h.last
  have h3 := h.sg.top
  rw [List.length_map] at h3
  have h4 : 0 < segs.length := List.length_pos_iff.2 h.ne
  omega
/-- A segment's file is written: no other file of another kind. -/
theorem put_others {n : Nat} {y : FileS} (hr : Rise slt F.files) (hf : G.files = putL slt F.files (segName L.dir n) y) (h1 : 1 ≤ n) (h2 : n < 100000000) : ∀ m, segNum L.dir m = 0 → G.find m = F.find m := fun m hm => by
  rw [find_put hr hf, if_neg]
  intro e
  rw [e, segNum_name L.dir h2] at hm
  omega
theorem rotate_out (h : LogOn F L segs) (ht : L.last < 99999999) (hf : F.files.length < 400) :
    ((rotateL L F).2.2 = 0 ∧ Calm L.dir F (rotateL L F).2.1 0 ∧ (rotateL L F).1 = { L with last := L.last + 1 } ∧ LogOn (rotateL L F).2.1 (rotateL L F).1 (segs ++ [[]])) ∨
    ((rotateL L F).2.2 = 5 ∧ F.armed ≠ 0 ∧ (rotateL L F).1 = { L with stuck := true } ∧ (rotateL L F).2.1.down = true ∧ (rotateL L F).2.1.files = F.files ∧ (rotateL L F).2.1.used = F.used) := by
  have el := h.last
  have htop : L.first + (segs.map fl).length < 100000000 := by rw [List.length_map]; omega
  have hn : segName L.dir (L.last + 1) = segName L.dir (L.first + (segs.map fl).length) := by rw [List.length_map, ← h.last]
  have hw := create_wr (n := segName L.dir (L.last + 1)) h.up (h.name _ (by omega)) (by rw [hn]; exact h.sg.free htop) hf
  unfold rotateL
  rw [if_neg (by simp [h.free]), if_neg (by omega)]
  rcases hw with ⟨h0, hD⟩ | ⟨h5, hD⟩
  · rw [if_pos h0]
    refine .inl ⟨rfl, ⟨put_others h.sg.rise hD.files (by omega) (by omega), by rw [hD.used]; omega, hD.room, hD.calm, by rw [hD.files]; exact put_len_le h.sg.rise _ _⟩, rfl, ?_⟩
    refine ⟨?_, by simp, by simp; omega, h.free, by rw [← h.up]; exact hD.down, h.name⟩
    have := h.sg.more (y := fl []) (G := (F.create (segName L.dir (L.last + 1))).1) htop (by rw [hD.files, hn])
    simpa using this
  · rw [if_neg (by rw [h5]; decide)]
    exact .inr ⟨h5, hD.arm, by rw [h5, h.free]; rfl, hD.down, hD.files, hD.used⟩
theorem write_out (h : LogOn F L (pre ++ [b])) (p : List UInt8) :
    ((writeL L F p) = (L, F, 4) ∧ F.room - F.used < ((8 + p.length : Nat) : Int)) ∨
    (¬ F.room - F.used < ((8 + p.length : Nat) : Int) ∧ (((writeL L F p).2.2 = 0 ∧ (writeL L F p).1 = L ∧ (Calm L.dir F (writeL L F p).2.1 ((8 + p.length : Nat) : Int) ∧ (writeL L F p).2.1.files.length = F.files.length) ∧ LogOn (writeL L F p).2.1 L (pre ++ [b ++ frameOf p])) ∨
      ((writeL L F p).2.2 = 5 ∧ (writeL L F p).1 = { L with stuck := true } ∧ F.armed ≠ 0 ∧ (writeL L F p).2.1.down = true ∧ ((writeL L F p).2.1.files.length = F.files.length ∧ (writeL L F p).2.1.used ≤ F.used + ((8 + p.length : Nat) : Int)) ∧ ∃ t, (t = [] ∨ t = frameOf p) ∧ Segs (writeL L F p).2.1 L.dir L.first (pre.map fl ++ [⟨b ++ t, b.length⟩])))) := by
  have hx := h.find_last
  have hlen : ((frameOf p).length : Int) = ((8 + p.length : Nat) : Int) := by rw [frameOf_len]
  by_cases hr : F.room - F.used < ((8 + p.length : Nat) : Int)
  · left
    refine ⟨?_, hr⟩
    unfold writeL writeR twoRes
    rw [append_full h.up hx (by rw [hlen]; exact hr), if_neg (by simp)]
    simp only
    rw [after_four h.free]
  · right
    refine ⟨hr, ?_⟩
    have h1 := append_wr (n := segName L.dir L.last) (b := frameOf p) h.up hx (by rw [hlen]; exact hr)
    unfold writeL writeR twoRes
    rcases h1 with ⟨e1, D1⟩ | ⟨e1, D1⟩
    · rw [if_pos e1]
      have hf1 := find_put h.sg.rise D1.files (segName L.dir L.last)
      rw [if_pos rfl] at hf1
      have hr1 : Rise slt (F.append (segName L.dir L.last) (frameOf p)).1.files := by rw [D1.files]; exact rise_putL slt_ord h.sg.rise _ _
      have h2 := sync_wr (F := (F.append (segName L.dir L.last) (frameOf p)).1) (by rw [D1.down]; exact h.up) hf1
      have hs1 : Segs (F.append (segName L.dir L.last) (frameOf p)).1 L.dir L.first (pre.map fl ++ [⟨b ++ frameOf p, b.length⟩]) := h.setLast D1.files
      have hl1 : (F.append (segName L.dir L.last) (frameOf p)).1.files.length = F.files.length := by rw [D1.files]; exact put_len hx h.sg.rise _
      have ho1 := put_others (L := L) h.sg.rise D1.files h.pos.1 h.pos.2
      have el := h.last
      rw [List.length_append, List.length_singleton] at el
      generalize (F.append (segName L.dir L.last) (frameOf p)).1 = G1 at D1 hf1 hr1 h2 hs1 hl1 ho1
      rcases h2 with ⟨e2, D2⟩ | ⟨e2, D2⟩
      · left
        rw [e2]
        have hl2 : (G1.sync (segName L.dir L.last)).1.files.length = F.files.length := by rw [D2.files, put_len hf1 hr1, hl1]
        refine ⟨rfl, rfl, ⟨⟨fun m hm => (put_others hr1 D2.files h.pos.1 h.pos.2 m hm).trans (ho1 m hm), by rw [D2.used, D1.used, hlen], by rw [D2.room, D1.room], fun e => D2.calm (D1.calm e), Nat.le_trans (Nat.le_of_eq hl2) (Nat.le_succ _)⟩, hl2⟩, ?_⟩
        · refine ⟨?_, by simp, by simp; omega, h.free, by rw [D2.down, D1.down]; exact h.up, h.name⟩
          have := hs1.put (i := pre.length) (G := (G1.sync (segName L.dir L.last)).1) (y := fl (b ++ frameOf p)) (by simp) (by rw [show L.first + pre.length = L.last by omega]; exact D2.files)
          simpa using this
      · right
        rw [e2]
        refine ⟨rfl, by unfold LogS.after; rw [if_neg (by decide), h.free]; rfl, fun e => D2.arm (D1.calm e), D2.down, ⟨by rw [D2.files, hl1], by rw [D2.used, D1.used, hlen]; exact Int.le_refl _⟩, frameOf p, .inr rfl, hs1.congr D2.files⟩
    · right
      rw [if_neg (by rw [e1]; decide)]
      simp only
      rw [e1]
      refine ⟨rfl, by unfold LogS.after; rw [if_neg (by decide), h.free]; rfl, D1.arm, D1.down, ⟨by rw [D1.files], by rw [D1.used]; omega⟩, [], .inl rfl, ?_⟩
      have := h.sg.congr D1.files
      simpa using this
/-- Append. -/
theorem append_out (h : LogOn F L (pre ++ [b])) (hp : p.length ≤ 1048576) (ht : L.last < 99999999) (hf : F.files.length < 400) :
    ((appendL L F p).2.2 = 0 ∧ ¬ F.room - F.used < ((8 + p.length : Nat) : Int) ∧ Calm L.dir F (appendL L F p).2.1 ((8 + p.length : Nat) : Int) ∧ (appendL L F p).1 = { L with last := (appendL L F p).1.last } ∧ LogOn (appendL L F p).2.1 (appendL L F p).1 (if L.size ≤ (b.length : Int) then pre ++ [b] ++ [frameOf p] else pre ++ [b ++ frameOf p])) ∨
    ((appendL L F p).2.2 = 4 ∧ F.room - F.used < ((8 + p.length : Nat) : Int) ∧ Calm L.dir F (appendL L F p).2.1 0 ∧ (appendL L F p).1 = { L with last := (appendL L F p).1.last } ∧ LogOn (appendL L F p).2.1 (appendL L F p).1 (if L.size ≤ (b.length : Int) then pre ++ [b] ++ [[]] else pre ++ [b])) ∨
    ((appendL L F p).2.2 = 5 ∧ Torn F L (pre ++ [b]) p (appendL L F p).2.1 (appendL L F p).1) := by
  have hx := h.find_last
  have hA : appendL L F p = if L.size ≤ (b.length : Int) then (if (rotateL L F).2.2 = 0 then writeL (rotateL L F).1 (rotateL L F).2.1 p else rotateL L F) else writeL L F p := by
    unfold appendL
    rw [if_neg (by simp [h.free]), if_neg (by omega), hx]
    rfl
  rw [hA]
  by_cases hs : L.size ≤ (b.length : Int)
  · simp only [if_pos hs]
    rcases rotate_out h ht hf with ⟨e0, hC, eL, hL⟩ | ⟨e5, ha, eL, hdn, hfl, hus⟩
    · simp only [if_pos e0]
      have hdir : (rotateL L F).1.dir = L.dir := by rw [eL]
      have hfst : (rotateL L F).1.first = L.first := by rw [eL]
      generalize rotateL L F = R at e0 hC eL hL hdir hfst
      have hL2 : LogOn R.2.1 R.1 ((pre ++ [b]) ++ [[]]) := hL
      have eL2 : ∀ q : LogS, q = R.1 → q = { L with last := q.last } := fun q hq => by rw [hq, eL]
      have hz : (R.2.1.files.length : Nat) ≤ F.files.length + 1 := hC.few
      rcases write_out hL2 p with ⟨ew, hr⟩ | ⟨hr, ⟨ew, eW, hCW, hLW⟩ | ⟨ew, eW, ha, hdn, hln, t, ht2, hS⟩⟩
      · right; left
        rw [ew]
        rw [hC.room, hC.used] at hr
        exact ⟨rfl, by omega, hC, eL2 _ rfl, hL⟩
      · left
        rw [hC.room, hC.used] at hr
        refine ⟨ew, by omega, ⟨fun m hm => (hCW.1.others m (by rw [hdir]; exact hm)).trans (hC.others m hm), by rw [hCW.1.used, hC.used]; omega, by rw [hCW.1.room, hC.room], fun e => hCW.1.calm (hC.calm e), by rw [hCW.2]; exact hz⟩, eL2 _ eW, ?_⟩
        rw [eW]
        simpa using hLW
      · right; right
        rw [hdir, hfst] at hS
        exact ⟨ew, fun e => ha (hC.calm e), hdn, by rw [eW], ⟨pre ++ [b], [], t, .inr rfl, ht2, hS⟩, by rw [hln.1]; exact hz, by have h1 := hln.2; rw [hC.used] at h1; omega⟩
    · simp only [if_neg (show ¬ (rotateL L F).2.2 = 0 by rw [e5]; decide)]
      right; right
      refine ⟨e5, ha, hdn, by rw [eL], ⟨pre, b, [], .inl rfl, .inl rfl, ?_⟩, by rw [hfl]; omega, by rw [hus]; omega⟩
      have := h.sg.congr hfl
      simpa using this
  · simp only [if_neg hs]
    rcases write_out h p with ⟨ew, hr⟩ | ⟨hr, ⟨ew, eW, hCW, hLW⟩ | ⟨ew, eW, ha, hdn, hln, t, ht2, hS⟩⟩
    · right; left
      rw [ew]
      exact ⟨rfl, hr, ⟨fun _ _ => rfl, (Int.add_zero _).symm, rfl, fun e => e, Nat.le_succ _⟩, rfl, h⟩
    · left
      exact ⟨ew, hr, hCW.1, by rw [eW], by rw [eW]; exact hLW⟩
    · right; right
      exact ⟨ew, ha, hdn, by rw [eW], ⟨pre, b, t, .inl rfl, ht2, hS⟩, by rw [hln.1]; omega, hln.2⟩
end
end Go.Proofs.Ythbfkjmpaifblaa
