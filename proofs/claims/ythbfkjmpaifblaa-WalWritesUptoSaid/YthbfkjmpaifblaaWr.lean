/- The walk of exlaw2.first. -/
import Derived.Test.YthbfkjmpaifblaaWq
import Derived.Test.YthbfkjmpaifblaaFsPl
import Derived.Test.YthbfkjmpaifblaaWn
namespace Go.Proofs.Ythbfkjmpaifblaa
open Go.RowKit Go.Shelf

abbrev nmW : ByteArray := ⟨#[119]⟩
abbrev nm01 : ByteArray := ⟨#[119, 47, 48, 48, 48, 48, 48, 48, 48, 49]⟩
abbrev nm02 : ByteArray := ⟨#[119, 47, 48, 48, 48, 48, 48, 48, 48, 50]⟩
def lit1 : List UInt8 := [48, 49, 50, 51, 52, 53, 54, 55, 56, 57]
def lit2 : List UInt8 := [120]
def wf1 : FsS := ⟨1000, 0, [(nm01, ⟨[], 0⟩)], 1, 0, false⟩
def wf2 : FsS := ⟨1000, 18, [(nm01, ⟨frameOf lit1, 18⟩)], 3, 0, false⟩
def wf3 : FsS := ⟨1000, 27, [(nm01, ⟨frameOf lit1, 18⟩), (nm02, ⟨frameOf lit2, 9⟩)], 6, 0, false⟩
def wf4 : FsS := ⟨1000, 9, [(nm02, ⟨frameOf lit2, 9⟩)], 7, 0, false⟩
theorem wf_a : openL (FsS.new 1000) nmW 16 = (wf1, ⟨nmW, 16, 1, 1, 0, false⟩, [], 0) := by kernel_rfl
theorem wf_b : appendL ⟨nmW, 16, 1, 1, 0, false⟩ wf1 lit1 = (⟨nmW, 16, 1, 1, 0, false⟩, wf2, 0) := by kernel_rfl
theorem wf_c : appendL ⟨nmW, 16, 1, 1, 0, false⟩ wf2 lit2 = (⟨nmW, 16, 1, 2, 0, false⟩, wf3, 0) := by kernel_rfl
theorem wf_d : dropLg ⟨nmW, 16, 1, 2, 0, false⟩ wf3 2 = (⟨nmW, 16, 2, 2, 0, false⟩, wf4, 0) := by kernel_rfl
theorem wf_e : dropLg ⟨nmW, 16, 2, 2, 0, false⟩ wf4 3 = (⟨nmW, 16, 2, 2, 0, false⟩, wf4, 6) := by kernel_rfl
theorem wf_g : namesL ⟨#[]⟩ wf4.files = [nm02] := by kernel_rfl
section
variable {w0 w w' : World} {fb k lb : Nat} {F G : FsS} {S : Nat → Prop} {L : LogS}
theorem LsX.shape {v : Value} {rs : List (List UInt8)} (h : LsX S w v rs) : ∃ a cap, v = .slice a rs.length cap := by
  obtain ⟨ss, h1, h2, _⟩ := h.ex
  obtain ⟨a, cap, e⟩ := h1.shape
  exact ⟨a, cap, by rw [e, h2.1]⟩
theorem one_text (W : World) (n : ByteArray) : RdAt textKind (W.alloc (.cells #[.string n] 9)) (.slice (some ⟨W.heap.size, 0, none⟩) 1 1) [n] := by
  refine ⟨_, 1, rfl, fun j y hy => ⟨W.heap.size, 0, rfl, fun i hi => ?_⟩⟩
  match j, hy with
  | 0, hy =>
    simp only [List.getElem?_cons_zero, Option.some.injEq] at hy
    subst hy
    have hi0 : i = 0 := by have : i < 1 := hi; omega
    subst hi0
    exact blk_cell (cs := #[.string n]) (heap_alloc_new W _) 0
/-- A log that nobody else's memory touches. -/
def Lv (w0 w : World) (fb : Nat) (F : FsS) (k lb : Nat) (L : LogS) : Prop := ∃ S, Lg w0 w fb F k S lb L
theorem lv_append_lit (h : Lv w0 w fb F k lb L) (hk : k < 100000) (hdir : L.dir.size ≤ 100000) (hlast : L.last < 99999999) (ys : List UInt8) (hy : ys.length ≤ 100) :
    Calls Try.prog 30 #[.pointer (some ⟨lb, 0, none⟩), .slice (some ⟨w.heap.size, 0, none⟩) ys.length ys.length] (w.alloc (litObj ys)) fun e w' => e = .returned (.int .i64 (appendL L F ys).2.2) ∧ Lv w0 w' fb (appendL L F ys).2.1 (k + 3) lb (appendL L F ys).1 := by
  obtain ⟨S, h⟩ := h
  have hb : Below w.heap.size w (w.alloc (litObj ys)) := (Below.refl _ _).alloc (Nat.le_refl _) _
  refine (w_append (h.below hb) hk hdir hlast (lit_bytes w ys).out (fun g hg _ => ?_) (by omega)).mono fun e w' ⟨he, hp⟩ => ⟨he, _, hp.lg⟩
  have e : g = w.heap.size := by simpa [Value.ownBlock] using hg.symm
  subst e
  exact ⟨fun e => by have := h.hd.fs.lt _ e; omega, fun e => by have := h.lt; omega⟩
theorem lv_drop (h : Lv w0 w fb F k lb L) (hk : k < 100000) (hdir : L.dir.size ≤ 100000) (hlast : L.last ≤ 1000) (below : Int) :
    Calls Try.prog 29 #[.pointer (some ⟨lb, 0, none⟩), .int .i64 below] w fun e w' => e = .returned (.int .i64 (dropLg L F below).2.2) ∧ Lv w0 w' fb (dropLg L F below).2.1 (k + 1001) lb (dropLg L F below).1 := by
  obtain ⟨S, h⟩ := h
  exact (w_drop h hk hdir hlast below).mono fun e w' ⟨he, hp⟩ => ⟨he, _, hp.lg⟩
theorem lv_segment (h : Lv w0 w fb F k lb L) : Calls Try.prog 31 #[.pointer (some ⟨lb, 0, none⟩)] w fun e w' => e = .returned (.int .i64 (L.last : Int)) ∧ w = w' := by
  obtain ⟨S, h⟩ := h
  exact w_segment h
set_option maxRecDepth 100000 in
set_option maxHeartbeats 4000000 in
theorem x_wfirst : Calls Try.prog 11 #[] w fun e w' => e = .returned (.bool true) ∧ Below w.heap.size w w' := by
  have kc := fun (w : World) (C : Array Value) (n c : Nat) => Lib.run_convert_bytes_const (P := Try.prog) w 22 5 C n c Try.underlying22 Try.underlying5
  go_enter Try.func11, Try.ntmps11
  go_wp2_with (fail)
  refine (f_new 1000 (by omega) (by omega)).mono ?_
  rintro e w1 ⟨fb, rfl, hf, hb⟩
  have HF : Hid (Hd w w1 fb (FsS.new 1000) 0 (New w w1 fun _ => False)) := Lib.hid ⟨hf, fun i e => by rcases e with e | e; exact e.elim; exact e.1, hb, FsOk.new0 1000⟩
  clear hf hb
  go_wp2_with (fail)
  refine (w_open HF.out (by omega) nmW (by decide) 16 (by intro f l _; show (l + 1 - f) * 0 ≤ _; omega)).mono ?_
  rw [wf_a]
  rintro e w2 ⟨lv, v, rfl, ho⟩
  obtain ⟨lb, rfl, -, T, -, hl, hx⟩ := ho.good rfl
  have HL : Hid (Lv w w2 fb wf1 3 lb ⟨nmW, 16, 1, 1, 0, false⟩) := Lib.hid ⟨_, hl⟩
  obtain ⟨a, cap, rfl⟩ := hx.shape
  rw [List.length_nil]
  clear ho hl hx
  go_wp2_with (first | (go_at_call 27; refine (r_num _ _).mono ?_; rintro e w' ⟨rfl, rfl⟩))
  refine (lv_append_lit HL.out (by omega) (by decide) (by decide) lit1 (by decide)).mono ?_
  rw [wf_b]
  rintro e w3 ⟨rfl, hl⟩
  have HL3 := Lib.hid hl
  clear hl HL HF
  go_wp2_with (fail)
  refine (lv_append_lit HL3.out (by omega) (by decide) (by decide) lit2 (by decide)).mono ?_
  rw [wf_c]
  rintro e w4 ⟨rfl, hl⟩
  have HL4 := Lib.hid hl
  clear hl HL3
  go_wp2_with (fail)
  refine (lv_drop HL4.out (by omega) (by decide) (by decide) 2).mono ?_
  rw [wf_d]
  rintro e w5 ⟨rfl, hl⟩
  have HL5 := Lib.hid hl
  clear hl HL4
  go_wp2_with (fail)
  refine (lv_drop HL5.out (by omega) (by decide) (by decide) 3).mono ?_
  rw [wf_e]
  rintro e w6 ⟨rfl, hl⟩
  have HL6 := Lib.hid hl
  clear hl HL5
  go_wp2_with (first | (go_at_call 27; refine (r_num _ _).mono ?_; rintro e w' ⟨rfl, rfl⟩) | (go_at_call 31; refine (lv_segment HL6.out).mono ?_; rintro e w' ⟨rfl, rfl⟩))
  obtain ⟨S6, hl6⟩ := HL6.out
  have hnm := s_names hl6.hd.fs hl6.hd.ok ⟨#[]⟩
  rw [wf_g] at hnm
  have HW6 : Hid (Below w.heap.size w w') := Lib.hid hl6.hd.below
  clear hl6
  refine hnm.mono ?_
  rintro e w7 ⟨a7, c7, rfl, ht⟩
  have HT := Lib.hid ht
  clear ht hnm
  go_wp2_with (fail)
  have hal : Below w7.heap.size w7 (w7.alloc (.cells #[.string nm02] 9)) := (Below.refl _ _).alloc (Nat.le_refl _) _
  have hu : RdAt textKind (w7.alloc (.cells #[.string nm02] 9)) (.slice (some ⟨w7.heap.size, 0, none⟩) 1 1) [nm02] := one_text w7 nm02
  refine (r_sameTexts (HT.out.sl.rd.below hal) hu (by decide)).mono ?_
  rintro e w8 ⟨rfl, hb⟩
  have HE : Hid (Below w.heap.size w w8) := Lib.hid (((HW6.out.trans (HT.out.below.mono HW6.out.size)).trans (hal.mono (by have := HW6.out.size; have := HT.out.below.size; omega))).trans (hb.mono (by have := HW6.out.size; have := HT.out.below.size; have := hal.size; omega)))
  clear hal hu hb
  go_wp2_with (fail)
  go_ret
  exact ⟨rfl, HE.out⟩
end
end Go.Proofs.Ythbfkjmpaifblaa
