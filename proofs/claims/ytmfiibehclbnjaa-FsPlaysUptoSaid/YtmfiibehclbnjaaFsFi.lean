/- The walks of the statements' helpers: first. -/
import Derived.Test.YtmfiibehclbnjaaFsZ
import Derived.Lib.SlBytesConst
namespace Go.Proofs.Ytmfiibehclbnjaa
open Go.RowKit Go.Shelf

theorem x_first1 (W : World) (n : ByteArray) (m : Int) : Calls Try.prog 45 (#[.string n, .int .i64 m] ++ #[]) W fun e W' => e = .returned (.int .i64 1) ∧ W = W' := by
  show Calls Try.prog 45 #[.string n, .int .i64 m] W _
  go_enter Try.func45, Try.ntmps45
  go_wp2
  go_ret
  exact ⟨rfl, rfl⟩
abbrev nmA : ByteArray := ⟨#[97]⟩
def fi1 : FsS := ⟨10, 0, [(nmA, ⟨[], 0⟩)], 1, 0, false⟩
def fi2 : FsS := ⟨10, 3, [(nmA, ⟨[97, 98, 99], 0⟩)], 2, 0, false⟩
def fi3 : FsS := ⟨10, 3, [(nmA, ⟨[97, 98, 99], 3⟩)], 3, 0, false⟩
def fi4 : FsS := ⟨10, 5, [(nmA, ⟨[97, 98, 99, 100, 101], 3⟩)], 4, 0, false⟩
def fi5 : FsS := ⟨10, 4, [(nmA, ⟨[97, 98, 99, 100], 4⟩)], 4, 0, false⟩
theorem fi_a : (FsS.new 10).append nmA [] = (FsS.new 10, 2) := by kernel_rfl
theorem fi_b : (FsS.new 10).create nmA = (fi1, 0) := by kernel_rfl
theorem fi_c : fi1.append nmA [49, 50, 51, 52, 53, 54, 55, 56, 57, 48, 49] = (fi1, 4) := by kernel_rfl
theorem fi_d : fi1.append nmA [97, 98, 99] = (fi2, 0) := by kernel_rfl
theorem fi_e : fi2.sync nmA = (fi3, 0) := by kernel_rfl
theorem fi_g : fi3.append nmA [100, 101] = (fi4, 0) := by kernel_rfl
theorem fi_h : fi4.crash (fun _ _ => 1) = fi5 := by kernel_rfl
theorem fi_i : fi5.find nmA = some ⟨[97, 98, 99, 100], 4⟩ := by kernel_rfl
theorem fi_ok1 : FsOk fi1 1 := by have := (FsOk.new0 10).create nmA; rw [fi_b] at this; exact this
theorem fi_ok2 : FsOk fi2 2 := by have := fi_ok1.append nmA [97, 98, 99]; rw [fi_d] at this; exact this
theorem fi_ok3 : FsOk fi3 3 := by have := fi_ok2.sync nmA; rw [fi_e] at this; exact this
theorem fi_ok4 : FsOk fi4 4 := by have := fi_ok3.append nmA [100, 101]; rw [fi_g] at this; exact this
theorem fi_ok5 : FsOk fi5 4 := by have := fi_ok4.crash (fun _ _ => 1); rw [fi_h] at this; exact this
section
variable {w : World}
abbrev litObj (ys : List UInt8) : Obj := .cells (ys.map fun b => Value.int .u8 (b.toNat : Int)).toArray 5 (ys.length, ys.length + 1)
/-- New bytes of a literal. -/
theorem lit_bytes (W : World) (ys : List UInt8) : Hid (RdAt byteKind (W.alloc (litObj ys)) (.slice (some ⟨W.heap.size, 0, none⟩) ys.length ys.length) ys) := Lib.hid (by
  refine ⟨_, _, rfl, fun j x hx => ⟨W.heap.size, 0, rfl, fun i hi => ?_⟩⟩
  have hi0 : i = 0 := by have : i < 1 := hi; omega
  subst hi0
  have hb := heap_alloc_new W (litObj ys)
  have hc : (W.alloc (litObj ys)).cell? ⟨W.heap.size, 0 + j * 1 + 0, none⟩ = ((ys.map fun b => Value.int .u8 (b.toNat : Int)).toArray)[0 + j * 1 + 0]? := by simp only [World.cell?, hb]; rw [if_neg (by simp)]
  refine hc.trans ?_
  simp [hx, byteKind])
/-- string(b). -/
theorem run_text {a : Option Addr} {cap : Nat} {ys : List UInt8} {W : World} (h : RdAt byteKind W (.slice a ys.length cap) ys) : (convert 28 9 (.slice a ys.length cap)).run Try.prog W = .ok (.string ⟨ys.toArray⟩) W := by
  obtain ⟨a', cap', e, hnil, hc⟩ := h.cells
  simp only [Value.slice.injEq, true_and] at e
  obtain ⟨rfl, rfl⟩ := e
  cases a with
  | none =>
    obtain rfl := hnil rfl
    rw [run_convert_bytes_string W 28 9 5 none _ cap Try.underlying28 Try.underlying5 Try.underlying9]
    simp [Conv.bytesToString]
    rfl
  | some b =>
    refine run_convert_bytes_back W 28 9 5 b cap ys Try.underlying28 Try.underlying5 Try.underlying9 ?_
    intro j hj
    refine hc b rfl j _ ?_
    have h1 := flat_at byteKind.len ys j 0 ys[j] (List.getElem?_eq_getElem hj) (by decide)
    have e : byteKind.size = 1 := rfl
    rw [e, Nat.mul_one, Nat.add_zero] at h1
    rw [h1]; rfl
theorem append_lit {fb : Nat} {F : FsS} {S : Nat → Prop} (h : FsIs w fb F S) {k : Nat} (ho : FsOk F k) (hk : k < 1000000) (n : ByteArray) (ys : List UInt8) (hy : ys.length ≤ 100) :
    Calls Try.prog 32 #[.pointer (some ⟨fb, 0, none⟩), .string n, .slice (some ⟨w.heap.size, 0, none⟩) ys.length ys.length] (w.alloc (litObj ys)) fun e w' => e = .returned (.int .i64 (F.append n ys).2) ∧ FsPost w fb (F.append n ys).1 S w' := by
  have hb : Below w.heap.size w (w.alloc (litObj ys)) := (Below.refl _ _).alloc (Nat.le_refl _) _
  obtain ⟨mb, rs, h1⟩ := h.below hb
  refine (f_append h1 ho hk n (lit_bytes w ys).out (by omega)).mono ?_
  rintro e w' ⟨rfl, hp⟩
  exact ⟨rfl, FsPost.trans_keeps hb h.lt hp⟩
set_option maxRecDepth 100000 in
set_option maxHeartbeats 2000000 in
theorem x_first : Calls Try.prog 11 #[] w fun e w' => e = .returned (.bool true) ∧ Below w.heap.size w w' := by
  have eg := enters_of Try.func45 (P := Try.prog) (by kernel_rfl) rfl
  have kc := fun (w : World) (C : Array Value) (n c : Nat) => Lib.run_convert_bytes_const (P := Try.prog) w 28 5 C n c Try.underlying28 Try.underlying5
  go_enter Try.func11, Try.ntmps11
  go_wp2_with (fail)
  refine (f_new 10 (by omega) (by omega)).mono ?_
  rintro e w1 ⟨fb, rfl, hf, hb⟩
  have HB := Lib.hid hb
  have HF : Hid (FsIs w1 fb (FsS.new 10) (New w w1 fun _ => False)) := Lib.hid hf
  clear hf hb
  go_wp2_with (fail)
  obtain ⟨mb, rs, h1⟩ := HF.out
  have hnil : RdAt byteKind w1 (.slice none 0 0) ([] : List UInt8) := SlAt.nil.rd (e := 5)
  refine (f_append h1 (FsOk.new0 10) (by omega) nmA hnil (by simp)).mono ?_
  rw [fi_a]
  rintro e w2 ⟨rfl, hp⟩
  have HP := Lib.hid hp
  clear hp hnil h1
  go_wp2_with (fail)
  obtain ⟨mb2, rs2, h2⟩ := HP.out.1
  refine (f_create h2 (FsOk.new0 10) (by omega) nmA).mono ?_
  rw [fi_b]
  rintro e w3 ⟨rfl, hp⟩
  have HP := Lib.hid (HP.out.trans hp)
  clear hp h2
  go_wp2_with (fail)
  refine (append_lit HP.out.1 fi_ok1 (by omega) nmA [49, 50, 51, 52, 53, 54, 55, 56, 57, 48, 49] (by decide)).mono ?_
  rw [fi_c]
  rintro e w4 ⟨rfl, hp⟩
  have HP := Lib.hid (HP.out.trans hp)
  clear hp
  go_wp2_with (fail)
  refine (append_lit HP.out.1 fi_ok1 (by omega) nmA [97, 98, 99] (by decide)).mono ?_
  rw [fi_d]
  rintro e w5 ⟨rfl, hp⟩
  have HP := Lib.hid (HP.out.trans hp)
  clear hp
  go_wp2_with (fail)
  obtain ⟨mb5, rs5, h5⟩ := HP.out.1
  refine (f_sync h5 fi_ok2 (by omega) nmA).mono ?_
  rw [fi_e]
  rintro e w6 ⟨rfl, hp⟩
  have HP := Lib.hid (HP.out.trans hp)
  clear hp h5
  go_wp2_with (fail)
  refine (append_lit HP.out.1 fi_ok3 (by omega) nmA [100, 101] (by decide)).mono ?_
  rw [fi_g]
  rintro e w7 ⟨rfl, hp⟩
  have HP := Lib.hid (HP.out.trans hp)
  clear hp
  go_wp2_with (fail)
  refine (s_crash_const HP.out.1 fi_ok4 45 #[] eg 1 (fun n m W _ => x_first1 W n m)).mono ?_
  rw [fi_h]
  rintro e w8 ⟨rfl, hp⟩
  have HP := Lib.hid (HP.out.trans hp)
  clear hp
  go_wp2_with (fail)
  refine (s_read HP.out.1 fi_ok5 fi_i).mono ?_
  rintro e w9 ⟨a, cap, rfl, hfr⟩
  have HFR := Lib.hid hfr
  have HCV : Hid (∀ W, Below w9.heap.size w9 W → (convert 28 9 (.slice a 4 cap)).run Try.prog W = .ok (.string ⟨#[97, 98, 99, 100]⟩) W) := Lib.hid fun W hW => run_text (hfr.sl.rd.below hW)
  have hcv := HCV.out w9 (Below.refl _ _)
  clear hfr
  go_wp2_with (first | (go_at_call 18; refine (r_num _ _).mono ?_; rintro e w' ⟨rfl, rfl⟩))
  go_ret
  exact ⟨rfl, below_of_post HB.out (HP.out.then_below HFR.out.below) (fun i e => by rcases e with e | e; exact e.elim; exact e.1) HB.out.size⟩
end
end Go.Proofs.Ytmfiibehclbnjaa
