/- Two file systems under way: one stays while the other is written. -/
import Derived.Test.YtmfiibehclbnjaaFsHd
import Derived.Test.YtmfiibehclbnjaaFsL1
namespace Go.Proofs.Ytmfiibehclbnjaa
open Go.RowKit Go.Shelf

section
variable {w0 w w' : World} {fb gb k k' : Nat} {F G : FsS} {S T : Nat → Prop}
theorem Hd.lt (h : Hd w0 w fb F k S) : ∀ i, S i → i < w.heap.size := h.fs.lt
/-- Another one was written. -/
theorem Hd.other (h : Hd w0 w gb G k T) (hk : Keeps S w w') (hd : ∀ i, S i → ¬ T i) (hb : Below w0.heap.size w0 w') : Hd w0 w' gb G k T := ⟨h.fs.keeps hk hd, h.low, hb, h.ok⟩
theorem new_apart (hd : ∀ i, S i → ¬ T i) (hT : ∀ i, T i → i < w.heap.size) : ∀ i, New w w' S i → ¬ T i := by
  rintro i (e | e) h
  · exact hd i e h
  · have := hT i h; omega
theorem apart_new (hd : ∀ i, S i → ¬ T i) (hT : ∀ i, S i → i < w.heap.size) : ∀ i, S i → ¬ New w w' T i := by
  rintro i h (e | e)
  · exact hd i h e
  · have := hT i h; omega
theorem d_copy (h : Hd w0 w fb F k S) : Calls Try.prog 21 #[.pointer (some ⟨fb, 0, none⟩)] w fun e w' => ∃ gb, e = .returned (.pointer (some ⟨gb, 0, none⟩)) ∧ Hd w0 w' fb F k S ∧ Hd w0 w' gb F k (New w w' fun _ => False) ∧ (∀ i, S i → ¬ New w w' (fun _ => False) i) ∧ Below w.heap.size w w' := by
  obtain ⟨mb, rs, h1⟩ := h.fs
  refine (f_copy h1 h.ok).mono ?_
  rintro e w' ⟨gb, rfl, hg, hb⟩
  refine ⟨gb, rfl, h.read hb, ⟨hg, fun i e => ?_, (h.read hb).below, h.ok⟩, fun i hi e => ?_, hb⟩
  · rcases e with e | e
    · exact e.elim
    · exact Nat.le_trans h.below.size e.1
  · rcases e with e | e
    · exact e
    · have := h.fs.lt i hi; omega
theorem d_alike (hf : Hd w0 w fb F k S) (hg : Hd w0 w gb G k' T) (he : F.dataOf = G.dataOf) :
    Calls Try.prog 24 #[.pointer (some ⟨fb, 0, none⟩), .pointer (some ⟨gb, 0, none⟩)] w fun e w' => e = .returned (.bool true) ∧ Below w.heap.size w w' := x_alike hf.fs hg.fs hf.ok hg.ok he
theorem d_names (h : Hd w0 w fb F k S) : Calls Try.prog 26 #[.pointer (some ⟨fb, 0, none⟩), .string ⟨#[]⟩] w fun e w' => ∃ a cap, e = .returned (.slice a F.files.length cap) ∧ RdAt textKind w' (.slice a F.files.length cap) (F.files.map (·.1)) ∧ Below w.heap.size w w' :=
  (s_allNames h.fs h.ok).mono fun _ _ ⟨a, cap, he, ht⟩ => ⟨a, cap, he, ht.sl.rd, ht.below⟩
/-- Two reads of one file, of two file systems. -/
theorem eqb_self (a : ByteArray) : (a.toList == a.toList) = true := by simp
theorem neb_self (a : ByteArray) : (a.toList != a.toList) = false := by simp
theorem eqb_ne {a b : ByteArray} (h : a ≠ b) : (a.toList == b.toList) = false := beq_eq_false_iff_ne.2 fun e => h (str_inj e)
theorem neb_ne {a b : ByteArray} (h : a ≠ b) : (a.toList != b.toList) = true := by rw [bne_iff_ne]; exact fun e => h (str_inj e)
end
section
variable {F : FsS} {k : Nat} {a b : ByteArray} {x : FileS}
theorem ren_none (hd : F.down = false) (hx : F.find a = none) : F.rename a b = (F, 2) := on_none hd hx
theorem ren_bad (hd : F.down = false) (hx : F.find a = some x) (hv : okName b = false) : F.rename a b = (F, 1) := by unfold FsS.rename; rw [on_some hd hx, if_pos hv]
theorem ren_plain (h : FsOk F k) (ha : AllSynced F) (hd : F.down = false) (h0 : F.armed = 0) (hx : F.find a = some x) (hv : okName b = true) (kf : ByteArray → Int → Int) :
    (F.rename a b).2 = 0 ∧ ((F.rename a b).1.crash kf).find b = some x ∧ (a ≠ b → ((F.rename a b).1.crash kf).find a = none) ∧ ∀ n, n ≠ a → n ≠ b → ((F.rename a b).1.crash kf).find n = F.find n := by
  have hok := h.rename a b
  have hs : x.synced = x.data.length := ha _ (FsOk.find_mem hx)
  have e : F.rename a b = ({ F.moved a b x with steps := (F.moved a b x).steps + 1 }, 0) := by
    unfold FsS.rename
    rw [on_some hd hx, if_neg (by simp [hv]), write_of h0]
  by_cases hab : a = b
  · subst hab
    have e2 : F.moved a a x = F := by unfold FsS.moved; rw [if_pos rfl]
    rw [e2] at e
    have hall : AllSynced (F.rename a a).1 := by rw [e]; exact ha
    have ef : ∀ n, ((F.rename a a).1.crash kf).find n = F.find n := by
      intro n
      rw [crash_find_all hok hall, e]; rfl
    exact ⟨by rw [e], by rw [ef]; exact hx, fun h => absurd rfl h, fun n _ _ => ef n⟩
  · have e2 : (F.moved a b x).files = dropL slt (putL slt F.files b x) a := by unfold FsS.moved; rw [if_neg hab]
    have hr1 : Rise slt (putL slt F.files b x) := rise_putL slt_ord h.rise b x
    have hall : AllSynced (F.rename a b).1 := by
      rw [e]
      intro z hz
      have hz : z ∈ (F.moved a b x).files := hz
      rw [e2] at hz
      exact synced_putL h.rise ha hs z ((dropL_sub _ _).subset hz)
    have ef : ∀ n, ((F.rename a b).1.crash kf).find n = findL slt (dropL slt (putL slt F.files b x) a) n := by
      intro n
      rw [crash_find_all hok hall, e, ← e2]; rfl
    refine ⟨by rw [e], ?_, fun _ => ?_, fun n h1 h2 => ?_⟩
    · rw [ef, findL_dropL_ne hr1 (fun e => hab e.symm), findL_putL h.rise]
    · rw [ef, findL_dropL hr1]
    · rw [ef, findL_dropL_ne hr1 h1, findL_putL_ne h.rise h2]; rfl
end
end Go.Proofs.Ytmfiibehclbnjaa
