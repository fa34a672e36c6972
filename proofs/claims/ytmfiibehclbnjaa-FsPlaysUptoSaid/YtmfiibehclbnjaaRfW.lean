/- Does, whole. -/
import Derived.Test.YtmfiibehclbnjaaRfU
namespace Go.Proofs.Ytmfiibehclbnjaa
open Go.RowKit Go.Shelf

section
variable {w0 w w' : World} {fb rb ob k k' : Nat} {F G : FsS} {S R T : Nat → Prop}
/-- What the statements' Does leaves. -/
def FsS.does (F : FsS) (o : FOp) : FsS :=
  if o.kind = 0 then (F.create o.name).1 else if o.kind = 1 then (F.append o.name o.b).1 else if o.kind = 2 then (F.sync o.name).1 else if o.kind = 3 then (F.truncate o.name o.n).1 else if o.kind = 4 then (F.rename o.name o.to).1 else if o.kind = 5 then (F.remove o.name).1
  else if o.kind = 6 then { F with armed := max o.n 0 } else if o.kind = 7 then F.crash fun n _ => keepN n o.n else F
theorem x_does (h : Mid w0 w fb rb F F k S R) (hk : k < 1000000) (o : FOp) (ua : Option Addr) (uc : Nat) (hu : OpVal w0 o (.slice ua o.b.length uc)) (hy : o.b.length ≤ 100000000) (hn : o.name.size ≤ 9223372036854775807) (ht : o.to.size ≤ 9223372036854775807) :
    Calls Try.prog 43 #[.pointer (some ⟨fb, 0, none⟩), .pointer (some ⟨rb, 0, none⟩), opAgg o (.slice ua o.b.length uc)] w fun e w' => e = .returned (.bool true) ∧ MidPost w0 w fb rb (F.does o) (k + 1) S R w' := by
  obtain ⟨kd, nn, nm, to, b⟩ := o
  have hn0 := hu.n0
  have hn1 := hu.n1
  have hr := hu.bytes
  simp only at hn0 hn1 hr hn ht hy ⊢
  unfold FsS.does
  simp only
  by_cases h0 : kd = 0
  · subst h0; rw [if_pos rfl]; exact x_does0 h hk nn hn0 hn1 nm to b _ hn ht
  by_cases h1 : kd = 1
  · subst h1; rw [if_neg h0, if_pos rfl]; exact x_does1 h hk nn nm to b ua uc hr hy
  by_cases h2 : kd = 2
  · subst h2; rw [if_neg h0, if_neg h1, if_pos rfl]; exact x_does2 h hk nn hn0 hn1 nm to b _ hn ht
  by_cases h3 : kd = 3
  · subst h3; rw [if_neg h0, if_neg h1, if_neg h2, if_pos rfl]; exact x_does3 h hk nn hn0 hn1 nm to b _ hn ht
  by_cases h4 : kd = 4
  · subst h4; rw [if_neg h0, if_neg h1, if_neg h2, if_neg h3, if_pos rfl]; exact x_does4 h hk nn hn0 hn1 nm to b _ hn ht
  by_cases h5 : kd = 5
  · subst h5; rw [if_neg h0, if_neg h1, if_neg h2, if_neg h3, if_neg h4, if_pos rfl]; exact x_does5 h hk nn hn0 hn1 nm to b _ hn ht
  by_cases h6 : kd = 6
  · subst h6; rw [if_neg h0, if_neg h1, if_neg h2, if_neg h3, if_neg h4, if_neg h5, if_pos rfl]
    exact (x_does6 h nn hn0 hn1 nm to b _).mono fun e w' ⟨he, hp⟩ => ⟨he, hp.more (Nat.le_succ k)⟩
  by_cases h7 : kd = 7
  · subst h7; rw [if_neg h0, if_neg h1, if_neg h2, if_neg h3, if_neg h4, if_neg h5, if_neg h6, if_pos rfl]
    exact (x_does7 h nn hn0 hn1 nm to b _).mono fun e w' ⟨he, hp⟩ => ⟨he, hp.more (Nat.le_succ k)⟩
  rw [if_neg h0, if_neg h1, if_neg h2, if_neg h3, if_neg h4, if_neg h5, if_neg h6, if_neg h7]
  cases hx : F.find nm with
  | none => exact (x_does9_none h (beq_eq_false_iff_ne.2 h0) (beq_eq_false_iff_ne.2 h1) (beq_eq_false_iff_ne.2 h2) (beq_eq_false_iff_ne.2 h3) (beq_eq_false_iff_ne.2 h4) (beq_eq_false_iff_ne.2 h5) (beq_eq_false_iff_ne.2 h6) (beq_eq_false_iff_ne.2 h7) nn nm to b _ hn hx).mono fun e w' ⟨he, hp⟩ => ⟨he, hp.more (Nat.le_succ k)⟩
  | some x => exact (x_does9_some h (beq_eq_false_iff_ne.2 h0) (beq_eq_false_iff_ne.2 h1) (beq_eq_false_iff_ne.2 h2) (beq_eq_false_iff_ne.2 h3) (beq_eq_false_iff_ne.2 h4) (beq_eq_false_iff_ne.2 h5) (beq_eq_false_iff_ne.2 h6) (beq_eq_false_iff_ne.2 h7) nn nm to b _ hn hx).mono fun e w' ⟨he, hp⟩ => ⟨he, hp.more (Nat.le_succ k)⟩
end
end Go.Proofs.Ytmfiibehclbnjaa
