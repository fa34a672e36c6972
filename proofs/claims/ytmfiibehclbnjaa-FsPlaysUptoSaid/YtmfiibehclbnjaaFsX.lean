/- An operation that is told, as plain data; its walk. -/
import Derived.Test.YtmfiibehclbnjaaFsV
namespace Go.Proofs.Ytmfiibehclbnjaa
open Go.RowKit Go.Shelf

/-- An operation: its kind, its number, its two names, its bytes. -/
structure FOp where
  kind : Int
  n : Int
  name : ByteArray
  to : ByteArray
  b : List UInt8
/-- What it comes to. -/
def FsS.told (F : FsS) (o : FOp) : FsS × Int :=
  if o.kind = 0 then F.create o.name
  else if o.kind = 1 then F.append o.name o.b
  else if o.kind = 2 then F.sync o.name
  else if o.kind = 3 then F.truncate o.name o.n
  else if o.kind = 4 then F.rename o.name o.to
  else if o.kind = 5 then F.remove o.name
  else if o.kind = 6 then ({ F with armed := max o.n 0 }, 0)
  else if o.kind = 7 then (F.crash fun _ _ => o.n, 0)
  else (F, 0)
def FsS.toldAll (F : FsS) (l : List FOp) : FsS := l.foldl (fun G o => (G.told o).1) F
theorem FsS.toldAll_snoc (F : FsS) (l : List FOp) (o : FOp) : F.toldAll (l ++ [o]) = ((F.toldAll l).told o).1 := by unfold FsS.toldAll; rw [List.foldl_append]; rfl
theorem FsOk.told {F : FsS} {k : Nat} (h : FsOk F k) (o : FOp) (hn : o.n ≤ 9223372036854775807) : FsOk (F.told o).1 (k + 1) := by
  unfold FsS.told
  repeat' split
  · exact h.create _
  · exact h.append _ _
  · exact h.sync _
  · exact h.truncate _ _
  · exact h.rename _ _
  · exact h.remove _
  · exact (h.arm (by omega) (by omega)).mono (Nat.le_succ k)
  · exact (h.crash _).mono (Nat.le_succ k)
  · exact h.mono (Nat.le_succ k)
theorem FsOk.toldAll {F : FsS} {k : Nat} (h : FsOk F k) : ∀ (l : List FOp), (∀ o ∈ l, o.n ≤ 9223372036854775807) → FsOk (F.toldAll l) (k + l.length) := by
  intro l
  obtain ⟨r, rfl⟩ : ∃ r : List FOp, l = r.reverse := ⟨l.reverse, by simp⟩
  induction r with
  | nil => intro _; exact h
  | cons o l ih =>
    intro hn
    rw [List.reverse_cons] at hn ⊢
    rw [FsS.toldAll_snoc, List.length_append]
    exact (ih (fun o ho => hn o (by simp at ho ⊢; exact .inl ho))).told o (hn o (by simp))

section
variable {w : World} {fb : Nat} {F : FsS} {S : Nat → Prop}
/-- Where an operation's bytes are. -/
structure OpVal (w : World) (o : FOp) (u : Value) : Prop where
  bytes : RdAt byteKind w u o.b
  small : o.b.length ≤ 9223372036854775807
  n0 : -9223372036854775808 ≤ o.n
  n1 : o.n ≤ 9223372036854775807
abbrev opAgg (o : FOp) (u : Value) : Value := .agg #[.int .i64 o.kind, .int .i64 o.n, .string o.name, .string o.to, u]
abbrev opCells (o : FOp) (u : Value) : Array Value := #[.int .i64 o.kind, .int .i64 o.n, .string o.name, .string o.to, u]
theorem OpVal.below {w' : World} {o : FOp} {u : Value} (h : OpVal w o u) (hb : Below w.heap.size w w') : OpVal w' o u := ⟨h.bytes.below hb, h.small, h.n0, h.n1⟩

theorem x_told1 (o : FOp) (u : Value) (bx : Nat) (W : World) (n : ByteArray) (m : Int) (hb : IsBlk W bx (opCells o u) 55) :
    Calls Try.prog 60 (#[.string n, .int .i64 m] ++ #[.pointer (some ⟨bx, 0, none⟩)]) W fun e W' => e = .returned (.int .i64 o.n) ∧ W = W' := by
  have c : W.cell? ⟨bx, 1, none⟩ = some (.int .i64 o.n) := blk_cell hb 1
  clear hb
  show Calls Try.prog 60 #[.string n, .int .i64 m, .pointer (some ⟨bx, 0, none⟩)] W _
  go_enter Try.func60, Try.ntmps60
  go_wp2
  go_ret
  exact ⟨rfl, rfl⟩
/-- A crash that keeps so many of each file's bytes. -/
theorem s_crash_const (h : FsIs w fb F S) {k : Nat} (ho : FsOk F k) (g : Nat) (lb : Array Value) (eg : ∀ args w, (callFunc g args).run Try.prog w = .ok (.enter g args) w) (keep : Int)
    (hcall : ∀ n m W, Keeps S w W → Calls Try.prog g (#[.string n, .int .i64 m] ++ lb) W fun e W' => e = .returned (.int .i64 keep) ∧ W = W') :
    Calls Try.prog 14 #[.pointer (some ⟨fb, 0, none⟩), .func (.func g) #[] lb] w fun e w' => e = .returned (.tuple #[]) ∧ FsPost w fb (F.crash fun _ _ => keep) S w' := by
  obtain ⟨mb, rs, h⟩ := h
  refine (f_crash h ho g lb eg (fun _ _ => keep) (fun _ => False) (fun _ e => e.elim) (fun _ W => Keeps S w W) (fun W hb => (Keeps.of_below hb).mono fun _ _ e => e.elim) ?_ ?_ ?_).mono ?_
  · intro j W W' U h1 h2 h3
    exact h1.trans h2 (fun i hi e => by
      rcases h3 i e with e | e
      · exact e
      · omega)
  · intro i n x W _ _ hI
    refine (hcall n _ W hI).mono ?_
    rintro e W' ⟨rfl, rfl⟩
    exact ⟨rfl, hI, Keeps.refl _ _⟩
  · intro i n x W _ _ hI
    exact hI
  · rintro e w' ⟨rfl, hk, hf, _⟩
    exact ⟨rfl, hf, hk⟩
/-- An operation is told. -/
theorem x_told_pre (h : FsIs w fb F S) (o : FOp) (u : Value) : Hid (FsIs (w.alloc (.cells (opCells o u) 55)) fb F S) ∧ Hid (Below w.heap.size w (w.alloc (.cells (opCells o u) 55))) ∧ Hid (IsBlk (w.alloc (.cells (opCells o u) 55)) w.heap.size (opCells o u) 55) := by
  have hb : Below w.heap.size w (w.alloc (.cells (opCells o u) 55)) := (Below.refl _ _).alloc (Nat.le_refl _) _
  exact ⟨Lib.hid (h.below hb), Lib.hid hb, Lib.hid (blk_new w _)⟩
def ToldPost (w : World) (fb : Nat) (F : FsS) (S : Nat → Prop) (o : FOp) (e : Ending) (w' : World) : Prop := e = .returned (.int .i64 (F.told o).2) ∧ FsPost w fb (F.told o).1 S w'
set_option maxRecDepth 100000 in
set_option maxHeartbeats 2000000 in
theorem x_told (h : FsIs w fb F S) {k : Nat} (ho : FsOk F k) (hk : k < 1000000) (o : FOp) (u : Value) (hu : OpVal w o u) :
    Calls Try.prog 37 #[.pointer (some ⟨fb, 0, none⟩), opAgg o u] w (ToldPost w fb F S o) := by
  obtain ⟨H1, HB, HBLK⟩ := x_told_pre h o u
  have HL := Lib.hid h.lt
  have HU := Lib.hid (hu.below HB.out)
  have HO := Lib.hid ho
  have HOI : Hid (FsIs w fb F S) := Lib.hid h
  have HE : Hid (ToldPost w fb F S o = fun e w' => e = .returned (.int .i64 (F.told o).2) ∧ FsPost w fb (F.told o).1 S w') := Lib.hid rfl
  obtain ⟨ua, ucap, rfl, _⟩ := hu.bytes
  clear h hu ho
  obtain ⟨kd, nn, nm, to, b⟩ := o
  simp only at *
  have HR : Hid (F.told ⟨kd, nn, nm, to, b⟩ = if kd = 0 then F.create nm else if kd = 1 then F.append nm b else if kd = 2 then F.sync nm else if kd = 3 then F.truncate nm nn else if kd = 4 then F.rename nm to else if kd = 5 then F.remove nm else if kd = 6 then ({ F with armed := max nn 0 }, 0) else if kd = 7 then (F.crash fun _ _ => nn, 0) else (F, 0)) := Lib.hid rfl
  by_cases h0 : kd = 0
  · subst h0
    have hr : Hid (F.told ⟨0, nn, nm, to, b⟩ = F.create nm) := Lib.hid rfl
    clear HR HE
    go_enter Try.func37, Try.ntmps37
    go_wp2_with (fail)
    obtain ⟨mb, rs, h1⟩ := H1.out
    refine (f_create h1 HO.out hk nm).mono ?_
    rintro e w' ⟨rfl, hp⟩
    have HP := Lib.hid (FsPost.trans_keeps HB.out HL.out hp)
    clear hp
    go_wp2_with (fail)
    refine (r_num _ _).mono ?_
    rintro e w2 ⟨rfl, rfl⟩
    go_wp2_with (fail)
    go_ret
    unfold ToldPost
    rw [hr.out]
    exact ⟨rfl, HP.out⟩
  by_cases h1 : kd = 1
  · subst h1
    have hr : Hid (F.told ⟨1, nn, nm, to, b⟩ = F.append nm b) := Lib.hid rfl
    clear HR HE
    go_enter Try.func37, Try.ntmps37
    go_wp2_with (fail)
    obtain ⟨mb, rs, h1⟩ := H1.out
    refine (f_append h1 HO.out hk nm HU.out.bytes HU.out.small).mono ?_
    rintro e w' ⟨rfl, hp⟩
    have HP := Lib.hid (FsPost.trans_keeps HB.out HL.out hp)
    clear hp
    go_wp2_with (fail)
    refine (r_num _ _).mono ?_
    rintro e w2 ⟨rfl, rfl⟩
    go_wp2_with (fail)
    go_ret
    unfold ToldPost
    rw [hr.out]
    exact ⟨rfl, HP.out⟩
  by_cases h2 : kd = 2
  · subst h2
    have hr : Hid (F.told ⟨2, nn, nm, to, b⟩ = F.sync nm) := Lib.hid rfl
    clear HR HE
    go_enter Try.func37, Try.ntmps37
    go_wp2_with (fail)
    obtain ⟨mb, rs, h1⟩ := H1.out
    refine (f_sync h1 HO.out hk nm).mono ?_
    rintro e w' ⟨rfl, hp⟩
    have HP := Lib.hid (FsPost.trans_keeps HB.out HL.out hp)
    clear hp
    go_wp2_with (fail)
    refine (r_num _ _).mono ?_
    rintro e w2 ⟨rfl, rfl⟩
    go_wp2_with (fail)
    go_ret
    unfold ToldPost
    rw [hr.out]
    exact ⟨rfl, HP.out⟩
  by_cases h3 : kd = 3
  · subst h3
    have hr : Hid (F.told ⟨3, nn, nm, to, b⟩ = F.truncate nm nn) := Lib.hid rfl
    clear HR HE
    go_enter Try.func37, Try.ntmps37
    go_wp2_with (fail)
    obtain ⟨mb, rs, h1⟩ := H1.out
    refine (f_truncate h1 HO.out hk nm nn).mono ?_
    rintro e w' ⟨rfl, hp⟩
    have HP := Lib.hid (FsPost.trans_keeps HB.out HL.out hp)
    clear hp
    go_wp2_with (fail)
    refine (r_num _ _).mono ?_
    rintro e w2 ⟨rfl, rfl⟩
    go_wp2_with (fail)
    go_ret
    unfold ToldPost
    rw [hr.out]
    exact ⟨rfl, HP.out⟩
  by_cases h4 : kd = 4
  · subst h4
    have hr : Hid (F.told ⟨4, nn, nm, to, b⟩ = F.rename nm to) := Lib.hid rfl
    clear HR HE
    go_enter Try.func37, Try.ntmps37
    go_wp2_with (fail)
    obtain ⟨mb, rs, h1⟩ := H1.out
    refine (f_rename h1 HO.out hk nm to).mono ?_
    rintro e w' ⟨rfl, hp⟩
    have HP := Lib.hid (FsPost.trans_keeps HB.out HL.out hp)
    clear hp
    go_wp2_with (fail)
    refine (r_num _ _).mono ?_
    rintro e w2 ⟨rfl, rfl⟩
    go_wp2_with (fail)
    go_ret
    unfold ToldPost
    rw [hr.out]
    exact ⟨rfl, HP.out⟩
  by_cases h5 : kd = 5
  · subst h5
    have hr : Hid (F.told ⟨5, nn, nm, to, b⟩ = F.remove nm) := Lib.hid rfl
    clear HR HE
    go_enter Try.func37, Try.ntmps37
    go_wp2_with (fail)
    obtain ⟨mb, rs, h1⟩ := H1.out
    refine (f_remove h1 HO.out hk nm).mono ?_
    rintro e w' ⟨rfl, hp⟩
    have HP := Lib.hid (FsPost.trans_keeps HB.out HL.out hp)
    clear hp
    go_wp2_with (fail)
    refine (r_num _ _).mono ?_
    rintro e w2 ⟨rfl, rfl⟩
    go_wp2_with (fail)
    go_ret
    unfold ToldPost
    rw [hr.out]
    exact ⟨rfl, HP.out⟩
  by_cases h6 : kd = 6
  · subst h6
    have hr : Hid (F.told ⟨6, nn, nm, to, b⟩ = ({ F with armed := max nn 0 }, 0)) := Lib.hid rfl
    clear HR HE
    go_enter Try.func37, Try.ntmps37
    go_wp2_with (fail)
    obtain ⟨mb, rs, h1⟩ := H1.out
    refine (f_arm h1 nn HU.out.n0 HU.out.n1).mono ?_
    rintro e w' ⟨rfl, hp⟩
    have HP := Lib.hid (FsPost.trans_keeps HB.out HL.out hp)
    clear hp
    go_wp2_with (fail)
    refine (r_num _ _).mono ?_
    rintro e w2 ⟨rfl, rfl⟩
    go_wp2_with (fail)
    go_ret
    unfold ToldPost
    rw [hr.out]
    exact ⟨rfl, HP.out⟩
  by_cases h7 : kd = 7
  · subst h7
    have hr : Hid (F.told ⟨7, nn, nm, to, b⟩ = (F.crash fun _ _ => nn, 0)) := Lib.hid rfl
    have eg := enters_of Try.func60 (P := Try.prog) (by kernel_rfl) rfl
    clear HR HE
    go_enter Try.func37, Try.ntmps37
    go_wp2_with (fail)
    refine (s_crash_const H1.out HO.out 60 #[.pointer (some ⟨w.heap.size, 0, none⟩)] eg nn ?_).mono ?_
    · intro n m W hW
      exact x_told1 ⟨7, nn, nm, to, b⟩ (.slice ua b.length ucap) w.heap.size W n m (hW.obj HBLK.out (fun e => by have := HL.out _ e; omega))
    rintro e w' ⟨rfl, hp⟩
    have HP := Lib.hid (FsPost.trans_keeps HB.out HL.out hp)
    clear hp
    go_wp2_with (fail)
    refine (r_num _ _).mono ?_
    rintro e w2 ⟨rfl, rfl⟩
    go_wp2_with (fail)
    go_ret
    unfold ToldPost
    rw [hr.out]
    exact ⟨rfl, HP.out⟩
  have hr : Hid (F.told ⟨kd, nn, nm, to, b⟩ = (F, 0)) := Lib.hid (by rw [HR.out, if_neg h0, if_neg h1, if_neg h2, if_neg h3, if_neg h4, if_neg h5, if_neg h6, if_neg h7])
  have HP : Hid (FsPost w fb F S (w.alloc (.cells (opCells ⟨kd, nn, nm, to, b⟩ (.slice ua b.length ucap)) 55))) := Lib.hid (HOI.out.post HB.out)
  have k0 : (kd == 0) = false := beq_eq_false_iff_ne.2 h0
  have k1 : (kd == 1) = false := beq_eq_false_iff_ne.2 h1
  have k2 : (kd == 2) = false := beq_eq_false_iff_ne.2 h2
  have k3 : (kd == 3) = false := beq_eq_false_iff_ne.2 h3
  have k4 : (kd == 4) = false := beq_eq_false_iff_ne.2 h4
  have k5 : (kd == 5) = false := beq_eq_false_iff_ne.2 h5
  have k6 : (kd == 6) = false := beq_eq_false_iff_ne.2 h6
  have k7 : (kd == 7) = false := beq_eq_false_iff_ne.2 h7
  clear HR HE h0 h1 h2 h3 h4 h5 h6 h7
  go_enter Try.func37, Try.ntmps37
  go_wp2_with (fail)
  refine (r_num _ _).mono ?_
  rintro e w2 ⟨rfl, rfl⟩
  go_wp2_with (fail)
  go_ret
  unfold ToldPost
  rw [hr.out]
  exact ⟨rfl, HP.out⟩
end
end Go.Proofs.Ytmfiibehclbnjaa
