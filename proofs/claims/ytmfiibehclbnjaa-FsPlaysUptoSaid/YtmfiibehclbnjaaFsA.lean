/- The walks of the file system's small functions: of, write, Size, what is read off it; New. -/
import Derived.Test.YtmfiibehclbnjaaFsM
import Derived.Test.YtmfiibehclbnjaaRows
import Derived.WalkSpells
import Derived.WalkLawsBesides
import Derived.Lib.MinMax
import Derived.Lib.Hide
import Derived.BigQuiet
import Derived.StillTailTactics
import Derived.Deep.RegionHeld3
import Derived.Shelf.Abstract
import Derived.RangeFuncCalls
namespace Go.Proofs.Ytmfiibehclbnjaa
open Go.RowKit Go.Shelf

abbrev Only (b : Nat) : Nat → Prop := fun k => k = b
theorem keeps_set (w : World) (b i : Nat) (u : Value) : Keeps (Only b) w (w.setCell ⟨b, i, none⟩ u) := (Keeps.refl (Only b) w).setCell (p := ⟨b, i, none⟩) (fun _ => rfl) u
theorem below_drewN (B : Nat) (W : World) (n : Nat) : Below B W (W.drewN n) := ⟨rfl, rfl, rfl, Nat.le_refl _, fun _ _ => rfl⟩

abbrev ptrOf (o : Option Pl) : Value := .pointer (o.map fun p => ⟨p.g, 0, none⟩)
theorem zeroPF (w : World) : (zeroValue 70).run Try.prog w = .ok (.pointer none) w := by kernel_rfl
section
variable {w : World} {fb mb : Nat} {F : FsS} {S : Nat → Prop} {rs : List (ByteArray × Pl)}
theorem fs_look (h : FsAt w fb F S mb rs) (n : ByteArray) : (Instr.lookup 71 (.map (some mb)) (.string n) false).run Try.prog w = .ok (ptrOf (findL slt rs n)) w := by
  have := h.map.lookup (P := Try.prog) (t := 71) Try.underlying71 Try.underlying9 (zeroPF w) n false
  rw [if_neg (by simp)] at this
  refine this.trans ?_
  show Result.ok (((findL slt rs n).map evP).getD (.pointer none)) w = _
  cases findL slt rs n <;> rfl

/-- What of hands back. -/
def ofRes (d : Bool) (o : Option Pl) : Value := if d then .tuple #[.pointer none, .int .i64 5] else match o with | none => .tuple #[.pointer none, .int .i64 2] | some p => .tuple #[.pointer (some ⟨p.g, 0, none⟩), .int .i64 0]
set_option maxRecDepth 100000 in
set_option maxHeartbeats 400000 in
theorem f_of (h : FsAt w fb F S mb rs) (n : ByteArray) : Calls Try.prog 48 #[.pointer (some ⟨fb, 0, none⟩), .string n] w fun e w' => e = .returned (ofRes F.down (findL slt rs n)) ∧ w = w' := by
  have hl := fs_look h n
  have c2 : w.cell? ⟨fb, 2, none⟩ = some (.map (some mb)) := blk_cell h.blk 2
  have c5 : w.cell? ⟨fb, 5, none⟩ = some (.bool F.down) := blk_cell h.blk 5
  clear h
  cases hd : F.down with
  | true =>
    rw [hd] at c5
    go_enter Try.func48, Try.ntmps48
    go_wp2
    go_ret2
    exact ⟨rfl, rfl⟩
  | false =>
    rw [hd] at c5
    cases hf : findL slt rs n with
    | none =>
      rw [hf] at hl
      replace hl : (Instr.lookup 71 (.map (some mb)) (.string n) false).run Try.prog w = .ok (.pointer none) w := hl
      clear hd hf
      go_enter Try.func48, Try.ntmps48
      go_wp2
      go_ret2
      exact ⟨rfl, rfl⟩
    | some p =>
      rw [hf] at hl
      replace hl : (Instr.lookup 71 (.map (some mb)) (.string n) false).run Try.prog w = .ok (.pointer (some ⟨p.g, 0, none⟩)) w := hl
      clear hd hf
      go_enter Try.func48, Try.ntmps48
      go_wp2
      go_ret2
      exact ⟨rfl, rfl⟩
/-- What Size hands back. -/
def sizeRes (o : Option FileS) : Value := match o with | none => .tuple #[.int .i64 0, .int .i64 2] | some x => .tuple #[.int .i64 (x.data.length : Int), .int .i64 0]
theorem findL_mem {K V : Type} {lt : K → K → Bool} (H : KeyOrd lt) {m : List (K × V)} {k : K} {v : V} (h : findL lt m k = some v) : (k, v) ∈ m := by
  obtain ⟨a, b, e⟩ := findL_split H h
  rw [e]; simp
set_option maxRecDepth 100000 in
set_option maxHeartbeats 400000 in
theorem f_size (h : FsAt w fb F S mb rs) (n : ByteArray) : Calls Try.prog 27 #[.pointer (some ⟨fb, 0, none⟩), .string n] w fun e w' => e = .returned (sizeRes (F.find n)) ∧ w = w' := by
  have hl := fs_look h n
  have c2 : w.cell? ⟨fb, 2, none⟩ = some (.map (some mb)) := blk_cell h.blk 2
  rw [h.find]
  cases hf : findL slt rs n with
  | none =>
    rw [hf] at hl
    replace hl : (Instr.lookup 71 (.map (some mb)) (.string n) false).run Try.prog w = .ok (.pointer none) w := hl
    clear hf h
    go_enter Try.func27, Try.ntmps27
    go_wp2
    go_ret2
    exact ⟨rfl, rfl⟩
  | some p =>
    rw [hf] at hl
    replace hl : (Instr.lookup 71 (.map (some mb)) (.string n) false).run Try.prog w = .ok (.pointer (some ⟨p.g, 0, none⟩)) w := hl
    have hp := h.pl _ (findL_mem slt_ord hf)
    obtain ⟨a, cap, hv⟩ := hp.bytes.shape
    have d0 : w.cell? ⟨p.g, 0, none⟩ = some (.slice a p.fl.data.length cap) := by rw [← hv]; exact blk_cell hp.blk 0
    clear hf h hp hv
    go_enter Try.func27, Try.ntmps27
    go_wp2
    go_ret2
    exact ⟨rfl, rfl⟩
theorem f_used (h : FsAt w fb F S mb rs) : Calls Try.prog 16 #[.pointer (some ⟨fb, 0, none⟩)] w fun e w' => e = .returned (.int .i64 F.used) ∧ w = w' := by
  have c : w.cell? ⟨fb, 1, none⟩ = some (.int .i64 F.used) := blk_cell h.blk 1
  clear h
  go_enter Try.func16, Try.ntmps16
  go_wp2
  go_ret
  exact ⟨rfl, rfl⟩
theorem f_room (h : FsAt w fb F S mb rs) : Calls Try.prog 41 #[.pointer (some ⟨fb, 0, none⟩)] w fun e w' => e = .returned (.int .i64 F.room) ∧ w = w' := by
  have c : w.cell? ⟨fb, 0, none⟩ = some (.int .i64 F.room) := blk_cell h.blk 0
  clear h
  go_enter Try.func41, Try.ntmps41
  go_wp2
  go_ret
  exact ⟨rfl, rfl⟩
theorem f_steps (h : FsAt w fb F S mb rs) : Calls Try.prog 38 #[.pointer (some ⟨fb, 0, none⟩)] w fun e w' => e = .returned (.int .i64 F.steps) ∧ w = w' := by
  have c : w.cell? ⟨fb, 3, none⟩ = some (.int .i64 F.steps) := blk_cell h.blk 3
  clear h
  go_enter Try.func38, Try.ntmps38
  go_wp2
  go_ret
  exact ⟨rfl, rfl⟩
theorem f_down (h : FsAt w fb F S mb rs) : Calls Try.prog 35 #[.pointer (some ⟨fb, 0, none⟩)] w fun e w' => e = .returned (.bool F.down) ∧ w = w' := by
  have c : w.cell? ⟨fb, 5, none⟩ = some (.bool F.down) := blk_cell h.blk 5
  clear h
  go_enter Try.func35, Try.ntmps35
  go_wp2
  go_ret
  exact ⟨rfl, rfl⟩
theorem FsAt.post (h : FsAt w fb F S mb rs) {w' : World} {F' : FsS} {mb' : Nat} {rs' : List (ByteArray × Pl)} (h' : FsAt w' fb F' S mb' rs') (hk : Keeps (Only fb) w w') : FsPost w fb F' S w' :=
  ⟨⟨mb', rs', h'.mono (fun _ e => .inl e) (new_lt h.lt hk.size)⟩, hk.mono (fun k _ e => by have : k = fb := e; rw [this]; exact h.sfb)⟩
set_option maxRecDepth 100000 in
set_option maxHeartbeats 400000 in
theorem f_arm (h : FsAt w fb F S mb rs) (n : Int) (h0 : -9223372036854775808 ≤ n) (h1 : n ≤ 9223372036854775807) : Calls Try.prog 40 #[.pointer (some ⟨fb, 0, none⟩), .int .i64 n] w fun e w' => e = .returned (.tuple #[]) ∧ FsPost w fb { F with armed := max n 0 } S w' := by
  have c : w.cell? ⟨fb, 4, none⟩ = some (.int .i64 F.armed) := blk_cell h.blk 4
  have z : w.frozen? ⟨fb, 4, none⟩ = false := blk_free h.blk 4
  have H := Lib.hid h
  clear h
  go_enter Try.func40, Try.ntmps40
  go_wp2
  go_end0
  exact ⟨rfl, H.out.post (H.out.setCell (F' := { F with armed := max n 0 }) rfl rfl) (keeps_set _ _ _ _)⟩
end
set_option maxRecDepth 100000 in
set_option maxHeartbeats 1000000 in
theorem f_write {w : World} {fb mb : Nat} {F : FsS} {S : Nat → Prop} {rs : List (ByteArray × Pl)} (h : FsAt w fb F S mb rs) (g : Nat) (lb : Array Value) (eg : ∀ args w, (callFunc g args).run Try.prog w = .ok (.enter g args) w) (eff : FsS → FsS) (ha : F.armed ≤ 9223372036854775807)
    (hdo : ∀ w1 a, FsAt w1 fb { F with armed := a } S mb rs → Keeps (Only fb) w w1 → w1.heap.size = w.heap.size → Calls Try.prog g lb w1 fun e w2 => e = .returned (.tuple #[]) ∧ FsPost w1 fb (eff { F with armed := a }) S w2)
    (hs : ∀ a, 0 ≤ (eff { F with armed := a }).steps ∧ (eff { F with armed := a }).steps < 1000000000) :
    Calls Try.prog 49 #[.pointer (some ⟨fb, 0, none⟩), .func (.func g) #[] lb] w fun e w' => e = .returned (.int .i64 (F.write eff).2) ∧ FsPost w fb (F.write eff).1 S w' := by
  have c4 : w.cell? ⟨fb, 4, none⟩ = some (.int .i64 F.armed) := blk_cell h.blk 4
  have z4 : w.frozen? ⟨fb, 4, none⟩ = false := blk_free h.blk 4
  have HDO := Lib.hid hdo
  have HS := Lib.hid hs
  have H := Lib.hid h
  clear hdo hs
  have fin : ∀ (w1 : World) (a : Int) (w2 : World), FsAt w1 fb { F with armed := a } S mb rs → Keeps (Only fb) w w1 → w1.heap.size = w.heap.size → FsPost w1 fb (eff { F with armed := a }) S w2 →
      w2.cell? ⟨fb, 3, none⟩ = some (.int .i64 (eff { F with armed := a }).steps) ∧ w2.frozen? ⟨fb, 3, none⟩ = false ∧
      FsPost w fb { eff { F with armed := a } with steps := (eff { F with armed := a }).steps + 1 } S (w2.setCell ⟨fb, 3, none⟩ (.int .i64 ((eff { F with armed := a }).steps + 1))) := by
    intro w1 a w2 h1 hk1 hz1 hp
    obtain ⟨⟨mb2, rs2, h2⟩, hk2⟩ := hp
    refine ⟨blk_cell h2.blk 3, blk_free h2.blk 3, ⟨mb2, rs2, ?_⟩, ?_⟩
    · refine ((h2.setCell (F' := { eff { F with armed := a } with steps := (eff { F with armed := a }).steps + 1 }) rfl rfl).mono (T := New w (w2.setCell ⟨fb, 3, none⟩ (.int .i64 ((eff { F with armed := a }).steps + 1))) S) ?_ ?_)
      · rintro k (e | e)
        · exact .inl e
        · exact .inr ⟨by omega, by simpa using e.2⟩
      · exact new_lt h.lt (by have := hk2.size; simp; omega)
    · exact ((hk1.mono (fun k _ e => by have : k = fb := e; rw [this]; exact h.sfb)).trans' hk2).trans' ((keeps_set _ _ _ _).mono (fun k _ e => by have : k = fb := e; rw [this]; exact h.sfb))
  have FIN := Lib.hid fin
  clear fin
  by_cases h0 : 0 < F.armed
  · by_cases h1 : F.armed = 1
    · have hw : Hid (F.write eff = ({ F with armed := 0, down := true }, 5)) := Lib.hid (by unfold FsS.write; rw [if_pos h0, if_pos h1])
      have z5 : (w.setCell ⟨fb, 4, none⟩ (.int .i64 0)).frozen? ⟨fb, 5, none⟩ = false := blk_free (blk_set h.blk 4 _) 5
      have c5 : (w.setCell ⟨fb, 4, none⟩ (.int .i64 0)).cell? ⟨fb, 5, none⟩ = some (.bool F.down) := blk_cell (blk_set h.blk 4 _) 5
      clear h
      rw [h1] at c4
      clear h1 h0 ha
      go_enter Try.func49, Try.ntmps49
      go_wp2
      go_ret
      rw [hw.out]
      refine ⟨rfl, H.out.post (F' := { F with armed := 0, down := true }) (mb' := mb) (rs' := rs) ?_ ((keeps_set w fb 4 _).trans' (keeps_set _ fb 5 _))⟩
      exact (H.out.setCell (F' := { F with armed := 0 }) (i := 4) (u := .int .i64 0) rfl rfl).setCell (F' := { F with armed := 0, down := true }) (i := 5) (u := .bool true) rfl rfl
    · have hw : Hid (F.write eff = ({ eff { F with armed := F.armed - 1 } with steps := (eff { F with armed := F.armed - 1 }).steps + 1 }, 0)) := Lib.hid (by unfold FsS.write; rw [if_pos h0, if_neg h1])
      have H1 := Lib.hid (h.setCell (F' := { F with armed := F.armed - 1 }) (i := 4) (u := .int .i64 (F.armed - 1)) rfl rfl)
      have c4b : (w.setCell ⟨fb, 4, none⟩ (.int .i64 (F.armed - 1))).cell? ⟨fb, 4, none⟩ = some (.int .i64 (F.armed - 1)) := blk_cell (blk_set h.blk 4 _) 4
      have hne : ((F.armed - 1) == 0) = false := beq_eq_false_iff_ne.2 (by omega)
      have hb := HS.out (F.armed - 1)
      clear h h1
      go_enter Try.func49, Try.ntmps49
      go_wp2_with (fail)
      refine (HDO.out _ (F.armed - 1) H1.out (keeps_set _ _ _ _) (by simp)).mono ?_
      rintro e w2 ⟨rfl, hp⟩
      obtain ⟨c3, z3, hp2⟩ := FIN.out _ _ w2 H1.out (keeps_set _ _ _ _) (by simp) hp
      have HP2 := Lib.hid hp2
      clear hp hp2
      obtain ⟨hb0, hb1⟩ := hb
      go_wp2_with (fail)
      go_ret
      rw [hw.out]
      exact ⟨rfl, HP2.out⟩
  · have hw : Hid (F.write eff = ({ eff F with steps := (eff F).steps + 1 }, 0)) := Lib.hid (by unfold FsS.write; rw [if_neg h0])
    have hb := HS.out F.armed
    clear h
    go_enter Try.func49, Try.ntmps49
    go_wp2_with (fail)
    refine (HDO.out w F.armed H.out (Keeps.refl _ _) rfl).mono ?_
    rintro e w2 ⟨rfl, hp⟩
    obtain ⟨c3, z3, hp2⟩ := FIN.out w F.armed w2 H.out (Keeps.refl _ _) rfl hp
    have HP2 := Lib.hid hp2
    clear hp hp2
    obtain ⟨hb0, hb1⟩ := hb
    go_wp2_with (fail)
    go_ret
    rw [hw.out]
    exact ⟨rfl, HP2.out⟩
end Go.Proofs.Ytmfiibehclbnjaa
