/- The walks of the file system: New, fresh, Read. -/
import Derived.Test.YtmfiibehclbnjaaFsH
namespace Go.Proofs.Ytmfiibehclbnjaa
open Go.RowKit Go.Shelf

theorem make_bytes (w : World) (n : Nat) (hn : n ≤ 1000000000) : ∃ W1, (Instr.makeSlice 28 (.int .i64 0) (.int .i64 (n : Int))).run Try.prog w = .ok (.slice (some ⟨w.heap.size, 0, none⟩) 0 n) W1 ∧ SlAt byteKind 5 W1 (.slice (some ⟨w.heap.size, 0, none⟩) 0 n) ([] : List UInt8) ∧ Below w.heap.size w W1 := by
  obtain ⟨i0, hi, hz0, hz1, hz2⟩ := info_parts infoU8
  have hr := run_make (P := Try.prog) w 28 5 i0 _ Try.underlying28 hi hz0 .i64 .i64 0 (n : Int) (Int.le_refl _) (by omega) (by rw [hz2]; omega) (by omega)
  simp only [Int.toNat_zero, Int.toNat_natCast] at hr
  refine ⟨_, hr, .inr ⟨w.heap.size, 0, n, _, rfl, heap_alloc_new w _, by simp, by unfold maxLen; omega, ?_, fun i hi => by simp at hi⟩, (Below.refl _ _).alloc (Nat.le_refl _) _⟩
  rw [size_madeCells, hz1]
  show 0 + n * 1 ≤ n * 1
  omega
section
variable {w : World}
/-- New bytes. -/
structure FreshAt (w w' : World) (v : Value) (ys : List UInt8) : Prop where
  sl : SlAt byteKind 5 w' v ys
  new : ∀ k, v.ownBlock = some k → w.heap.size ≤ k
  below : Below w.heap.size w w'
set_option maxRecDepth 100000 in
set_option maxHeartbeats 1000000 in
theorem f_fresh {u : Value} {ys : List UInt8} (hu : RdAt byteKind w u ys) (hn : ys.length ≤ 1000000000) :
    Calls Try.prog 47 #[u] w fun e w' => ∃ v, e = .returned v ∧ FreshAt w w' v ys := by
  obtain ⟨W1, hmk, hs1, hk1⟩ := make_bytes w ys.length hn
  obtain ⟨v', w2, hrun, hs2, hk2, ho2, _⟩ := append_bytes hs1 (hu.below hk1) (by simp; omega) 28
  obtain ⟨a, cap, rfl, _⟩ := hu
  have HF : Hid (FreshAt w w2 v' ys) := Lib.hid ⟨hs2, fun k hk => by
    rcases ho2 k hk with e | e
    · simp [Value.ownBlock] at e; omega
    · exact Nat.le_trans hk1.size e, below_keeps hk1 hk2 (fun i e => by simp [Value.ownBlock] at e; omega) hk1.size⟩
  clear hs1 hk1 hs2 hk2 ho2
  have hn' : (ys.length : Int) ≤ 1000000000 := by omega
  go_enter Try.func47, Try.ntmps47
  go_wp2_with (at_builtin; refine wpList_append_run rfl (.tmp 5) (.tmp 6) 28 rfl _ _ rfl rfl _ _ hrun ?_)
  go_ret
  exact ⟨_, rfl, HF.out⟩
/-- What Read hands back. -/
def ReadRes (w : World) (o : Option FileS) (e : Ending) (w' : World) : Prop := match o with
  | none => e = .returned (.tuple #[.slice none 0 0, .int .i64 2]) ∧ w' = w
  | some x => ∃ v, e = .returned (.tuple #[v, .int .i64 0]) ∧ FreshAt w w' v x.data
variable {fb mb : Nat} {F : FsS} {S : Nat → Prop} {rs : List (ByteArray × Pl)}
set_option maxRecDepth 100000 in
set_option maxHeartbeats 1000000 in
theorem f_read (h : FsAt w fb F S mb rs) (n : ByteArray) (hl : ∀ x, F.find n = some x → x.data.length ≤ 1000000000) :
    Calls Try.prog 15 #[.pointer (some ⟨fb, 0, none⟩), .string n] w fun e w' => ReadRes w (F.find n) e w' := by
  have hlo := fs_look h n
  have c2 : w.cell? ⟨fb, 2, none⟩ = some (.map (some mb)) := blk_cell h.blk 2
  rw [h.find] at hl ⊢
  cases hf : findL slt rs n with
  | none =>
    rw [hf] at hlo
    replace hlo : (Instr.lookup 71 (.map (some mb)) (.string n) false).run Try.prog w = .ok (.pointer none) w := hlo
    clear hf h hl
    go_enter Try.func15, Try.ntmps15
    go_wp2
    go_ret2
    exact ⟨rfl, rfl⟩
  | some p =>
    rw [hf] at hlo hl
    replace hlo : (Instr.lookup 71 (.map (some mb)) (.string n) false).run Try.prog w = .ok (.pointer (some ⟨p.g, 0, none⟩)) w := hlo
    have hp := h.pl _ (findL_mem slt_ord hf)
    have d0 : w.cell? ⟨p.g, 0, none⟩ = some p.v := blk_cell hp.blk 0
    have HR := Lib.hid (f_fresh hp.bytes.rd (hl p.fl rfl))
    clear hf h hp hl
    go_enter Try.func15, Try.ntmps15
    go_wp2_with (fail)
    refine HR.out.mono ?_
    rintro e w' ⟨v, rfl, hv⟩
    have HV := Lib.hid hv
    clear hv
    go_wp2_with (fail)
    go_ret2
    show ∃ v, _ ∧ FreshAt w _ v p.fl.data
    exact ⟨v, rfl, HV.out⟩
theorem mapNil {K V : Type} (kk : KeyKind K) (ev : V → Value) (w : World) (b : Nat) (h : w.heap[b]? = some (.map #[] 0)) : MapAt kk ev w b ([] : List (K × V)) := by
  refine ⟨List.Pairwise.nil, #[], 0, h, ⟨by simp, by simp, by simp⟩, by simp⟩
set_option maxRecDepth 100000 in
set_option maxHeartbeats 1000000 in
theorem f_new (m : Int) (h0 : -9223372036854775808 ≤ m) (h1 : m ≤ 9223372036854775807) :
    Calls Try.prog 39 #[.int .i64 m] w fun e w' => ∃ fb, e = .returned (.pointer (some ⟨fb, 0, none⟩)) ∧ FsIs w' fb ⟨min (max m 0) 67108864, 0, [], 0, 0, false⟩ (New w w' fun _ => False) ∧ Below w.heap.size w w' := by
  have hmm := run_makeMap (P := Try.prog) 71 w
  obtain ⟨hk, hb0, hb1, hsz⟩ := alloc2 w (.map #[] 0) (.cells #[.int .i64 (min (max m 0) 67108864), .int .i64 0, .map (some w.heap.size), .int .i64 0, .int .i64 0, .bool false] 73)
  go_enter Try.func39, Try.ntmps39
  go_wp2_with (fail)
  go_ret
  refine ⟨w.heap.size + 1, rfl, ⟨w.heap.size, [], hb1, mapNil _ _ _ _ hb0, rfl, fun x hx => by simp at hx, List.Pairwise.nil, ?_, ?_, fun x hx => by simp at hx, new_lt (fun _ e => e.elim) hk.size⟩, hk⟩
  · exact .inr ⟨by omega, by omega⟩
  · exact .inr ⟨by omega, by omega⟩
end
end Go.Proofs.Ytmfiibehclbnjaa
