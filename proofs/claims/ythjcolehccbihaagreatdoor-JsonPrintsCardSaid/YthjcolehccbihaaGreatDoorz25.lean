/- The walks of a builder's methods, be it a variable's or a printer's. -/
import Derived.Test.YthjcolehccbihaaGreatDoorz24
import Derived.Lib.Builder
import Derived.Lib.OthersKept
import Derived.Lib.AppendStr
import Derived.Lib.UnsafeStr
import Derived.Laws.Externs
import Derived.Lib.BufferKept
namespace Go.Proofs.YthjcolehccbihaaGreatDoor
open Go.RowKit Go.Shelf
theorem u_noEscape (x : Value) (w : World) : (callFunc 113 #[x]).run Tryz.prog w = .ok (.value x) w := by
  rw [run_callFunc_extern Tryz.func113 (by kernel_rfl) (by kernel_rfl) (by kernel_rfl) (e := Extern.AbiNoEscape.same) (by kernel_rfl)]
  rw [Lib.run_noEscape]
  rfl
theorem lies_builder : liesAt Tryz.prog Tryz.prog.depth 77 (2 / Tryz.prog.cellsOf 77) 0 77 1 = true := by kernel_rfl
theorem lies_printer : liesAt Tryz.prog Tryz.prog.depth 79 (2 / Tryz.prog.cellsOf 79) 0 77 1 = true := by kernel_rfl
theorem size_builder : (Tryz.prog.info? 77).map (·.size) = some 2 := by kernel_rfl
section
variable {w : World} {T : TypeId} {B b : Nat} {bs : List Value}
set_option maxRecDepth 100000 in
theorem b_check_used (h0 : w.cell? ⟨b, 0, none⟩ = some (.pointer (some ⟨b, 0, none⟩))) : Calls Tryz.prog 86 #[.pointer (some ⟨b, 0, none⟩)] w fun e w' => e = .returned (.tuple #[]) ∧ w' = w := by
  obtain ⟨j, hj, _⟩ := Option.map_eq_some_iff.1 size_builder
  go_enter Tryz.func86, Tryz.ntmps86
  go_wp2
  rw [Lib.run_neq_ptr_same w _ Tryz.underlying75 hj]
  go_wp2
  go_end0
  exact ⟨rfl, rfl⟩
set_option maxRecDepth 100000 in
set_option maxHeartbeats 1000000 in
theorem b_check_fresh (hT : T = 77 ∨ T = 79) (h0 : w.cell? ⟨b, 0, none⟩ = some (.pointer none)) (hsh : w.shape? b = some (T, 2)) (hfz : w.frozen? ⟨b, 0, none⟩ = false) :
    Calls Tryz.prog 86 #[.pointer (some ⟨b, 0, none⟩)] w fun e w' => e = .returned (.tuple #[]) ∧ w' = w.setCell ⟨b, 0, none⟩ (.pointer (some ⟨b, 0, none⟩)) := by
  obtain ⟨j, hj, hjs⟩ := Option.map_eq_some_iff.1 size_builder
  have hne := u_noEscape (.pointer (some ⟨b, 0, none⟩)) w
  have hto := Lib.run_to_unsafe (P := Tryz.prog) w ⟨b, 0, none⟩ Tryz.underlying75 Tryz.underlying152 hj (by rw [hjs]; decide) hsh (Nat.zero_lt_succ 1)
  have hfrom := Lib.run_from_unsafe (P := Tryz.prog) w ⟨b, 0, none⟩ Tryz.underlying152 Tryz.underlying75 hj hsh (by rcases hT with rfl | rfl; exact lies_builder; exact lies_printer)
  clear hT
  go_enter Tryz.func86, Tryz.ntmps86
  go_wp2
  go_end0
  exact ⟨rfl, rfl⟩
theorem b_check (hT : T = 77 ∨ T = 79) (h : Lib.IsBuilder T 5 B b bs w) : Calls Tryz.prog 86 #[.pointer (some ⟨b, 0, none⟩)] w fun e w' => e = .returned (.tuple #[]) ∧ Lib.BuilderAt T 5 B b (.pointer (some ⟨b, 0, none⟩)) bs w' ∧ Below B w w' ∧ Lib.OthersKept 5 (some b) w w' := by
  rcases h with h | h
  · refine (b_check_fresh hT h.cell0 h.shape h.frozen0).mono ?_
    rintro e w' ⟨rfl, rfl⟩
    exact ⟨rfl, h.used _, (Below.refl B w).setCell (p := ⟨b, 0, none⟩) h.1 _, (Lib.OthersKept.refl _ _ _).setCell ⟨b, 0, none⟩ rfl _⟩
  · refine (b_check_used h.cell0).mono ?_
    rintro e w' ⟨rfl, rfl⟩
    exact ⟨rfl, h, Below.refl B _, Lib.OthersKept.refl _ _ _⟩
theorem infoU8 : (Tryz.prog.info? 5).map (fun i => (i.zero, i.size, i.bytes)) = some (some (.int .u8 0), 1, 1) := by kernel_rfl
theorem own_kind {e : TypeId} {size n : Nat} {v : Value} {xs : List Value} (h : w.ownsRow B e size v n xs) : ∀ k, v.ownBlock = some k → B ≤ k ∧ ∃ cur, w.heap[k]? = some (.cells cur e (0, 0)) := fun k hk => by
  rcases h.2 with ⟨rfl, _⟩ | ⟨g, cap, cur, rfl, hb, hg, _⟩
  · cases hk
  · cases hk; exact ⟨hb, cur, hg⟩
theorem others_grown {a w' : World} {v : Value} {e : TypeId} {size n : Nat} {xs : List Value} (h : Lib.OthersKept e (some b) a w) (hown : w.ownsRow B e size v n xs) (hg : w.grownBy w' v.ownBlock) : Lib.OthersKept e (some b) a w' := by
  intro k o hk hne ho
  have h1 := h k o hk hne ho
  refine (hg.block k (lt_of_block h1) (fun e' => ?_)).trans h1
  obtain ⟨_, cur, hc⟩ := own_kind hown k e'.symm
  rw [hc] at h1
  exact ho _ _ (Option.some.inj h1).symm
set_option maxRecDepth 100000 in
set_option maxHeartbeats 2000000 in
theorem b_writeByte (hT : T = 77 ∨ T = 79) (c : Int) (h : Lib.IsBuilder T 5 B b bs w) (hlen : bs.length ≤ 1000000000) (hBw : B ≤ w.heap.size) :
    Calls Tryz.prog 56 #[.pointer (some ⟨b, 0, none⟩), .int .u8 c] w fun e w' => e = .returned .nilIface ∧ Lib.IsBuilder T 5 B b (bs ++ [.int .u8 c]) w' ∧ Below B w w' ∧ Lib.OthersKept 5 (some b) w w' := by
  obtain ⟨i0, hi, hz0, hz1, hz2⟩ := info_parts infoU8
  have HC := Lib.hid (b_check hT h)
  have HTB : Hid (T ≠ 5) := Lib.hid (by rcases hT with rfl | rfl <;> decide)
  clear hT h
  go_enter Tryz.func56, Tryz.ntmps56
  go_wp2_with (fail)
  refine HC.out.mono ?_
  rintro e w1 ⟨rfl, h1, hb1, hk1⟩
  obtain ⟨hB, v, hbk, hown, hne⟩ := h1
  have c0 : w1.cell? ⟨b, 0, none⟩ = some (.pointer (some ⟨b, 0, none⟩)) := blk_cell hbk 0
  have c1 : w1.cell? ⟨b, 1, none⟩ = some v := blk_cell hbk 1
  have hz := hb1.size
  go_wp2_with (at_builtin; refine wpList_append_own _ rfl _ _ 26 rfl B 5 i0 (.int .u8 0) 1 1 Tryz.underlying26 hi hz0 hz1 hz2 rfl (by decide) _ _ _ rfl (hown.alloc _) ⟨w1.heap.size, 0, none⟩ 1 1 [.int .u8 c] rfl rfl (cell_one_new _ _ _) (by simp [Value.oneCell']) (by unfold maxLen; omega) (by omega) (by simp; omega) ?_)
  intro v' w2 hown' hgrow _
  have hb2 : IsBlk w2 b #[.pointer (some ⟨b, 0, none⟩), v] T := (hgrow.block b (by simp; have := lt_of_block hbk; omega) (fun e => hne e.symm)).trans ((Below.heap_alloc _ _ b (lt_of_block hbk)).trans hbk)
  have d0 : w2.cell? ⟨b, 0, none⟩ = some (.pointer (some ⟨b, 0, none⟩)) := blk_cell hb2 0
  have d1 : w2.cell? ⟨b, 1, none⟩ = some v := blk_cell hb2 1
  have f1 : w2.frozen? ⟨b, 1, none⟩ = false := blk_free hb2 1
  obtain ⟨g, cap, rfl⟩ : ∃ g cap, v' = .slice (some ⟨g, 0, none⟩) (bs.length + 1) cap := by
    rcases hown'.2 with ⟨_, h0⟩ | ⟨g, cap, cur, hv, _⟩
    · omega
    · exact ⟨g, cap, hv⟩
  go_wp2
  go_ret
  refine ⟨rfl, .inr (Lib.BuilderAt.put hB hb2 (bs' := bs ++ [.int .u8 c]) (by simpa using hown') HTB.out), ?_, ?_⟩
  · exact ((hb1.alloc (by have := hb1.size; omega) _).grown hgrow (by have := hb1.size; simp; omega) (fun k hk => (own_kind hown k hk).1)).setCell (p := ⟨b, 1, none⟩) hB _
  · exact (others_grown (hk1.alloc _) (hown.alloc _) hgrow).setCell ⟨b, 1, none⟩ rfl _
set_option maxRecDepth 100000 in
set_option maxHeartbeats 2000000 in
theorem b_writeString (hT : T = 77 ∨ T = 79) (s : ByteArray) (h : Lib.IsBuilder T 5 B b bs w) (hlen : bs.length + s.size ≤ 1000000000) (hBw : B ≤ w.heap.size) :
    Calls Tryz.prog 57 #[.pointer (some ⟨b, 0, none⟩), .string s] w fun e w' => e = .returned (.tuple #[.int .i64 (s.size : Int), .nilIface]) ∧ Lib.IsBuilder T 5 B b (bs ++ Lib.strCells s) w' ∧ Below B w w' ∧ Lib.OthersKept 5 (some b) w w' := by
  obtain ⟨i0, hi, hz0, hz1, hz2⟩ := info_parts infoU8
  have HC := Lib.hid (b_check hT h)
  have HTB : Hid (T ≠ 5) := Lib.hid (by rcases hT with rfl | rfl <;> decide)
  clear hT h
  go_enter Tryz.func57, Tryz.ntmps57
  go_wp2_with (fail)
  refine HC.out.mono ?_
  rintro e w1 ⟨rfl, h1, hb1, hk1⟩
  obtain ⟨hB, v, hbk, hown, hne⟩ := h1
  have c0 : w1.cell? ⟨b, 0, none⟩ = some (.pointer (some ⟨b, 0, none⟩)) := blk_cell hbk 0
  have c1 : w1.cell? ⟨b, 1, none⟩ = some v := blk_cell hbk 1
  have hz := hb1.size
  go_wp2_with (at_builtin; refine Lib.wpList_append_own_string _ rfl _ _ 26 9 rfl B 5 i0 Tryz.underlying26 Tryz.underlying9 hi hz0 hz1 hz2 _ _ _ rfl hown s rfl (by unfold maxLen; omega) (by omega) (by omega) ?_)
  intro v' w2 hown' hgrow _
  have hb2 : IsBlk w2 b #[.pointer (some ⟨b, 0, none⟩), v] T := (hgrow.block b (lt_of_block hbk) (fun e => hne e.symm)).trans hbk
  have d0 : w2.cell? ⟨b, 0, none⟩ = some (.pointer (some ⟨b, 0, none⟩)) := blk_cell hb2 0
  have d1 : w2.cell? ⟨b, 1, none⟩ = some v := blk_cell hb2 1
  have f1 : w2.frozen? ⟨b, 1, none⟩ = false := blk_free hb2 1
  obtain ⟨ao, n', cap, rfl⟩ : ∃ ao n' cap, v' = .slice ao n' cap := by
    rcases hown'.2 with ⟨hv, _⟩ | ⟨g, cap, cur, hv, _⟩
    · exact ⟨_, _, _, hv⟩
    · exact ⟨_, _, _, hv⟩
  go_wp2
  go_ret2
  refine ⟨rfl, .inr (Lib.BuilderAt.put hB hb2 (bs' := bs ++ Lib.strCells s) (by simpa [Lib.strCells_length] using hown') HTB.out), ?_, ?_⟩
  · exact (hb1.grown hgrow (by have := hb1.size; omega) (fun k hk => (own_kind hown k hk).1)).setCell (p := ⟨b, 1, none⟩) hB _
  · exact (others_grown hk1 hown hgrow).setCell ⟨b, 1, none⟩ rfl _
set_option maxRecDepth 100000 in
theorem b_len (h : Lib.IsBuilder T 5 B b bs w) : Calls Tryz.prog 35 #[.pointer (some ⟨b, 0, none⟩)] w fun e w' => e = .returned (.int .i64 (bs.length : Int)) ∧ w = w' := by
  obtain ⟨p, hB, v, hbk, hown, hne⟩ : ∃ p, Lib.BuilderAt T 5 B b p bs w := by
    rcases h with h | h
    · exact ⟨_, h⟩
    · exact ⟨_, h⟩
  have c1 : w.cell? ⟨b, 1, none⟩ = some v := blk_cell hbk 1
  obtain ⟨a, cap, rfl⟩ : ∃ a cap, v = .slice a bs.length cap := by
    rcases hown.2 with ⟨hv, hz⟩ | ⟨g, cap, cur, hv, _⟩
    · exact ⟨none, 0, by rw [hv, hz]⟩
    · exact ⟨_, _, hv⟩
  clear hbk hown hne h
  go_enter Tryz.func35, Tryz.ntmps35
  go_wp2
  go_ret
  exact ⟨rfl, rfl⟩
end
end Go.Proofs.YthjcolehccbihaaGreatDoor
namespace Go.Proofs.YthjcolehccbihaaGreatDoor
open Go.RowKit Go.Shelf
section
variable {w : World} {T : TypeId} {B b : Nat} {bs : List Value}
set_option maxRecDepth 100000 in
set_option maxHeartbeats 2000000 in
theorem b_string {l : List UInt8} (h : Lib.IsBuilder T 5 B b (Lib.byteCells l) w) (h0 : l ≠ []) : Calls Tryz.prog 36 #[.pointer (some ⟨b, 0, none⟩)] w fun e w' => e = .returned (.string ⟨l.toArray⟩) ∧ Below B w w' := by
  obtain ⟨p, hB, v, hbk, hown, hne⟩ : ∃ p, Lib.BuilderAt T 5 B b p (Lib.byteCells l) w := by
    rcases h with h | h
    · exact ⟨_, h⟩
    · exact ⟨_, h⟩
  have hl0 : l.length ≠ 0 := by simpa using h0
  rw [Lib.byteCells_length] at hown
  obtain ⟨g, cap, cur, rfl, hbg, hg, hnc, hcm, hcs, htake⟩ : ∃ g cap cur, v = .slice (some ⟨g, 0, none⟩) l.length cap ∧ B ≤ g ∧ w.heap[g]? = some (.cells cur 5 (0, 0)) ∧ l.length ≤ cap ∧ cap ≤ maxLen ∧ cur.size = cap * 1 ∧ cur.toList.take (l.length * 1) = Lib.byteCells l := by
    rcases hown.2 with ⟨_, hz⟩ | ⟨g, cap, cur, hv, r⟩
    · exact absurd hz hl0
    · exact ⟨g, cap, cur, hv, r⟩
  have c1 : w.drew.cell? ⟨b, 1, none⟩ = some (.slice (some ⟨g, 0, none⟩) l.length cap) := blk_cell (w := w.drew) hbk 1
  have hSD : (Builtin.unsafeSliceData_ #[26] 115 #[.slice (some ⟨g, 0, none⟩) l.length cap]).run Tryz.prog w.drew = .ok (.pointer (some ⟨g, 0, none⟩)) w.drew := Lib.run_unsafeSliceData_row _ _ _ _ _ _ (by omega)
  have hUS : (Builtin.unsafeString_ #[115, 3] 9 #[.pointer (some ⟨g, 0, none⟩), .int .i64 l.length]).run Tryz.prog w.drew = .ok (.string ⟨l.toArray⟩) (w.drew.freeze ⟨g, 0, none⟩ l.length) := by
    refine Lib.run_unsafeString_row w.drew 115 3 9 5 Tryz.underlying115 (by kernel_rfl) g cur.size (by have hg' : w.drew.heap[g]? = some (.cells cur 5 (0, 0)) := hg; simp [World.shape?, hg']) l h0 (by omega) (by unfold maxLen at hcm; omega) ?_
    intro j x hx
    have := hown.cells (g := g) rfl j (.int .u8 x.toNat) (by simp [Lib.byteCells, hx])
    exact this
  have HB := Lib.hid (Lib.below_freeze (Below.drew (Below.refl B w)) (p := ⟨g, 0, none⟩) hbg l.length)
  clear hbk hown hne h hbg hg hnc hcm hcs htake h0 hl0
  have mixed : Tryz.prog.follows .mixedOrders = true := by kernel_rfl
  go_enter Tryz.func36, Tryz.ntmps36
  go_wp2
  go_region_o
  all_goals
    go_wp2
    go_ret
    exact ⟨rfl, HB.out⟩
end
end Go.Proofs.YthjcolehccbihaaGreatDoor
namespace Go.Proofs.YthjcolehccbihaaGreatDoor
open Go.RowKit Go.Shelf
/-- A printer at b, that holds these bytes; its own memory is no older than B. -/
def Prn (B b : Nat) (l : List UInt8) (W : World) : Prop := Lib.IsBuilder 79 5 B b (Lib.byteCells l) W
/-- What a write keeps: what is older than B; what is no bytes, but for the printer. -/
structure PrK (B b : Nat) (W W' : World) : Prop where
  below : Below B W W'
  others : Lib.OthersKept 5 (some b) W W'
theorem PrK.trans {B b : Nat} {A C D : World} (h1 : PrK B b A C) (h2 : PrK B b C D) : PrK B b A D := ⟨h1.below.trans h2.below, h1.others.trans h2.others⟩
theorem PrK.refl (B b : Nat) (W : World) : PrK B b W W := ⟨Below.refl _ _, Lib.OthersKept.refl _ _ _⟩
theorem PrK.of_below {B b : Nat} {W W' : World} (h : Below W.heap.size W W') (hB : B ≤ W.heap.size) : PrK B b W W' := ⟨h.mono hB, (Lib.OthersKept.refl _ _ _).below h⟩
theorem PrK.blk {B b : Nat} {W W' : World} (h : PrK B b W W') {k : Nat} {cs : Array Value} {T : TypeId} (hk : IsBlk W k cs T) (hT : T ≠ 5) (hb : k ≠ b) : IsBlk W' k cs T :=
  h.others k _ hk (fun e => hb (Option.some.inj e)) (fun c fz e => hT (by injection e))
theorem PrK.size {B b : Nat} {W W' : World} (h : PrK B b W W') : W.heap.size ≤ W'.heap.size := h.below.size
theorem PrK.keeps {B b : Nat} {W W' : World} (h : PrK B b W W') : Keeps (fun k => B ≤ k) W W' :=
  ⟨h.below.os, h.below.tape, h.below.output, h.below.size, fun k _ hn => h.below.block k (Nat.lt_of_not_le hn)⟩
theorem Prn.lt {B b : Nat} {l : List UInt8} {W : World} (h : Prn B b l W) : b < W.heap.size := by
  rcases h with h | h
  · exact h.lt
  · exact h.lt
theorem Prn.le {B b : Nat} {l : List UInt8} {W : World} (h : Prn B b l W) : B ≤ b := by
  rcases h with h | h
  · exact h.1
  · exact h.1
theorem Prn.below {B b : Nat} {l : List UInt8} {W W' : World} (h : Prn B b l W) (hb : Below W.heap.size W W') : Prn B b l W' := by
  have key : ∀ {p : Value}, Lib.BuilderAt 79 5 B b p (Lib.byteCells l) W → Lib.BuilderAt 79 5 B b p (Lib.byteCells l) W' := by
    rintro p ⟨h1, v, h2, h3, h4⟩
    refine ⟨h1, v, (hb.block _ (lt_of_block h2)).trans h2, ⟨h3.1, ?_⟩, h4⟩
    rcases h3.2 with h5 | ⟨g, cap, cur, h5, h6, h7, h8⟩
    · exact .inl h5
    · exact .inr ⟨g, cap, cur, h5, h6, (hb.block _ (lt_of_block h7)).trans h7, h8⟩
  rcases h with h | h
  · exact .inl (key h)
  · exact .inr (key h)
theorem byteCells_app (l m : List UInt8) : Lib.byteCells (l ++ m) = Lib.byteCells l ++ Lib.byteCells m := by simp [Lib.byteCells]
section
variable {W : World} {B b : Nat} {l : List UInt8}
theorem pr_byte (c : UInt8) (h : Prn B b l W) (hl : l.length ≤ 1000000000) (hB : B ≤ W.heap.size) :
    Calls Tryz.prog 56 #[.pointer (some ⟨b, 0, none⟩), .int .u8 (c.toNat : Int)] W fun e W' => e = .returned .nilIface ∧ Prn B b (l ++ [c]) W' ∧ PrK B b W W' := by
  refine (b_writeByte (.inr rfl) (c.toNat : Int) h (by rw [Lib.byteCells_length]; exact hl) hB).mono ?_
  rintro e W' ⟨rfl, h1, h2, h3⟩
  exact ⟨rfl, by rw [Prn, byteCells_app]; exact h1, h2, h3⟩
theorem pr_text (s : ByteArray) (h : Prn B b l W) (hl : l.length + s.size ≤ 1000000000) (hB : B ≤ W.heap.size) :
    Calls Tryz.prog 57 #[.pointer (some ⟨b, 0, none⟩), .string s] W fun e W' => e = .returned (.tuple #[.int .i64 (s.size : Int), .nilIface]) ∧ Prn B b (l ++ raw s) W' ∧ PrK B b W W' := by
  refine (b_writeString (.inr rfl) s h (by rw [Lib.byteCells_length]; exact hl) hB).mono ?_
  rintro e W' ⟨rfl, h1, h2, h3⟩
  exact ⟨rfl, by rw [Prn, byteCells_app]; exact h1, h2, h3⟩
end
end Go.Proofs.YthjcolehccbihaaGreatDoor
