/- Totals, plain. -/
import Derived.Test.YtkbdofbjfcajbaaGreatE12
namespace Go.Proofs.YtkbdofbjfcajbaaGreat
open Go.RowKit Go.Shelf Go.Sort

structure Tot where
  mtr : ByteArray
  qty : Int
  cnt : Int
def Tot.zero : Tot := ⟨⟨#[]⟩, 0, 0⟩
abbrev evTot (t : Tot) : Value := .agg #[.string t.mtr, .int .i64 t.qty, .int .i64 t.cnt]
def totCells (t : Tot) : List Value := [.string t.mtr, .int .i64 t.qty, .int .i64 t.cnt]
def totKind : ElKind Tot := ⟨totCells, 3, fun _ => rfl, by decide, fun _ u hu => by
  simp only [totCells, List.mem_cons, List.not_mem_nil, or_false] at hu; rcases hu with h | h | h <;> (subst h; rfl)⟩
def upT (o : Option Tot) (e : Ev) : Tot := ⟨e.mtr, (o.getD Tot.zero).qty + e.qty, (o.getD Tot.zero).cnt + 1⟩
/-- What was used, by meters. -/
abbrev totM (l : List Ev) : List (ByteArray × Tot) := Kv.tally (fun e : Ev => e.mtr) upT l
def qsum : List Ev → Int
  | [] => 0
  | e :: l => e.qty + qsum l
abbrev ofM (k : ByteArray) (l : List Ev) : List Ev := l.filter fun e => decide (e.mtr = k)
theorem upT_fold (k : ByteArray) : ∀ (l : List Ev), (∀ e ∈ l, e.mtr = k) → ∀ o : Option Tot, l.foldl (fun o e => some (upT o e)) o = if l = [] then o else some ⟨k, (o.getD Tot.zero).qty + qsum l, (o.getD Tot.zero).cnt + l.length⟩
  | [], _, _ => rfl
  | e :: l, h, o => by
    rw [List.foldl_cons, upT_fold k l (fun x hx => h x (by simp [hx]))]
    have he := h e (by simp)
    by_cases hl : l = []
    · subst hl; simp [upT, he, qsum]
    · rw [if_neg hl, if_neg (by simp)]
      simp only [upT, Option.getD_some, qsum, List.length_cons, Option.some.injEq, Tot.mk.injEq, true_and]
      constructor
      · omega
      · push_cast; omega
theorem tot_find (l : List Ev) (k : ByteArray) : findL slt (totM l) k = if ofM k l = [] then none else some ⟨k, qsum (ofM k l), ((ofM k l).length : Int)⟩ := by
  rw [Kv.tally_find, upT_fold k (ofM k l) (fun e he => by simpa using (List.mem_filter.1 he).2) none]
  have h0 : (Option.getD (none : Option Tot) Tot.zero).qty = 0 := rfl
  have h1 : (Option.getD (none : Option Tot) Tot.zero).cnt = 0 := rfl
  rw [h0, h1, Int.zero_add, Int.zero_add]
theorem qsum_bound {Q : Int} : ∀ (l : List Ev), (∀ e ∈ l, 0 ≤ e.qty ∧ e.qty ≤ Q) → 0 ≤ qsum l ∧ qsum l ≤ l.length * Q
  | [], _ => by simp [qsum]
  | e :: l, h => by
    have h1 := qsum_bound l (fun x hx => h x (by simp [hx]))
    have h2 := h e (by simp)
    simp only [qsum, List.length_cons]
    have : ((l.length + 1 : Nat) : Int) * Q = l.length * Q + Q := by rw [Int.natCast_add, Int.add_mul]; simp
    omega
theorem tot_bound {l : List Ev} (h : ∀ e ∈ l, 0 ≤ e.qty ∧ e.qty ≤ 1099511627776) (k : ByteArray) :
    0 ≤ ((findL slt (totM l) k).getD Tot.zero).qty ∧ ((findL slt (totM l) k).getD Tot.zero).qty ≤ l.length * 1099511627776 ∧ 0 ≤ ((findL slt (totM l) k).getD Tot.zero).cnt ∧ ((findL slt (totM l) k).getD Tot.zero).cnt ≤ l.length := by
  rw [tot_find]
  have hl := List.length_filter_le (fun e : Ev => decide (e.mtr = k)) l
  split
  · simp only [Option.getD_none, Tot.zero]; omega
  · have hb := qsum_bound (Q := 1099511627776) (ofM k l) (fun e he => h e (List.mem_filter.1 he).1)
    simp only [Option.getD_some]
    have : ((ofM k l).length : Int) ≤ (l.length : Int) := by exact_mod_cast hl
    omega
end Go.Proofs.YtkbdofbjfcajbaaGreat
