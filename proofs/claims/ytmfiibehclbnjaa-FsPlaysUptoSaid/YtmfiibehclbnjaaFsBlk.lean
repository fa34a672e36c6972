/- What a bound of the arguments' bulk gives: how long an operation's bytes are. -/
import Derived.Test.YtmfiibehclbnjaaFsArg
namespace Go.Proofs.Ytmfiibehclbnjaa
open Go.ChangeShapes Go.WideShapes Go.ChangeAt Go.RowKit

section
variable {H : Type} {enc : TypeId × Value → H} {W : World} {base : Nat} {spare : Nat → Bool} {held : Bool}
theorem bulk_pos (d : DataW H) : 1 ≤ Rows.uptoBulk d := by
  cases d with
  | lit l => cases l <;> simp [Rows.uptoBulk]
  | nil => simp [Rows.uptoBulk]
  | ptr d => simp [Rows.uptoBulk]
  | slice a b => simp [Rows.uptoBulk]
  | agg a => simp [Rows.uptoBulk]
  | iface a b => simp [Rows.uptoBulk]
  | map a => simp [Rows.uptoBulk]
  | held a => simp [Rows.uptoBulk]
theorem bulk_len : ∀ l : List (DataW H), l.length ≤ Rows.uptoBulkAll l
  | [] => by simp [Rows.uptoBulkAll]
  | d :: l => by
    have := bulk_pos d
    have := bulk_len l
    simp only [Rows.uptoBulkAll, List.length_cons]
    omega
theorem bulk_mem {d : DataW H} : ∀ {l : List (DataW H)}, d ∈ l → Rows.uptoBulk d ≤ Rows.uptoBulkAll l
  | x :: l, h => by
    simp only [Rows.uptoBulkAll]
    rcases List.mem_cons.1 h with e | e
    · subst e; omega
    · have := bulk_mem e; omega
/-- A slice of bytes is no longer than its bulk. -/
theorem bytes_bulk {n : Nat} {a : Option Addr} {len cap : Nat} {x : DataW H × List MemPlace} (h : DataW.trod enc Try.prog W base spare held n 28 [.slice a len cap] = some x) : len ≤ Rows.uptoBulk x.1 := by
  rcases open_ints Try.underlying28 Try.underlying5 cellsU8 h with ⟨hcs, _⟩ | ⟨a', len', cap', zs, hcs, _, hlc, hcm, hzl, hx, hc, hw⟩
  · injection hcs with e _
    injection e with _ e2 _
    omega
  · injection hcs with e _
    injection e with _ e2 _
    subst e2
    rw [hx]
    have := bulk_len (H := H) (lits .u8 (zs.take len))
    have hl : (lits (H := H) .u8 (zs.take len)).length = (zs.take len).length := by simp [lits]
    rw [hl, List.length_take] at this
    have hle : len ≤ zs.length := by rw [hzl]; split <;> omega
    show len ≤ Rows.uptoBulk (.slice (lits .u8 (zs.take len)) (lits .u8 (zs.drop len)))
    simp only [Rows.uptoBulk]
    omega
set_option maxRecDepth 100000 in
theorem fop_bulk {n : Nat} {c0 c1 c2 c3 : Value} {a : Option Addr} {len cap : Nat} {x : DataW H × List MemPlace} (h : DataW.trod enc Try.prog W base spare held n 55 [c0, c1, c2, c3, .slice a len cap] = some x) : len ≤ Rows.uptoBulk x.1 := by
  obtain ⟨xs, m, _, hx, hl, hxl, hf⟩ := DataW.trod_struct Try.underlying55 h
  have hxl : xs.length = 5 := hxl
  obtain ⟨y0, y1, y2, y3, y4, rfl⟩ : ∃ y0 y1 y2 y3 y4, xs = [y0, y1, y2, y3, y4] := by
    match xs, hxl with
    | [c0, c1, c2, c3, c4], _ => exact ⟨_, _, _, _, _, rfl⟩
  have g4 : DataW.trod enc Try.prog W base spare held m 28 (([c0, c1, c2, c3, .slice a len cap].drop 4).take (Try.prog.cellsOf 28)) = some y4 := hf 4 _ rfl
  rw [cellsBytes] at g4
  have h1 := bytes_bulk (x := y4) g4
  rw [hx]
  have h2 := bulk_mem (d := y4.1) (l := [y0, y1, y2, y3, y4].map (·.1)) (by simp)
  show len ≤ Rows.uptoBulk (.agg ([y0, y1, y2, y3, y4].map (·.1)))
  simp only [Rows.uptoBulk]
  omega
set_option maxRecDepth 100000 in
/-- Each operation's bytes are no longer than the operations' bulk. -/
theorem fops_bulk {v : Value} {d : DataW H} {p : List MemPlace} (h : DataW.Trod enc Try.prog W base spare held 22 v d p) {os : List FOp} (ho : FOpsAt W v os) : ∀ o ∈ os, o.b.length ≤ Rows.uptoBulk d := by
  intro o hm
  obtain ⟨j, hj⟩ := List.getElem?_of_mem hm
  obtain ⟨a0, c0, rfl, hcell⟩ := ho
  obtain ⟨fuel, hf⟩ := h
  have hjl := (List.getElem?_eq_some_iff.1 hj).1
  rcases Go.Deep.open_slice Try.underlying22 hf with ⟨hcs, _⟩ | ⟨a, len, cap, m, n, D, Pl, hcs, _, hl, hm2, hmm, hx, hi⟩
  · have hcs : [Value.slice a0 os.length c0] = [Value.slice none 0 0] := hcs
    injection hcs with e _
    injection e with _ e2 _
    omega
  · have hcs : [Value.slice a0 os.length c0] = [Value.slice (some a) len cap] := hcs
    injection hcs with e _
    injection e with e1 e2 e3
    subst e1 e2 e3
    have hlm : os.length ≤ m := by rw [hmm]; split <;> omega
    obtain ⟨cs', hc, ht⟩ := hi j (by omega)
    rw [cellsOp] at hc
    obtain ⟨_, hl5, hat⟩ := World.cells?_some hc
    obtain ⟨g, off, ba, bcap, e4, ⟨_, _, _, _, k4⟩, _⟩ := hcell j o hj
    simp only [Option.some.injEq] at e4
    subst e4
    obtain ⟨z0, z1, z2, z3, z4, rfl⟩ : ∃ z0 z1 z2 z3 z4, cs' = [z0, z1, z2, z3, z4] := by
      match cs', hl5 with
      | [c0, c1, c2, c3, c4], _ => exact ⟨_, _, _, _, _, rfl⟩
    have e : ((⟨g, off, none⟩ : Addr).add (j * 5)).add 4 = ⟨g, off + j * 5 + 4, none⟩ := by
      rw [add_plain rfl (j * 5)]
      exact add_plain rfl 4
    have h4 := hat 4 (by omega)
    rw [e, k4] at h4
    simp only [List.getElem?_cons_succ, List.getElem?_cons_zero, Option.some.injEq] at h4
    subst h4
    have h1 := fop_bulk ht
    have h2 := bulk_mem (d := D j) (l := (List.range os.length).map D) (List.mem_map.2 ⟨j, List.mem_range.2 hjl, rfl⟩)
    have hd : d = .slice ((List.range os.length).map D) ((List.range (m - os.length)).map fun i => D (os.length + i)) := congrArg (·.1) hx
    rw [hd]
    simp only [Rows.uptoBulk]
    simp only at h1
    omega
end
end Go.Proofs.Ytmfiibehclbnjaa
