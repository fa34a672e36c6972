/- Rows of bytes that a reader makes: read, appended to; the decoder's contract in plain words. -/
import Derived.Test.YthjcolehccbihaaGreatDoorJj
import Derived.Test.YthjcolehccbihaaGreatDoorJk
import Derived.Test.YthjcolehccbihaaGreatDoorJl
namespace Go.Proofs.YthjcolehccbihaaGreatDoor
open Go.RowKit Go.Shelf
open Go.Lib (encodeRune byteCells)

/-- A row of bytes of the call's own, newer than B. -/
def RowAt (w : World) (B : Nat) (v : Value) (out : List UInt8) : Prop := w.ownsRow B 5 1 v out.length (byteCells out)
theorem RowAt.nil (w : World) (B : Nat) : RowAt w B (.slice none 0 0) [] := World.ownsRow_nil w B 5 1
section
variable {w w' : World} {B : Nat} {v : Value} {out : List UInt8}
theorem byteCells_get (l : List UInt8) (i : Nat) : (byteCells l)[i]? = (l[i]?).map fun b => Value.int .u8 (b.toNat : Int) := by simp [byteCells]
theorem RowAt.shape (h : RowAt w B v out) : ∃ (a : Option Addr) (cap : Nat), v = .slice a out.length cap := by
  rcases h.2 with ⟨rfl, h0⟩ | ⟨g, cap, cur, rfl, _⟩
  · exact ⟨none, 0, by rw [h0]⟩
  · exact ⟨_, _, rfl⟩
theorem RowAt.rd (h : RowAt w B v out) : RdAt byteKind w v out := by
  obtain ⟨hl, h | ⟨g, cap, cur, rfl, hb, hg, hn, hm, hs, ht⟩⟩ := h
  · obtain ⟨rfl, h0⟩ := h
    have : out = [] := List.length_eq_zero_iff.1 h0
    subst this
    exact rdNil _ _
  · refine ⟨_, _, rfl, fun j x hx => ⟨g, 0, rfl, fun i hi => ?_⟩⟩
    have hi0 : i = 0 := by have : i < 1 := hi; omega
    subst hi0
    have hj := (List.getElem?_eq_some_iff.1 hx).1
    have h1 : cur.toList[j]? = some (.int .u8 (x.toNat : Int)) := by
      have h2 : (cur.toList.take (out.length * 1))[j]? = some (.int .u8 (x.toNat : Int)) := by rw [ht, byteCells_get, hx]; rfl
      rwa [List.getElem?_take_of_lt (by omega)] at h2
    show w.cell? ⟨g, 0 + j * 1 + 0, none⟩ = _
    rw [show 0 + j * 1 + 0 = j by omega]
    simp only [World.cell?, hg]
    simpa [byteKind] using h1
theorem RowAt.keeps {S : Nat → Prop} (h : RowAt w B v out) (hk : Keeps S w w') (hn : ∀ g, B ≤ g → ¬ S g) : RowAt w' B v out := by
  obtain ⟨hl, h | ⟨g, cap, cur, rfl, hb, hg, r⟩⟩ := h
  · exact ⟨hl, .inl h⟩
  · exact ⟨hl, .inr ⟨g, cap, cur, rfl, hb, hk.obj hg (hn g hb), r⟩⟩
theorem RowAt.own (h : RowAt w B v out) : ∀ k, v.ownBlock = some k → B ≤ k := by
  intro k hk
  obtain ⟨hl, ⟨rfl, _⟩ | ⟨g, cap, cur, rfl, hb, _⟩⟩ := h
  · simp [Value.ownBlock] at hk
  · obtain rfl : g = k := by simpa [Value.ownBlock] using hk
    exact hb
theorem keeps_of_grown {row : Option Nat} (h : w.grownBy w' row) : Keeps (fun k => row = some k) w w' :=
  ⟨h.os, h.tape, h.output, h.size, fun k hk hn => h.block k hk fun e => hn e.symm⟩
theorem byteCells_append (a b : List UInt8) : byteCells (a ++ b) = byteCells a ++ byteCells b := by simp [byteCells]
theorem byteCells_len (a : List UInt8) : (byteCells a).length = a.length := by simp [byteCells]
theorem flat_bytes : ∀ ys : List UInt8, ys.flatMap byteKind.enc = byteCells ys
  | [] => rfl
  | y :: ys => by rw [List.flatMap_cons, flat_bytes ys]; rfl
theorem infoByte : (Tryz.prog.info? 5).map (fun i => (i.zero, i.size, i.bytes)) = some (some (.int .u8 0), 1, 1) := by kernel_rfl
theorem u_appendRune (h : RowAt w B v out) (hB : B ≤ w.heap.size) (ho : out.length ≤ 100000000) (r : Nat) (hr : r < 0x110000) :
    Calls Tryz.prog 98 #[v, .int .i32 (r : Int)] w fun e w' => ∃ v', e = .returned v' ∧ RowAt w' B v' (out ++ encodeRune (r : Int)) ∧ Keeps (fun k => B ≤ k) w w' := by
  refine (Tryz.utf8_AppendRune_plain B v out.length (byteCells out) (r : Int) (by omega) (by omega) w h (by omega) hB).mono ?_
  rintro e w' ⟨v', rfl, ho, o, hg⟩
  refine ⟨v', rfl, ?_, ?_⟩
  · unfold RowAt
    rw [byteCells_append, List.length_append, Lib.byteCells_encodeRune, ← Lib.runeCells_length]
    exact ho
  · refine (((Keeps.refl _ w).alloc o).trans (keeps_of_grown hg) ?_)
    intro k _ hk
    exact h.own k hk
/-- append(out, u...): what comes of it. -/
theorem run_append_row (h : RowAt w B v out) (hB : B ≤ w.heap.size) {a : Option Addr} {cap : Nat} {ys : List UInt8} (hu : RdAt byteKind w (.slice a ys.length cap) ys) (hy : ys ≠ []) (hn : out.length + ys.length ≤ 1000000000) (ty : TypeId) :
    ∃ v' w', (Builtin.append_ #[26, 26] ty #[v, .slice a ys.length cap]).run Tryz.prog w = .ok v' w' ∧ RowAt w' B v' (out ++ ys) ∧ Keeps (fun k => B ≤ k) w w' := by
  obtain ⟨a', cap', e, hnil, hcell⟩ := hu.cells
  injection e with e1 _ e3
  subst e1 e3
  cases a with
  | none => exact absurd (hnil rfl) hy
  | some b =>
    obtain ⟨i, hi, hz, hs, hb⟩ := info_parts infoByte
    obtain ⟨v', w', h1, h2, h3, _⟩ := run_append_own (P := Tryz.prog) w B 26 ty 5 i _ 1 1 Tryz.underlying26 hi hz hs hb rfl (by decide) v out.length (byteCells out) h b ys.length cap (byteCells ys) (by rw [byteCells_len]; omega)
      (fun j u hu => hcell b rfl j u (by rw [flat_bytes]; exact hu)) (fun u hu => by simp only [byteCells, List.mem_map] at hu; obtain ⟨x, _, rfl⟩ := hu; rfl) (by unfold maxLen; omega) (by omega) hB
    refine ⟨v', w', h1, ?_, ?_⟩
    · unfold RowAt
      rw [byteCells_append, List.length_append]
      exact h2
    · exact (keeps_of_grown h3).mono fun k _ hk => h.own k hk
end
set_option maxRecDepth 100000 in
/-- The decoder, at a slice of bytes. -/
theorem u_decode {w : World} {g off n cap : Nat} {l : List UInt8} (h : RdAt byteKind w (.slice (some ⟨g, off, none⟩) n cap) l) (hl : n = l.length) (hT : Tabs w) :
    Calls Tryz.prog 101 #[.slice (some ⟨g, off, none⟩) n cap] w fun e w' => e = .returned (.tuple #[.int .i32 ((Lib.decodeGo (str l)).1 : Int), .int .i64 ((Lib.decodeGo (str l)).2 : Int)]) ∧ Below w.heap.size w w' := by
  have hz : (str l).size = n := by rw [hl]; simp [str, ByteArray.size]
  have := Any7.utf8_DecodeRune (P := Tryz.prog) Tryz.laysDecode (str l) g off cap w hT (fun j hj => by
    have hj' : j < l.length := by omega
    have hx : l[j]? = some l[j] := List.getElem?_eq_getElem hj'
    have := byte_at h hx rfl
    rw [this]
    congr 3
    simp [str, ByteArray.get!, getElem!_def, hx])
  rw [hz] at this
  exact this
end Go.Proofs.YthjcolehccbihaaGreatDoor
