/- The walks of a JSON reader's small functions. -/
import Derived.Test.YthjcolehccbihaaGreatDoorSl
import Derived.Test.YthjcolehccbihaaGreatDoorJa
import Derived.Test.YthjcolehccbihaaGreatDoorRows
import Derived.Test.YthjcolehccbihaaGreatDoorShelf
import Derived.Test.YthjcolehccbihaaGreatDoorShelf2
import Derived.WalkSpells
import Derived.WalkLawsBesides
import Derived.Lib.Hide
import Derived.BigQuiet
import Derived.StillTailTactics
import Derived.Deep.RegionHeld3
import Derived.Shelf.Abstract
import Derived.Shelf.Unicode.DecodeSlow
namespace Go.Proofs.YthjcolehccbihaaGreatDoor
open Go.RowKit Go.Shelf

abbrev Only (b : Nat) : Nat → Prop := fun k => k = b
theorem keeps_set (w : World) (b i : Nat) (u : Value) : Keeps (Only b) w (w.setCell ⟨b, i, none⟩ u) := (Keeps.refl (Only b) w).setCell (p := ⟨b, i, none⟩) (fun _ => rfl) u
theorem below_drewN (B : Nat) (W : World) (n : Nat) : Below B W (W.drewN n) := ⟨rfl, rfl, rfl, Nat.le_refl _, fun _ _ => rfl⟩
/-- What a reading is given up with. -/
def faultE (p e : Int) : Ending := .panicked [{ v := .iface 69 (.agg #[.int .i64 p, .int .i64 e]), recovered := false }]
/-- The two tables of package utf8. -/
def Tabs (w : World) : Prop := Lib.Utf8Tabs 0 1 w
theorem Tabs.of {w w' : World} (h : Tabs w) (h0 : w'.heap[0]? = w.heap[0]?) (h1 : w'.heap[1]? = w.heap[1]?) : Tabs w' :=
  ⟨fun c hc => (World.cell?_of_block (w := w) (a := ⟨0, c, none⟩) h0).trans (h.1 c hc), fun i hi => ⟨(World.cell?_of_block (w := w) (a := ⟨1, 2 * i, none⟩) h1).trans (h.2 i hi).1, (World.cell?_of_block (w := w) (a := ⟨1, 2 * i + 1, none⟩) h1).trans (h.2 i hi).2⟩⟩
theorem Tabs.lt {w : World} (h : Tabs w) : 1 < w.heap.size := World.block_lt_of_cell? w ⟨1, 2 * 0, none⟩ (h.2 0 (by decide)).1
theorem Tabs.keeps {S : Nat → Prop} {w w' : World} (h : Tabs w) (hk : Keeps S w w') (h0 : ¬ S 0) (h1 : ¬ S 1) : Tabs w' :=
  h.of (hk.block 0 (by have := h.lt; omega) h0) (hk.block 1 h.lt h1)
theorem Tabs.below {w w' : World} (h : Tabs w) (hk : Below w.heap.size w w') : Tabs w' := h.keeps (Keeps.of_below hk) (fun h => h) (fun h => h)
/-- A reader at rb: the text bs, of which l is left. -/
structure Rdr (w : World) (rb : Nat) (bv : Value) (bs l : List UInt8) : Prop where
  blk : IsBlk w rb #[bv, .int .i64 ((bs.length - l.length : Nat) : Int)] 85
  rd : RdAt byteKind w bv bs
  suf : l <:+ bs
  len : bs.length ≤ 1000000
  ne : ∀ g, bv.ownBlock = some g → bs ≠ [] → g ≠ rb
  tabs : Tabs w
  big : 1 < rb
  room : ∀ a n cap, bv = .slice a n cap → bs.length ≤ cap ∧ cap ≤ 9223372036854775807
theorem Rdr.keeps {S : Nat → Prop} {w w' : World} {rb : Nat} {bv : Value} {bs l : List UInt8} (h : Rdr w rb bv bs l) (hk : Keeps S w w') (hr : ¬ S rb) (hn : ∀ g, bv.ownBlock = some g → bs ≠ [] → ¬ S g) (hs : ∀ k, S k → 1 < k) : Rdr w' rb bv bs l :=
  ⟨hk.obj h.blk hr, h.rd.keeps' hk hn, h.suf, h.len, h.ne, h.tabs.keeps hk (fun h => absurd (hs 0 h) (by decide)) (fun h => absurd (hs 1 h) (by decide)), h.big, h.room⟩
theorem Rdr.below {w w' : World} {rb : Nat} {bv : Value} {bs l : List UInt8} (h : Rdr w rb bv bs l) (hk : Below w.heap.size w w') : Rdr w' rb bv bs l :=
  h.keeps (Keeps.of_below hk) (fun h => h) (fun _ _ _ h => h) (fun _ h => h.elim)
theorem Rdr.lt {w : World} {rb : Nat} {bv : Value} {bs l : List UInt8} (h : Rdr w rb bv bs l) : rb < w.heap.size := lt_of_block h.blk
/-- The reader, a place farther on. -/
theorem Rdr.move {w : World} {rb : Nat} {bv : Value} {bs l r : List UInt8} (h : Rdr w rb bv bs l) (hr : r <:+ bs) {k : Int} (hk : k = ((bs.length - r.length : Nat) : Int)) :
    Rdr (w.setCell ⟨rb, 1, none⟩ (.int .i64 k)) rb bv bs r :=
  ⟨by have := blk_set h.blk 1 (.int .i64 k); rw [hk] at this ⊢; exact this, h.rd.keeps' (keeps_set w rb 1 _) (fun g hg hb => h.ne g hg hb), hr, h.len, h.ne, h.tabs.keeps (keeps_set w rb 1 _) (fun e => by have := h.big; have e : 0 = rb := e; omega) (fun e => by have := h.big; have e : 1 = rb := e; omega), h.big, h.room⟩
theorem byte_at {w : World} {v : Value} {ys : List UInt8} (h : RdAt byteKind w v ys) {j : Nat} {c : UInt8} (hc : ys[j]? = some c) {g off len cap : Nat} (hv : v = .slice (some ⟨g, off, none⟩) len cap) : w.cell? ⟨g, off + j, none⟩ = some (.int .u8 (c.toNat : Int)) := by
  obtain ⟨a, cap', e, hr⟩ := h
  obtain ⟨g', off', ea, hcell⟩ := hr j c hc
  rw [hv] at e
  injection e with e1 _ _
  rw [ea] at e1
  injection e1 with e1
  injection e1 with e1 e2 _
  subst e1 e2
  have := hcell 0 (by decide)
  simpa [byteKind] using this
/-- Where a reader stands, in parts. -/
theorem Rdr.parts {w : World} {rb : Nat} {bv : Value} {bs l : List UInt8} (h : Rdr w rb bv bs l) : ∃ (a : Option Addr) (cap k : Nat), bv = .slice a bs.length cap ∧ k = bs.length - l.length ∧ k + l.length = bs.length ∧
    w.cell? ⟨rb, 0, none⟩ = some (.slice a bs.length cap) ∧ w.cell? ⟨rb, 1, none⟩ = some (.int .i64 (k : Int)) ∧ w.frozen? ⟨rb, 1, none⟩ = false := by
  obtain ⟨a, cap, e, _⟩ := h.rd
  have hb := h.blk
  have hl := suf_len h.suf
  rw [e] at hb
  exact ⟨a, cap, bs.length - l.length, e, rfl, by omega, blk_cell hb 0, blk_cell hb 1, blk_free hb 1⟩
theorem suf_get {bs l : List UInt8} (h : l <:+ bs) {k : Nat} (hk : k = bs.length - l.length) {c : UInt8} {r : List UInt8} (hc : l = c :: r) : bs[k]? = some c := by
  obtain ⟨p, rfl⟩ := h
  subst hc hk
  simp
/-- The byte that is read. -/
theorem Rdr.byte {w : World} {rb : Nat} {a : Option Addr} {cap : Nat} {bs l : List UInt8} (h : Rdr w rb (.slice a bs.length cap) bs l) {k : Nat} (hk : k = bs.length - l.length) {c : UInt8} {r : List UInt8} (hc : l = c :: r) :
    ∃ g off, a = some ⟨g, off, none⟩ ∧ w.cell? ⟨g, off + k, none⟩ = some (.int .u8 (c.toNat : Int)) := by
  have hg := suf_get h.suf hk hc
  obtain ⟨a', cap', e, hr⟩ := h.rd
  obtain ⟨g, off, ea, _⟩ := hr k c hg
  injection e with e1 _ _
  subst e1
  exact ⟨g, off, ea, byte_at h.rd hg (by rw [ea])⟩

/-- A body that is left by a panic. -/
theorem leave_panic {P : Program} {fn : Func} {R : Ending → World → Prop} {chain : List PanicEntry} {a : Act} {w : World} (hd : a.defers = []) (h : R (.panicked chain) w) : bodyPost P fn R (.panic chain) a w := ⟨hd, h⟩
theorem j_fail (w : World) (rb : Nat) (p e : Int) : Calls Tryz.prog 71 #[.pointer (some ⟨rb, 0, none⟩), .int .i64 p, .int .i64 e] w fun en w' => en = faultE p e ∧ w = w' := by
  go_enter Tryz.func71, Tryz.ntmps71
  go_wp2
  refine leave_panic rfl ?_
  exact ⟨rfl, rfl⟩
section
variable {w : World} {rb : Nat} {bv : Value} {bs l : List UInt8}
theorem j_here_end (h : Rdr w rb bv bs []) : Calls Tryz.prog 70 #[.pointer (some ⟨rb, 0, none⟩)] w fun e w' => e = .returned (.int .u8 0) ∧ ∃ n, w' = w.drewN n := by
  obtain ⟨a, cap, k, rfl, hk, hkl, c0, c1, f1⟩ := h.parts
  have ht : (((k : Nat) : Int) == ((bs.length : Nat) : Int)) = true := by simp at hkl ⊢; omega
  clear hk hkl h
  go_enter Tryz.func70, Tryz.ntmps70
  go_wp2_with (fail)
  go_quiet (fail)
  go_wp2
  go_ret
  exact ⟨rfl, _, rfl⟩
theorem j_here {c : UInt8} {r : List UInt8} (h : Rdr w rb bv bs (c :: r)) : Calls Tryz.prog 70 #[.pointer (some ⟨rb, 0, none⟩)] w fun e w' => e = .returned (.int .u8 (c.toNat : Int)) ∧ ∃ n, w' = w.drewN n := by
  obtain ⟨a, cap, k, rfl, hk, hkl, c0, c1, f1⟩ := h.parts
  obtain ⟨g, off, rfl, c2⟩ := h.byte hk rfl
  have ht : (((k : Nat) : Int) == ((bs.length : Nat) : Int)) = false := by simp at hkl ⊢; omega
  have hlt : (k : Int) < (bs.length : Int) := by simp at hkl; omega
  clear hk hkl h
  go_enter Tryz.func70, Tryz.ntmps70
  go_wp2_with (fail)
  go_quiet (fail)
  go_wp2_with (fail)
  go_quiet (fail)
  go_wp2
  go_ret
  exact ⟨rfl, _, World.drewN_drewN ..⟩
theorem j_wrong (h : Rdr w rb bv bs l) : Calls Tryz.prog 40 #[.pointer (some ⟨rb, 0, none⟩)] w fun e w' => e = faultE ((bs.length - l.length : Nat) : Int) 11 ∧ w = w' := by
  obtain ⟨a, cap, k, rfl, hk, hkl, c0, c1, f1⟩ := h.parts
  have HK := Lib.hid hk
  clear hk hkl h
  go_enter Tryz.func40, Tryz.ntmps40
  go_wp2_with (fail)
  refine (j_fail _ _ _ _).mono ?_
  rintro e w' ⟨rfl, rfl⟩
  refine leave_panic rfl ?_
  rw [HK.out]
  exact ⟨rfl, rfl⟩
end
end Go.Proofs.YthjcolehccbihaaGreatDoor
