/- The library's contracts at this program, laid by the kit's own command. -/
import Derived.Shelf.Spec.DecodeRune
import Derived.Shelf.Spec.NilArms
import Derived.Shelf.Unicode.ValidAny
import Derived.Shelf.SlIter.Sorted
import Derived.Ground.Names7Prog
import Derived.Ground.NamesProg
import Derived.Ground.GgzProg
import Derived.Test.YthjcolehccbihaaGreatDoorProg
import Derived.Test.YthjcolehccbihaaGreatDoorz03
import Derived.Test.YthjcolehccbihaaGreatDoorz00
import Derived.Test.YthjcolehccbihaaGreatDoorRows
import Derived.Test.YthjcolehccbihaaGreatDoorz04
import Derived.WalkSpells
import Derived.WalkLawsBesides
import Derived.Lib.Hide
import Derived.BigQuiet
import Derived.StillTailTactics
import Derived.Deep.RegionHeld3
import Derived.Shelf.Abstract
import Derived.Shelf.Unicode.DecodeSlow
import Derived.Deep.LoopGhost
namespace Go.Proofs
open Go.Shelf
def Tryz.laysDecode_ren : Go.Shelf.Ren := ⟨fun | 32 => 101 | 49 => 122 | n => n, fun | 30 => 26 | 21 => 21 | 3 => 3 | 0 => 0 | 5 => 5 | 4 => 4 | 33 => 137 | 66 => 123 | 25 => 127 | 69 => 126 | 68 => 125 | n => n, fun | 2 => 0 | 3 => 1 | n => n⟩
theorem Tryz.laysDecode : Go.Proofs.Lays7.n32 Tryz.prog Tryz.laysDecode_ren := {
  mixed := by kernel_rfl
  f32 := Tryz.func101.trans (congrArg some (by kernel_rfl))
  f49 := Tryz.func122.trans (congrArg some (by kernel_rfl))
  t0 := Tryz.underlying0
  a0 := Tryz.isAgg0
  z0 := Tryz.sizeOf0
  v0 := Tryz.zeroValue0
  i0 := by kernel_rfl
  t3 := Tryz.underlying3
  a3 := Tryz.isAgg3
  z3 := Tryz.sizeOf3
  v3 := Tryz.zeroValue3
  i3 := by kernel_rfl
  t4 := Tryz.underlying4
  a4 := Tryz.isAgg4
  z4 := Tryz.sizeOf4
  v4 := Tryz.zeroValue4
  i4 := by kernel_rfl
  t5 := Tryz.underlying5
  a5 := Tryz.isAgg5
  z5 := Tryz.sizeOf5
  v5 := Tryz.zeroValue5
  i5 := by kernel_rfl
  t21 := Tryz.underlying21
  a21 := Tryz.isAgg21
  z21 := Tryz.sizeOf21
  v21 := Tryz.zeroValue21
  i21 := by kernel_rfl
  t25 := Tryz.underlying127
  a25 := Tryz.isAgg127
  z25 := Tryz.sizeOf127
  v25 := Tryz.zeroValue127
  i25 := by kernel_rfl
  t30 := Tryz.underlying26
  a30 := Tryz.isAgg26
  z30 := Tryz.sizeOf26
  v30 := Tryz.zeroValue26
  i30 := by kernel_rfl
  t33 := Tryz.underlying137
  a33 := Tryz.isAgg137
  z33 := Tryz.sizeOf137
  v33 := Tryz.zeroValue137
  i33 := by kernel_rfl
  t66 := Tryz.underlying123
  a66 := Tryz.isAgg123
  z66 := Tryz.sizeOf123
  t68 := Tryz.underlying125
  a68 := Tryz.isAgg125
  z68 := Tryz.sizeOf125
  v68 := Tryz.zeroValue125
  i68 := by kernel_rfl
  t69 := Tryz.underlying126
  a69 := Tryz.isAgg126
  z69 := Tryz.sizeOf126
  v69 := Tryz.zeroValue126
  i69 := by kernel_rfl
  g2 := by kernel_rfl
  g3 := by kernel_rfl }
def Tryz.laysValid_ren : Go.Shelf.Ren := ⟨fun | 196 => 61 | 259 => 88 | n => n, fun | 9 => 9 | 4 => 4 | 3 => 3 | 5 => 5 | 12 => 12 | 119 => 123 | 0 => 0 | 46 => 127 | 139 => 126 | 138 => 125 | 53 => 154 | n => n, fun | 3 => 0 | 4 => 1 | n => n⟩
theorem Tryz.laysValid : Go.Proofs.Lays.n196 Tryz.prog Tryz.laysValid_ren := {
  mixed := by kernel_rfl
  f196 := Tryz.func61.trans (congrArg some (by kernel_rfl))
  f259 := Tryz.func88.trans (congrArg some (by kernel_rfl))
  t0 := Tryz.underlying0
  a0 := Tryz.isAgg0
  z0 := Tryz.sizeOf0
  v0 := Tryz.zeroValue0
  t3 := Tryz.underlying3
  a3 := Tryz.isAgg3
  z3 := Tryz.sizeOf3
  v3 := Tryz.zeroValue3
  t4 := Tryz.underlying4
  a4 := Tryz.isAgg4
  z4 := Tryz.sizeOf4
  v4 := Tryz.zeroValue4
  t5 := Tryz.underlying5
  a5 := Tryz.isAgg5
  z5 := Tryz.sizeOf5
  v5 := Tryz.zeroValue5
  t9 := Tryz.underlying9
  a9 := Tryz.isAgg9
  z9 := Tryz.sizeOf9
  v9 := Tryz.zeroValue9
  t12 := Tryz.underlying12
  a12 := Tryz.isAgg12
  z12 := Tryz.sizeOf12
  v12 := Tryz.zeroValue12
  t46 := Tryz.underlying127
  a46 := Tryz.isAgg127
  z46 := Tryz.sizeOf127
  v46 := Tryz.zeroValue127
  t53 := Tryz.underlying154
  a53 := Tryz.isAgg154
  z53 := Tryz.sizeOf154
  v53 := Tryz.zeroValue154
  t119 := Tryz.underlying123
  a119 := Tryz.isAgg123
  z119 := Tryz.sizeOf123
  t138 := Tryz.underlying125
  a138 := Tryz.isAgg125
  z138 := Tryz.sizeOf125
  v138 := Tryz.zeroValue125
  t139 := Tryz.underlying126
  a139 := Tryz.isAgg126
  z139 := Tryz.sizeOf126
  v139 := Tryz.zeroValue126
  g3 := by kernel_rfl
  g4 := by kernel_rfl }
end Go.Proofs
namespace Go.Proofs.YthjcolehccbihaaGreatDoor
open Go.RowKit Go.Shelf
abbrev Only (b : Nat) : Nat → Prop := fun k => k = b
theorem keeps_set (w : World) (b i : Nat) (u : Value) : Keeps (Only b) w (w.setCell ⟨b, i, none⟩ u) := (Keeps.refl (Only b) w).setCell (p := ⟨b, i, none⟩) (fun _ => rfl) u
theorem below_drewN (B : Nat) (W : World) (n : Nat) : Below B W (W.drewN n) := ⟨rfl, rfl, rfl, Nat.le_refl _, fun _ _ => rfl⟩
/-- What a reading is given up with. -/
def faultE (p e : Int) : Ending := .panicked [{ v := .iface 69 (.agg #[.int .i64 p, .int .i64 e]), recovered := false }]
/-- The two tables of package utf8. -/
def Tabs (w : World) : Prop := Lib.Utf8Tabs 0 1 w
theorem Tabs.of {w w' : World} (h : Tabs w) (h0 : w'.heap[0]? = w.heap[0]?) (h1 : w'.heap[1]? = w.heap[1]?) : Tabs w' :=
  ⟨fun c hc => (World.cell?_of_block (w := w) (a := ⟨0, c, none⟩) h0).trans (h.1 c hc), fun i hi => ⟨(World.cell?_of_block (w := w) (a := ⟨1, 2 * i, none⟩) h1).trans (h.2 i hi).1, (World.cell?_of_block (w := w) (a := ⟨1, 2 * i + 1, none⟩) h1).trans (h.2 i hi).2⟩⟩
theorem Tabs.lt {w : World} (h : Tabs w) : 1 < w.heap.size := World.block_lt_of_cell? w ⟨1, 2 * 0, none⟩ (h.2 0 (by decide)).1
theorem Tabs.keeps {S : Nat → Prop} {w w' : World} (h : Tabs w) (hk : Keeps S w w') (h0 : ¬ S 0) (h1 : ¬ S 1) : Tabs w' :=
  h.of (hk.block 0 (by have := h.lt; omega) h0) (hk.block 1 h.lt h1)
theorem Tabs.below {w w' : World} (h : Tabs w) (hk : Below w.heap.size w w') : Tabs w' := h.keeps (Keeps.of_below hk) (fun h => h) (fun h => h)
/-- A reader at rb: the text bs, of which l is left. -/
structure Rdr (w : World) (rb : Nat) (bv : Value) (bs l : List UInt8) : Prop where
  blk : IsBlk w rb #[bv, .int .i64 ((bs.length - l.length : Nat) : Int)] 85
  rd : RdAt byteKind w bv bs
  suf : l <:+ bs
  len : bs.length ≤ 1000000
  ne : ∀ g, bv.ownBlock = some g → bs ≠ [] → g ≠ rb
  tabs : Tabs w
  big : 1 < rb
  room : ∀ a n cap, bv = .slice a n cap → bs.length ≤ cap ∧ cap ≤ 9223372036854775807
theorem Rdr.keeps {S : Nat → Prop} {w w' : World} {rb : Nat} {bv : Value} {bs l : List UInt8} (h : Rdr w rb bv bs l) (hk : Keeps S w w') (hr : ¬ S rb) (hn : ∀ g, bv.ownBlock = some g → bs ≠ [] → ¬ S g) (hs : ∀ k, S k → 1 < k) : Rdr w' rb bv bs l :=
  ⟨hk.obj h.blk hr, h.rd.keeps' hk hn, h.suf, h.len, h.ne, h.tabs.keeps hk (fun h => absurd (hs 0 h) (by decide)) (fun h => absurd (hs 1 h) (by decide)), h.big, h.room⟩
theorem Rdr.below {w w' : World} {rb : Nat} {bv : Value} {bs l : List UInt8} (h : Rdr w rb bv bs l) (hk : Below w.heap.size w w') : Rdr w' rb bv bs l :=
  h.keeps (Keeps.of_below hk) (fun h => h) (fun _ _ _ h => h) (fun _ h => h.elim)
theorem Rdr.lt {w : World} {rb : Nat} {bv : Value} {bs l : List UInt8} (h : Rdr w rb bv bs l) : rb < w.heap.size := lt_of_block h.blk
/-- The reader, a place farther on. -/
theorem Rdr.move {w : World} {rb : Nat} {bv : Value} {bs l r : List UInt8} (h : Rdr w rb bv bs l) (hr : r <:+ bs) {k : Int} (hk : k = ((bs.length - r.length : Nat) : Int)) :
    Rdr (w.setCell ⟨rb, 1, none⟩ (.int .i64 k)) rb bv bs r :=
  ⟨by have := blk_set h.blk 1 (.int .i64 k); rw [hk] at this ⊢; exact this, h.rd.keeps' (keeps_set w rb 1 _) (fun g hg hb => h.ne g hg hb), hr, h.len, h.ne, h.tabs.keeps (keeps_set w rb 1 _) (fun e => by have := h.big; have e : 0 = rb := e; omega) (fun e => by have := h.big; have e : 1 = rb := e; omega), h.big, h.room⟩
theorem byte_at {w : World} {v : Value} {ys : List UInt8} (h : RdAt byteKind w v ys) {j : Nat} {c : UInt8} (hc : ys[j]? = some c) {g off len cap : Nat} (hv : v = .slice (some ⟨g, off, none⟩) len cap) : w.cell? ⟨g, off + j, none⟩ = some (.int .u8 (c.toNat : Int)) := by
  obtain ⟨a, cap', e, hr⟩ := h
  obtain ⟨g', off', ea, hcell⟩ := hr j c hc
  rw [hv] at e
  injection e with e1 _ _
  rw [ea] at e1
  injection e1 with e1
  injection e1 with e1 e2 _
  subst e1 e2
  have := hcell 0 (by decide)
  simpa [byteKind] using this
/-- Where a reader stands, in parts. -/
theorem Rdr.parts {w : World} {rb : Nat} {bv : Value} {bs l : List UInt8} (h : Rdr w rb bv bs l) : ∃ (a : Option Addr) (cap k : Nat), bv = .slice a bs.length cap ∧ k = bs.length - l.length ∧ k + l.length = bs.length ∧
    w.cell? ⟨rb, 0, none⟩ = some (.slice a bs.length cap) ∧ w.cell? ⟨rb, 1, none⟩ = some (.int .i64 (k : Int)) ∧ w.frozen? ⟨rb, 1, none⟩ = false := by
  obtain ⟨a, cap, e, _⟩ := h.rd
  have hb := h.blk
  have hl := suf_len h.suf
  rw [e] at hb
  exact ⟨a, cap, bs.length - l.length, e, rfl, by omega, blk_cell hb 0, blk_cell hb 1, blk_free hb 1⟩
theorem suf_get {bs l : List UInt8} (h : l <:+ bs) {k : Nat} (hk : k = bs.length - l.length) {c : UInt8} {r : List UInt8} (hc : l = c :: r) : bs[k]? = some c := by
  obtain ⟨p, rfl⟩ := h
  subst hc hk
  simp
/-- The byte that is read. -/
theorem Rdr.byte {w : World} {rb : Nat} {a : Option Addr} {cap : Nat} {bs l : List UInt8} (h : Rdr w rb (.slice a bs.length cap) bs l) {k : Nat} (hk : k = bs.length - l.length) {c : UInt8} {r : List UInt8} (hc : l = c :: r) :
    ∃ g off, a = some ⟨g, off, none⟩ ∧ w.cell? ⟨g, off + k, none⟩ = some (.int .u8 (c.toNat : Int)) := by
  have hg := suf_get h.suf hk hc
  obtain ⟨a', cap', e, hr⟩ := h.rd
  obtain ⟨g, off, ea, _⟩ := hr k c hg
  injection e with e1 _ _
  subst e1
  exact ⟨g, off, ea, byte_at h.rd hg (by rw [ea])⟩
/-- A body that is left by a panic. -/
theorem leave_panic {P : Program} {fn : Func} {R : Ending → World → Prop} {chain : List PanicEntry} {a : Act} {w : World} (hd : a.defers = []) (h : R (.panicked chain) w) : bodyPost P fn R (.panic chain) a w := ⟨hd, h⟩
theorem j_fail (w : World) (rb : Nat) (p e : Int) : Calls Tryz.prog 71 #[.pointer (some ⟨rb, 0, none⟩), .int .i64 p, .int .i64 e] w fun en w' => en = faultE p e ∧ w = w' := by
  go_enter Tryz.func71, Tryz.ntmps71
  go_wp2
  refine leave_panic rfl ?_
  exact ⟨rfl, rfl⟩
section
variable {w : World} {rb : Nat} {bv : Value} {bs l : List UInt8}
theorem j_here_end (h : Rdr w rb bv bs []) : Calls Tryz.prog 70 #[.pointer (some ⟨rb, 0, none⟩)] w fun e w' => e = .returned (.int .u8 0) ∧ ∃ n, w' = w.drewN n := by
  obtain ⟨a, cap, k, rfl, hk, hkl, c0, c1, f1⟩ := h.parts
  have ht : (((k : Nat) : Int) == ((bs.length : Nat) : Int)) = true := by simp at hkl ⊢; omega
  clear hk hkl h
  go_enter Tryz.func70, Tryz.ntmps70
  go_wp2_with (fail)
  go_quiet (fail)
  go_wp2
  go_ret
  exact ⟨rfl, _, rfl⟩
theorem j_here {c : UInt8} {r : List UInt8} (h : Rdr w rb bv bs (c :: r)) : Calls Tryz.prog 70 #[.pointer (some ⟨rb, 0, none⟩)] w fun e w' => e = .returned (.int .u8 (c.toNat : Int)) ∧ ∃ n, w' = w.drewN n := by
  obtain ⟨a, cap, k, rfl, hk, hkl, c0, c1, f1⟩ := h.parts
  obtain ⟨g, off, rfl, c2⟩ := h.byte hk rfl
  have ht : (((k : Nat) : Int) == ((bs.length : Nat) : Int)) = false := by simp at hkl ⊢; omega
  have hlt : (k : Int) < (bs.length : Int) := by simp at hkl; omega
  clear hk hkl h
  go_enter Tryz.func70, Tryz.ntmps70
  go_wp2_with (fail)
  go_quiet (fail)
  go_wp2_with (fail)
  go_quiet (fail)
  go_wp2
  go_ret
  exact ⟨rfl, _, World.drewN_drewN ..⟩
theorem j_wrong (h : Rdr w rb bv bs l) : Calls Tryz.prog 40 #[.pointer (some ⟨rb, 0, none⟩)] w fun e w' => e = faultE ((bs.length - l.length : Nat) : Int) 11 ∧ w = w' := by
  obtain ⟨a, cap, k, rfl, hk, hkl, c0, c1, f1⟩ := h.parts
  have HK := Lib.hid hk
  clear hk hkl h
  go_enter Tryz.func40, Tryz.ntmps40
  go_wp2_with (fail)
  refine (j_fail _ _ _ _).mono ?_
  rintro e w' ⟨rfl, rfl⟩
  refine leave_panic rfl ?_
  rw [HK.out]
  exact ⟨rfl, rfl⟩
end
end Go.Proofs.YthjcolehccbihaaGreatDoor
namespace Go.Proofs.YthjcolehccbihaaGreatDoor
open Go.RowKit Go.Shelf
/-- What a call on a reader comes to. -/
def ROut {α : Type} (rb : Nat) (bv : Value) (bs : List UInt8) (w : World) (V : World → Value → α → Prop) (o : Out α) (e : Ending) (w' : World) : Prop :=
  match o with
  | .ok x r => (∃ v, e = .returned v ∧ V w' v x) ∧ Rdr w' rb bv bs r ∧ Keeps (Only rb) w w'
  | .bad p er => e = faultE ((bs.length - p : Nat) : Int) (er : Int) ∧ Keeps (Only rb) w w'
/-- No result. -/
def VUnit (_ : World) (v : Value) (_ : Unit) : Prop := v = .tuple #[]
theorem tailSuf {c : UInt8} {r bs : List UInt8} (h : (c :: r) <:+ bs) : r <:+ bs := (suf_cons c r).trans h
theorem ix_neg (l : List UInt8) (c : UInt8) : decide (Lib.indexByte l c < 0) = !l.contains c := by
  induction l with
  | nil => simp [Lib.indexByte]
  | cons b l ih =>
    have hg := Lib.indexByte_ge l c
    unfold Lib.indexByte
    by_cases hb : (b == c) = true
    · have : b = c := by simpa using hb
      rw [if_pos hb]; simp [this]
    · have hb' : ¬ c = b := by intro e; exact hb (by simp [e])
      rw [if_neg hb]
      have e : (b :: l).contains c = l.contains c := by simp [hb']
      rw [e]
      by_cases h1 : (Lib.indexByte l c == -1) = true
      · have h1' : Lib.indexByte l c = -1 := by simpa using h1
        rw [if_pos h1]
        rw [h1'] at ih
        exact ih
      · have h1' : Lib.indexByte l c ≠ -1 := by simpa using h1
        rw [if_neg h1, ← ih]
        simp only [decide_eq_decide]; omega
theorem toByte (c : UInt8) : ((c.toNat : Int)).toNat.toUInt8 = c := by simp
section
variable {w : World} {rb : Nat} {bv : Value} {bs l : List UInt8}
set_option maxRecDepth 100000 in
theorem j_must (c : UInt8) (h : Rdr w rb bv bs l) : Calls Tryz.prog 76 #[.pointer (some ⟨rb, 0, none⟩), .int .u8 (c.toNat : Int)] w (ROut rb bv bs w VUnit (musts [c] l)) := by
  have HW := Lib.hid h
  obtain ⟨a, cap, k, rfl, hk, hkl, c0, c1, f1⟩ := h.parts
  cases l with
  | nil =>
    have ht : (((k : Nat) : Int) == ((bs.length : Nat) : Int)) = true := by simp at hkl ⊢; omega
    have HK := Lib.hid hk
    clear hk hkl h
    go_enter Tryz.func76, Tryz.ntmps76
    go_wp2_with (fail)
    go_quiet (fail)
    go_wp2_with (fail)
    refine (j_wrong (HW.out.below (below_drewN _ _ _))).mono ?_
    rintro e w' ⟨rfl, rfl⟩
    refine leave_panic rfl ?_
    exact ⟨rfl, (Keeps.refl _ _).drewN _⟩
  | cons d l =>
    obtain ⟨g, off, rfl, c2⟩ := h.byte hk rfl
    have ht : (((k : Nat) : Int) == ((bs.length : Nat) : Int)) = false := by simp at hkl ⊢; omega
    have hlt : (k : Int) < (bs.length : Int) := by simp at hkl; omega
    have hk1 : (k : Int) + 1 ≤ 1000000 := by have := h.len; omega
    have HK := Lib.hid hk
    have HN : Hid (((bs.length - l.length : Nat) : Int) = (k : Int) + 1) := Lib.hid (by simp at hkl; omega)
    clear hk hkl h
    by_cases hd : d = c
    · subst hd
      have hne : ((d.toNat : Int) != (d.toNat : Int)) = false := by simp
      go_enter Tryz.func76, Tryz.ntmps76
      go_wp2_with (fail)
      go_quiet (fail)
      go_wp2
      go_end0
      have e : musts [d] (d :: l) = .ok () l := by simp [musts]
      rw [e]
      exact ⟨⟨_, rfl, rfl⟩, ((HW.out.below (below_drewN _ _ _)).move (tailSuf HW.out.suf) HN.out.symm), ((Keeps.refl _ _).drewN _).trans' (keeps_set _ _ _ _)⟩
    · have hne : ((d.toNat : Int) != (c.toNat : Int)) = true := by
        have : ¬ d.toNat = c.toNat := fun e => hd (UInt8.toNat_inj.1 e)
        simp; omega
      have e : musts [c] (d :: l) = .bad (l.length + 1) 11 := by simp [musts, hd]
      rw [e]
      clear e hd
      go_enter Tryz.func76, Tryz.ntmps76
      go_wp2_with (fail)
      go_quiet (fail)
      go_wp2_with (fail)
      refine (j_wrong (HW.out.below (below_drewN _ _ _))).mono ?_
      rintro e w' ⟨rfl, rfl⟩
      refine leave_panic rfl ?_
      exact ⟨rfl, (Keeps.refl _ _).drewN _⟩
/-- May: one of some bytes. -/
theorem j_may {p : UInt8 → Bool} {s : ByteArray} (hp : ∀ c, s.data.toList.contains c = p c) (h : Rdr w rb bv bs l) : Calls Tryz.prog 69 #[.pointer (some ⟨rb, 0, none⟩), .string s] w fun e w' =>
    e = .returned (.bool (mayBe p l).1) ∧ Rdr w' rb bv bs (mayBe p l).2 ∧ Keeps (Only rb) w w' := by
  have HW := Lib.hid h
  obtain ⟨a, cap, k, rfl, hk, hkl, c0, c1, f1⟩ := h.parts
  cases l with
  | nil =>
    have ht : (((k : Nat) : Int) == ((bs.length : Nat) : Int)) = true := by simp at hkl ⊢; omega
    have HK := Lib.hid hk
    clear hk hkl h hp
    go_enter Tryz.func69, Tryz.ntmps69
    go_wp2_with (fail)
    go_quiet (fail)
    go_wp2
    go_ret
    exact ⟨rfl, HW.out.below (below_drewN _ _ _), (Keeps.refl _ _).drewN _⟩
  | cons d l =>
    obtain ⟨g, off, rfl, c2⟩ := h.byte hk rfl
    have ht : (((k : Nat) : Int) == ((bs.length : Nat) : Int)) = false := by simp at hkl ⊢; omega
    have hlt : (k : Int) < (bs.length : Int) := by simp at hkl; omega
    have hk1 : (k : Int) + 1 ≤ 1000000 := by have := h.len; omega
    have HK := Lib.hid hk
    have HN : Hid (((bs.length - l.length : Nat) : Int) = (k : Int) + 1) := Lib.hid (by simp at hkl; omega)
    obtain ⟨i, hi⟩ : ∃ i, i = Lib.indexByte s.data.toList d := ⟨_, rfl⟩
    have HX : Hid (∀ W, Calls Tryz.prog 96 #[.string s, .int .u8 (d.toNat : Int)] W fun e w' => e = .returned (.int .i64 i) ∧ w' = W) := Lib.hid fun W => by
      have := Tryz.strings_IndexByte s (d.toNat : Int) W
      rw [toByte, ← hi] at this
      exact this
    have hq : decide (i < 0) = !p d := by rw [hi, ix_neg, hp]
    have hb0 : 0 ≤ (d.toNat : Int) := by omega
    clear hi hp
    cases hpd : p d with
    | false =>
      rw [hpd] at hq
      have hq : decide (i < 0) = true := hq
      have e : mayBe p (d :: l) = (false, d :: l) := by unfold mayBe; dsimp only; rw [hpd]; rfl
      rw [e]
      clear hk hkl h e hpd
      go_enter Tryz.func69, Tryz.ntmps69
      go_wp2_with (fail)
      go_quiet ((go_at_call 96; exact Calls.quiet_of_same (HX.out _)))
      go_wp2
      go_ret
      exact ⟨rfl, HW.out.below (below_drewN _ _ _), (Keeps.refl _ _).drewN _⟩
    | true =>
      rw [hpd] at hq
      have hq : decide (i < 0) = false := hq
      have e : mayBe p (d :: l) = (true, l) := by unfold mayBe; dsimp only; rw [hpd]; rfl
      rw [e]
      clear hk hkl h e hpd
      go_enter Tryz.func69, Tryz.ntmps69
      go_wp2_with (fail)
      go_quiet ((go_at_call 96; exact Calls.quiet_of_same (HX.out _)))
      go_wp2
      go_ret
      exact ⟨rfl, ((HW.out.below (below_drewN _ _ _)).move (tailSuf HW.out.suf) HN.out.symm), ((Keeps.refl _ _).drewN _).trans' (keeps_set _ _ _ _)⟩
theorem j_begins (h : Rdr w rb bv bs l) : Calls Tryz.prog 97 #[.pointer (some ⟨rb, 0, none⟩)] w fun e w' => e = .returned (.bool (begins l)) ∧ ∃ n, w' = w.drewN n := by
  obtain ⟨a, cap, k, rfl, hk, hkl, c0, c1, f1⟩ := h.parts
  cases l with
  | nil =>
    have ht : decide (k < bs.length) = false := by simp at hkl ⊢; omega
    clear hk hkl h
    go_enter Tryz.func97, Tryz.ntmps97
    go_wp2_with (fail)
    go_quiet (fail)
    go_wp2
    go_ret
    exact ⟨rfl, _, rfl⟩
  | cons d l =>
    obtain ⟨g, off, rfl, c2⟩ := h.byte hk rfl
    have ht : decide (k < bs.length) = true := by simp at hkl ⊢; omega
    have hlt : (k : Int) < (bs.length : Int) := by simp at hkl; omega
    obtain ⟨s, hs⟩ : ∃ s : ByteArray, s = ⟨#[123, 91, 34, 45, 48, 49, 50, 51, 52, 53, 54, 55, 56, 57, 110, 102, 116]⟩ := ⟨_, rfl⟩
    obtain ⟨i, hi⟩ : ∃ i, i = Lib.indexByte s.data.toList d := ⟨_, rfl⟩
    have HX : Hid (∀ W, Calls Tryz.prog 96 #[.string s, .int .u8 (d.toNat : Int)] W fun e w' => e = .returned (.int .i64 i) ∧ w' = W) := Lib.hid fun W => by
      have := Tryz.strings_IndexByte s (d.toNat : Int) W
      rw [toByte, ← hi] at this
      exact this
    rw [hs] at HX
    have hq : decide (0 ≤ i) = begins (d :: l) := by
      have h1 : decide (i < 0) = !s.data.toList.contains d := by rw [hi, ix_neg]
      have h2 : s.data.toList.contains d = begins (d :: l) := by
        rw [hs]
        have : ∀ n : Fin 256, (([123, 91, 34, 45, 48, 49, 50, 51, 52, 53, 54, 55, 56, 57, 110, 102, 116] : List UInt8).contains (UInt8.ofNat n.val)) = begins [UInt8.ofNat n.val] := by decide +kernel
        have h3 := this ⟨d.toNat, d.toNat_lt⟩
        rw [show begins (d :: l) = begins [d] from rfl]
        simpa using h3
      rw [← h2]
      cases hc : s.data.toList.contains d with
      | true => rw [hc] at h1; simp at h1; simpa using h1
      | false => rw [hc] at h1; simp at h1; simp; omega
    obtain ⟨b, hb⟩ : ∃ b, b = begins (d :: l) := ⟨_, rfl⟩
    have HB := Lib.hid hb
    rw [← hb] at hq
    rw [← hb]
    clear hk hkl h hs hi hb
    go_enter Tryz.func97, Tryz.ntmps97
    go_wp2_with (fail)
    go_quiet ((go_at_call 96; exact Calls.quiet_of_same (HX.out _)))
    go_wp2
    go_ret
    exact ⟨rfl, _, rfl⟩
theorem by_bytes {p q : UInt8 → Bool} (h : ∀ n : Fin 256, p (UInt8.ofNat n.val) = q (UInt8.ofNat n.val)) (c : UInt8) : p c = q c := by
  have h3 := h ⟨c.toNat, c.toNat_lt⟩
  simpa using h3
theorem by_bytesP {p : UInt8 → Prop} (h : ∀ n : Fin 256, p (UInt8.ofNat n.val)) (c : UInt8) : p c := by
  have h3 := h ⟨c.toNat, c.toNat_lt⟩
  simpa using h3
theorem blank_set : ∀ c : UInt8, ([32, 9, 10, 13] : List UInt8).contains c = isBlank c := by_bytes (by decide +kernel)
theorem blanks_step {l : List UInt8} (h : (mayBe isBlank l).1 = true) : blanks (mayBe isBlank l).2 = blanks l ∧ (mayBe isBlank l).2.length < l.length := by
  cases l with
  | nil => simp [mayBe] at h
  | cons c l =>
    cases hc : isBlank c with
    | false => simp [mayBe, hc] at h
    | true => simp [mayBe, hc, blanks]
theorem blanks_stop {l : List UInt8} (h : (mayBe isBlank l).1 = false) : (mayBe isBlank l).2 = blanks l := by
  cases l with
  | nil => rfl
  | cons c l =>
    cases hc : isBlank c with
    | false => simp [mayBe, hc, blanks]
    | true => simp [mayBe, hc] at h
set_option maxRecDepth 100000 in
theorem j_blanks (h : Rdr w rb bv bs l) : Calls Tryz.prog 38 #[.pointer (some ⟨rb, 0, none⟩)] w fun e w' => e = .returned (.tuple #[]) ∧ Rdr w' rb bv bs (blanks l) ∧ Keeps (Only rb) w w' := by
  have HW := Lib.hid h
  clear h
  go_enter Tryz.func38, Tryz.ntmps38
  go_wp2_with (fail)
  go_loopg [2] l.length (fun gk _ wx => ∃ l', Hid (l'.length ≤ gk) ∧ Hid (Rdr wx rb bv bs l') ∧ Hid (blanks l' = blanks l) ∧ Hid (Keeps (Only rb) w wx))
  case atStart => exact ⟨l, Lib.hid (Nat.le_refl _), HW, Lib.hid rfl, Lib.hid (Keeps.refl _ _)⟩
  case round =>
    obtain ⟨l', HG, HR, HB, HK⟩ := hrel
    have HM := Lib.hid (j_may (p := isBlank) (s := ⟨#[32, 9, 10, 13]⟩) blank_set HR.out)
    obtain ⟨b, hb⟩ : ∃ b, b = (mayBe isBlank l').1 := ⟨_, rfl⟩
    rw [← hb] at HM
    have HBB := Lib.hid hb
    clear hb
    go_wp2_with (fail)
    refine HM.out.mono ?_
    rintro e w' ⟨rfl, hr, hk⟩
    have HR2 := Lib.hid hr
    have HK2 := Lib.hid hk
    clear hr hk
    cases b with
    | true =>
      have HS := Lib.hid (blanks_step HBB.out.symm)
      go_wp2_with (fail)
      go_roundg ((mayBe isBlank l').2.length)
      case measure => have := HS.out.2; have := HG.out; omega
      case rel => exact ⟨_, Lib.hid (Nat.le_refl _), HR2, Lib.hid (HS.out.1.trans HB.out), Lib.hid (HK.out.trans' HK2.out)⟩
    | false =>
      have HS := Lib.hid (blanks_stop HBB.out.symm)
      go_wp2_with (fail)
      go_end0
      refine ⟨rfl, ?_, HK.out.trans' HK2.out⟩
      rw [← HB.out, ← HS.out]
      exact HR2.out
theorem digit_set : ∀ c : UInt8, ([48, 49, 50, 51, 52, 53, 54, 55, 56, 57] : List UInt8).contains c = isDigit c := by_bytes (by decide +kernel)
theorem digits_step {l : List UInt8} (h : (mayBe isDigit l).1 = true) : digits (mayBe isDigit l).2 = digits l ∧ (mayBe isDigit l).2.length < l.length := by
  cases l with
  | nil => simp [mayBe] at h
  | cons c l =>
    cases hc : isDigit c with
    | false => simp [mayBe, hc] at h
    | true => simp [mayBe, hc, digits]
theorem digits_stop {l : List UInt8} (h : (mayBe isDigit l).1 = false) : (mayBe isDigit l).2 = digits l := by
  cases l with
  | nil => rfl
  | cons c l =>
    cases hc : isDigit c with
    | false => simp [mayBe, hc, digits]
    | true => simp [mayBe, hc] at h
theorem some1_eq (l : List UInt8) : some1 l = if (mayBe isDigit l).1 then .ok () (digits (mayBe isDigit l).2) else .bad l.length 11 := by
  cases l with
  | nil => rfl
  | cons c l => cases hc : isDigit c <;> simp [some1, mayBe, hc]
theorem mayBe_no {p : UInt8 → Bool} {l : List UInt8} (h : (mayBe p l).1 = false) : (mayBe p l).2 = l := by
  cases l with
  | nil => rfl
  | cons c l =>
    cases hc : p c with
    | false => simp [mayBe, hc]
    | true => simp [mayBe, hc] at h
set_option maxRecDepth 100000 in
theorem j_some (h : Rdr w rb bv bs l) : Calls Tryz.prog 102 #[.pointer (some ⟨rb, 0, none⟩)] w (ROut rb bv bs w VUnit (some1 l)) := by
  have HM := Lib.hid (j_may (p := isDigit) (s := ⟨#[48, 49, 50, 51, 52, 53, 54, 55, 56, 57]⟩) digit_set h)
  rw [some1_eq]
  obtain ⟨b, hb⟩ : ∃ b, b = (mayBe isDigit l).1 := ⟨_, rfl⟩
  rw [← hb] at HM
  have HBB := Lib.hid hb
  rw [← hb]
  clear hb h
  cases b with
  | false =>
    go_enter Tryz.func102, Tryz.ntmps102
    go_wp2_with (fail)
    refine HM.out.mono ?_
    rintro e w' ⟨rfl, hr, hk⟩
    have HR2 := Lib.hid hr
    have HK2 := Lib.hid hk
    clear hr hk
    go_wp2_with (fail)
    refine (j_wrong HR2.out).mono ?_
    rintro e w' ⟨rfl, rfl⟩
    refine leave_panic rfl ?_
    rw [mayBe_no HBB.out.symm]
    exact ⟨rfl, HK2.out⟩
  | true =>
    obtain ⟨l0, hl0⟩ : ∃ l0, l0 = (mayBe isDigit l).2 := ⟨_, rfl⟩
    rw [← hl0] at HM
    rw [if_pos rfl, ← hl0]
    clear hl0
    go_enter Tryz.func102, Tryz.ntmps102
    go_wp2_with (fail)
    refine HM.out.mono ?_
    rintro e w' ⟨rfl, hr, hk⟩
    have HR2 := Lib.hid hr
    have HK2 := Lib.hid hk
    clear hr hk
    go_wp2_with (fail)
    go_loopg [7] l0.length (fun gk _ wx => ∃ l', Hid (l'.length ≤ gk) ∧ Hid (Rdr wx rb bv bs l') ∧ Hid (digits l' = digits l0) ∧ Hid (Keeps (Only rb) w wx))
    case atStart => exact ⟨l0, Lib.hid (Nat.le_refl _), HR2, Lib.hid rfl, HK2⟩
    case round =>
      obtain ⟨l', HG, HR, HB, HK⟩ := hrel
      have HM := Lib.hid (j_may (p := isDigit) (s := ⟨#[48, 49, 50, 51, 52, 53, 54, 55, 56, 57]⟩) digit_set HR.out)
      obtain ⟨b, hb⟩ : ∃ b, b = (mayBe isDigit l').1 := ⟨_, rfl⟩
      rw [← hb] at HM
      have HBB := Lib.hid hb
      clear hb
      go_wp2_with (fail)
      refine HM.out.mono ?_
      rintro e w' ⟨rfl, hr, hk⟩
      have HR2 := Lib.hid hr
      have HK2 := Lib.hid hk
      clear hr hk
      cases b with
      | true =>
        have HS := Lib.hid (digits_step HBB.out.symm)
        go_wp2_with (fail)
        go_roundg ((mayBe isDigit l').2.length)
        case measure => have := HS.out.2; have := HG.out; omega
        case rel => exact ⟨_, Lib.hid (Nat.le_refl _), HR2, Lib.hid (HS.out.1.trans HB.out), Lib.hid (HK.out.trans' HK2.out)⟩
      | false =>
        have HS := Lib.hid (digits_stop HBB.out.symm)
        go_wp2_with (fail)
        go_end0
        refine ⟨⟨_, rfl, rfl⟩, ?_, HK.out.trans' HK2.out⟩
        rw [← HB.out, ← HS.out]
        exact HR2.out
end
end Go.Proofs.YthjcolehccbihaaGreatDoor
