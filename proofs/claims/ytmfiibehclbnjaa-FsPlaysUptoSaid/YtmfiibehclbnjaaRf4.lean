/- What the statements' Does leaves: Arm, Crash. -/
import Derived.Test.YtmfiibehclbnjaaRfP
import Derived.Test.YtmfiibehclbnjaaRf3
import Derived.IntWalk
namespace Go.Proofs.Ytmfiibehclbnjaa
open Go.RowKit Go.Shelf

section
variable {w0 w w' : World} {fb rb ob k k' : Nat} {F G : FsS} {S R T : Nat → Prop}
theorem MidPost.from {W : World} (h : MidPost w0 W fb rb F k S R w') (hb : Below w.heap.size w W) : MidPost w0 w fb rb F k S R w' := by
  obtain ⟨S', R', hm, hk, h1, h2⟩ := h
  have := hb.size
  exact ⟨S', R', hm, ((Keeps.of_below hb).mono fun _ _ e => e.elim).trans hk (fun i hi e => e), fun i e => by
    rcases h1 i e with e | e
    · exact .inl e
    · right; omega, fun i e => by
    rcases h2 i e with e | e
    · exact .inl e
    · right; omega⟩
theorem MidPost.more (h : MidPost w0 w fb rb F k S R w') (hk : k ≤ k') : MidPost w0 w fb rb F k' S R w' := by
  obtain ⟨S', R', hm, h1, h2, h3⟩ := h
  exact ⟨S', R', ⟨⟨hm.fs.fs, hm.fs.low, hm.fs.below, hm.fs.ok.mono hk⟩, hm.ref, hm.apart, hm.low⟩, h1, h2, h3⟩
theorem d_armX (h : Hd w0 w fb F k S) (n : Int) (h0 : -9223372036854775808 ≤ n) (h1 : n ≤ 9223372036854775807) : Calls Try.prog 40 #[.pointer (some ⟨fb, 0, none⟩), .int .i64 n] w fun e w' => e = .returned (.tuple #[]) ∧ Hd w0 w' fb { F with armed := max n 0 } k (New w w' S) ∧ Keeps S w w' := by
  obtain ⟨mb, rs, h2⟩ := h.fs
  refine (f_arm h2 n h0 h1).mono ?_
  rintro e w' ⟨rfl, hp⟩
  exact ⟨rfl, h.post hp (h.ok.arm (by omega) (by omega)), hp.2⟩
set_option maxRecDepth 100000 in
set_option maxHeartbeats 4000000 in
theorem x_does6 (h : Mid w0 w fb rb F F k S R) (nn : Int) (h0 : -9223372036854775808 ≤ nn) (h1 : nn ≤ 9223372036854775807) (nm to : ByteArray) (b : List UInt8) (u : Value) :
    Calls Try.prog 43 #[.pointer (some ⟨fb, 0, none⟩), .pointer (some ⟨rb, 0, none⟩), opAgg ⟨6, nn, nm, to, b⟩ u] w fun e w' => e = .returned (.bool true) ∧ MidPost w0 w fb rb { F with armed := max nn 0 } k S R w' := by
  have hal : Below w.heap.size w (w.alloc (.cells (opCells ⟨6, nn, nm, to, b⟩ u) 55)) := (Below.refl _ _).alloc (Nat.le_refl _) _
  have hbx : IsBlk (w.alloc (.cells (opCells ⟨6, nn, nm, to, b⟩ u) 55)) w.heap.size (opCells ⟨6, nn, nm, to, b⟩ u) 55 := blk_new w _
  have hfr : Free (w.alloc (.cells (opCells ⟨6, nn, nm, to, b⟩ u) 55)) w.heap.size (opCells ⟨6, nn, nm, to, b⟩ u) 55 S R := ⟨hbx, fun e => by have := h.fs.fs.lt _ e; omega, fun e => by have := h.rlt _ e; omega⟩
  have HA := Lib.hid (d_armX (h.read hal).fs nn h0 h1)
  have H := Lib.hid (And.intro h (And.intro hal hfr))
  clear h hal hbx hfr
  go_enter Try.func43, Try.ntmps43
  go_wp2_with (fail)
  generalize w.alloc (.cells (opCells ⟨6, nn, nm, to, b⟩ u) 55) = W at *
  refine HA.out.mono ?_
  rintro e w1 ⟨rfl, hd, hk⟩
  obtain ⟨h, hal, hfr⟩ := H.out
  have hh := half_step (h.read hal) hfr hal hd hk
  obtain ⟨S', hm, hf, hk2, hs⟩ := hh
  obtain ⟨lv, rs, hr⟩ := hm.ref
  have c0 : w1.cell? ⟨w.heap.size, 1, none⟩ = some (.int .i64 nn) := blk_cell hf.blk 1
  have z3 : w1.frozen? ⟨rb, 3, none⟩ = false := blk_free hr.blk 3
  have d3 : w1.cell? ⟨rb, 3, none⟩ = some (.int .i64 F.armed) := blk_cell hr.blk 3
  have HFIN : Hid (MidPost w0 w fb rb { F with armed := max nn 0 } k S R (w1.setCell ⟨rb, 3, none⟩ (.int .i64 (max nn 0)))) := Lib.hid (by
    have h5 := hr.setCell (F' := { F with armed := max nn 0 }) (i := 3) (u := .int .i64 (max nn 0)) rfl rfl
    have hkr : Keeps R w1 (w1.setCell ⟨rb, 3, none⟩ (.int .i64 (max nn 0))) := (keeps_set w1 rb 3 _).mono (fun i _ e => by have : i = rb := e; rw [this]; exact hr.sb)
    exact (both_step ⟨S', hm, hf, hk2, hs⟩ ⟨_, _, h5.mono (fun _ e => .inl e) (new_lt hr.lt (by simp)), hkr⟩).1)
  clear hd hk h hal hfr hm hf hk2 hs hr
  go_wp2_with (fail)
  go_ret
  exact ⟨rfl, HFIN.out⟩
set_option maxRecDepth 100000 in
set_option maxHeartbeats 4000000 in
theorem x_does7 (h : Mid w0 w fb rb F F k S R) (nn : Int) (h0 : -9223372036854775808 ≤ nn) (h1 : nn ≤ 9223372036854775807) (nm to : ByteArray) (b : List UInt8) (u : Value) :
    Calls Try.prog 43 #[.pointer (some ⟨fb, 0, none⟩), .pointer (some ⟨rb, 0, none⟩), opAgg ⟨7, nn, nm, to, b⟩ u] w fun e w' => e = .returned (.bool true) ∧ MidPost w0 w fb rb (F.crash fun n _ => keepN n nn) k S R w' := by
  have hal : Below w.heap.size w (w.alloc (.cells (opCells ⟨7, nn, nm, to, b⟩ u) 55)) := (Below.refl _ _).alloc (Nat.le_refl _) _
  have HC := Lib.hid (x_crash (h.read hal) nn h0 h1)
  have HAL := Lib.hid hal
  clear h hal
  go_enter Try.func43, Try.ntmps43
  go_wp2_with (fail)
  generalize w.alloc (.cells (opCells ⟨7, nn, nm, to, b⟩ u) 55) = W at *
  refine HC.out.mono ?_
  rintro e w1 ⟨rfl, hp⟩
  have HP := Lib.hid (hp.from HAL.out)
  clear hp
  go_wp2_with (fail)
  go_ret
  exact ⟨rfl, HP.out⟩
end
end Go.Proofs.Ytmfiibehclbnjaa
/- What the statements' Does leaves: Append; a slice spoiled byte by byte. -/
namespace Go.Proofs.Ytmfiibehclbnjaa
open Go.RowKit Go.Shelf

section
variable {w0 w w' : World} {fb rb ob k k' : Nat} {F G : FsS} {S R T : Nat → Prop}
theorem SlAt.front1 {g off cap : Nat} {ys : List UInt8} {z : UInt8} (h : SlAt byteKind 5 w (.slice (some ⟨g, off, none⟩) (ys.length + 1) cap) (ys ++ [z])) : SlAt byteKind 5 w (.slice (some ⟨g, off, none⟩) ys.length cap) ys := by
  rcases h with ⟨e1, _⟩ | ⟨g', off', cap', cur, e1, hb, hc, hm, hs, hr⟩
  · simp at e1
  · injection e1 with e2 _ e3
    injection e2 with e2
    injection e2 with e4 e5 _
    subst e3 e4 e5
    rw [List.length_append] at hc hr
    refine .inr ⟨g, off, cap, cur, rfl, hb, by have : [z].length = 1 := rfl; omega, hm, hs, fun i hi => ?_⟩
    have hz : ys.length * byteKind.size = ys.length := by show ys.length * 1 = _; omega
    rw [hz] at hi
    rw [hr i (by show i < (ys.length + 1) * 1; omega), List.flatMap_append, List.getElem?_append_left (by rw [flat_len byteKind.len, hz]; exact hi)]
/-- A slice whose bytes are overwritten. -/
def Spoil (W : World) (g off cap n : Nat) (wr : World) : Prop := ∃ zs : List UInt8, zs.length = n ∧ SlAt byteKind 5 wr (.slice (some ⟨g, off, none⟩) n cap) zs ∧ Keeps (Only g) W wr
theorem Spoil.step {W wr : World} {g off cap n : Nat} (h : Spoil W g off cap n wr) {j : Nat} (hj : j < n) (c : UInt8) : (∃ y : UInt8, wr.cell? ⟨g, off + j, none⟩ = some (.int .u8 (y.toNat : Int))) ∧ wr.frozen? ⟨g, off + j, none⟩ = false ∧ Hid (Spoil W g off cap n (wr.setCell ⟨g, off + j, none⟩ (.int .u8 (c.toNat : Int)))) := by
  obtain ⟨zs, hz, hs, hk⟩ := h
  subst hz
  obtain ⟨y, hy⟩ : ∃ y, zs[j]? = some y := ⟨_, List.getElem?_eq_getElem hj⟩
  obtain ⟨cur, hb⟩ := hs.own g rfl
  have h1 := hs.set1 (c := 0) (x' := c) (u := .int .u8 (c.toNat : Int)) hy (by decide) rfl
  have e1 : off + j * byteKind.size + 0 = off + j := by show off + j * 1 + 0 = _; omega
  rw [e1] at h1
  obtain ⟨a, cp, e, hr⟩ := hs.rd
  simp only [Value.slice.injEq, true_and] at e
  obtain ⟨rfl, rfl⟩ := e
  obtain ⟨g2, off2, ha, hc⟩ := hr j y hy
  simp only [Option.some.injEq, Addr.mk.injEq, and_true] at ha
  obtain ⟨rfl, rfl⟩ := ha
  have := hc 0 (by decide)
  refine ⟨⟨y, by rw [← e1]; simpa [byteKind] using this⟩, blk_free hb _, Lib.hid ⟨zs.set j c, List.length_set, h1, hk.trans' (keeps_set _ _ _ _)⟩⟩
theorem Mid.out {v : Value} {ys : List UInt8} (h : Mid w0 w fb rb F G k S R) (hv : RdAt byteKind w0 v ys) {q : Nat} (hq : v.ownBlock = some q) (hy : ys ≠ []) : ¬ R q := fun e => by
  obtain ⟨off, x, hc⟩ := hv.first hy hq
  have : w0.cell? ⟨q, off, none⟩ = some (.int .u8 (x.toNat : Int)) := by rw [hc]; rfl
  have h1 : q < w0.heap.size := World.block_lt_of_cell? w0 _ this
  have := h.low q e
  omega
/-- The lent bytes are appended at the file system, not yet at its reference. -/
structure Lent1 (w0 w W' : World) (fb rb : Nat) (F G : FsS) (k : Nat) (S R S' : Nat → Prop) (ob : Nat) (cs : Array Value) (g off cap : Nat) (ys : List UInt8) : Prop where
  mid : Mid w0 W' fb rb F G k S' R
  free : Free W' ob cs 55 S' R
  kept : Keeps (fun i => S i ∨ R i) w W'
  sub : ∀ i, S' i → S i ∨ w.heap.size ≤ i
  out : ¬ S' g
  outR : ¬ R g
  new : w.heap.size ≤ g
  sl : SlAt byteKind 5 W' (.slice (some ⟨g, off, none⟩) (ys.length + 1) cap) (ys ++ [201])
theorem does1_F {W : World} {g off cap : Nat} {ys : List UInt8} (cs : Array Value) (hm : Mid w0 w fb rb F F k S R) (hk : k < 1000000) (hb : Below w.heap.size w W) (hfr : Free W ob cs 55 S R) {w1 : World} (hl : LentAt W w1 g off cap ys) (nm : ByteArray) (hy : ys.length ≤ 100000000) :
    Calls Try.prog 32 #[.pointer (some ⟨fb, 0, none⟩), .string nm, .slice (some ⟨g, off, none⟩) ys.length cap] w1 fun e W' => e = .returned (.int .i64 (F.append nm ys).2) ∧
      ∃ S', Lent1 w0 w W' fb rb F (F.append nm ys).1 (k + 1) S R S' ob cs g off cap ys := by
  have hB : Below w.heap.size w w1 := hb.trans (hl.below.mono hb.size)
  have hm1 := hm.read hB
  have hgw : w.heap.size ≤ g := by have := hl.new; have := hb.size; omega
  have hgS : ¬ S g := fun e => by have := hm.fs.fs.lt _ e; omega
  obtain ⟨mb, rs, h1⟩ := hm1.fs.fs
  refine (f_append h1 hm.fs.ok hk nm hl.sl.front1.rd (by omega)).mono ?_
  rintro e W' ⟨he, hp⟩
  have hd := hm1.fs.post hp (hm.fs.ok.append nm ys)
  have hkp := hp.2
  have hf1 := hfr.read hl.below
  obtain ⟨S2, _, _, x3, _⟩ := half_step hm1 hf1 hB hd hkp
  have hgl : g < w1.heap.size := by obtain ⟨cur, hc⟩ := hl.sl.own g rfl; exact lt_of_block hc
  refine ⟨he, _, hm1.stepF hd hkp, hf1.keepF hkp, x3, fun i e => ?_, fun e => ?_, fun e => ?_, hgw, hl.sl.keeps hkp (fun q hq => ?_)⟩
  · rcases e with e | e
    · exact .inl e
    · right; have := hB.size; omega
  · rcases e with e | e
    · exact hgS e
    · omega
  · have := hm.rlt _ e; omega
  · obtain rfl : g = q := by simpa [Value.ownBlock] using hq
    exact hgS
/-- They are appended at both. -/
structure Lent2 (w0 w W' : World) (fb rb : Nat) (G : FsS) (k : Nat) (S R : Nat → Prop) (g off cap : Nat) (ys : List UInt8) : Prop where
  mid : ∃ S' R', Mid w0 W' fb rb G G k S' R' ∧ (∀ i, S' i → S i ∨ w.heap.size ≤ i) ∧ (∀ i, R' i → R i ∨ w.heap.size ≤ i) ∧ ¬ S' g ∧ ¬ R' g
  kept : Keeps (fun i => S i ∨ R i) w W'
  new : w.heap.size ≤ g
  sl : SlAt byteKind 5 W' (.slice (some ⟨g, off, none⟩) (ys.length + 1) cap) (ys ++ [201])
theorem Lent2.read {W W' : World} {g off cap : Nat} {ys : List UInt8} (h : Lent2 w0 w W fb rb G k S R g off cap ys) (hb : Below W.heap.size W W') : Lent2 w0 w W' fb rb G k S R g off cap ys := by
  obtain ⟨S', R', hm, h1, h2, h3, h4⟩ := h.mid
  exact ⟨⟨S', R', hm.read hb, h1, h2, h3, h4⟩, h.kept.trans' ((Keeps.of_below hb).mono fun _ _ e => e.elim), h.new, h.sl.below hb⟩
theorem Lent2.done {W W' : World} {g off cap : Nat} {ys : List UInt8} (h : Lent2 w0 w W fb rb G k S R g off cap ys) (h0 : w0.heap.size ≤ w.heap.size) (hk : Keeps (Only g) W W') : MidPost w0 w fb rb G k S R W' := by
  obtain ⟨S', R', hm, h1, h2, h3, h4⟩ := h.mid
  have := h.new
  refine ⟨S', R', hm.keeps hk (fun i e => by have : i = g := e; rw [this]; exact h3) (fun i e => by have : i = g := e; rw [this]; exact h4) (fun i e => by have : i = g := e; omega), h.kept.trans hk (fun i hi e => by have : i = g := e; omega), h1, h2⟩
theorem does1_G {W : World} {S' : Nat → Prop} {cs : Array Value} {g off cap : Nat} {ys : List UInt8} (h : Lent1 w0 w W fb rb F G k' S R S' ob cs g off cap ys) (ho : FsOk F k) (hk : k < 1000000) (nm : ByteArray) (hG : (F.append nm ys).1 = G) {ua : Option Addr} {uc : Nat} (hu : RdAt byteKind w0 (.slice ua ys.length uc) ys) (hy : ys.length ≤ 100000000) :
    Calls Try.prog 63 #[.pointer (some ⟨rb, 0, none⟩), .string nm, .slice ua ys.length uc] W fun e W' => e = .returned (.int .i64 (F.append nm ys).2) ∧ IsBlk W' ob cs 55 ∧ Lent2 w0 w W' fb rb G k' S R g off cap ys := by
  obtain ⟨lv, rs, hr⟩ := h.mid.ref
  refine (g_append hr ho hk nm (hu.below h.mid.fs.below) (by omega) (fun q hq hne => h.mid.out hu hq hne)).mono ?_
  rintro e W' ⟨he, hp⟩
  rw [hG] at hp
  have hgl : g < W.heap.size := by obtain ⟨cur, hc⟩ := h.sl.own g rfl; exact lt_of_block hc
  have hp0 := hp
  obtain ⟨lv2, rs2, p1, p2⟩ := hp0
  refine ⟨he, p2.obj h.free.blk h.free.r, ⟨S', _, h.mid.stepR hp, h.sub, fun i e => ?_, h.out, fun e => ?_⟩, h.kept.trans p2 (fun _ _ e => .inr e), h.new, h.sl.keeps p2 (fun q hq => ?_)⟩
  · rcases e with e | e
    · exact .inl e
    · right; have := h.kept.size; omega
  · rcases e with e | e
    · exact h.outR e
    · omega
  · obtain rfl : g = q := by simpa [Value.ownBlock] using hq
    exact h.outR
end
end Go.Proofs.Ytmfiibehclbnjaa
/- What the statements' Does leaves: Append walked. -/
namespace Go.Proofs.Ytmfiibehclbnjaa
open Go.RowKit Go.Shelf

section
variable {w0 w w' : World} {fb rb ob k k' : Nat} {F G : FsS} {S R T : Nat → Prop}
set_option maxRecDepth 100000 in
set_option maxHeartbeats 4000000 in
theorem x_does1 (h : Mid w0 w fb rb F F k S R) (hk : k < 1000000) (nn : Int) (nm to : ByteArray) (b : List UInt8) (ua : Option Addr) (uc : Nat) (hu : RdAt byteKind w0 (.slice ua b.length uc) b) (hy : b.length ≤ 100000000) :
    Calls Try.prog 43 #[.pointer (some ⟨fb, 0, none⟩), .pointer (some ⟨rb, 0, none⟩), opAgg ⟨1, nn, nm, to, b⟩ (.slice ua b.length uc)] w fun e w' => e = .returned (.bool true) ∧ MidPost w0 w fb rb (F.append nm b).1 (k + 1) S R w' := by
  obtain ⟨cs, hcs⟩ : ∃ cs, cs = opCells ⟨1, nn, nm, to, b⟩ (.slice ua b.length uc) := ⟨_, rfl⟩
  have hal : Below w.heap.size w (w.alloc (.cells cs 55)) := (Below.refl _ _).alloc (Nat.le_refl _) _
  have hbx : IsBlk (w.alloc (.cells cs 55)) w.heap.size cs 55 := blk_new w _
  have hfr : Free (w.alloc (.cells cs 55)) w.heap.size cs 55 S R := ⟨hbx, fun e => by have := h.fs.fs.lt _ e; omega, fun e => by have := h.rlt _ e; omega⟩
  have HLENT := Lib.hid (r_lent (hu.below (h.read hal).fs.below) hy)
  have H := Lib.hid (And.intro h (And.intro hal hfr))
  have HU := Lib.hid hu
  have HCS := Lib.hid hcs
  obtain ⟨x, hx⟩ : ∃ x, (F.append nm b).2 = x := ⟨_, rfl⟩
  obtain ⟨G, hG⟩ : ∃ G, (F.append nm b).1 = G := ⟨_, rfl⟩
  rw [hG]
  have HG := Lib.hid (And.intro hx hG)
  have hyi : (b.length : Int) ≤ 100000000 := by omega
  rw [hcs] at HLENT
  clear h hal hbx hfr hu hx hG
  go_enter Try.func43, Try.ntmps43
  go_wp2_with (fail)
  refine HLENT.out.mono ?_
  rintro e w1 ⟨g, off, cap, rfl, hl⟩
  rw [← hcs] at hl
  clear HLENT
  have hbl1 := ((H.out.2.2).read hl.below).blk
  rw [hcs] at hbl1
  have c2 : w1.cell? ⟨w.heap.size, 2, none⟩ = some (.string nm) := blk_cell hbl1 2
  have HA := Lib.hid (does1_F cs H.out.1 hk H.out.2.1 H.out.2.2 hl nm hy)
  clear hbl1 hl
  go_wp2_with (fail)
  refine HA.out.mono ?_
  rintro e w2 ⟨rfl, S', hL⟩
  rw [HG.out.1]
  have hbl2 := hL.free.blk
  rw [hcs] at hbl2
  rw [HG.out.2] at hL
  have d2 : w2.cell? ⟨w.heap.size, 2, none⟩ = some (.string nm) := blk_cell hbl2 2
  have d4 : w2.cell? ⟨w.heap.size, 4, none⟩ = some (.slice ua b.length uc) := blk_cell hbl2 4
  have HB := Lib.hid (does1_G hL H.out.1.fs.ok hk nm HG.out.2 HU.out hy)
  rw [HG.out.1] at HB
  clear HA hbl2 hL c2
  go_wp2_with (fail)
  refine HB.out.mono ?_
  rintro e w3 ⟨rfl, hbl3, hL⟩
  rw [hcs] at hbl3
  have f4 : w3.cell? ⟨w.heap.size, 4, none⟩ = some (.slice ua b.length uc) := blk_cell hbl3 4
  have HKEPT : Hid (Calls Try.prog 64 #[.slice (some ⟨g, off, none⟩) b.length cap, .slice ua b.length uc] w3 fun e w' => e = .returned (.bool true) ∧ Below w3.heap.size w3 w') := Lib.hid (r_kept hL.sl (HU.out.below (by obtain ⟨_, _, hm, _⟩ := hL.mid; exact hm.fs.below)) hy)
  have HL3 := Lib.hid hL
  clear HB hbl3 hL d2 d4
  go_wp2_with (fail)
  refine HKEPT.out.mono ?_
  rintro e w4 ⟨rfl, hb4⟩
  have HL4 := Lib.hid (HL3.out.read hb4)
  have HS0 : Hid (Spoil w4 g off cap b.length w4) := Lib.hid ⟨b, rfl, HL4.out.sl.front1, Keeps.refl _ _⟩
  have hcap := HL4.out.sl.front1.room.1
  have hcap2 := HL4.out.sl.front1.room.2.1
  clear HKEPT HL3 hb4 f4
  go_wp2_with (fail)
  go_loopw [11] (fun i wr => ∃ j : Nat, j ≤ b.length ∧ i = .int .i64 j ∧ Hid (Spoil w4 g off cap b.length wr)) (fun i _ => b.length - (intOf i).toNat)
  case atStart => exact ⟨0, Nat.zero_le _, rfl, HS0⟩
  case round =>
    obtain ⟨j, hj, rfl, HJ⟩ := hrel
    have k0 : (0 : Int) ≤ (j : Int) := by omega
    by_cases hlt : j < b.length
    · have k1 : (j : Int) < (b.length : Int) := by omega
      obtain ⟨⟨y, hc⟩, hz, HN⟩ := HJ.out.step hlt 99
      replace HN : Hid (Spoil w4 g off cap b.length (wr.setCell ⟨g, off + j, none⟩ (.int .u8 99))) := HN
      go_wp2_with (fail)
      go_roundw
      case rel => exact ⟨j + 1, by omega, by go_num, HN⟩
      case measure => simp [intOf]; omega
    · have k1 : ¬ (j : Int) < (b.length : Int) := by omega
      have HFIN := Lib.hid (HL4.out.done H.out.1.fs.below.size (by obtain ⟨_, _, _, hk⟩ := HJ.out; exact hk))
      go_wp2_with (first | (go_at_call 18; refine (r_numE _ _).mono ?_; rintro e w' ⟨rfl, rfl⟩))
      go_ret
      exact ⟨by simp, HFIN.out⟩
end
end Go.Proofs.Ytmfiibehclbnjaa
