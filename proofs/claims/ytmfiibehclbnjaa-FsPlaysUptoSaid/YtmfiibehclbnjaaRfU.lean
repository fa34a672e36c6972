/- What the statements' Does leaves: what reads a file that is there. -/
import Derived.Test.YtmfiibehclbnjaaRfT
namespace Go.Proofs.Ytmfiibehclbnjaa
open Go.RowKit Go.Shelf

section
variable {w0 w w' : World} {fb rb ob k k' : Nat} {F G : FsS} {S R T : Nat → Prop}
/-- Behind the reads, and behind a slice spoiled. -/
theorem does9_end {W W3 wr : World} {cs : Array Value} {g off cap n : Nat} (h : Mid w0 w fb rb F F k S R) (hal : Below w.heap.size w W) (hbx : IsBlk W ob cs 55) (h3 : Below W.heap.size W W3) (hs : Spoil W3 g off cap n wr) (hg : W.heap.size ≤ g) :
    IsBlk wr ob cs 55 ∧ Hid (∀ W', Below wr.heap.size wr W' → MidPost w0 w fb rb F k S R W') := by
  obtain ⟨_, _, _, hk⟩ := hs
  have hs1 := hal.size
  have hs0 := h.fs.below.size
  have hB := hal.trans (h3.mono hal.size)
  have hm3 := (h.read hB).keeps hk (fun i e e2 => by have : i = g := e; have := h.fs.fs.lt _ e2; omega) (fun i e e2 => by have : i = g := e; have := h.rlt _ e2; omega) (fun i e => by have : i = g := e; omega)
  refine ⟨hk.obj ((h3.block _ (lt_of_block hbx)).trans hbx) (fun e => by have : ob = g := e; have := lt_of_block hbx; omega), Lib.hid fun W' hW => ⟨S, R, hm3.read hW, ?_, fun _ e => .inl e, fun _ e => .inl e⟩⟩
  exact (((Keeps.of_below hB).mono fun _ _ e => e.elim).trans hk (fun i hi e => by have : i = g := e; omega)).trans' ((Keeps.of_below hW).mono fun _ _ e => e.elim)
set_option maxRecDepth 100000 in
set_option maxHeartbeats 4000000 in
theorem x_does9_some (h : Mid w0 w fb rb F F k S R) {kd : Int} (k0 : (kd == 0) = false) (k1 : (kd == 1) = false) (k2 : (kd == 2) = false) (k3 : (kd == 3) = false) (k4 : (kd == 4) = false) (k5 : (kd == 5) = false) (k6 : (kd == 6) = false) (k7 : (kd == 7) = false) (nn : Int) (nm to : ByteArray) (b : List UInt8) (u : Value) (hn : nm.size ≤ 9223372036854775807) {x : FileS} (hx : F.find nm = some x) :
    Calls Try.prog 43 #[.pointer (some ⟨fb, 0, none⟩), .pointer (some ⟨rb, 0, none⟩), opAgg ⟨kd, nn, nm, to, b⟩ u] w fun e w' => e = .returned (.bool true) ∧ MidPost w0 w fb rb F k S R w' := by
  have hal : Below w.heap.size w (w.alloc (.cells (opCells ⟨kd, nn, nm, to, b⟩ u) 55)) := (Below.refl _ _).alloc (Nat.le_refl _) _
  have hbx : IsBlk (w.alloc (.cells (opCells ⟨kd, nn, nm, to, b⟩ u) 55)) w.heap.size (opCells ⟨kd, nn, nm, to, b⟩ u) 55 := blk_new w _
  have hm := h.read hal
  have HR := Lib.hid (d_read hm.fs hx)
  obtain ⟨j, hj⟩ := find_some_at hx
  have hlen := (h.fs.ok.len hx).1
  have HM := Lib.hid (And.intro h (And.intro hal (And.intro hbx hm)))
  have c2 : (w.alloc (.cells (opCells ⟨kd, nn, nm, to, b⟩ u) 55)).cell? ⟨w.heap.size, 2, none⟩ = some (.string nm) := blk_cell hbx 2
  have HX := Lib.hid (And.intro hx hj)
  have j0 : (0 : Int) ≤ (j : Int) := by omega
  have jl : (j : Int) < (F.files.length : Int) := by have := (List.getElem?_eq_some_iff.1 hj).1; omega
  have jn : ¬ ((j : Int) < 0) := by omega
  clear h hal hbx hm hj hx
  go_enter Try.func43, Try.ntmps43
  go_wp2_with (fail)
  generalize w.alloc (.cells (opCells ⟨kd, nn, nm, to, b⟩ u) 55) = W at *
  refine HR.out.mono ?_
  rintro e w1 ⟨a, cap, rfl, hfr, hd1⟩
  have hbl := hfr.below
  have e2 : w1.cell? ⟨w.heap.size, 2, none⟩ = some (.string nm) := (hbl.cell (p := ⟨w.heap.size, 2, none⟩) (World.block_lt_of_cell? W _ c2)).trans c2
  have hm1 := HM.out.2.2.2.read hbl
  have HS := Lib.hid (d_size hm1.fs nm)
  rw [HX.out.1] at HS
  obtain ⟨lv, rs, hr⟩ := hm1.ref
  have HAT := Lib.hid (g_at_some hr hm1.fs.ok.rise hm1.fs.ok.few HX.out.2)
  have c1 : w1.cell? ⟨rb, 1, none⟩ = some lv := blk_cell hr.blk 1
  obtain ⟨r, g, off, cap3, hrj, hf, hlv, d0, d1, d2⟩ := hr.at_file HX.out.2
  subst hlv
  simp only at d0 d1 d2
  have hval : RdAt byteKind w1 (.slice r.a x.data.length r.cap) x.data := by
    have := hf.sl.rd
    have e : r.val = .slice r.a x.data.length r.cap := by show Value.slice r.a r.len r.cap = _; rw [hf.len]
    rwa [e] at this
  have HSB : Hid (Calls Try.prog 20 #[.slice a x.data.length cap, .slice r.a x.data.length r.cap] w1 fun e w' => e = .returned (.bool true) ∧ (w'.cell? ⟨rb, 1, none⟩ = some (.slice (some ⟨g, off, none⟩) F.files.length cap3) ∧ w'.cell? ⟨g, off + j * 3 + 1, none⟩ = some (.slice r.a x.data.length r.cap)) ∧ Hid (Below w1.heap.size w1 w')) :=
    Lib.hid ((r_sameBytes hfr.sl.rd hval (by omega)).mono fun e w' ⟨he, hb⟩ => ⟨he, ⟨(hb.cell (p := ⟨rb, 1, none⟩) (World.block_lt_of_cell? w1 _ c1)).trans c1, (hb.cell (p := ⟨g, off + j * 3 + 1, none⟩) (World.block_lt_of_cell? w1 _ d1)).trans d1⟩, Lib.hid hb⟩)
  have HFR := Lib.hid hfr
  clear hfr hd1 hbl hm1 hr hrj hf hval HR c2 d0 d2
  go_wp2_with (fail)
  refine HS.out.mono ?_
  rintro e w9 ⟨rfl, rfl⟩
  unfold sizeRes
  go_wp2_with (fail)
  refine HAT.out.mono ?_
  rintro e w9 ⟨rfl, rfl⟩
  clear HS HAT
  go_wp2_with (first
    | (go_at_call 18; refine (r_numE _ _).mono ?_; rintro e w' ⟨rfl, rfl⟩)
    | (go_at_call 20; refine HSB.out.mono ?_; rintro e w3 ⟨rfl, ⟨s1, s2⟩, hb3⟩))
  clear HSB c1 d1 s1 s2 e2
  by_cases hz : x.data.length = 0
  · have kz : ¬ ((0 : Int) < (x.data.length : Int)) := by omega
    go_loopw [18] (fun i wr => i = .int .i64 0 ∧ wr = w3) (fun _ _ => 0)
    case atStart => exact ⟨rfl, rfl⟩
    case round =>
      obtain ⟨rfl, rfl⟩ := hrel
      have hB3 : Below W.heap.size W wr := HFR.out.below.trans (hb3.out.mono HFR.out.below.size)
      have hbE : IsBlk wr w.heap.size (opCells ⟨kd, nn, nm, to, b⟩ u) 55 := (hB3.block _ (lt_of_block HM.out.2.2.1)).trans HM.out.2.2.1
      have HE : Hid (∀ W', Below wr.heap.size wr W' → MidPost w0 w fb rb F k S R W') := Lib.hid fun W' hW => HM.out.1.postRead ((HM.out.2.1.trans (hB3.mono HM.out.2.1.size)).trans (hW.mono (by have := HM.out.2.1.size; have := hB3.size; omega)))
      clear hB3 hb3 HFR HX HM
      obtain ⟨HV, HG⟩ := does_valid hbE nm hn
      have cE : wr.cell? ⟨w.heap.size, 2, none⟩ = some (.string nm) := blk_cell hbE 2
      have hb1 : Below wr.heap.size wr wr.drew := (Below.refl _ _).drew
      clear hbE
      go_wp2_with (fail)
      go_region_held3 (fun w' => w'.cell? ⟨w.heap.size, 2, none⟩ = some (.string nm))
        (first
          | go_keep
          | exact t1)
        (first
          | (go_at_call 23; (with_reducible refine (HV.out _ ?_).mono ?_); exact hb1; rintro e w5 ⟨rfl, t1, HC⟩; replace t1 := blk_cell t1 2)
          | (go_at_call 71; (with_reducible refine (HG.out _).mono ?_); rintro e w6 ⟨rfl, rfl⟩))
      go_wp2_with (fail)
      go_ret
      exact ⟨by simp, HE.out _ HC.out⟩
  obtain ⟨g2, off2, rfl⟩ : ∃ g2 off2, a = some ⟨g2, off2, none⟩ := by
    rcases HFR.out.sl.room with ⟨_, _, ⟨_, _, h0⟩ | h0⟩
    · exact absurd h0 hz
    · exact h0
  have HS0 : Hid (Spoil w3 g2 off2 cap x.data.length w3) := Lib.hid ⟨x.data, rfl, HFR.out.sl.below hb3.out, Keeps.refl _ _⟩
  obtain ⟨hcap, hcap2, _⟩ := HFR.out.sl.room
  go_loopw [18] (fun i wr => ∃ q : Nat, q ≤ x.data.length ∧ i = .int .i64 q ∧ Hid (Spoil w3 g2 off2 cap x.data.length wr)) (fun i _ => x.data.length - (intOf i).toNat)
  case atStart => exact ⟨0, Nat.zero_le _, rfl, HS0⟩
  case round =>
    obtain ⟨q, hq, rfl, HJ⟩ := hrel
    have q0 : (0 : Int) ≤ (q : Int) := by omega
    by_cases hlt : q < x.data.length
    · have q1 : (q : Int) < (x.data.length : Int) := by omega
      obtain ⟨⟨y, hc⟩, hz, HN⟩ := HJ.out.step hlt 98
      replace HN : Hid (Spoil w3 g2 off2 cap x.data.length (wr.setCell ⟨g2, off2 + q, none⟩ (.int .u8 98))) := HN
      go_wp2_with (fail)
      go_roundw
      case rel => exact ⟨q + 1, by omega, by go_num, HN⟩
      case measure => simp [intOf]; omega
    · have q1 : ¬ (q : Int) < (x.data.length : Int) := by omega
      obtain ⟨hbE, HE⟩ := does9_end HM.out.1 HM.out.2.1 HM.out.2.2.1 (HFR.out.below.trans (hb3.out.mono HFR.out.below.size)) HJ.out (HFR.out.new g2 rfl)
      clear hb3 HFR HX HM HJ
      obtain ⟨HV, HG⟩ := does_valid hbE nm hn
      have cE : wr.cell? ⟨w.heap.size, 2, none⟩ = some (.string nm) := blk_cell hbE 2
      have hb1 : Below wr.heap.size wr wr.drew := (Below.refl _ _).drew
      clear hbE
      go_wp2_with (fail)
      go_region_held3 (fun w' => w'.cell? ⟨w.heap.size, 2, none⟩ = some (.string nm))
        (first
          | go_keep
          | exact t1)
        (first
          | (go_at_call 23; (with_reducible refine (HV.out _ ?_).mono ?_); exact hb1; rintro e w5 ⟨rfl, t1, HC⟩; replace t1 := blk_cell t1 2)
          | (go_at_call 71; (with_reducible refine (HG.out _).mono ?_); rintro e w6 ⟨rfl, rfl⟩))
      go_wp2_with (fail)
      go_ret
      exact ⟨by simp, HE.out _ HC.out⟩
end
end Go.Proofs.Ytmfiibehclbnjaa
