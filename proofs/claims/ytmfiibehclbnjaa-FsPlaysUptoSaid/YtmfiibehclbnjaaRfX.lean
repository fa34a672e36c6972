/- The statements' Same walked. -/
import Derived.Test.YtmfiibehclbnjaaRfW
namespace Go.Proofs.Ytmfiibehclbnjaa
open Go.RowKit Go.Shelf

section
variable {w0 w w' : World} {fb rb ob k k' : Nat} {F G : FsS} {S R T : Nat → Prop}
set_option maxRecDepth 100000 in
set_option maxHeartbeats 8000000 in
theorem x_same (h : Mid w0 w fb rb F F k S R) :
    Calls Try.prog 44 #[.pointer (some ⟨fb, 0, none⟩), .pointer (some ⟨rb, 0, none⟩)] w fun e w' => e = .returned (.bool true) ∧ Below w.heap.size w w' := by
  have H := Lib.hid h
  have HN := Lib.hid (d_names h.fs)
  clear h
  go_enter Try.func44, Try.ntmps44
  go_wp2_with (fail)
  refine HN.out.mono ?_
  rintro e w1 ⟨na, nc, rfl, hrd, hb⟩
  have hm := H.out.read hb
  obtain ⟨lv, rs, hr⟩ := hm.ref
  obtain ⟨ra, rc, hlv⟩ := hr.shape
  have c0 : w1.cell? ⟨rb, 0, none⟩ = some (.int .i64 F.room) := blk_cell hr.blk 0
  have c1 : w1.cell? ⟨rb, 1, none⟩ = some (.slice ra F.files.length rc) := by rw [← hlv]; exact blk_cell hr.blk 1
  have c2 : w1.cell? ⟨rb, 2, none⟩ = some (.int .i64 F.steps) := blk_cell hr.blk 2
  have c4 : w1.cell? ⟨rb, 4, none⟩ = some (.bool F.down) := blk_cell hr.blk 4
  have HU : Hid (∀ W, Below w1.heap.size w1 W → Calls Try.prog 16 #[.pointer (some ⟨fb, 0, none⟩)] W fun e w' => e = .returned (.int .i64 F.used) ∧ W = w') := Lib.hid fun W hW => d_used (hm.read hW).fs
  have HGU : Hid (∀ W, Below w1.heap.size w1 W → Calls Try.prog 72 #[.pointer (some ⟨rb, 0, none⟩)] W fun e w' => e = .returned (.int .i64 F.used) ∧ W = w') := Lib.hid fun W hW => g_used (hr.below hW) hm.fs.ok
  have HRO : Hid (∀ W, Below w1.heap.size w1 W → Calls Try.prog 41 #[.pointer (some ⟨fb, 0, none⟩)] W fun e w' => e = .returned (.int .i64 F.room) ∧ W = w') := Lib.hid fun W hW => d_room (hm.read hW).fs
  have HST : Hid (∀ W, Below w1.heap.size w1 W → Calls Try.prog 38 #[.pointer (some ⟨fb, 0, none⟩)] W fun e w' => e = .returned (.int .i64 F.steps) ∧ W = w') := Lib.hid fun W hW => d_steps (hm.read hW).fs
  have HDO : Hid (∀ W, Below w1.heap.size w1 W → Calls Try.prog 35 #[.pointer (some ⟨fb, 0, none⟩)] W fun e w' => e = .returned (.bool F.down) ∧ W = w') := Lib.hid fun W hW => d_down (hm.read hW).fs
  have HM := Lib.hid (And.intro hm (And.intro hrd hb))
  have hlen : (F.files.length : Int) ≤ 400 := by have := hm.fs.ok.few; omega
  clear hm hrd hb hr hlv HN
  go_wp2_with (fail)
  go_quiet (first
    | (go_at_call 16; exact quiet_hid HU)
    | (go_at_call 72; exact quiet_hid HGU)
    | (go_at_call 41; exact quiet_hid HRO)
    | (go_at_call 38; exact quiet_hid HST)
    | (go_at_call 35; exact quiet_hid HDO))
  have hbd : Below w1.heap.size w1 (w1.drewN nq) := below_drewN _ _ _
  generalize w1.drewN nq = W1 at hbd ⊢
  have HB0 := Lib.hid hbd
  clear hbd HU HGU HRO HST HDO c0 c1 c2 c4
  go_wp2_with (fail)
  go_loopw [6] (fun i wr => ∃ j : Nat, j ≤ F.files.length ∧ i = .int .i64 j ∧ Hid (Below w1.heap.size w1 wr)) (fun i _ => F.files.length - (intOf i).toNat)
  case atStart => exact ⟨0, Nat.zero_le _, rfl, HB0⟩
  case round =>
    obtain ⟨j, hj, rfl, HJ⟩ := hrel
    by_cases hlt : j < F.files.length
    · obtain ⟨⟨n, x⟩, hx⟩ : ∃ y, F.files[j]? = some y := ⟨_, List.getElem?_eq_getElem hlt⟩
      have hm := HM.out.1.read HJ.out
      have hfx := hm.fs.ok.find_at hx
      have hlx := (hm.fs.ok.len hfx).1
      obtain ⟨g, off, rfl, hc⟩ := text_cell (HM.out.2.1.below HJ.out) rfl (j := j) (n := n) (by rw [List.getElem?_map, hx]; rfl)
      have k1 : (0 : Int) ≤ (j : Int) := by omega
      have k2 : (j : Int) < (F.files.length : Int) := by omega
      have HRD := Lib.hid (d_read hm.fs hfx)
      have HX := Lib.hid hx
      clear hx hfx hm
      go_wp2_with (fail)
      refine HRD.out.mono ?_
      rintro e w2 ⟨a2, cp2, rfl, hfr, _⟩
      have HB2 : Hid (Below w1.heap.size w1 w2) := Lib.hid (HJ.out.trans (hfr.below.mono HJ.out.size))
      obtain ⟨lv2, rs2, hr⟩ := (HM.out.1.read HB2.out).ref
      obtain ⟨r, gr, offr, capr, hrj, hf, hlv, d0, d1, d2⟩ := hr.at_file HX.out
      have c1 : w2.cell? ⟨rb, 1, none⟩ = some lv2 := blk_cell hr.blk 1
      subst hlv
      simp only at d0 d1 d2
      have hval : RdAt byteKind w2 (.slice r.a x.data.length r.cap) x.data := by
        have := hf.sl.rd
        have e : r.val = .slice r.a x.data.length r.cap := by show Value.slice r.a r.len r.cap = _; rw [hf.len]
        rwa [e] at this
      have HSB : Hid (Calls Try.prog 20 #[.slice a2 x.data.length cp2, .slice r.a x.data.length r.cap] w2 fun e w' => e = .returned (.bool true) ∧ Below w2.heap.size w2 w') := Lib.hid (r_sameBytes hfr.sl.rd hval (by omega))
      have hc2 : w2.cell? ⟨g, off + j, none⟩ = some (.string n) := (hfr.below.cell (p := ⟨g, off + j, none⟩) (World.block_lt_of_cell? wr _ hc)).trans hc
      clear hfr hr hrj hf hval HRD hc d2
      go_wp2_with (fail)
      refine HSB.out.mono ?_
      rintro e w3 ⟨rfl, hb3⟩
      have hcc : ∀ a u, w2.cell? a = some u → w3.cell? a = some u := fun a u hc => (hb3.cell (p := a) (World.block_lt_of_cell? w2 _ hc)).trans hc
      have c1' := hcc _ _ c1
      have d0' := hcc _ _ d0
      have hc3 := hcc _ _ hc2
      have HB3 : Hid (Below w1.heap.size w1 w3) := Lib.hid (HB2.out.trans (hb3.mono HB2.out.size))
      have hne := neb_self n
      have HN1 : Hid (∀ W, Below w3.heap.size w3 W → Calls Try.prog 18 #[.int .i64 0] W fun e w' => e = .returned (.int .i64 0) ∧ W = w') := Lib.hid fun W _ => r_numE W 0
      clear hcc hb3 c1 d0 d1 hc2 HSB
      go_wp2_with (fail)
      go_quiet ((go_at_call 18; exact quiet_hid HN1))
      have hbd : Below w3.heap.size w3 (w3.drewN nq) := below_drewN _ _ _
      generalize w3.drewN nq = W3 at hbd ⊢
      have HB4 : Hid (Below w1.heap.size w1 W3) := Lib.hid (HB3.out.trans (hbd.mono HB3.out.size))
      clear hbd
      go_wp2_with (fail)
      go_roundw
      case rel => exact ⟨j + 1, by omega, by go_num, HB4⟩
      case measure => simp [intOf]; omega
    · have k2 : ¬ (j : Int) < (F.files.length : Int) := by omega
      go_wp2_with (fail)
      go_ret
      exact ⟨rfl, HM.out.2.2.trans (HJ.out.mono HM.out.2.2.size)⟩
end
end Go.Proofs.Ytmfiibehclbnjaa
