/- The walk of a JSON reader's number. -/
import Derived.Test.YthjcolehccbihaaGreatDoorz06
import Derived.Deep.CutBlock
import Derived.Deep.DeepCutAuto
namespace Go.Proofs.YthjcolehccbihaaGreatDoor
open Go.RowKit Go.Shelf
def numFin (l r : List UInt8) : Out JV := if 40 < l.length - r.length then .bad l.length 8 else .ok (.mk 3 (str (l.take (l.length - r.length))) [] []) r
def numC3 (l l3 : List UInt8) : Out JV := (numExp l3).andThen fun _ r => numFin l r
def numC2 (l l2 : List UInt8) : Out JV := (numFrac l2).andThen fun _ l3 => numC3 l l3
theorem number_eq (l : List UInt8) : number l = (numWhole (mayBe (· == 45) l).2).andThen fun _ l2 => numC2 l l2 := by
  unfold number numRest numC2 numC3 numFin
  cases numWhole (mayBe (· == 45) l).2 with
  | bad p e => rfl
  | ok x l2 =>
    simp only [Out.andThen_ok]
    cases numFrac l2 with
    | bad p e => rfl
    | ok x l3 => rfl
theorem one_set (a : UInt8) : ∀ c : UInt8, ([a] : List UInt8).contains c = (c == a) := fun c => by simp [BEq.beq]
theorem e_set : ∀ c : UInt8, ([101, 69] : List UInt8).contains c = isE c := by_bytes (by decide +kernel)
theorem sign_set : ∀ c : UInt8, ([43, 45] : List UInt8).contains c = isSign c := by_bytes (by decide +kernel)
/-- string(b). -/
theorem run_text {a : Option Addr} {cap : Nat} {ys : List UInt8} {W : World} (h : RdAt byteKind W (.slice a ys.length cap) ys) : (convert 26 9 (.slice a ys.length cap)).run Tryz.prog W = .ok (.string ⟨ys.toArray⟩) W := by
  obtain ⟨a', cap', e, hnil, hc⟩ := h.cells
  simp only [Value.slice.injEq, true_and] at e
  obtain ⟨rfl, rfl⟩ := e
  cases a with
  | none =>
    obtain rfl := hnil rfl
    rw [run_convert_bytes_string W 26 9 5 none _ cap Tryz.underlying26 Tryz.underlying5 Tryz.underlying9]
    simp [Conv.bytesToString]
    rfl
  | some b =>
    refine run_convert_bytes_back W 26 9 5 b cap ys Tryz.underlying26 Tryz.underlying5 Tryz.underlying9 ?_
    intro j hj
    refine hc b rfl j _ ?_
    have h1 := flat_at byteKind.len ys j 0 ys[j] (List.getElem?_eq_getElem hj) (by decide)
    have e : byteKind.size = 1 := rfl
    rw [e, Nat.mul_one, Nat.add_zero] at h1
    rw [h1]; rfl
theorem byte_cell {w : World} {a : Option Addr} {len cap : Nat} {ys : List UInt8} (h : RdAt byteKind w (.slice a len cap) ys) {k : Nat} {x : UInt8} (hx : ys[k]? = some x) : ∃ g off, a = some ⟨g, off, none⟩ ∧ w.cell? ⟨g, off + k, none⟩ = some (.int .u8 (x.toNat : Int)) := by
  obtain ⟨_, _, e1, hr⟩ := h
  injection e1 with e1 _ e3
  subst e1 e3
  obtain ⟨g, off, rfl, d1⟩ := hr k x hx
  have d1 := d1 0 (by decide)
  exact ⟨g, off, rfl, by simpa [byteKind] using d1⟩
/-- A part of bytes. -/
theorem RdAt.sub {w : World} {g off len cap q m : Nat} {ys : List UInt8} (h : RdAt byteKind w (.slice (some ⟨g, off, none⟩) len cap) ys) (hq : q + m ≤ ys.length) (a' : Option Addr) (cap' : Nat) (ha : m ≠ 0 → a' = some ⟨g, off + q, none⟩) :
    RdAt byteKind w (.slice a' m cap') ((ys.drop q).take m) := by
  have hl : ((ys.drop q).take m).length = m := by rw [List.length_take, List.length_drop]; omega
  refine ⟨a', cap', by rw [hl], fun j x hx => ?_⟩
  have hj : j < m := by have := (List.getElem?_eq_some_iff.1 hx).1; omega
  rw [List.getElem?_take_of_lt hj, List.getElem?_drop] at hx
  obtain ⟨g', off', e, hc⟩ := byte_cell h hx
  simp only [Option.some.injEq, Addr.mk.injEq, and_true] at e
  obtain ⟨rfl, rfl⟩ := e
  refine ⟨g, off + q, ha (by omega), fun i hi => ?_⟩
  have hi0 : i = 0 := by have : i < 1 := hi; omega
  subst hi0
  show w.cell? ⟨g, off + q + j * 1 + 0, none⟩ = some (.int .u8 (x.toNat : Int))
  rw [Nat.mul_one, Nat.add_zero, Nat.add_assoc]
  exact hc
section
variable {w : World} {rb : Nat} {bv : Value} {bs l : List UInt8}
/-- What stands while a number is read: the reader behind l2, the result's own cells untouched. -/
structure NumI (w wx : World) (rb : Nat) (bv : Value) (bs l2 : List UInt8) : Prop where
  rdr : Rdr wx rb bv bs l2
  keep : Keeps (Only rb) w wx
  box : JBox wx w.heap.size raw0
theorem NumI.step {w wx wy : World} {rb : Nat} {bv : Value} {bs l2 l3 : List UInt8} (h : NumI w wx rb bv bs l2) (hr : rb < w.heap.size) (h2 : Rdr wy rb bv bs l3) (hk : Keeps (Only rb) wx wy) : NumI w wy rb bv bs l3 :=
  ⟨h2, h.keep.trans' hk, jbox_keeps h.box hk (by intro e; have : w.heap.size = rb := e; omega)⟩
set_option maxRecDepth 100000 in
set_option maxHeartbeats 2000000 in
theorem j_number (h : Rdr w rb bv bs l) : Calls Tryz.prog 75 #[.pointer (some ⟨rb, 0, none⟩)] w (ROut rb bv bs w (VJ w.heap.size) (number l)) := by
  obtain ⟨w1, hw1, HBX⟩ := jbox_zero w
  have HW1 := Lib.hid hw1
  have HLT := Lib.hid h.lt
  have HI1 : Hid (NumI w w1 rb bv bs l) := Lib.hid ⟨h.below HBX.out.1, (Keeps.refl _ _).below HBX.out.1, HBX.out.2⟩
  have HN := Lib.hid (number_eq l)
  obtain ⟨a, cap, k, hbv, hk, hkl, -, -, -⟩ := h.parts
  have HK := Lib.hid (And.intro hk hkl)
  have HSUF := Lib.hid h.suf
  have HLEN := Lib.hid h.len
  have HGL := Lib.hid h.glt
  obtain ⟨a', cap', k', e', hk', -, d0, d1, f1⟩ := HI1.out.rdr.parts
  have hkk : k' = k := by rw [hk', hk]
  subst hkk
  clear hw1 h hbv hk hkl hk' HBX e'
  go_enter Tryz.func75, Tryz.ntmps75
  go_upto_region 1 with fail
  rw [HW1.out]
  have HM := Lib.hid (j_may (p := (· == 45)) (s := ⟨#[45]⟩) (one_set 45) HI1.out.rdr)
  go_wp2_with (fail)
  refine HM.out.mono ?_
  rintro e w2 ⟨rfl, hr2, hk2⟩
  have HI2 := Lib.hid (HI1.out.step HLT.out hr2 hk2)
  obtain ⟨l1, hl1⟩ : ∃ l1, l1 = (mayBe (· == 45) l).2 := ⟨_, rfl⟩
  rw [← hl1] at HI2 HN
  clear HM hr2 hk2 hl1 d0 d1 f1 HI1 HW1
  have HM := Lib.hid (j_may (p := (· == 48)) (s := ⟨#[48]⟩) (one_set 48) HI2.out.rdr)
  obtain ⟨b, hb⟩ : ∃ b, b = (mayBe (· == 48) l1).1 := ⟨_, rfl⟩
  rw [← hb] at HM
  have HB := Lib.hid hb
  clear hb
  go_wp2_with (fail)
  refine HM.out.mono ?_
  rintro e w3 ⟨rfl, hr3, hk3⟩
  have HI3 := Lib.hid (HI2.out.step HLT.out hr3 hk3)
  clear hr3 hk3 HM HI2
  go_upto_if 12 with (fail)
  go_cut [] (fun wx => Hid (∃ l2, NumI w wx rb bv bs l2 ∧ number l = numC2 l l2))
  case first =>
    cases b with
    | true =>
      go_wp2_with (fail)
      go_meet
      refine Lib.hid ⟨_, HI3.out, ?_⟩
      rw [HN.out]; unfold numWhole; rw [if_pos HB.out.symm]; rfl
    | false =>
      have HL : Hid (numWhole l1 = some1 l1) := Lib.hid (by unfold numWhole; rw [if_neg (by rw [← HB.out]; decide)])
      have HS := Lib.hid (j_some HI3.out.rdr)
      rw [mayBe_no HB.out.symm] at HS
      go_wp2_with (fail)
      refine HS.out.mono ?_
      intro e w4 hp
      cases ho : some1 l1 with
      | bad p er =>
        rw [ho] at hp
        obtain ⟨rfl, hk⟩ := hp
        refine leave_panic rfl ?_
        rw [HN.out, HL.out, ho]
        exact ⟨rfl, HI3.out.keep.trans' hk⟩
      | ok x r =>
        rw [ho] at hp
        obtain ⟨⟨v, rfl, rfl⟩, hr, hk⟩ := hp
        have HI4 := Lib.hid (HI3.out.step HLT.out hr hk)
        have HO := Lib.hid ho
        clear hr hk ho
        go_wp2_with (fail)
        go_meet
        refine Lib.hid ⟨_, HI4.out, ?_⟩
        rw [HN.out, HL.out, HO.out]; rfl
  case rest =>
    obtain ⟨l2, hi2, hn2⟩ := hcut.out
    have HI4 := Lib.hid hi2
    have HN2 := Lib.hid hn2
    clear hcut hi2 hn2 HI3 HB HN
    have HM := Lib.hid (j_may (p := (· == 46)) (s := ⟨#[46]⟩) (one_set 46) HI4.out.rdr)
    obtain ⟨b2, hb2⟩ : ∃ b, b = (mayBe (· == 46) l2).1 := ⟨_, rfl⟩
    rw [← hb2] at HM
    have HB := Lib.hid hb2
    clear hb2
    go_wp2_with (fail)
    refine HM.out.mono ?_
    rintro e w5 ⟨rfl, hr5, hk5⟩
    have HI5 := Lib.hid (HI4.out.step HLT.out hr5 hk5)
    clear hr5 hk5 HM HI4
    go_upto_if 16 with (fail)
    go_cut [] (fun wx => Hid (∃ l3, NumI w wx rb bv bs l3 ∧ number l = numC3 l l3))
    case first =>
      cases b2 with
      | false =>
        go_wp2_with (fail)
        go_meet
        refine Lib.hid ⟨_, HI5.out, ?_⟩
        rw [HN2.out]; unfold numC2 numFrac; rw [if_neg (by rw [← HB.out]; decide), mayBe_no HB.out.symm]; rfl
      | true =>
        have HL : Hid (numFrac l2 = some1 (mayBe (· == 46) l2).2) := Lib.hid (by unfold numFrac; rw [if_pos HB.out.symm])
        have HS := Lib.hid (j_some HI5.out.rdr)
        go_wp2_with (fail)
        refine HS.out.mono ?_
        intro e w4 hp
        cases ho : some1 (mayBe (· == 46) l2).2 with
        | bad p er =>
          rw [ho] at hp
          obtain ⟨rfl, hk⟩ := hp
          refine leave_panic rfl ?_
          rw [HN2.out]; unfold numC2; rw [HL.out, ho]
          exact ⟨rfl, HI5.out.keep.trans' hk⟩
        | ok x r =>
          rw [ho] at hp
          obtain ⟨⟨v, rfl, rfl⟩, hr, hk⟩ := hp
          have HI6 := Lib.hid (HI5.out.step HLT.out hr hk)
          have HO := Lib.hid ho
          clear hr hk ho
          go_wp2_with (fail)
          go_meet
          refine Lib.hid ⟨_, HI6.out, ?_⟩
          rw [HN2.out]; unfold numC2; rw [HL.out, HO.out]; rfl
    case rest =>
      obtain ⟨l3, hi3, hn3⟩ := hcut.out
      have HI6 := Lib.hid hi3
      have HN3 := Lib.hid hn3
      clear hcut hi3 hn3 HI5 HB HN2
      have HM := Lib.hid (j_may (p := isE) (s := ⟨#[101, 69]⟩) e_set HI6.out.rdr)
      obtain ⟨b3, hb3⟩ : ∃ b, b = (mayBe isE l3).1 := ⟨_, rfl⟩
      rw [← hb3] at HM
      have HB := Lib.hid hb3
      clear hb3
      go_wp2_with (fail)
      refine HM.out.mono ?_
      rintro e w7 ⟨rfl, hr7, hk7⟩
      have HI7 := Lib.hid (HI6.out.step HLT.out hr7 hk7)
      clear hr7 hk7 HM HI6
      go_upto_if 20 with (fail)
      go_cut [] (fun wx => Hid (∃ l4, NumI w wx rb bv bs l4 ∧ number l = numFin l l4))
      case first =>
        cases b3 with
        | false =>
          go_wp2_with (fail)
          go_meet
          refine Lib.hid ⟨_, HI7.out, ?_⟩
          rw [HN3.out]; unfold numC3 numExp; rw [if_neg (by rw [← HB.out]; decide), mayBe_no HB.out.symm]; rfl
        | true =>
          have HL : Hid (numExp l3 = some1 (mayBe isSign (mayBe isE l3).2).2) := Lib.hid (by unfold numExp; rw [if_pos HB.out.symm])
          have HM := Lib.hid (j_may (p := isSign) (s := ⟨#[43, 45]⟩) sign_set HI7.out.rdr)
          go_wp2_with (fail)
          refine HM.out.mono ?_
          rintro e w8 ⟨rfl, hr8, hk8⟩
          have HI8 := Lib.hid (HI7.out.step HLT.out hr8 hk8)
          clear hr8 hk8 HM
          have HS := Lib.hid (j_some HI8.out.rdr)
          go_wp2_with (fail)
          refine HS.out.mono ?_
          intro e w4 hp
          cases ho : some1 (mayBe isSign (mayBe isE l3).2).2 with
          | bad p er =>
            rw [ho] at hp
            obtain ⟨rfl, hk⟩ := hp
            refine leave_panic rfl ?_
            rw [HN3.out]; unfold numC3; rw [HL.out, ho]
            exact ⟨rfl, HI8.out.keep.trans' hk⟩
          | ok x r =>
            rw [ho] at hp
            obtain ⟨⟨v, rfl, rfl⟩, hr, hk⟩ := hp
            have HI9 := Lib.hid (HI8.out.step HLT.out hr hk)
            have HO := Lib.hid ho
            clear hr hk ho
            go_wp2_with (fail)
            go_meet
            refine Lib.hid ⟨_, HI9.out, ?_⟩
            rw [HN3.out]; unfold numC3; rw [HL.out, HO.out]; rfl
      case rest =>
        obtain ⟨l4, hi4, hn4⟩ := hcut.out
        have HI8 := Lib.hid hi4
        have HN4 := Lib.hid hn4
        clear hcut hi4 hn4 HI7 HB HN3
        obtain ⟨a, cap, k4, rfl, hk4, hkl4, c0, c1, f1⟩ := HI8.out.rdr.parts
        have hlen := HLEN.out
        have hkk := HK.out
        by_cases h40 : 40 < l.length - l4.length
        · have HR : Hid (number l = .bad l.length 8) := Lib.hid (by rw [HN4.out]; unfold numFin; rw [if_pos h40])
          have hi : (40 : Int) < (k4 : Int) - (k' : Int) := by omega
          have hi2 : (k4 : Int) ≤ 1000000 := by omega
          clear hk4 hkl4 hkk hlen h40
          go_wp2_with (fail)
          refine (j_fail _ _ _ _).mono ?_
          rintro e w' ⟨rfl, rfl⟩
          refine leave_panic rfl ?_
          rw [HR.out]
          exact ⟨by rw [← HK.out.1]; rfl, HI8.out.keep⟩
        · have HR : Hid (number l = .ok (.mk 3 (str (l.take (l.length - l4.length))) [] []) l4) := Lib.hid (by rw [HN4.out]; unfold numFin; rw [if_neg h40])
          have hfit := number_fits l _ _ HR.out
          have hlt : k' < k4 := by omega
          obtain ⟨c, r, hc⟩ : ∃ c r, l = c :: r := by
            cases l with
            | nil => simp at hfit
            | cons c r => exact ⟨c, r, rfl⟩
          have hg := suf_get HSUF.out hkk.1 hc
          obtain ⟨g, off, rfl, -⟩ := byte_cell HI8.out.rdr.rd hg
          obtain ⟨hroom, hcm⟩ := HI8.out.rdr.room _ _ _ rfl
          have hys : (bs.drop k').take (k4 - k') = l.take (l.length - l4.length) := by
            have h1 := suf_drop HSUF.out
            rw [← hkk.1] at h1
            rw [← h1]
            congr 1; omega
          have hyl : ((bs.drop k').take (k4 - k')).length = k4 - k' := by rw [List.length_take, List.length_drop]; omega
          have HCV : Hid (∀ W, NumI w W rb (.slice (some ⟨g, off, none⟩) bs.length cap) bs l4 → (convert 26 9 (.slice (some ⟨g, off + k', none⟩) (k4 - k') (cap - k'))).run Tryz.prog W = .ok (.string (str (l.take (l.length - l4.length)))) W) := Lib.hid fun W hW => by
            have hsub : RdAt byteKind W (.slice (some ⟨g, off + k', none⟩) (k4 - k') (cap - k')) ((bs.drop k').take (k4 - k')) := hW.rdr.rd.sub (by omega) _ _ (fun _ => rfl)
            have := hyl ▸ hsub
            have h2 : RdAt byteKind W (.slice (some ⟨g, off + k', none⟩) ((bs.drop k').take (k4 - k')).length (cap - k')) ((bs.drop k').take (k4 - k')) := by rw [hyl]; exact hsub
            have h3 := run_text h2
            rw [hyl, hys] at h3
            exact h3
          obtain ⟨ys, hyd⟩ : ∃ ys, ys = str (l.take (l.length - l4.length)) := ⟨_, rfl⟩
          rw [← hyd] at HCV HR
          have i1 : ¬ (40 : Int) < (k4 : Int) - (k' : Int) := by omega
          have i2 : (k4 : Int) ≤ 1000000 := by omega
          have i3 : (k' : Int) ≤ (k4 : Int) := by omega
          have i4 : (k4 : Int) ≤ (cap : Int) := by omega
          have i5 : ¬ (cap = k') := by omega
          clear hk4 hkl4 hkk hlen h40 hyd hyl hys hg hc hfit hlt hroom hcm
          go_upto_region 12 with (fail)
          refine wp_region_still_tail 12 (by kernel_rfl) (by kernel_rfl) ?_
          obtain ⟨wd, hwd⟩ : ∃ wd, wd = wc.drew := ⟨_, rfl⟩
          rw [show ({ heap := wc.heap, tape := wc.tape, drawn := wc.drawn + 1, os := wc.os, output := wc.output } : World) = wd from hwd.symm]
          have HI9 : Hid (NumI w wd rb (.slice (some ⟨g, off, none⟩) bs.length cap) bs l4) := Lib.hid (HI8.out.step HLT.out (by rw [hwd]; exact HI8.out.rdr.below (Below.refl _ _).drew) (by rw [hwd]; exact (Keeps.refl _ _).drew))
          have hkd : k4 = bs.length - l4.length := by
            have h1 := blk_cell HI8.out.rdr.blk 1
            rw [c1] at h1
            simp at h1
            omega
          clear hwd c0 c1 f1
          have c0 : wd.cell? ⟨rb, 0, none⟩ = some (.slice (some ⟨g, off, none⟩) bs.length cap) := blk_cell HI9.out.rdr.blk 0
          have c1 : wd.cell? ⟨rb, 1, none⟩ = some (.int .i64 (k4 : Int)) := by rw [hkd]; exact blk_cell HI9.out.rdr.blk 1
          have hcv := HCV.out wd HI9.out
          obtain ⟨⟨b0, b1, b2, b3⟩, f0, f1, f2, f3⟩ := jbox_cells HI9.out.box
          clear hkd HI8
          simp only [List.take_succ_cons, List.take_zero, List.drop_succ_cons, List.drop_zero]
          repeat still_step
          refine wpStill_nil ?_
          go_wp2
          have HN := jbox_set HI9.out.box (rawOf 3 ys)
          have hk9 := keeps4 wd w.heap.size (.int .i64 3) (.string ys) (.slice none 0 0) (.slice none 0 0)
          refine bodyPost_ret (v := (rawOf 3 ys).val) (jres_cell rfl HN _ rfl) rfl ?_
          rw [HR.out]
          refine ⟨⟨_, rfl, rawOf 3 ys, rfl, JAt.plain _ _ _ _⟩, HI9.out.rdr.keeps hk9 (fun e => ?_) (fun g hg hb e => ?_) (fun k e => ?_), jbox_keep4 HI9.out.keep (Nat.le_refl _) _ _ _ _⟩
          · have := HLT.out; have e : rb = w.heap.size := e; omega
          · have := HGL.out g hg hb; have e : g = w.heap.size := e; omega
          · have e : k = w.heap.size := e; have := HI9.out.rdr.big; have := HLT.out; omega
end
end Go.Proofs.YthjcolehccbihaaGreatDoor
namespace Go.Proofs.YthjcolehccbihaaGreatDoor
open Go.RowKit Go.Shelf
def hexes : List UInt8 := [48, 49, 50, 51, 52, 53, 54, 55, 56, 57, 97, 98, 99, 100, 101, 102]
set_option maxRecDepth 100000 in
theorem or_byte : ∀ c : UInt8, bits .or .u8 (c.toNat : Int) 32 = (((c ||| 32 : UInt8)).toNat : Int) := by_bytesP (by decide +kernel)
/-- What the digit's place among the sixteen says. -/
def hexOk (c : UInt8) : Bool := match hexVal c with
  | none => decide (Lib.indexByte hexes (c ||| 32) < 0) || (decide (c < 48) || (decide (57 < c) && decide (c < 65)))
  | some v => decide (Lib.indexByte hexes (c ||| 32) = (v : Int)) && !decide (c < 48) && !(decide (57 < c) && decide (c < 65)) && decide (v < 16)
theorem hex_ok : ∀ c : UInt8, hexOk c = true := by_bytes (q := fun _ => true) (by decide +kernel)
section
variable {w : World} {rb : Nat} {bv : Value} {bs l : List UInt8}
def VRune (_ : World) (v : Value) (x : Nat) : Prop := v = .int .i32 (x : Int)
set_option maxRecDepth 100000 in
set_option maxHeartbeats 2000000 in
theorem j_four (pl : Nat) (h : Rdr w rb bv bs l) : Calls Tryz.prog 121 #[.pointer (some ⟨rb, 0, none⟩), .int .i64 ((bs.length - pl : Nat) : Int)] w (ROut rb bv bs w VRune (fourN pl 4 0 l)) := by
  obtain ⟨place, hplace⟩ : ∃ p : Int, p = ((bs.length - pl : Nat) : Int) := ⟨_, rfl⟩
  rw [← hplace]
  have HP := Lib.hid hplace
  obtain ⟨RES, hres⟩ : ∃ o, o = fourN pl 4 0 l := ⟨_, rfl⟩
  rw [← hres]
  have HW := Lib.hid h
  have HRES := Lib.hid hres
  clear hplace h hres
  go_enter Tryz.func121, Tryz.ntmps121
  go_wp2_with (fail)
  go_loopw [5, 8] (fun x i wx => ∃ (k y : Nat) (l' : List UInt8), k ≤ 4 ∧ i = .int .i64 (4 - (k : Int)) ∧ x = .int .i32 (y : Int) ∧ Hid (fourN pl k y l' = RES) ∧ Hid (Rdr wx rb bv bs l') ∧ Hid (Keeps (Only rb) w wx) ∧ Hid (y < 16 ^ (4 - k))) (fun _ i _ => (4 - intOf i).toNat)
  case atStart => exact ⟨4, 0, l, Nat.le_refl _, rfl, rfl, Lib.hid HRES.out.symm, HW, Lib.hid (Keeps.refl _ _), Lib.hid (by decide)⟩
  case round =>
    obtain ⟨k, y, l', hk, rfl, rfl, HE, HR, HK, HY⟩ := hrel
    cases k with
    | zero =>
      go_wp2
      go_ret
      have e := HE.out
      rw [← e]
      exact ⟨⟨_, rfl, rfl⟩, HR.out, HK.out⟩
    | succ k =>
      have hlt : (4 : Int) - ((k + 1 : Nat) : Int) < 4 := by omega
      obtain ⟨a, cap, p, hbv, hp, hpl, c0, c1, f1⟩ := HR.out.parts
      cases l' with
      | nil =>
        have ht : (((p : Nat) : Int) == ((bs.length : Nat) : Int)) = true := by simp at hpl ⊢; omega
        clear hp hpl
        go_wp2_with (fail)
        go_quiet (fail)
        go_wp2_with (fail)
        refine (j_wrong (HR.out.below (below_drewN _ _ _))).mono ?_
        rintro e w' ⟨rfl, rfl⟩
        refine leave_panic (P := Tryz.prog) (fn := Tryz.f121) rfl ?_
        rw [← HE.out]
        exact ⟨rfl, HK.out.drewN _⟩
      | cons c r =>
        subst hbv
        obtain ⟨g, off, rfl, c2⟩ := HR.out.byte hp rfl
        have ht : (((p : Nat) : Int) == ((bs.length : Nat) : Int)) = false := by simp at hpl ⊢; omega
        have hltp : (p : Int) < (bs.length : Int) := by simp at hpl; omega
        have hp1 : (p : Int) + 1 ≤ 1000000 := by have := HR.out.len; omega
        have HN : Hid (((bs.length - r.length : Nat) : Int) = (p : Int) + 1) := Lib.hid (by simp at hpl; omega)
        obtain ⟨i, hi⟩ : ∃ i, i = Lib.indexByte hexes (c ||| 32) := ⟨_, rfl⟩
        obtain ⟨d, hd⟩ : ∃ d : Int, d = (((c ||| 32 : UInt8)).toNat : Int) := ⟨_, rfl⟩
        have hor : bits .or .u8 (c.toNat : Int) 32 = d := by rw [hd]; exact or_byte c
        have HX : Hid (∀ W, Calls Tryz.prog 96 #[.string ⟨#[48, 49, 50, 51, 52, 53, 54, 55, 56, 57, 97, 98, 99, 100, 101, 102]⟩, .int .u8 d] W fun e w' => e = .returned (.int .i64 i) ∧ w' = W) := Lib.hid fun W => by
          have := Tryz.strings_IndexByte ⟨#[48, 49, 50, 51, 52, 53, 54, 55, 56, 57, 97, 98, 99, 100, 101, 102]⟩ d W
          rw [hd, toByte] at this
          rw [hi, hd]
          exact this
        have hho := hex_ok c
        unfold hexOk at hho
        rw [← hi] at hho
        have hcn : (0 : Int) ≤ (c.toNat : Int) := by omega
        have HHO := Lib.hid hho
        have HOR := Lib.hid hor
        clear hp hpl hi hd hho hor hcn hp1
        go_wp2_with (fail)
        go_quiet (fail)
        rename Nat => nq1
        go_wp2_with (fail)
        go_quiet (fail)
        obtain ⟨wd, hwd⟩ : ∃ wd, wd = (wr.drewN nq1).drewN nq := ⟨_, rfl⟩
        rw [← hwd]
        have HR2 : Hid (Rdr wd rb (.slice (some ⟨g, off, none⟩) bs.length cap) bs (c :: r)) := Lib.hid (by rw [hwd]; exact (HR.out.below (below_drewN _ _ _)).below (below_drewN _ _ _))
        have HK2 : Hid (Keeps (Only rb) w wd) := Lib.hid (by rw [hwd]; exact (HK.out.drewN _).drewN _)
        obtain ⟨-, -, p', -, hp', -, d0, d1, e1⟩ := HR2.out.parts
        have hpp : p' = p := by rw [hp']; have := HN.out; have := HR.out.len; simp at *; omega
        subst hpp
        clear hwd c0 c1 c2 f1 hp'
        have hor := HOR.out
        go_wp2_with (fail)
        refine (HX.out _).mono ?_
        rintro e w9 ⟨rfl, rfl⟩
        clear hor
        cases hx : hexVal c with
        | none =>
          have HB : Hid (RES = .bad pl 11) := Lib.hid (by rw [← HE.out]; simp [fourN, hx])
          have hcase : i < 0 ∨ (¬ i < 0 ∧ (c.toNat : Int) < 48) ∨ (¬ i < 0 ∧ ¬ (c.toNat : Int) < 48 ∧ 57 < (c.toNat : Int) ∧ (c.toNat : Int) < 65) := by
            have := HHO.out
            rw [hx] at this
            simp only [Bool.or_eq_true, Bool.and_eq_true, decide_eq_true_eq, u8lt] at this
            have e1 : (48 : UInt8).toNat = 48 := rfl
            have e2 : (57 : UInt8).toNat = 57 := rfl
            have e3 : (65 : UInt8).toNat = 65 := rfl
            rw [e1, e2, e3] at this
            omega
          clear hx
          rcases hcase with h1 | ⟨h1, h2⟩ | ⟨h1, h2, h3, h4⟩
          all_goals
            go_wp2_with (fail)
            refine (j_fail _ _ _ _).mono ?_
            rintro e w' ⟨rfl, rfl⟩
            refine leave_panic (P := Tryz.prog) (fn := Tryz.f121) rfl ?_
            rw [HB.out, HP.out]
            exact ⟨rfl, HK2.out⟩
        | some v =>
          have hcase : i = (v : Int) ∧ v < 16 ∧ ¬ (c.toNat : Int) < 48 ∧ ((¬ 57 < (c.toNat : Int)) ∨ (57 < (c.toNat : Int) ∧ ¬ (c.toNat : Int) < 65)) := by
            have := HHO.out
            rw [hx] at this
            simp only [Bool.not_eq_true', Bool.and_eq_true, Bool.and_eq_false_iff, decide_eq_true_eq, decide_eq_false_iff_not, u8lt] at this
            have e1 : (48 : UInt8).toNat = 48 := rfl
            have e2 : (57 : UInt8).toNat = 57 := rfl
            have e3 : (65 : UInt8).toNat = 65 := rfl
            rw [e1, e2, e3] at this
            omega
          have HB : Hid (fourN pl k (16 * y + v) r = RES) := Lib.hid (by rw [← HE.out]; simp [fourN, hx])
          obtain ⟨rfl, hv, h2, h3⟩ := hcase
          have hy : y ≤ 4095 := by
            have := HY.out
            have : 16 ^ (4 - (k + 1)) ≤ 16 ^ 3 := Nat.pow_le_pow_right (by decide) (by omega)
            omega
          have hv0 : ¬ (v : Int) < 0 := by omega
          have hy2 : 16 * y + v < 16 ^ (4 - k) := by
            have := HY.out
            have : 16 ^ (4 - k) = 16 * 16 ^ (4 - (k + 1)) := by rw [show 4 - k = (4 - (k + 1)) + 1 by omega, Nat.pow_succ, Nat.mul_comm]
            omega
          have HY2 := Lib.hid hy2
          have HM := Lib.hid (HR2.out.move (tailSuf HR2.out.suf) HN.out.symm)
          have hw1 : wrap64 ((p' : Int) + 1) = (p' : Int) + 1 := by have := HN.out; have := HR2.out.len; unfold wrap64; omega
          have hw2 : wrap32 (16 * (y : Int)) = 16 * (y : Int) := by unfold wrap32; omega
          have hw3 : wrap32 (16 * (y : Int) + (v : Int)) = 16 * (y : Int) + (v : Int) := by unfold wrap32; omega
          have hw4 : wrap32 (v : Int) = (v : Int) := by unfold wrap32; omega
          have HMS : Hid ((4 - (4 - ((k + 1 : Nat) : Int))).toNat = k + 1) := Lib.hid (by omega)
          have HV := Lib.hid hv
          have HYB := Lib.hid hy
          clear hx hy2 hv hy
          rcases h3 with h3 | ⟨h3, h4⟩
          all_goals
            go_wp2_with (fail)
            refine ⟨⟨k, 16 * y + v, r, by omega, congrArg _ (by omega), congrArg _ ?_, HB, HM, Lib.hid (HK2.out.trans' (keeps_set _ _ _ _)), HY2⟩, ?_⟩
            · have := HV.out; have := HYB.out; unfold wrap32; omega
            · simp only [intOf]; omega
end
end Go.Proofs.YthjcolehccbihaaGreatDoor
