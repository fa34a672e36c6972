/- The walk of the statement JsonMembers. -/
import Derived.Test.YthjcolehccbihaaGreatDoorNg
import Derived.Test.YthjcolehccbihaaGreatDoorNj
set_option linter.unusedSimpArgs false
set_option linter.unusedVariables false
namespace Go.Proofs.YthjcolehccbihaaGreatDoor
open Go.RowKit Go.Shelf

/-- The last place of a name, as far as was looked. -/
def LastTo (ns : List ByteArray) (s : ByteArray) (i : Nat) (a : Int) : Prop := (a = -1 ∧ ∀ m, m < i → ns[m]? ≠ some s) ∨ ∃ j : Nat, j < i ∧ a = (j : Int) ∧ ns[j]? = some s
theorem first_nodup {ns : List ByteArray} (h : ns.Nodup) {s : ByteArray} {i : Nat} (hi : ns[i]? = some s) : FirstAt ns s i := ⟨hi, fun m hm e => by
  have h1 := (List.getElem?_eq_some_iff.1 hi)
  have h2 := (List.getElem?_eq_some_iff.1 e)
  obtain ⟨a1, b1⟩ := h1
  obtain ⟨a2, b2⟩ := h2
  exact (List.pairwise_iff_getElem.1 h) m i a2 a1 hm (b2.trans b1.symm)⟩
section
variable {w : World}
/-- Get of a name that is there once. -/
theorem get_there {W : World} {l : List JV} {k : Int} {t : ByteArray} {ns : List ByteArray} {q : RawV} {A : Nat → Prop} (hf : (JV.mk k t l ns).Fit) (hs : Shape (.mk k t l ns)) (hq : JAt W A (.mk k t l ns) q) {i : Nat} {s : ByteArray} (hi : ns[i]? = some s) :
    ∃ x, l[i]? = some x ∧ Calls Tryz.prog 18 #[.agg #[.int .i64 q.k, .string q.t, .slice q.la q.ll q.lc, .slice q.na q.nl q.nc], .string s] W fun e w' => ∃ r : RawV, e = .returned (.tuple #[.agg #[.int .i64 r.k, .string r.t, .slice r.la r.ll r.lc, .slice r.na r.nl r.nc], .bool true]) ∧ Hid (JAt w' (fun g => W.heap.size ≤ g) x r ∧ Below W.heap.size W w') := by
  obtain ⟨h1, h2⟩ := hs
  have hk : k = 6 := Decidable.byContradiction fun h => by rw [h2 h] at hi; simp at hi
  obtain ⟨h3, h4⟩ := h1 hk
  have hil : i < l.length := by have := (List.getElem?_eq_some_iff.1 hi).1; omega
  obtain ⟨x, hx⟩ : ∃ x, l[i]? = some x := ⟨_, List.getElem?_eq_getElem hil⟩
  refine ⟨x, hx, (j_get hf hq s).mono ?_⟩
  rintro e w' (⟨rfl, hn⟩ | ⟨j, y, r, rfl, hg⟩)
  · have := hn.out.1 i (first_nodup h4 hi) hk
    omega
  · have := first_unique hg.out.2.1 (first_nodup h4 hi)
    subst this
    have e : some y = some x := hg.out.2.2.1.symm.trans hx
    cases e
    exact ⟨r, rfl, Lib.hid ⟨hg.out.2.2.2.1, hg.out.2.2.2.2⟩⟩
/-- Get, whatever comes of it. -/
theorem get_any {W : World} {l : List JV} {k : Int} {t : ByteArray} {ns : List ByteArray} {q : RawV} {A : Nat → Prop} (hf : (JV.mk k t l ns).Fit) (hq : JAt W A (.mk k t l ns) q) (s : ByteArray) :
    Calls Tryz.prog 18 #[.agg #[.int .i64 q.k, .string q.t, .slice q.la q.ll q.lc, .slice q.na q.nl q.nc], .string s] W fun e w' => ∃ (r : RawV) (is : Bool), e = .returned (.tuple #[.agg #[.int .i64 r.k, .string r.t, .slice r.la r.ll r.lc, .slice r.na r.nl r.nc], .bool is]) ∧
      Hid (Below W.heap.size W w' ∧ (is = false → ∀ j, FirstAt ns s j → k = 6 → l.length ≤ j) ∧ (is = true → k = 6 ∧ ∃ j x, FirstAt ns s j ∧ l[j]? = some x ∧ JAt w' (fun g => W.heap.size ≤ g) x r)) := by
  refine (j_get hf hq s).mono ?_
  rintro e w' (⟨rfl, hn⟩ | ⟨j, y, r, rfl, hg⟩)
  · exact ⟨raw0, false, rfl, Lib.hid ⟨hn.out.2, fun _ => hn.out.1, fun h => by cases h⟩⟩
  · exact ⟨r, true, rfl, Lib.hid ⟨hg.out.2.2.2.2, (fun h => by cases h), fun _ => ⟨hg.out.1, j, y, hg.out.2.1, hg.out.2.2.1, hg.out.2.2.2.1⟩⟩⟩
theorem LastTo.next {ns : List ByteArray} {s : ByteArray} {i : Nat} {a : Int} (h : LastTo ns s i a) (hn : ns[i]? ≠ some s) : LastTo ns s (i + 1) a := by
  rcases h with ⟨h1, h2⟩ | ⟨j, h1, h2, h3⟩
  · refine .inl ⟨h1, fun m hm => ?_⟩
    by_cases e : m = i
    · rw [e]; exact hn
    · exact h2 m (by omega)
  · exact .inr ⟨j, by omega, h2, h3⟩
/-- What Get and the going over tell together. -/
theorem last_get {k : Int} {t : ByteArray} {l : List JV} {ns : List ByteArray} {s : ByteArray} {at0 : Int} {is : Bool} {P : JV → Prop} (hs : Shape (.mk k t l ns)) (hl : LastTo ns s ns.length at0) (h0 : is = false → ∀ j, FirstAt ns s j → k = 6 → l.length ≤ j)
    (h1 : is = true → k = 6 ∧ ∃ j x, FirstAt ns s j ∧ l[j]? = some x ∧ P x) : (is = false ∧ at0 = -1) ∨ (is = true ∧ k = 6 ∧ ∃ (j : Nat) (x : JV), at0 = (j : Int) ∧ l[j]? = some x ∧ P x) := by
  obtain ⟨s1, s2⟩ := hs
  cases is with
  | false =>
    left
    refine ⟨rfl, ?_⟩
    rcases hl with ⟨e, -⟩ | ⟨j, hj, -, hn⟩
    · exact e
    · have hk : k = 6 := Decidable.byContradiction fun h => by rw [s2 h] at hn; simp at hn
      obtain ⟨s3, s4⟩ := s1 hk
      have := h0 rfl j (first_nodup s4 hn) hk
      omega
  | true =>
    right
    obtain ⟨hk, j, x, hf, hx, hp⟩ := h1 rfl
    obtain ⟨s3, s4⟩ := s1 hk
    refine ⟨rfl, hk, j, x, ?_, hx, hp⟩
    rcases hl with ⟨-, h2⟩ | ⟨j2, hj2, e, hn⟩
    · exact absurd hf.1 (h2 j (by have := (List.getElem?_eq_some_iff.1 hf.1).1; omega))
    · rw [e, first_unique (first_nodup s4 hn) hf]
theorem elem_cells {W : World} {A : Nat → Prop} {k : Int} {t : ByteArray} {l : List JV} {ns : List ByteArray} {q : RawV} (hq : JAt W A (.mk k t l ns) q) {j : Nat} {x : JV} (hx : l[j]? = some x) :
    ∃ (lg loff : Nat) (rj : RawV), q.la = some ⟨lg, loff, none⟩ ∧ JAt W A x rj ∧ ∀ W2, Below W.heap.size W W2 → (W2.cell? ⟨lg, loff + j * 4, none⟩ = some (.int .i64 rj.k) ∧ W2.cell? ⟨lg, loff + j * 4 + 1, none⟩ = some (.string rj.t) ∧ W2.cell? ⟨lg, loff + j * 4 + 2, none⟩ = some (.slice rj.la rj.ll rj.lc) ∧ W2.cell? ⟨lg, loff + j * 4 + 3, none⟩ = some (.slice rj.na rj.nl rj.nc)) := by
  simp only [JAt, RawV.lv] at hq
  obtain ⟨-, -, -, rs, ⟨h2, -⟩, h3⟩ := hq
  obtain ⟨rj, hr, hj⟩ := h3.get hx
  obtain ⟨lg, loff, e, -⟩ := raw_cells h2 hr
  refine ⟨lg, loff, rj, e, hj, fun W2 hb => ?_⟩
  rw [e] at h2
  exact raw_cells_at (h2.below hb) hr
set_option maxRecDepth 100000 in
set_option maxHeartbeats 16000000 in
theorem l_members {a : Option Addr} {cap : Nat} {bs : List UInt8} (hb : RdAt byteKind w (.slice a bs.length cap) bs) (hc : bs.length ≤ cap) (hc2 : cap ≤ 9223372036854775807) (s : ByteArray) (ht : Tabs w) :
    Calls Tryz.prog 5 #[.slice a bs.length cap, .string s] w fun e w' => e = .returned (.bool true) ∧ Below w.heap.size w w' := by
  have HT := Lib.hid ht
  clear ht
  by_cases hbig : 4000 < bs.length
  · have t0 : decide ((4000 : Int) < (bs.length : Int)) = true := by simp; omega
    clear hbig hb hc hc2
    go_enter Tryz.func5, Tryz.ntmps5
    go_wp2_with (fail)
    refine (x_first HT.out).mono ?_
    rintro e w1 ⟨rfl, hb1⟩
    have HB1 := Lib.hid hb1
    clear hb1
    go_wp2_with (fail)
    go_ret
    exact ⟨rfl, HB1.out⟩
  have t0 : decide ((4000 : Int) < (bs.length : Int)) = false := by simp; omega
  by_cases hbs : 4000 < s.size
  · have t1 : decide ((4000 : Int) < (s.size : Int)) = true := by simp; omega
    clear hbig hb hc hc2 hbs
    go_enter Tryz.func5, Tryz.ntmps5
    go_wp2_with (fail)
    refine (x_first HT.out).mono ?_
    rintro e w1 ⟨rfl, hb1⟩
    have HB1 := Lib.hid hb1
    clear hb1
    go_wp2_with (fail)
    go_ret
    exact ⟨rfl, HB1.out⟩
  have t1 : decide ((4000 : Int) < (s.size : Int)) = false := by simp; omega
  have hgd := parse_gd (b := bs) (N := 4000) (by omega)
  have HBY : Hid (BytesAt w (.slice a bs.length cap) bs) := Lib.hid ⟨hb, by omega, fun a' n' c' e => by injection e with _ _ e3; omega⟩
  clear hbig hb hc hc2 hbs
  obtain ⟨PV, hPV⟩ : ∃ z, z = parse bs := ⟨_, rfl⟩
  rw [← hPV] at hgd
  obtain ⟨v, n0, er0⟩ := PV
  have HP := Lib.hid hPV
  obtain ⟨k, t, l, ns⟩ := v
  have HF := Lib.hid (gd_fit (by omega) _ hgd.1)
  have HS := Lib.hid hgd.2
  clear hgd hPV
  go_enter Tryz.func5, Tryz.ntmps5
  go_wp2_with (fail)
  refine (x_first HT.out).mono ?_
  rintro e w1 ⟨rfl, hb1⟩
  have HB1 := Lib.hid hb1
  clear hb1
  go_wp2_with (fail)
  refine (parse_at (HBY.out.below HB1.out) (HT.out.below HB1.out)).mono ?_
  rw [← HP.out]
  rintro e w2 ⟨q, p0, er, rfl, HQ⟩
  have hj := HQ.out.1
  have hb2 := HQ.out.2.2.2
  obtain ⟨w3, hw3, HBX⟩ := jbox_new w2 q
  obtain ⟨xb, hxb⟩ : ∃ x, x = w2.heap.size := ⟨_, rfl⟩
  have HV3 : Hid (HasV w w3 xb q (.mk k t l ns)) := Lib.hid ⟨by rw [hxb]; exact HBX.out.2, (hj.below HBX.out.1).mono (fun g hg => by have := HB1.out.size; omega), (HB1.out.trans (hb2.mono HB1.out.size)).trans (HBX.out.1.mono (by have := HB1.out.size; have := hb2.size; omega))⟩
  have HW3 := Lib.hid hw3
  clear hj hb2 hw3 HBX
  go_upto_region 5 with (fail)
  rw [HW3.out, ← hxb]
  have HXB := Lib.hid hxb
  clear HW3 hxb t0 t1
  by_cases her : er = 0
  · subst her
    have HJ3 := Lib.hid HV3.out.val
    obtain ⟨⟨b0, b1, b2, b3⟩, -⟩ := jbox_cells HV3.out.box
    go_wp2_with (first | (go_at_call 11; refine (r_num _ _).mono ?_; rintro e w' ⟨rfl, rfl⟩))
    refine (get_any HF.out HV3.out.val s).mono ?_
    rintro e w4 ⟨r, is, rfl, HG⟩
    obtain ⟨w5, hw5, HBX5⟩ := jbox_new w4 r
    obtain ⟨yb, hyb⟩ : ∃ x, x = w4.heap.size := ⟨_, rfl⟩
    have HV5 : Hid (HasV w w5 xb q (.mk k t l ns)) := Lib.hid ((HV3.out.on HG.out.1).on HBX5.out.1)
    have HY5 : Hid (JBox w5 yb r) := Lib.hid (by rw [hyb]; exact HBX5.out.2)
    have HGG : Hid ((is = false → ∀ j, FirstAt ns s j → k = 6 → l.length ≤ j) ∧ (is = true → k = 6 ∧ ∃ j x, FirstAt ns s j ∧ l[j]? = some x ∧ JAt w5 (fun g => w.heap.size ≤ g) x r)) := Lib.hid ⟨HG.out.2.1, fun h => by
      obtain ⟨h1, j, x, h2, h3, h4⟩ := HG.out.2.2 h
      exact ⟨h1, j, x, h2, h3, (h4.below HBX5.out.1).mono (fun g hg => by have := HV3.out.below.size; omega)⟩⟩
    have HW5 := Lib.hid hw5
    clear hw5 b0 b1 b2 b3 HJ3
    go_upto_region 8 with (fail)
    rw [HW5.out, ← hyb]
    clear HW5 HBX5 HG hyb HQ
    obtain ⟨⟨b0, b1, b2, b3⟩, -⟩ := jbox_cells HV5.out.box
    have hnl : q.nl = ns.length ∧ q.ll = l.length ∧ RdAt textKind w5 (.slice q.na q.nl q.nc) ns := by
      have := HV5.out.val
      simp only [JAt, RawV.nv, RawV.lv] at this
      obtain ⟨-, -, ⟨h1, -⟩, rs, ⟨h2, -⟩, h3⟩ := this
      have h1' := h1
      obtain ⟨_, _, e, _⟩ := h1
      obtain ⟨_, _, e2, _⟩ := h2
      injection e with _ e _
      injection e2 with _ e2 _
      exact ⟨e, by rw [e2, h3.length], h1'⟩
    have HNM := Lib.hid hnl.2.2
    have hn1 := hnl.1
    have hl1 := hnl.2.1
    have hn0 : (ns.length : Int) ≤ 1000000 := by have := HF.out; simp only [JV.Fit] at this; omega
    have hqk : q.k = k := by have := HV5.out.val; simp only [JAt] at this; exact this.1
    clear hnl
    obtain ⟨qk, qt, la, ll, lc, na, nl, nc⟩ := q
    simp only at hn1 hl1 hqk b0 b1 b2 b3
    subst hn1 hl1 hqk
    go_upto_block 0 with (fail)
    go_cut [11, 12] from 45 to 59 (fun av _ wx => wx = w5 ∧ ∃ at0 : Int, av = .int .i64 at0 ∧ Hid (LastTo ns s ns.length at0))
    case first =>
      go_wp2_with (fail)
      go_loopw [11, 12] (fun av iv wr => ∃ (i : Nat) (at0 : Int), i ≤ ns.length ∧ iv = .int .i64 i ∧ av = .int .i64 at0 ∧ wr = w5 ∧ Hid (LastTo ns s i at0)) (fun _ iv _ => ns.length - (intOf iv).toNat)
      case atStart => exact ⟨0, -1, Nat.zero_le _, rfl, rfl, rfl, Lib.hid (.inl ⟨rfl, fun m h => by omega⟩)⟩
      case round =>
        obtain ⟨i, at0, hi, rfl, rfl, rfl, HA⟩ := hrel
        by_cases hlt : i < ns.length
        · have j1 : (0 : Int) ≤ (i : Int) := by omega
          have j2 : (i : Int) < (ns.length : Int) := by omega
          obtain ⟨x, hx⟩ : ∃ x, ns[i]? = some x := ⟨_, List.getElem?_eq_getElem hlt⟩
          obtain ⟨g, off, e1, c0⟩ := text_cell HNM.out hx
          subst e1
          have HX := Lib.hid hx
          clear hx
          by_cases he : x = s
          · subst he
            have HN : Hid (LastTo ns x (i + 1) (i : Int)) := Lib.hid (.inr ⟨i, by omega, rfl, HX.out⟩)
            go_wp2_with (fail)
            go_roundw
            case rel => exact ⟨i + 1, (i : Int), by omega, by go_num, rfl, by first | rfl | trivial, HN⟩
            case measure => simp [intOf]; omega
          · have hts : (x.toList == s.toList) = false := beq_eq_false_iff_ne.2 (fun e => he (str_inj e))
            have HN : Hid (LastTo ns s (i + 1) at0) := Lib.hid (HA.out.next (by rw [HX.out]; intro e; exact he (Option.some.inj e)))
            clear he
            go_wp2_with (fail)
            go_roundw
            case rel => exact ⟨i + 1, at0, by omega, by go_num, rfl, by first | rfl | trivial, HN⟩
            case measure => simp [intOf]; omega
        · have j2 : ¬ (i : Int) < (ns.length : Int) := by omega
          have hik : i = ns.length := by omega
          rw [hik] at HA
          go_wp2_with (fail)
          go_meet
          exact ⟨rfl, at0, rfl, HA⟩
    case rest =>
      obtain ⟨rfl, at0, rfl, HA⟩ := hcut
      have HLG := Lib.hid (last_get HS.out HA.out HGG.out.1 HGG.out.2)
      clear HA HGG
      go_upto_region 14 with (fail)
      go_cut [76] from 60 to 75 (fun cv wx => cv = .bool false ∧ Hid (HasV w wx xb ⟨qk, qt, la, l.length, lc, na, ns.length, nc⟩ (.mk qk t l ns)))
      case first =>
        rcases HLG.out with ⟨rfl, rfl⟩ | ⟨rfl, -, j, x, rfl, hx, hjx⟩
        · go_quiet (fail)
          go_wp2_with (fail)
          go_meet
          exact ⟨rfl, Lib.hid (HV5.out.on (below_drewN _ _ _))⟩
        · obtain ⟨lg, loff, rj, e1, hjj, hcell⟩ := elem_cells HV5.out.val hx
          simp only at e1
          subst e1
          have hjl : j < l.length := (List.getElem?_eq_some_iff.1 hx).1
          have j1 : (0 : Int) ≤ (j : Int) := by omega
          have j2 : (j : Int) < (l.length : Int) := by omega
          obtain ⟨V, hVV⟩ : ∃ V, V = wc.drew := ⟨_, rfl⟩
          have hV : Below wc.heap.size wc V := by rw [hVV]; exact (Below.refl _ _).drew
          replace hVV := hVV.symm
          have hfx : x.Fit := FitAll.mem (by have := HF.out; simp only [JV.Fit] at this; exact this.2.2.2.2) x (List.mem_of_getElem? hx)
          have hsm := j_same x x r rj V (fun g => w.heap.size ≤ g) (fun g => w.heap.size ≤ g) hfx (hjx.below hV) (hjj.below hV)
          rw [sameJ_refl] at hsm
          have HSM := Lib.hid hsm
          clear hsm hfx hjj hjx hx b0 b1 b2 b3 HLG
          have hT0 : (fun W : World => (W.cell? ⟨yb, 0, none⟩ = some (.int .i64 r.k) ∧ W.cell? ⟨yb, 1, none⟩ = some (.string r.t) ∧ W.cell? ⟨yb, 2, none⟩ = some (.slice r.la r.ll r.lc) ∧ W.cell? ⟨yb, 3, none⟩ = some (.slice r.na r.nl r.nc)) ∧ W.cell? ⟨xb, 2, none⟩ = some (.slice (some ⟨lg, loff, none⟩) l.length lc) ∧ (W.cell? ⟨lg, loff + j * 4, none⟩ = some (.int .i64 rj.k) ∧ W.cell? ⟨lg, loff + j * 4 + 1, none⟩ = some (.string rj.t) ∧ W.cell? ⟨lg, loff + j * 4 + 2, none⟩ = some (.slice rj.la rj.ll rj.lc) ∧ W.cell? ⟨lg, loff + j * 4 + 3, none⟩ = some (.slice rj.na rj.nl rj.nc))) V := ⟨(jbox_cells (jbox_below HY5.out hV)).1, (jbox_cells (jbox_below HV5.out.box hV)).1.2.2.1, hcell V hV⟩
          refine wp_region_B (T := fun W : World => (W.cell? ⟨yb, 0, none⟩ = some (.int .i64 r.k) ∧ W.cell? ⟨yb, 1, none⟩ = some (.string r.t) ∧ W.cell? ⟨yb, 2, none⟩ = some (.slice r.la r.ll r.lc) ∧ W.cell? ⟨yb, 3, none⟩ = some (.slice r.na r.nl r.nc)) ∧ W.cell? ⟨xb, 2, none⟩ = some (.slice (some ⟨lg, loff, none⟩) l.length lc) ∧ (W.cell? ⟨lg, loff + j * 4, none⟩ = some (.int .i64 rj.k) ∧ W.cell? ⟨lg, loff + j * 4 + 1, none⟩ = some (.string rj.t) ∧ W.cell? ⟨lg, loff + j * 4 + 2, none⟩ = some (.slice rj.la rj.ll rj.lc) ∧ W.cell? ⟨lg, loff + j * 4 + 3, none⟩ = some (.slice rj.na rj.nl rj.nc))) (B := fun _ => true) (by kernel_rfl) ?_
          rw [hVV]
          refine wpAnyB_take (i := 0) (v := ?av0) rfl (by kernel_rfl) (by kernel_rfl) (by kernel_rfl) (fun _ _ _ h => h) (Or.inl ⟨by kernel_rfl, ?ay0⟩) ?as0
          case ay0 => (intro w; go_simp) <;> with_reducible rfl
          try simp only [Act.put, List.setIfInBounds_toArray, List.set_cons_zero, List.set_cons_succ]
          refine wpAnyB_take (i := 1) (v := ?av1) rfl (by kernel_rfl) (by kernel_rfl) (by kernel_rfl) (fun _ _ _ h => h) (Or.inl ⟨by kernel_rfl, ?ay1⟩) ?as1
          case ay1 => (intro w; go_simp) <;> with_reducible rfl
          try simp only [Act.put, List.setIfInBounds_toArray, List.set_cons_zero, List.set_cons_succ]
          refine wpAnyB_take (i := 2) (v := ?av2) rfl (by kernel_rfl) (by kernel_rfl) (by kernel_rfl) (fun _ _ _ h => h) (Or.inl ⟨by kernel_rfl, ?ay2⟩) ?as2
          case ay2 => (intro w; go_simp) <;> with_reducible rfl
          try simp only [Act.put, List.setIfInBounds_toArray, List.set_cons_zero, List.set_cons_succ]
          refine wpAnyB_take (i := 3) (v := ?av3) rfl (by kernel_rfl) (by kernel_rfl) (by kernel_rfl) (fun _ _ _ h => h) (Or.inl ⟨by kernel_rfl, ?ay3⟩) ?as3
          case ay3 => (intro w; go_simp) <;> with_reducible rfl
          try simp only [Act.put, List.setIfInBounds_toArray, List.set_cons_zero, List.set_cons_succ]
          refine wpAnyB_take (i := 4) (v := ?av4) rfl (by kernel_rfl) (by kernel_rfl) (by kernel_rfl) (fun _ _ _ h => h) (Or.inl ⟨by kernel_rfl, ?ay4⟩) ?as4
          case ay4 => (intro w; go_simp) <;> with_reducible rfl
          try simp only [Act.put, List.setIfInBounds_toArray, List.set_cons_zero, List.set_cons_succ]
          refine wpAnyB_take (i := 5) (v := ?av5) rfl (by kernel_rfl) (by kernel_rfl) (by kernel_rfl) (fun _ _ _ h => h) (Or.inl ⟨by kernel_rfl, ?ay5⟩) ?as5
          case ay5 => (intro w; go_simp) <;> with_reducible rfl
          try simp only [Act.put, List.setIfInBounds_toArray, List.set_cons_zero, List.set_cons_succ]
          refine wpAnyB_take (i := 6) (v := ?av6) rfl (by kernel_rfl) (by kernel_rfl) (by kernel_rfl) (fun _ _ _ h => h) (Or.inl ⟨by kernel_rfl, ?ay6⟩) ?as6
          case ay6 => (intro w; go_simp) <;> with_reducible rfl
          try simp only [Act.put, List.setIfInBounds_toArray, List.set_cons_zero, List.set_cons_succ]
          refine wpAnyB_load (i := 7) (v := ?av7) rfl (by kernel_rfl) (by kernel_rfl) (by kernel_rfl) (by kernel_rfl) (fun _ _ _ h => h) (Or.inl ⟨by kernel_rfl, ?ay7⟩) (by assumption) ?as7
          case ay7 => (intro w hSw; obtain ⟨⟨s0, s1, s2, s3⟩, s4, ⟨s5, s6, s7, s8⟩⟩ := hSw; go_simp) <;> with_reducible rfl
          try simp only [Act.put, List.setIfInBounds_toArray, List.set_cons_zero, List.set_cons_succ]
          refine wpAnyB_take (i := 8) (v := ?av8) rfl (by kernel_rfl) (by kernel_rfl) (by kernel_rfl) (fun _ _ _ h => h) (Or.inl ⟨by kernel_rfl, ?ay8⟩) ?as8
          case ay8 => (intro w; go_simp) <;> with_reducible rfl
          try simp only [Act.put, List.setIfInBounds_toArray, List.set_cons_zero, List.set_cons_succ]
          refine wpAnyB_load (i := 9) (v := ?av9) rfl (by kernel_rfl) (by kernel_rfl) (by kernel_rfl) (by kernel_rfl) (fun _ _ _ h => h) (Or.inl ⟨by kernel_rfl, ?ay9⟩) (by assumption) ?as9
          case ay9 => (intro w hSw; obtain ⟨⟨s0, s1, s2, s3⟩, s4, ⟨s5, s6, s7, s8⟩⟩ := hSw; go_simp) <;> with_reducible rfl
          try simp only [Act.put, List.setIfInBounds_toArray, List.set_cons_zero, List.set_cons_succ]
          refine wpAnyB_take (i := 10) (v := ?av10) rfl (by kernel_rfl) (by kernel_rfl) (by kernel_rfl) (fun _ _ _ h => h) (Or.inl ⟨by kernel_rfl, ?ay10⟩) ?as10
          case ay10 => (intro w; go_simp) <;> with_reducible rfl
          try simp only [Act.put, List.setIfInBounds_toArray, List.set_cons_zero, List.set_cons_succ]
          refine wpAnyB_take (i := 11) (v := ?av11) rfl (by kernel_rfl) (by kernel_rfl) (by kernel_rfl) (fun _ _ _ h => h) (Or.inl ⟨by kernel_rfl, ?ay11⟩) ?as11
          case ay11 => (intro w; go_simp) <;> with_reducible rfl
          try simp only [Act.put, List.setIfInBounds_toArray, List.set_cons_zero, List.set_cons_succ]
          refine wpAnyB_load (i := 12) (v := ?av12) rfl (by kernel_rfl) (by kernel_rfl) (by kernel_rfl) (by kernel_rfl) (fun _ _ _ h => h) (Or.inl ⟨by kernel_rfl, ?ay12⟩) (by assumption) ?as12
          case ay12 => (intro w hSw; obtain ⟨⟨s0, s1, s2, s3⟩, s4, ⟨s5, s6, s7, s8⟩⟩ := hSw; go_simp) <;> with_reducible rfl
          try simp only [Act.put, List.setIfInBounds_toArray, List.set_cons_zero, List.set_cons_succ]
          clear hT0
          refine wpAnyB_ready (rs := [13]) (by kernel_rfl) (by simp) ?_
          refine AllReadyB.cons (o := { dst := some 73, op := Op.call { callee := Callee.value (Operand.func 13), args := #[Operand.tmp 67, Operand.tmp 72], argTypes := #[25, 25] }, type := 4, pos := "more.go:50", after := #[{ on := 7, ground := Ground.data }, { on := 12, ground := Ground.data }, { on := 6, ground := Ground.chain }, { on := 6, ground := Ground.guard }], guard := some (6, true) }) rfl (fun K hK => ?_) AllReadyB.nil
          go_simp
          go_at_call 13
          refine HSM.out.mono ?_
          rintro e V2 ⟨rfl, hb2⟩
          have hV2 : Below wc.heap.size wc V2 := hV.trans (hb2.mono hV.size)
          refine hK.out _ _ (fun _ _ => ⟨(jbox_cells (jbox_below HY5.out hV2)).1, (jbox_cells (jbox_below HV5.out.box hV2)).1.2.2.1, hcell V2 hV2⟩) ?_
          clear hK K
          try simp only [Act.put, List.setIfInBounds_toArray, List.set_cons_zero, List.set_cons_succ]
          refine wpAnyB_take (i := 14) (v := ?av14) rfl (by kernel_rfl) (by kernel_rfl) (by kernel_rfl) (fun _ _ _ h => h) (Or.inl ⟨by kernel_rfl, ?ay14⟩) ?as14
          case ay14 => (intro w; go_simp) <;> with_reducible rfl
          try simp only [Act.put, List.setIfInBounds_toArray, List.set_cons_zero, List.set_cons_succ]
          refine wpAnyB_take (i := 15) (v := ?av15) rfl (by kernel_rfl) (by kernel_rfl) (by kernel_rfl) (fun _ _ _ h => h) (Or.inl ⟨by kernel_rfl, ?ay15⟩) ?as15
          case ay15 => (intro w; go_simp) <;> with_reducible rfl
          try simp only [Act.put, List.setIfInBounds_toArray, List.set_cons_zero, List.set_cons_succ]
          refine wpAnyB_take (i := 16) (v := ?av16) rfl (by kernel_rfl) (by kernel_rfl) (by kernel_rfl) (fun _ _ _ h => h) (Or.inl ⟨by kernel_rfl, ?ay16⟩) ?as16
          case ay16 => (intro w; go_simp) <;> with_reducible rfl
          try simp only [Act.put, List.setIfInBounds_toArray, List.set_cons_zero, List.set_cons_succ]
          refine wpAnyB_done (by kernel_rfl) ?_ _
          go_wp2_with (fail)
          go_meet
          exact ⟨rfl, Lib.hid (HV5.out.on hV2)⟩
      case rest =>
        obtain ⟨rfl, HV6⟩ := hcut
        clear b0 b1 b2 b3 HV5 HY5
        go_wp2_with (fail)
        go_loopw [13, 14, 15] (fun iv _ _ wr => ∃ i : Nat, i ≤ ns.length ∧ iv = .int .i64 i ∧ Hid (HasV w wr xb ⟨qk, qt, la, l.length, lc, na, ns.length, nc⟩ (.mk qk t l ns))) (fun iv _ _ _ => ns.length - (intOf iv).toNat)
        case atStart => exact ⟨0, Nat.zero_le _, rfl, HV6⟩
        case round =>
          obtain ⟨i, hi, rfl, HV7⟩ := hrel
          obtain ⟨⟨b0, b1, b2, b3⟩, -⟩ := jbox_cells HV7.out.box
          by_cases hlt : i < ns.length
          · have j1 : (0 : Int) ≤ (i : Int) := by omega
            have j2 : (i : Int) < (ns.length : Int) := by omega
            obtain ⟨nm, hnm⟩ : ∃ z, ns[i]? = some z := ⟨_, List.getElem?_eq_getElem hlt⟩
            have hnv : RdAt textKind wr (.slice na ns.length nc) ns := by
              have := HV7.out.val
              simp only [JAt, RawV.nv] at this
              exact this.2.2.1.1
            obtain ⟨ng, noff, e1, -⟩ := text_cell hnv hnm
            subst e1
            have hname : ∀ W, Below wr.heap.size wr W → W.cell? ⟨ng, noff + i, none⟩ = some (.string nm) := fun W hW => by
              obtain ⟨g, o, e, c⟩ := text_cell (hnv.below hW) hnm
              cases e
              exact c
            obtain ⟨x, hx, -⟩ := get_there (W := wr) HF.out HS.out HV7.out.val hnm
            have HGET : Hid (∀ W, Below wr.heap.size wr W → Calls Tryz.prog 18 #[.agg #[.int .i64 qk, .string qt, .slice la l.length lc, .slice (some ⟨ng, noff, none⟩) ns.length nc], .string nm] W fun e w' => ∃ r : RawV, e = .returned (.tuple #[.agg #[.int .i64 r.k, .string r.t, .slice r.la r.ll r.lc, .slice r.na r.nl r.nc], .bool true]) ∧ Hid (JAt w' (fun g => W.heap.size ≤ g) x r ∧ Below W.heap.size W w')) := Lib.hid fun W hW => by
              obtain ⟨x2, hx2, hg⟩ := get_there (W := W) HF.out HS.out (HV7.out.on hW).val hnm
              rw [hx] at hx2
              cases hx2
              exact hg
            have HX := Lib.hid hx
            clear hx hnv hnm
            go_upto_region 19 with (fail)
            go_cut [14, 15] from 84 to 93 (fun p bv wx => ∃ c14 : Nat, p = .pointer (some ⟨c14, 0, none⟩) ∧ bv = .bool true ∧ Hid (HasV w wx xb ⟨qk, qt, la, l.length, lc, some ⟨ng, noff, none⟩, ns.length, nc⟩ (.mk qk t l ns) ∧ ∃ r : RawV, JBox wx c14 r ∧ JAt wx (fun g => w.heap.size ≤ g) x r))
            case first =>
              clear b0 b1 b2 b3
              obtain ⟨V, hVV⟩ : ∃ V, V = wr.drew := ⟨_, rfl⟩
              have hV : Below wr.heap.size wr V := by rw [hVV]; exact (Below.refl _ _).drew
              replace hVV := hVV.symm
              have hT0 : (fun W : World => (W.cell? ⟨xb, 0, none⟩ = some (.int .i64 qk) ∧ W.cell? ⟨xb, 1, none⟩ = some (.string qt) ∧ W.cell? ⟨xb, 2, none⟩ = some (.slice la l.length lc) ∧ W.cell? ⟨xb, 3, none⟩ = some (.slice (some ⟨ng, noff, none⟩) ns.length nc)) ∧ W.cell? ⟨ng, noff + i, none⟩ = some (.string nm)) V := (by have hh := HV7.out.on hV; exact ⟨(jbox_cells hh.box).1, hname _ hV⟩)
              refine wp_region_B (T := fun W : World => (W.cell? ⟨xb, 0, none⟩ = some (.int .i64 qk) ∧ W.cell? ⟨xb, 1, none⟩ = some (.string qt) ∧ W.cell? ⟨xb, 2, none⟩ = some (.slice la l.length lc) ∧ W.cell? ⟨xb, 3, none⟩ = some (.slice (some ⟨ng, noff, none⟩) ns.length nc)) ∧ W.cell? ⟨ng, noff + i, none⟩ = some (.string nm)) (B := fun _ => true) (by kernel_rfl) ?_
              rw [hVV]
              refine wpAnyB_load (i := 0) (v := ?bv0) rfl (by kernel_rfl) (by kernel_rfl) (by kernel_rfl) (by kernel_rfl) (fun _ _ _ h => h) (Or.inl ⟨by kernel_rfl, ?by0⟩) (by assumption) ?bs0
              case by0 => (intro w hSw; obtain ⟨⟨s0, s1, s2, s3⟩, s4⟩ := hSw; go_simp) <;> with_reducible rfl
              try simp only [Act.put, List.setIfInBounds_toArray, List.set_cons_zero, List.set_cons_succ]
              refine wpAnyB_take (i := 1) (v := ?bv1) rfl (by kernel_rfl) (by kernel_rfl) (by kernel_rfl) (fun _ _ _ h => h) (Or.inl ⟨by kernel_rfl, ?by1⟩) ?bs1
              case by1 => (intro w; go_simp) <;> with_reducible rfl
              try simp only [Act.put, List.setIfInBounds_toArray, List.set_cons_zero, List.set_cons_succ]
              refine wpAnyB_load (i := 2) (v := ?bv2) rfl (by kernel_rfl) (by kernel_rfl) (by kernel_rfl) (by kernel_rfl) (fun _ _ _ h => h) (Or.inl ⟨by kernel_rfl, ?by2⟩) (by assumption) ?bs2
              case by2 => (intro w hSw; obtain ⟨⟨s0, s1, s2, s3⟩, s4⟩ := hSw; go_simp) <;> with_reducible rfl
              try simp only [Act.put, List.setIfInBounds_toArray, List.set_cons_zero, List.set_cons_succ]
              refine wpAnyB_take (i := 3) (v := ?bv3) rfl (by kernel_rfl) (by kernel_rfl) (by kernel_rfl) (fun _ _ _ h => h) (Or.inl ⟨by kernel_rfl, ?by3⟩) ?bs3
              case by3 => (intro w; go_simp) <;> with_reducible rfl
              try simp only [Act.put, List.setIfInBounds_toArray, List.set_cons_zero, List.set_cons_succ]
              refine wpAnyB_take (i := 4) (v := ?bv4) rfl (by kernel_rfl) (by kernel_rfl) (by kernel_rfl) (fun _ _ _ h => h) (Or.inl ⟨by kernel_rfl, ?by4⟩) ?bs4
              case by4 => (intro w; go_simp) <;> with_reducible rfl
              try simp only [Act.put, List.setIfInBounds_toArray, List.set_cons_zero, List.set_cons_succ]
              refine wpAnyB_load (i := 5) (v := ?bv5) rfl (by kernel_rfl) (by kernel_rfl) (by kernel_rfl) (by kernel_rfl) (fun _ _ _ h => h) (Or.inl ⟨by kernel_rfl, ?by5⟩) (by assumption) ?bs5
              case by5 => (intro w hSw; obtain ⟨⟨s0, s1, s2, s3⟩, s4⟩ := hSw; go_simp) <;> with_reducible rfl
              try simp only [Act.put, List.setIfInBounds_toArray, List.set_cons_zero, List.set_cons_succ]
              clear hT0
              refine wpAnyB_ready (rs := [6, 10]) (by kernel_rfl) (by simp) ?_
              refine AllReadyB.cons (o := { dst := some 91, op := Op.call { callee := Callee.value (Operand.func 18), args := #[Operand.tmp 85, Operand.tmp 90], argTypes := #[25, 9] }, type := 45, pos := "more.go:54", after := #[{ on := 0, ground := Ground.data }, { on := 5, ground := Ground.data }], guard := none }) rfl (fun K hK => ?_) ?_
              · go_simp
                go_at_call 18
                refine (HGET.out V hV).mono ?_
                rintro e V2 ⟨r7, rfl, HR7⟩
                have hV2 : Below wr.heap.size wr V2 := hV.trans (HR7.out.2.mono hV.size)
                refine hK.out _ _ (fun _ _ => (by have hh := HV7.out.on hV2; exact ⟨(jbox_cells hh.box).1, hname _ hV2⟩)) ?_
                clear hK K
                try simp only [Act.put, List.setIfInBounds_toArray, List.set_cons_zero, List.set_cons_succ]
                refine wpAnyB_take (i := 7) (v := ?cv7) rfl (by kernel_rfl) (by kernel_rfl) (by kernel_rfl) (fun _ _ _ h => h) (Or.inl ⟨by kernel_rfl, ?cy7⟩) ?cs7
                case cy7 => (intro w; go_simp) <;> with_reducible rfl
                try simp only [Act.put, List.setIfInBounds_toArray, List.set_cons_zero, List.set_cons_succ]
                refine wpAnyB_take (i := 8) (v := ?cv8) rfl (by kernel_rfl) (by kernel_rfl) (by kernel_rfl) (fun _ _ _ h => h) (Or.inl ⟨by kernel_rfl, ?cy8⟩) ?cs8
                case cy8 => (intro w; go_simp) <;> with_reducible rfl
                try simp only [Act.put, List.setIfInBounds_toArray, List.set_cons_zero, List.set_cons_succ]
                refine wpAnyB_take (i := 9) (v := ?cv9) rfl (by kernel_rfl) (by kernel_rfl) (by kernel_rfl) (fun _ _ _ h => h) (Or.inl ⟨by kernel_rfl, ?cy9⟩) ?cs9
                case cy9 => (intro w; go_simp) <;> with_reducible rfl
                try simp only [Act.put, List.setIfInBounds_toArray, List.set_cons_zero, List.set_cons_succ]
                refine wpAnyB_ready (rs := [10]) (by kernel_rfl) (by simp) ?_
                refine AllReadyB.cons (o := { dst := some 14, op := Op.alloc 25, type := 0, pos := "more.go:54", after := #[], guard := none }) rfl (fun K hK => ?_) AllReadyB.nil
                go_simp
                obtain ⟨VA, hVA⟩ : ∃ z, z = V2.alloc (.cells #[.int .i64 0, .string ⟨#[]⟩, .slice none 0 0, .slice none 0 0] 25) := ⟨_, rfl⟩
                have hal : Below V2.heap.size V2 VA := by rw [hVA]; exact (Below.refl _ _).alloc (Nat.le_refl _) _
                have hV3 : Below wr.heap.size wr VA := hV2.trans (hal.mono hV2.size)
                have hJ : JBox VA V2.heap.size raw0 := by rw [hVA]; exact blk_new _ _
                have hblt : wr.heap.size ≤ V2.heap.size := hV2.size
                rw [← hVA]
                clear hVA
                refine hK.out _ _ (fun _ _ => (by have hh := HV7.out.on hV3; exact ⟨(jbox_cells hh.box).1, hname _ hV3⟩)) ?_
                clear hK K
                try simp only [Act.put, List.setIfInBounds_toArray, List.set_cons_zero, List.set_cons_succ]
                obtain ⟨⟨p0', p1', p2', p3'⟩, z0', z1', z2', z3'⟩ := jbox_cells hJ
                have hk4 := keeps4 VA V2.heap.size (.int .i64 r7.k) (.string r7.t) (.slice r7.la r7.ll r7.lc) (.slice r7.na r7.nl r7.nc)
                have hbf : Below wr.heap.size wr (putJ VA V2.heap.size r7) := below_keeps hV3 hk4 (fun z e => by have e : z = V2.heap.size := e; have := hblt; omega) hV3.size
                have HBF := Lib.hid hbf
                have HJF : Hid (JBox (putJ VA V2.heap.size r7) V2.heap.size r7 ∧ JAt (putJ VA V2.heap.size r7) (fun g => w.heap.size ≤ g) x r7) := Lib.hid ⟨jbox_set hJ r7, ((HR7.out.1.lt.below hal).keeps hk4 (fun g hg e => by have e : g = V2.heap.size := e; have := hg.2; omega)).mono (fun g hg => by have := hg.1; have := hV.size; have := HV7.out.below.size; omega)⟩
                refine wpAnyB_ready (rs := [11]) (by kernel_rfl) (by simp) ?_
                refine AllReadyB.cons rfl (fun K hK => ?_) AllReadyB.nil
                go_simp
                refine hK.out _ _ (fun _ _ => (by have hh := HV7.out.on HBF.out; exact ⟨(jbox_cells hh.box).1, hname _ HBF.out⟩)) ?_
                clear hK K
                try simp only [Act.put, List.setIfInBounds_toArray, List.set_cons_zero, List.set_cons_succ]
                refine wpAnyB_take (i := 12) (oi := { dst := some 15, op := Op.assign (Operand.tmp 93), type := 4, pos := "more.go:54", after := #[{ on := 9, ground := Ground.data }, { on := 11, ground := Ground.chain }, { on := 0, ground := Ground.phase }, { on := 1, ground := Ground.phase }, { on := 2, ground := Ground.phase }, { on := 3, ground := Ground.phase }, { on := 4, ground := Ground.phase }, { on := 5, ground := Ground.phase }, { on := 6, ground := Ground.phase }, { on := 7, ground := Ground.phase }, { on := 8, ground := Ground.phase }, { on := 9, ground := Ground.phase }, { on := 10, ground := Ground.phase }, { on := 11, ground := Ground.phase }], guard := none }) (v := ?cv12) rfl (by kernel_rfl) (by kernel_rfl) (by kernel_rfl) (fun _ _ _ h => h) (Or.inl ⟨by kernel_rfl, ?cy12⟩) ?cs12
                case cy12 => (intro w; go_simp) <;> with_reducible rfl
                try simp only [Act.put, List.setIfInBounds_toArray, List.set_cons_zero, List.set_cons_succ]
                refine wpAnyB_done (by kernel_rfl) ?_ _
                go_wp2_with (fail)
                go_meet
                exact ⟨_, rfl, rfl, Lib.hid ⟨HV7.out.on HBF.out, r7, HJF.out⟩⟩
              · refine AllReadyB.cons (o := { dst := some 14, op := Op.alloc 25, type := 0, pos := "more.go:54", after := #[], guard := none }) rfl (fun K hK => ?_) AllReadyB.nil
                go_simp
                obtain ⟨VA, hVA⟩ : ∃ z, z = V.alloc (.cells #[.int .i64 0, .string ⟨#[]⟩, .slice none 0 0, .slice none 0 0] 25) := ⟨_, rfl⟩
                have hal : Below V.heap.size V VA := by rw [hVA]; exact (Below.refl _ _).alloc (Nat.le_refl _) _
                have hVa : Below wr.heap.size wr VA := hV.trans (hal.mono hV.size)
                have hJ0 : JBox VA V.heap.size raw0 := by rw [hVA]; exact blk_new _ _
                have hblt : wr.heap.size ≤ V.heap.size := hV.size
                have hlt7 : V.heap.size < VA.heap.size := lt_of_block hJ0
                rw [← hVA]
                clear hVA
                refine hK.out _ _ (fun _ _ => (by have hh := HV7.out.on hVa; exact ⟨(jbox_cells hh.box).1, hname _ hVa⟩)) ?_
                clear hK K
                try simp only [Act.put, List.setIfInBounds_toArray, List.set_cons_zero, List.set_cons_succ]
                refine wpAnyB_ready (rs := [6]) (by kernel_rfl) (by simp) ?_
                refine AllReadyB.cons (o := { dst := some 91, op := Op.call { callee := Callee.value (Operand.func 18), args := #[Operand.tmp 85, Operand.tmp 90], argTypes := #[25, 9] }, type := 45, pos := "more.go:54", after := #[{ on := 0, ground := Ground.data }, { on := 5, ground := Ground.data }], guard := none }) rfl (fun K hK => ?_) AllReadyB.nil
                go_simp
                go_at_call 18
                refine (HGET.out VA hVa).mono ?_
                rintro e V2 ⟨r7, rfl, HR7⟩
                have hV2 : Below wr.heap.size wr V2 := hVa.trans (HR7.out.2.mono hVa.size)
                have hJ := jbox_below hJ0 HR7.out.2
                refine hK.out _ _ (fun _ _ => (by have hh := HV7.out.on hV2; exact ⟨(jbox_cells hh.box).1, hname _ hV2⟩)) ?_
                clear hK K
                try simp only [Act.put, List.setIfInBounds_toArray, List.set_cons_zero, List.set_cons_succ]
                refine wpAnyB_take (i := 7) (v := ?dv7) rfl (by kernel_rfl) (by kernel_rfl) (by kernel_rfl) (fun _ _ _ h => h) (Or.inl ⟨by kernel_rfl, ?dy7⟩) ?ds7
                case dy7 => (intro w; go_simp) <;> with_reducible rfl
                try simp only [Act.put, List.setIfInBounds_toArray, List.set_cons_zero, List.set_cons_succ]
                refine wpAnyB_take (i := 8) (v := ?dv8) rfl (by kernel_rfl) (by kernel_rfl) (by kernel_rfl) (fun _ _ _ h => h) (Or.inl ⟨by kernel_rfl, ?dy8⟩) ?ds8
                case dy8 => (intro w; go_simp) <;> with_reducible rfl
                try simp only [Act.put, List.setIfInBounds_toArray, List.set_cons_zero, List.set_cons_succ]
                refine wpAnyB_take (i := 9) (v := ?dv9) rfl (by kernel_rfl) (by kernel_rfl) (by kernel_rfl) (fun _ _ _ h => h) (Or.inl ⟨by kernel_rfl, ?dy9⟩) ?ds9
                case dy9 => (intro w; go_simp) <;> with_reducible rfl
                try simp only [Act.put, List.setIfInBounds_toArray, List.set_cons_zero, List.set_cons_succ]
                obtain ⟨⟨p0', p1', p2', p3'⟩, z0', z1', z2', z3'⟩ := jbox_cells hJ
                have hk4 := keeps4 V2 V.heap.size (.int .i64 r7.k) (.string r7.t) (.slice r7.la r7.ll r7.lc) (.slice r7.na r7.nl r7.nc)
                have hbf : Below wr.heap.size wr (putJ V2 V.heap.size r7) := below_keeps hV2 hk4 (fun z e => by have e : z = V.heap.size := e; have := hblt; omega) hV2.size
                have HBF := Lib.hid hbf
                have HJF : Hid (JBox (putJ V2 V.heap.size r7) V.heap.size r7 ∧ JAt (putJ V2 V.heap.size r7) (fun g => w.heap.size ≤ g) x r7) := Lib.hid ⟨jbox_set hJ r7, (HR7.out.1.keeps hk4 (fun g hg e => by have e : g = V.heap.size := e; omega)).mono (fun g hg => by have := hVa.size; have := HV7.out.below.size; omega)⟩
                refine wpAnyB_ready (rs := [11]) (by kernel_rfl) (by simp) ?_
                refine AllReadyB.cons rfl (fun K hK => ?_) AllReadyB.nil
                go_simp
                refine hK.out _ _ (fun _ _ => (by have hh := HV7.out.on HBF.out; exact ⟨(jbox_cells hh.box).1, hname _ HBF.out⟩)) ?_
                clear hK K
                try simp only [Act.put, List.setIfInBounds_toArray, List.set_cons_zero, List.set_cons_succ]
                refine wpAnyB_take (i := 12) (oi := { dst := some 15, op := Op.assign (Operand.tmp 93), type := 4, pos := "more.go:54", after := #[{ on := 9, ground := Ground.data }, { on := 11, ground := Ground.chain }, { on := 0, ground := Ground.phase }, { on := 1, ground := Ground.phase }, { on := 2, ground := Ground.phase }, { on := 3, ground := Ground.phase }, { on := 4, ground := Ground.phase }, { on := 5, ground := Ground.phase }, { on := 6, ground := Ground.phase }, { on := 7, ground := Ground.phase }, { on := 8, ground := Ground.phase }, { on := 9, ground := Ground.phase }, { on := 10, ground := Ground.phase }, { on := 11, ground := Ground.phase }], guard := none }) (v := ?dv12) rfl (by kernel_rfl) (by kernel_rfl) (by kernel_rfl) (fun _ _ _ h => h) (Or.inl ⟨by kernel_rfl, ?dy12⟩) ?ds12
                case dy12 => (intro w; go_simp) <;> with_reducible rfl
                try simp only [Act.put, List.setIfInBounds_toArray, List.set_cons_zero, List.set_cons_succ]
                refine wpAnyB_done (by kernel_rfl) ?_ _
                go_wp2_with (fail)
                go_meet
                exact ⟨_, rfl, rfl, Lib.hid ⟨HV7.out.on HBF.out, r7, HJF.out⟩⟩
            case rest =>
              obtain ⟨c14, rfl, rfl, HQ8⟩ := hcut
              obtain ⟨hv8, r7, hb7, hjx⟩ := HQ8.out
              clear b0 b1 b2 b3 HV6 HV7 HGET hname
              obtain ⟨lg, loff, ri, e1, hji, hcell⟩ := elem_cells hv8.val HX.out
              simp only at e1
              subst e1
              have hil : i < l.length := (List.getElem?_eq_some_iff.1 HX.out).1
              have j3 : (i : Int) < (l.length : Int) := by omega
              have HV8 := Lib.hid hv8
              have HB7 := Lib.hid hb7
              obtain ⟨V, hVV⟩ : ∃ V, V = wc.drew := ⟨_, rfl⟩
              have hV : Below wc.heap.size wc V := by rw [hVV]; exact (Below.refl _ _).drew
              replace hVV := hVV.symm
              have hfx : x.Fit := FitAll.mem (by have := HF.out; simp only [JV.Fit] at this; exact this.2.2.2.2) x (List.mem_of_getElem? HX.out)
              have hsm := j_same x x r7 ri V (fun g => w.heap.size ≤ g) (fun g => w.heap.size ≤ g) hfx (hjx.below hV) (hji.below hV)
              rw [sameJ_refl] at hsm
              have HSM := Lib.hid hsm
              clear hsm hfx hji hjx hv8 hb7 hil HQ8
              go_upto_region 20 with (fail)
              have hT0 : (fun W : World => (W.cell? ⟨c14, 0, none⟩ = some (.int .i64 r7.k) ∧ W.cell? ⟨c14, 1, none⟩ = some (.string r7.t) ∧ W.cell? ⟨c14, 2, none⟩ = some (.slice r7.la r7.ll r7.lc) ∧ W.cell? ⟨c14, 3, none⟩ = some (.slice r7.na r7.nl r7.nc)) ∧ W.cell? ⟨xb, 2, none⟩ = some (.slice (some ⟨lg, loff, none⟩) l.length lc) ∧ (W.cell? ⟨lg, loff + i * 4, none⟩ = some (.int .i64 ri.k) ∧ W.cell? ⟨lg, loff + i * 4 + 1, none⟩ = some (.string ri.t) ∧ W.cell? ⟨lg, loff + i * 4 + 2, none⟩ = some (.slice ri.la ri.ll ri.lc) ∧ W.cell? ⟨lg, loff + i * 4 + 3, none⟩ = some (.slice ri.na ri.nl ri.nc))) V := ⟨(jbox_cells (jbox_below HB7.out hV)).1, (jbox_cells (HV8.out.on hV).box).1.2.2.1, hcell V hV⟩
              refine wp_region_B (T := fun W : World => (W.cell? ⟨c14, 0, none⟩ = some (.int .i64 r7.k) ∧ W.cell? ⟨c14, 1, none⟩ = some (.string r7.t) ∧ W.cell? ⟨c14, 2, none⟩ = some (.slice r7.la r7.ll r7.lc) ∧ W.cell? ⟨c14, 3, none⟩ = some (.slice r7.na r7.nl r7.nc)) ∧ W.cell? ⟨xb, 2, none⟩ = some (.slice (some ⟨lg, loff, none⟩) l.length lc) ∧ (W.cell? ⟨lg, loff + i * 4, none⟩ = some (.int .i64 ri.k) ∧ W.cell? ⟨lg, loff + i * 4 + 1, none⟩ = some (.string ri.t) ∧ W.cell? ⟨lg, loff + i * 4 + 2, none⟩ = some (.slice ri.la ri.ll ri.lc) ∧ W.cell? ⟨lg, loff + i * 4 + 3, none⟩ = some (.slice ri.na ri.nl ri.nc))) (B := fun _ => true) (by kernel_rfl) ?_
              rw [hVV]
              refine wpAnyB_take (i := 0) (v := ?ev0) rfl (by kernel_rfl) (by kernel_rfl) (by kernel_rfl) (fun _ _ _ h => h) (Or.inl ⟨by kernel_rfl, ?ey0⟩) ?es0
              case ey0 => (intro w; go_simp) <;> with_reducible rfl
              try simp only [Act.put, List.setIfInBounds_toArray, List.set_cons_zero, List.set_cons_succ]
              refine wpAnyB_take (i := 1) (v := ?ev1) rfl (by kernel_rfl) (by kernel_rfl) (by kernel_rfl) (fun _ _ _ h => h) (Or.inl ⟨by kernel_rfl, ?ey1⟩) ?es1
              case ey1 => (intro w; go_simp) <;> with_reducible rfl
              try simp only [Act.put, List.setIfInBounds_toArray, List.set_cons_zero, List.set_cons_succ]
              refine wpAnyB_take (i := 2) (v := ?ev2) rfl (by kernel_rfl) (by kernel_rfl) (by kernel_rfl) (fun _ _ _ h => h) (Or.inl ⟨by kernel_rfl, ?ey2⟩) ?es2
              case ey2 => (intro w; go_simp) <;> with_reducible rfl
              try simp only [Act.put, List.setIfInBounds_toArray, List.set_cons_zero, List.set_cons_succ]
              refine wpAnyB_load (i := 3) (v := ?ev3) rfl (by kernel_rfl) (by kernel_rfl) (by kernel_rfl) (by kernel_rfl) (fun _ _ _ h => h) (Or.inl ⟨by kernel_rfl, ?ey3⟩) (by assumption) ?es3
              case ey3 => (intro w hSw; obtain ⟨⟨s0, s1, s2, s3⟩, s4, ⟨s5, s6, s7, s8⟩⟩ := hSw; go_simp) <;> with_reducible rfl
              try simp only [Act.put, List.setIfInBounds_toArray, List.set_cons_zero, List.set_cons_succ]
              refine wpAnyB_take (i := 4) (v := ?ev4) rfl (by kernel_rfl) (by kernel_rfl) (by kernel_rfl) (fun _ _ _ h => h) (Or.inl ⟨by kernel_rfl, ?ey4⟩) ?es4
              case ey4 => (intro w; go_simp) <;> with_reducible rfl
              try simp only [Act.put, List.setIfInBounds_toArray, List.set_cons_zero, List.set_cons_succ]
              refine wpAnyB_load (i := 5) (v := ?ev5) rfl (by kernel_rfl) (by kernel_rfl) (by kernel_rfl) (by kernel_rfl) (fun _ _ _ h => h) (Or.inl ⟨by kernel_rfl, ?ey5⟩) (by assumption) ?es5
              case ey5 => (intro w hSw; obtain ⟨⟨s0, s1, s2, s3⟩, s4, ⟨s5, s6, s7, s8⟩⟩ := hSw; go_simp) <;> with_reducible rfl
              try simp only [Act.put, List.setIfInBounds_toArray, List.set_cons_zero, List.set_cons_succ]
              refine wpAnyB_take (i := 6) (v := ?ev6) rfl (by kernel_rfl) (by kernel_rfl) (by kernel_rfl) (fun _ _ _ h => h) (Or.inl ⟨by kernel_rfl, ?ey6⟩) ?es6
              case ey6 => (intro w; go_simp) <;> with_reducible rfl
              try simp only [Act.put, List.setIfInBounds_toArray, List.set_cons_zero, List.set_cons_succ]
              refine wpAnyB_take (i := 7) (v := ?ev7) rfl (by kernel_rfl) (by kernel_rfl) (by kernel_rfl) (fun _ _ _ h => h) (Or.inl ⟨by kernel_rfl, ?ey7⟩) ?es7
              case ey7 => (intro w; go_simp) <;> with_reducible rfl
              try simp only [Act.put, List.setIfInBounds_toArray, List.set_cons_zero, List.set_cons_succ]
              refine wpAnyB_load (i := 8) (v := ?ev8) rfl (by kernel_rfl) (by kernel_rfl) (by kernel_rfl) (by kernel_rfl) (fun _ _ _ h => h) (Or.inl ⟨by kernel_rfl, ?ey8⟩) (by assumption) ?es8
              case ey8 => (intro w hSw; obtain ⟨⟨s0, s1, s2, s3⟩, s4, ⟨s5, s6, s7, s8⟩⟩ := hSw; go_simp) <;> with_reducible rfl
              try simp only [Act.put, List.setIfInBounds_toArray, List.set_cons_zero, List.set_cons_succ]
              clear hT0
              refine wpAnyB_ready (rs := [9]) (by kernel_rfl) (by simp) ?_
              refine AllReadyB.cons (o := { dst := some 103, op := Op.call { callee := Callee.value (Operand.func 13), args := #[Operand.tmp 97, Operand.tmp 102], argTypes := #[25, 25] }, type := 4, pos := "more.go:55", after := #[{ on := 3, ground := Ground.data }, { on := 8, ground := Ground.data }, { on := 2, ground := Ground.chain }, { on := 2, ground := Ground.guard }], guard := some (2, false) }) rfl (fun K hK => ?_) AllReadyB.nil
              go_simp
              go_at_call 13
              refine HSM.out.mono ?_
              rintro e V2 ⟨rfl, hb2⟩
              have hV2 : Below wc.heap.size wc V2 := hV.trans (hb2.mono hV.size)
              refine hK.out _ _ (fun _ _ => ⟨(jbox_cells (jbox_below HB7.out hV2)).1, (jbox_cells (HV8.out.on hV2).box).1.2.2.1, hcell V2 hV2⟩) ?_
              clear hK K
              try simp only [Act.put, List.setIfInBounds_toArray, List.set_cons_zero, List.set_cons_succ]
              refine wpAnyB_take (i := 10) (v := ?ev10) rfl (by kernel_rfl) (by kernel_rfl) (by kernel_rfl) (fun _ _ _ h => h) (Or.inl ⟨by kernel_rfl, ?ey10⟩) ?es10
              case ey10 => (intro w; go_simp) <;> with_reducible rfl
              try simp only [Act.put, List.setIfInBounds_toArray, List.set_cons_zero, List.set_cons_succ]
              refine wpAnyB_take (i := 11) (v := ?ev11) rfl (by kernel_rfl) (by kernel_rfl) (by kernel_rfl) (fun _ _ _ h => h) (Or.inl ⟨by kernel_rfl, ?ey11⟩) ?es11
              case ey11 => (intro w; go_simp) <;> with_reducible rfl
              try simp only [Act.put, List.setIfInBounds_toArray, List.set_cons_zero, List.set_cons_succ]
              refine wpAnyB_done (by kernel_rfl) ?_ _
              have HV9 := Lib.hid (HV8.out.on hV2)
              clear hV hV2 hb2 hVV hcell
              go_wp2_with (fail)
              go_roundw
              case rel => exact ⟨i + 1, by omega, by go_num, HV9⟩
              case measure => simp [intOf]; omega
          · have j2 : ¬ (i : Int) < (ns.length : Int) := by omega
            have j3 : decide ((i : Int) < (ns.length : Int)) = false := by simp; omega
            rcases HLG.out with ⟨rfl, -⟩ | ⟨rfl, hk6, -⟩
            · by_cases hq6 : qk = 6
              · have d6 : decide (qk = 6) = true := by simp [hq6]
                have e6 : (qk == 6) = true := by simp [hq6]
                clear hq6
                go_wp2_with (fail)
                go_ret
                exact ⟨rfl, HV7.out.below⟩
              · have d6 : decide (qk = 6) = false := by simp [hq6]
                have e6 : (qk == 6) = false := by simp [hq6]
                clear hq6
                go_wp2_with (fail)
                go_ret
                exact ⟨rfl, HV7.out.below⟩
            · have d6 : decide (qk = 6) = true := by simp [hk6]
              have e6 : (qk == 6) = true := by simp [hk6]
              clear hk6
              go_wp2_with (fail)
              go_ret
              exact ⟨rfl, HV7.out.below⟩
  · have n0 : ((er : Int) != 0) = true := by simp [her]
    clear her
    go_wp2_with (first | (go_at_call 11; refine (r_num _ _).mono ?_; rintro e w' ⟨rfl, rfl⟩))
    go_ret
    exact ⟨rfl, HV3.out.below⟩
end
end Go.Proofs.YthjcolehccbihaaGreatDoor
