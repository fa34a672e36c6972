/- The walk of a JSON reader's value: words, what begins with no bracket, whatever depth. -/
import Derived.Test.YthjcolehccbihaaGreatDoorz16
namespace Go.Proofs.YthjcolehccbihaaGreatDoor
open Go.RowKit Go.Shelf
theorem j_words (w : World) : Calls Tryz.prog 68 #[] w fun e w' => e = .returned (.slice (some ⟨w.heap.size, 0, none⟩) 3 3) ∧ w.alloc (.cells #[.string ⟨#[110, 117, 108, 108]⟩, .string ⟨#[102, 97, 108, 115, 101]⟩, .string ⟨#[116, 114, 117, 101]⟩] 9) = w' := by
  go_enter Tryz.func68, Tryz.ntmps68
  go_wp2_with (fail)
  go_ret
  exact ⟨rfl, rfl⟩
section
variable {w : World} {rb : Nat} {bv : Value} {bs l : List UInt8}
theorem musts_cases (c : UInt8) (w l : List UInt8) : (∃ r, musts [c] l = .ok () r ∧ musts (c :: w) l = musts w r) ∨ ∃ p er, musts [c] l = .bad p er ∧ musts (c :: w) l = .bad p er := by
  cases l with
  | nil => exact .inr ⟨0, 11, rfl, rfl⟩
  | cons d l =>
    by_cases hd : d = c
    · exact .inl ⟨l, by simp [musts, hd], by simp [musts, hd]⟩
    · exact .inr ⟨l.length + 1, 11, by simp [musts, hd], by simp [musts, hd]⟩
/-- A value that is a word. -/
def wordly : List UInt8 → Out JV
  | [] => .bad 0 11
  | c :: l => if c = 110 then (musts wNull (c :: l)).andThen fun _ r => .ok (.mk 0 ByteArray.empty [] []) r
    else if c = 102 then (musts wFalse (c :: l)).andThen fun _ r => .ok (.mk 1 ByteArray.empty [] []) r
    else if c = 116 then (musts wTrue (c :: l)).andThen fun _ r => .ok (.mk 2 ByteArray.empty [] []) r
    else .bad (l.length + 1) 11
/-- The byte that comes next, 0 at the end. -/
def hereOf : List UInt8 → Int
  | [] => 0
  | c :: _ => (c.toNat : Int)
/-- The result is laid into its cell, and handed back. -/
theorem jfinish {wx : World} {q : RawV} {v : JV} {r : List UInt8} (hbox : JBox wx w.heap.size raw0) (hr : Rdr wx rb bv bs r) (hk : Keeps (Only rb) w wx) (hq : JAt wx (fun g => w.heap.size < g) v q) (hrb : rb < w.heap.size) (hg : ∀ g, bv.ownBlock = some g → bs ≠ [] → g < w.heap.size) :
    JBox ((((wx.setCell ⟨w.heap.size, 0, none⟩ (.int .i64 q.k)).setCell ⟨w.heap.size, 1, none⟩ (.string q.t)).setCell ⟨w.heap.size, 2, none⟩ (.slice q.la q.ll q.lc)).setCell ⟨w.heap.size, 3, none⟩ (.slice q.na q.nl q.nc)) w.heap.size q ∧
    ROut rb bv bs w (VJ w.heap.size) (.ok v r) (.returned q.val) ((((wx.setCell ⟨w.heap.size, 0, none⟩ (.int .i64 q.k)).setCell ⟨w.heap.size, 1, none⟩ (.string q.t)).setCell ⟨w.heap.size, 2, none⟩ (.slice q.la q.ll q.lc)).setCell ⟨w.heap.size, 3, none⟩ (.slice q.na q.nl q.nc)) := by
  have hk9 := keeps4 wx w.heap.size (.int .i64 q.k) (.string q.t) (.slice q.la q.ll q.lc) (.slice q.na q.nl q.nc)
  exact ⟨jbox_set hbox q, ⟨_, rfl, q, rfl, (hq.keeps hk9 (fun g hg e => by have e : g = w.heap.size := e; omega)).mono (fun g hg => by omega)⟩, hr.above (w := w) hk9 (Nat.le_refl _) hrb hg (fun k e => by have e : k = w.heap.size := e; omega), jbox_keep4 hk (Nat.le_refl _) _ _ _ _⟩
/-- A value's walk, between its regions: the result's cell, the reader. -/
structure ValI (w wx : World) (rb : Nat) (bv : Value) (bs l : List UInt8) : Prop where
  rdr : Rdr wx rb bv bs l
  keep : Keeps (Only rb) w wx
  res : JBox wx w.heap.size raw0
  rlt : rb < w.heap.size
  glt : ∀ g, bv.ownBlock = some g → bs ≠ [] → g < w.heap.size
theorem ValI.step {wx wy : World} {r : List UInt8} (h : ValI w wx rb bv bs l) (h2 : Rdr wy rb bv bs r) (hk : Keeps (Only rb) wx wy) : ValI w wy rb bv bs r :=
  ⟨h2, h.keep.trans' hk, jbox_keeps h.res hk (fun e => by have e : w.heap.size = rb := e; have := h.rlt; omega), h.rlt, h.glt⟩
theorem ValI.below {wx wy : World} (h : ValI w wx rb bv bs l) (hb : Below wx.heap.size wx wy) : ValI w wy rb bv bs l := h.step (h.rdr.below hb) ((Keeps.of_below hb).mono fun _ _ h => h.elim)
theorem ValI.size {wx : World} (h : ValI w wx rb bv bs l) : w.heap.size < wx.heap.size := lt_of_block h.res
/-- What is handed back is laid at bx. -/
abbrev putJ (wx : World) (bx : Nat) (q : RawV) : World := (((wx.setCell ⟨bx, 0, none⟩ (.int .i64 q.k)).setCell ⟨bx, 1, none⟩ (.string q.t)).setCell ⟨bx, 2, none⟩ (.slice q.la q.ll q.lc)).setCell ⟨bx, 3, none⟩ (.slice q.na q.nl q.nc)
theorem ValI.fin {wx : World} {q : RawV} {v : JV} (h : ValI w wx rb bv bs l) (hq : JAt wx (fun g => w.heap.size < g) v q) :
    JBox (putJ wx w.heap.size q) w.heap.size q ∧ ROut rb bv bs w (VJ w.heap.size) (.ok v l) (.returned q.val) (putJ wx w.heap.size q) := jfinish h.res h.rdr h.keep hq h.rlt h.glt
set_option maxRecDepth 100000 in
set_option maxHeartbeats 8000000 in
theorem j_scalar (dep : Int) (h : Rdr w rb bv bs l) (hno : ∀ c r, l = c :: r → c ≠ 123 ∧ c ≠ 91) :
    Calls Tryz.prog 39 #[.pointer (some ⟨rb, 0, none⟩), .int .i64 dep] w (ROut rb bv bs w (VJ w.heap.size) (scalar l)) := by
  obtain ⟨w1, hw1, HBX⟩ := jbox_zero w
  have HI1 : Hid (ValI w w1 rb bv bs l) := Lib.hid ⟨h.below HBX.out.1, (Keeps.refl _ _).below HBX.out.1, HBX.out.2, h.lt, h.glt⟩
  have HW1 := Lib.hid hw1
  clear hw1 h HBX
  obtain ⟨cv, n1, HH, HCV⟩ : ∃ (cv : Int) (w2 : World), Hid (Calls Tryz.prog 70 #[.pointer (some ⟨rb, 0, none⟩)] w1 fun e w' => e = .returned (.int .u8 cv) ∧ ∃ n, w' = w1.drewN n) ∧ Hid (cv = hereOf l) := by
    cases l with
    | nil => exact ⟨0, w1, Lib.hid (j_here_end HI1.out.rdr), Lib.hid rfl⟩
    | cons c r => exact ⟨(c.toNat : Int), w1, Lib.hid (j_here HI1.out.rdr), Lib.hid rfl⟩
  clear n1
  have h123 : (cv == 123) = false := by
    rw [HCV.out]
    cases l with
    | nil => rfl
    | cons c r => unfold hereOf; have := (hno c r rfl).1; have h2 : c.toNat ≠ 123 := fun e => this (UInt8.toNat_inj.1 e); simp; omega
  have h91 : (cv == 91) = false := by
    rw [HCV.out]
    cases l with
    | nil => rfl
    | cons c r => unfold hereOf; have := (hno c r rfl).2; have h2 : c.toNat ≠ 91 := fun e => this (UInt8.toNat_inj.1 e); simp; omega
  obtain ⟨RES, hres⟩ : ∃ o, o = scalar l := ⟨_, rfl⟩
  rw [← hres]
  have HRES := Lib.hid hres
  clear hres hno
  go_enter Tryz.func39, Tryz.ntmps39
  go_upto_region 1 with fail
  rw [show w.alloc (.cells #[.int .i64 0, .string ⟨#[]⟩, .slice none 0 0, .slice none 0 0] 25) = w1 from HW1.out]
  go_wp2_with (fail)
  refine HH.out.mono ?_
  rintro e w2 ⟨rfl, n2, rfl⟩
  obtain ⟨w2, hw2⟩ : ∃ x, x = w1.drewN n2 := ⟨_, rfl⟩
  have hi2 := HI1.out.below (below_drewN w1.heap.size w1 n2)
  rw [← hw2] at hi2
  rw [← hw2]
  have HI2 := Lib.hid hi2
  clear hi2 hw2 HI1 HH HW1 w1
  go_upto_region 9 with fail
  clear h123 h91
  by_cases h34 : cv = 34
  · subst h34
    obtain ⟨r, rfl⟩ : ∃ r, l = 34 :: r := by
      have := HCV.out
      cases l with
      | nil => cases this
      | cons c r => exact ⟨r, by rw [show c = 34 from UInt8.toNat_inj.1 (by have h2 : (34 : Int) = (c.toNat : Int) := this; show c.toNat = 34; omega)]⟩
    have HTX := Lib.hid (j_text HI2.out.rdr)
    go_wp2_with (fail)
    refine HTX.out.mono ?_
    intro e w3 hp
    have HE : Hid (RES = (text r).andThen fun t r => .ok (.mk 4 (str t) [] []) r) := Lib.hid (by rw [HRES.out]; rfl)
    cases ho : text r with
    | bad p er =>
      rw [ho] at hp HE
      obtain ⟨rfl, hk⟩ := hp
      refine leave_panic (P := Tryz.prog) (fn := Tryz.f39) rfl ?_
      rw [HE.out]
      exact ⟨rfl, HI2.out.keep.trans' hk⟩
    | ok t l3 =>
      rw [ho] at hp HE
      obtain ⟨⟨_, rfl, rfl⟩, hr3, hk3⟩ := hp
      have HI3 := Lib.hid (HI2.out.step hr3 hk3)
      clear hr3 hk3 HTX ho HI2
      obtain ⟨⟨b0, b1, b2, b3⟩, z0, z1, z2, z3⟩ := jbox_cells HI3.out.res
      go_wp2_with (fail)
      have hf := HI3.out.fin (q := rawOf 4 (str t)) (v := .mk 4 (str t) [] []) (JAt.plain _ _ _ _)
      refine bodyPost_ret (v := (rawOf 4 (str t)).val) (jres_cell rfl hf.1 _ rfl) rfl ?_
      rw [HE.out]
      exact hf.2
  have h34b : (cv == 34) = false := by simpa using h34
  have H34 := Lib.hid h34
  clear h34
  go_upto_region 11 with fail
  clear h34b
  by_cases hnum : cv = 45 ∨ (48 ≤ cv ∧ cv ≤ 57)
  · have HE : Hid (RES = number l) := Lib.hid (by
      rw [HRES.out]
      have hc := HCV.out
      cases l with
      | nil => have : cv = 0 := hc; omega
      | cons c r =>
        have hc : cv = (c.toNat : Int) := hc
        unfold scalar
        dsimp only
        have h1 : ¬ c = 34 := fun e => H34.out (by rw [hc, e]; rfl)
        have h2 : c = 45 ∨ isDigit c = true := by
          rcases hnum with h | ⟨h, h'⟩
          · exact .inl (UInt8.toNat_inj.1 (by show c.toNat = 45; omega))
          · exact .inr (by unfold isDigit; rw [decide_eq_true (show (48 : UInt8) ≤ c from UInt8.le_iff_toNat_le.2 (by show 48 ≤ c.toNat; omega)), decide_eq_true (show c ≤ (57 : UInt8) from UInt8.le_iff_toNat_le.2 (by show c.toNat ≤ 57; omega))]; rfl)
        rw [if_neg h1, if_pos h2])
    have HNB := Lib.hid (j_number HI2.out.rdr)
    go_cut [47] (fun b wx => b = .bool true ∧ w2 = wx)
    case first =>
      rcases hnum with h | ⟨h, h'⟩
      · subst h
        go_wp2_with (fail)
        go_meet
        exact ⟨rfl, rfl⟩
      · by_cases h45 : cv = 45
        · subst h45
          go_wp2_with (fail)
          go_meet
          exact ⟨rfl, rfl⟩
        · have t1 : (cv == 45) = false := by simpa using h45
          clear h45
          go_wp2_with (fail)
          go_meet
          exact ⟨rfl, rfl⟩
    case rest =>
      obtain ⟨rfl, rfl⟩ := hcut
      clear hnum
      go_wp2_with (fail)
      refine HNB.out.mono ?_
      intro e w3 hp
      cases ho : number l with
      | bad p er =>
        rw [ho] at hp HE
        obtain ⟨rfl, hk⟩ := hp
        refine leave_panic (P := Tryz.prog) (fn := Tryz.f39) rfl ?_
        rw [HE.out]
        exact ⟨rfl, HI2.out.keep.trans' hk⟩
      | ok v l3 =>
        rw [ho] at hp HE
        obtain ⟨⟨v3, rfl, q, hv3, hq⟩, hr3, hk3⟩ := hp
        replace hv3 : v3 = .agg #[.int .i64 q.k, .string q.t, .slice q.la q.ll q.lc, .slice q.na q.nl q.nc] := hv3
        subst hv3
        have HI3 := Lib.hid (HI2.out.step hr3 hk3)
        have HQ := Lib.hid (hq.mono (A' := fun g => w.heap.size < g) (fun g hg => by have := HI2.out.size; omega))
        clear hr3 hk3 HNB ho HI2 hq
        obtain ⟨⟨b0, b1, b2, b3⟩, z0, z1, z2, z3⟩ := jbox_cells HI3.out.res
        go_wp2_with (fail)
        have hf := HI3.out.fin HQ.out
        refine bodyPost_ret (v := q.val) (jres_cell rfl hf.1 _ rfl) rfl ?_
        rw [HE.out]
        exact hf.2
  have HNUM := Lib.hid hnum
  go_cut [47] (fun b wx => b = .bool false ∧ w2 = wx)
  case first =>
    have t1 : (cv == 45) = false := by simp; omega
    by_cases h48 : 48 ≤ cv
    · have t2 : ¬ cv ≤ 57 := by omega
      clear hnum
      go_wp2_with (fail)
      go_meet
      exact ⟨rfl, rfl⟩
    · clear hnum
      go_wp2_with (fail)
      go_meet
      exact ⟨rfl, rfl⟩
  case rest =>
    obtain ⟨rfl, rfl⟩ := hcut
    clear hnum
    have HE : Hid (RES = wordly l) := Lib.hid (by
      rw [HRES.out]
      have hc := HCV.out
      cases l with
      | nil => rfl
      | cons c r =>
        have hc : cv = (c.toNat : Int) := hc
        have h1 : ¬ c = 34 := fun e => H34.out (by rw [hc, e]; rfl)
        have h2 : ¬ (c = 45 ∨ isDigit c = true) := by
          rintro (h | h)
          · exact HNUM.out (.inl (by rw [hc, h]; rfl))
          · unfold isDigit at h
            simp only [Bool.and_eq_true, decide_eq_true_eq, UInt8.le_iff_toNat_le] at h
            exact HNUM.out (.inr ⟨by have : 48 ≤ c.toNat := h.1; omega, by have : c.toNat ≤ 57 := h.2; omega⟩)
        unfold scalar wordly
        dsimp only
        rw [if_neg h1, if_neg h2])
    have HWD := Lib.hid (j_words w2)
    go_wp2_with (fail)
    refine HWD.out.mono ?_
    rintro e w3 ⟨rfl, hw3⟩
    have HI3 : Hid (ValI w w3 rb bv bs l) := Lib.hid (by rw [← hw3]; exact HI2.out.below ((Below.refl _ _).alloc (Nat.le_refl _) _))
    have HB3 : Hid (IsBlk w3 w2.heap.size #[.string ⟨#[110, 117, 108, 108]⟩, .string ⟨#[102, 97, 108, 115, 101]⟩, .string ⟨#[116, 114, 117, 101]⟩] 9) := Lib.hid (by rw [← hw3]; exact blk_new _ _)
    have HNB : Hid (w2.heap.size ≠ rb) := Lib.hid (by have := HI2.out.rdr.lt; omega)
    clear hw3 HI2 HWD
    obtain ⟨wb, hwb⟩ : ∃ x, x = w2.heap.size := ⟨_, rfl⟩
    rw [← hwb] at HB3 HNB ⊢
    clear hwb w2
    go_upto_region 14 with (fail)
    go_loopg [62] 4 (fun gk s wx => ∃ i : Nat, gk = 3 - i + 1 ∧ i ≤ 3 ∧ s = .int .i64 (i : Int) ∧ w3 = wx ∧ Hid ((1 ≤ i → cv ≠ 110) ∧ (2 ≤ i → cv ≠ 102) ∧ (3 ≤ i → cv ≠ 116)))
    case atStart => exact ⟨0, rfl, by omega, rfl, rfl, Lib.hid ⟨by omega, by omega, by omega⟩⟩
    case round =>
      obtain ⟨i, rfl, hi3, rfl, rfl, HP⟩ := hrel
      have c0 : w3.cell? ⟨wb, 0, none⟩ = some (.string ⟨#[110, 117, 108, 108]⟩) := blk_cell HB3.out 0
      have c1 : w3.cell? ⟨wb, 1, none⟩ = some (.string ⟨#[102, 97, 108, 115, 101]⟩) := blk_cell HB3.out 1
      have c2 : w3.cell? ⟨wb, 2, none⟩ = some (.string ⟨#[116, 114, 117, 101]⟩) := blk_cell HB3.out 2
      obtain rfl | rfl | rfl | rfl : i = 0 ∨ i = 1 ∨ i = 2 ∨ i = 3 := by omega
      · by_cases hc : cv = 110
        · subst hc
          obtain ⟨r, rfl⟩ : ∃ r, l = 110 :: r := by
            have := HCV.out
            cases l with
            | nil => cases this
            | cons c r => exact ⟨r, by rw [show c = 110 from UInt8.toNat_inj.1 (by have h2 : (110 : Int) = (c.toNat : Int) := this; show c.toNat = 110; omega)]⟩
          have HE2 : Hid ((musts wNull (110 :: r)).andThen (fun _ r => .ok (.mk 0 ByteArray.empty [] []) r) = RES) := Lib.hid (by rw [HE.out]; rfl)
          go_upto_region 18 with (fail)
          go_loopg [73] 5 (fun gk s wx => ∃ (j : Nat) (l' : List UInt8), gk = 4 - j + 1 ∧ j ≤ 4 ∧ s = .int .i64 (j : Int) ∧ Hid (ValI w wx rb bv bs l') ∧ Hid ((musts ((wNull).drop j) l').andThen (fun _ r => .ok (.mk 0 ByteArray.empty [] []) r) = RES))
          case atStart => exact ⟨0, _, rfl, by omega, rfl, HI3, HE2⟩
          case round =>
            obtain ⟨j, l', rfl, hj, rfl, HIX, HEX⟩ := hrel
            clear HE2 HE HI3 HB3 c0 c1 c2 HP HCV HRES H34 HNUM HNB
            obtain rfl | rfl | rfl | rfl | rfl : j = 0 ∨ j = 1 ∨ j = 2 ∨ j = 3 ∨ j = 4 := by omega
            · have HM := Lib.hid (j_must 110 HIX.out.rdr)
              go_wp2_with (fail)
              refine HM.out.mono ?_
              intro e wy hp
              have HEX : Hid ((musts (110 :: (wNull).drop 1) l').andThen (fun _ r => .ok (.mk 0 ByteArray.empty [] []) r) = RES) := HEX
              rcases musts_cases 110 ((wNull).drop 1) l' with ⟨r', e1, e2⟩ | ⟨p, er, e1, e2⟩
              · rw [e1] at hp
                obtain ⟨⟨_, rfl, rfl⟩, hr, hk⟩ := hp
                rw [e2] at HEX
                have HIY := Lib.hid (HIX.out.step hr hk)
                clear hr hk HM
                go_wp2_with (fail)
                go_roundg 4
                case measure => decide
                case rel => exact ⟨1, _, rfl, by omega, rfl, HIY, HEX⟩
              · rw [e1] at hp
                obtain ⟨rfl, hk⟩ := hp
                refine leave_panic (P := Tryz.prog) (fn := Tryz.f39) rfl ?_
                rw [← HEX.out, e2]
                exact ⟨rfl, HIX.out.keep.trans' hk⟩
            · have HM := Lib.hid (j_must 117 HIX.out.rdr)
              go_wp2_with (fail)
              refine HM.out.mono ?_
              intro e wy hp
              have HEX : Hid ((musts (117 :: (wNull).drop 2) l').andThen (fun _ r => .ok (.mk 0 ByteArray.empty [] []) r) = RES) := HEX
              rcases musts_cases 117 ((wNull).drop 2) l' with ⟨r', e1, e2⟩ | ⟨p, er, e1, e2⟩
              · rw [e1] at hp
                obtain ⟨⟨_, rfl, rfl⟩, hr, hk⟩ := hp
                rw [e2] at HEX
                have HIY := Lib.hid (HIX.out.step hr hk)
                clear hr hk HM
                go_wp2_with (fail)
                go_roundg 3
                case measure => decide
                case rel => exact ⟨2, _, rfl, by omega, rfl, HIY, HEX⟩
              · rw [e1] at hp
                obtain ⟨rfl, hk⟩ := hp
                refine leave_panic (P := Tryz.prog) (fn := Tryz.f39) rfl ?_
                rw [← HEX.out, e2]
                exact ⟨rfl, HIX.out.keep.trans' hk⟩
            · have HM := Lib.hid (j_must 108 HIX.out.rdr)
              go_wp2_with (fail)
              refine HM.out.mono ?_
              intro e wy hp
              have HEX : Hid ((musts (108 :: (wNull).drop 3) l').andThen (fun _ r => .ok (.mk 0 ByteArray.empty [] []) r) = RES) := HEX
              rcases musts_cases 108 ((wNull).drop 3) l' with ⟨r', e1, e2⟩ | ⟨p, er, e1, e2⟩
              · rw [e1] at hp
                obtain ⟨⟨_, rfl, rfl⟩, hr, hk⟩ := hp
                rw [e2] at HEX
                have HIY := Lib.hid (HIX.out.step hr hk)
                clear hr hk HM
                go_wp2_with (fail)
                go_roundg 2
                case measure => decide
                case rel => exact ⟨3, _, rfl, by omega, rfl, HIY, HEX⟩
              · rw [e1] at hp
                obtain ⟨rfl, hk⟩ := hp
                refine leave_panic (P := Tryz.prog) (fn := Tryz.f39) rfl ?_
                rw [← HEX.out, e2]
                exact ⟨rfl, HIX.out.keep.trans' hk⟩
            · have HM := Lib.hid (j_must 108 HIX.out.rdr)
              go_wp2_with (fail)
              refine HM.out.mono ?_
              intro e wy hp
              have HEX : Hid ((musts (108 :: (wNull).drop 4) l').andThen (fun _ r => .ok (.mk 0 ByteArray.empty [] []) r) = RES) := HEX
              rcases musts_cases 108 ((wNull).drop 4) l' with ⟨r', e1, e2⟩ | ⟨p, er, e1, e2⟩
              · rw [e1] at hp
                obtain ⟨⟨_, rfl, rfl⟩, hr, hk⟩ := hp
                rw [e2] at HEX
                have HIY := Lib.hid (HIX.out.step hr hk)
                clear hr hk HM
                go_wp2_with (fail)
                go_roundg 1
                case measure => decide
                case rel => exact ⟨4, _, rfl, by omega, rfl, HIY, HEX⟩
              · rw [e1] at hp
                obtain ⟨rfl, hk⟩ := hp
                refine leave_panic (P := Tryz.prog) (fn := Tryz.f39) rfl ?_
                rw [← HEX.out, e2]
                exact ⟨rfl, HIX.out.keep.trans' hk⟩
            · obtain ⟨⟨b0, b1, b2, b3⟩, z0, z1, z2, z3⟩ := jbox_cells HIX.out.res
              go_wp2_with (fail)
              have hf := HIX.out.fin (q := rawOf 0 ⟨#[]⟩) (v := .mk 0 ByteArray.empty [] []) (JAt.plain _ _ _ _)
              refine bodyPost_ret (v := (rawOf 0 ⟨#[]⟩).val) (jres_cell rfl hf.1 _ rfl) rfl ?_
              rw [← HEX.out]
              exact hf.2
        · have hc2 : (cv == ((((⟨#[110, 117, 108, 108]⟩ : ByteArray)[0]'(by decide)).toNat : Nat) : Int)) = false := by
            have : (cv == 110) = false := by simpa using hc
            exact this
          have HC := Lib.hid hc
          clear hc
          go_wp2_with (fail)
          go_roundg 3
          case measure => decide
          case rel => exact ⟨1, rfl, by omega, rfl, rfl, Lib.hid ⟨fun _ => HC.out, fun h => by omega, fun h => by omega⟩⟩
      · by_cases hc : cv = 102
        · subst hc
          obtain ⟨r, rfl⟩ : ∃ r, l = 102 :: r := by
            have := HCV.out
            cases l with
            | nil => cases this
            | cons c r => exact ⟨r, by rw [show c = 102 from UInt8.toNat_inj.1 (by have h2 : (102 : Int) = (c.toNat : Int) := this; show c.toNat = 102; omega)]⟩
          have HE2 : Hid ((musts wFalse (102 :: r)).andThen (fun _ r => .ok (.mk 1 ByteArray.empty [] []) r) = RES) := Lib.hid (by rw [HE.out]; rfl)
          go_upto_region 18 with (fail)
          go_loopg [73] 6 (fun gk s wx => ∃ (j : Nat) (l' : List UInt8), gk = 5 - j + 1 ∧ j ≤ 5 ∧ s = .int .i64 (j : Int) ∧ Hid (ValI w wx rb bv bs l') ∧ Hid ((musts ((wFalse).drop j) l').andThen (fun _ r => .ok (.mk 1 ByteArray.empty [] []) r) = RES))
          case atStart => exact ⟨0, _, rfl, by omega, rfl, HI3, HE2⟩
          case round =>
            obtain ⟨j, l', rfl, hj, rfl, HIX, HEX⟩ := hrel
            clear HE2 HE HI3 HB3 c0 c1 c2 HP HCV HRES H34 HNUM HNB
            obtain rfl | rfl | rfl | rfl | rfl | rfl : j = 0 ∨ j = 1 ∨ j = 2 ∨ j = 3 ∨ j = 4 ∨ j = 5 := by omega
            · have HM := Lib.hid (j_must 102 HIX.out.rdr)
              go_wp2_with (fail)
              refine HM.out.mono ?_
              intro e wy hp
              have HEX : Hid ((musts (102 :: (wFalse).drop 1) l').andThen (fun _ r => .ok (.mk 1 ByteArray.empty [] []) r) = RES) := HEX
              rcases musts_cases 102 ((wFalse).drop 1) l' with ⟨r', e1, e2⟩ | ⟨p, er, e1, e2⟩
              · rw [e1] at hp
                obtain ⟨⟨_, rfl, rfl⟩, hr, hk⟩ := hp
                rw [e2] at HEX
                have HIY := Lib.hid (HIX.out.step hr hk)
                clear hr hk HM
                go_wp2_with (fail)
                go_roundg 5
                case measure => decide
                case rel => exact ⟨1, _, rfl, by omega, rfl, HIY, HEX⟩
              · rw [e1] at hp
                obtain ⟨rfl, hk⟩ := hp
                refine leave_panic (P := Tryz.prog) (fn := Tryz.f39) rfl ?_
                rw [← HEX.out, e2]
                exact ⟨rfl, HIX.out.keep.trans' hk⟩
            · have HM := Lib.hid (j_must 97 HIX.out.rdr)
              go_wp2_with (fail)
              refine HM.out.mono ?_
              intro e wy hp
              have HEX : Hid ((musts (97 :: (wFalse).drop 2) l').andThen (fun _ r => .ok (.mk 1 ByteArray.empty [] []) r) = RES) := HEX
              rcases musts_cases 97 ((wFalse).drop 2) l' with ⟨r', e1, e2⟩ | ⟨p, er, e1, e2⟩
              · rw [e1] at hp
                obtain ⟨⟨_, rfl, rfl⟩, hr, hk⟩ := hp
                rw [e2] at HEX
                have HIY := Lib.hid (HIX.out.step hr hk)
                clear hr hk HM
                go_wp2_with (fail)
                go_roundg 4
                case measure => decide
                case rel => exact ⟨2, _, rfl, by omega, rfl, HIY, HEX⟩
              · rw [e1] at hp
                obtain ⟨rfl, hk⟩ := hp
                refine leave_panic (P := Tryz.prog) (fn := Tryz.f39) rfl ?_
                rw [← HEX.out, e2]
                exact ⟨rfl, HIX.out.keep.trans' hk⟩
            · have HM := Lib.hid (j_must 108 HIX.out.rdr)
              go_wp2_with (fail)
              refine HM.out.mono ?_
              intro e wy hp
              have HEX : Hid ((musts (108 :: (wFalse).drop 3) l').andThen (fun _ r => .ok (.mk 1 ByteArray.empty [] []) r) = RES) := HEX
              rcases musts_cases 108 ((wFalse).drop 3) l' with ⟨r', e1, e2⟩ | ⟨p, er, e1, e2⟩
              · rw [e1] at hp
                obtain ⟨⟨_, rfl, rfl⟩, hr, hk⟩ := hp
                rw [e2] at HEX
                have HIY := Lib.hid (HIX.out.step hr hk)
                clear hr hk HM
                go_wp2_with (fail)
                go_roundg 3
                case measure => decide
                case rel => exact ⟨3, _, rfl, by omega, rfl, HIY, HEX⟩
              · rw [e1] at hp
                obtain ⟨rfl, hk⟩ := hp
                refine leave_panic (P := Tryz.prog) (fn := Tryz.f39) rfl ?_
                rw [← HEX.out, e2]
                exact ⟨rfl, HIX.out.keep.trans' hk⟩
            · have HM := Lib.hid (j_must 115 HIX.out.rdr)
              go_wp2_with (fail)
              refine HM.out.mono ?_
              intro e wy hp
              have HEX : Hid ((musts (115 :: (wFalse).drop 4) l').andThen (fun _ r => .ok (.mk 1 ByteArray.empty [] []) r) = RES) := HEX
              rcases musts_cases 115 ((wFalse).drop 4) l' with ⟨r', e1, e2⟩ | ⟨p, er, e1, e2⟩
              · rw [e1] at hp
                obtain ⟨⟨_, rfl, rfl⟩, hr, hk⟩ := hp
                rw [e2] at HEX
                have HIY := Lib.hid (HIX.out.step hr hk)
                clear hr hk HM
                go_wp2_with (fail)
                go_roundg 2
                case measure => decide
                case rel => exact ⟨4, _, rfl, by omega, rfl, HIY, HEX⟩
              · rw [e1] at hp
                obtain ⟨rfl, hk⟩ := hp
                refine leave_panic (P := Tryz.prog) (fn := Tryz.f39) rfl ?_
                rw [← HEX.out, e2]
                exact ⟨rfl, HIX.out.keep.trans' hk⟩
            · have HM := Lib.hid (j_must 101 HIX.out.rdr)
              go_wp2_with (fail)
              refine HM.out.mono ?_
              intro e wy hp
              have HEX : Hid ((musts (101 :: (wFalse).drop 5) l').andThen (fun _ r => .ok (.mk 1 ByteArray.empty [] []) r) = RES) := HEX
              rcases musts_cases 101 ((wFalse).drop 5) l' with ⟨r', e1, e2⟩ | ⟨p, er, e1, e2⟩
              · rw [e1] at hp
                obtain ⟨⟨_, rfl, rfl⟩, hr, hk⟩ := hp
                rw [e2] at HEX
                have HIY := Lib.hid (HIX.out.step hr hk)
                clear hr hk HM
                go_wp2_with (fail)
                go_roundg 1
                case measure => decide
                case rel => exact ⟨5, _, rfl, by omega, rfl, HIY, HEX⟩
              · rw [e1] at hp
                obtain ⟨rfl, hk⟩ := hp
                refine leave_panic (P := Tryz.prog) (fn := Tryz.f39) rfl ?_
                rw [← HEX.out, e2]
                exact ⟨rfl, HIX.out.keep.trans' hk⟩
            · obtain ⟨⟨b0, b1, b2, b3⟩, z0, z1, z2, z3⟩ := jbox_cells HIX.out.res
              go_wp2_with (fail)
              have hf := HIX.out.fin (q := rawOf 1 ⟨#[]⟩) (v := .mk 1 ByteArray.empty [] []) (JAt.plain _ _ _ _)
              refine bodyPost_ret (v := (rawOf 1 ⟨#[]⟩).val) (jres_cell rfl hf.1 _ rfl) rfl ?_
              rw [← HEX.out]
              exact hf.2
        · have hc2 : (cv == ((((⟨#[102, 97, 108, 115, 101]⟩ : ByteArray)[0]'(by decide)).toNat : Nat) : Int)) = false := by
            have : (cv == 102) = false := by simpa using hc
            exact this
          have HC := Lib.hid hc
          clear hc
          go_wp2_with (fail)
          go_roundg 2
          case measure => decide
          case rel => exact ⟨2, rfl, by omega, rfl, rfl, Lib.hid ⟨fun _ => HP.out.1 (by omega), fun _ => HC.out, fun h => by omega⟩⟩
      · by_cases hc : cv = 116
        · subst hc
          obtain ⟨r, rfl⟩ : ∃ r, l = 116 :: r := by
            have := HCV.out
            cases l with
            | nil => cases this
            | cons c r => exact ⟨r, by rw [show c = 116 from UInt8.toNat_inj.1 (by have h2 : (116 : Int) = (c.toNat : Int) := this; show c.toNat = 116; omega)]⟩
          have HE2 : Hid ((musts wTrue (116 :: r)).andThen (fun _ r => .ok (.mk 2 ByteArray.empty [] []) r) = RES) := Lib.hid (by rw [HE.out]; rfl)
          go_upto_region 18 with (fail)
          go_loopg [73] 5 (fun gk s wx => ∃ (j : Nat) (l' : List UInt8), gk = 4 - j + 1 ∧ j ≤ 4 ∧ s = .int .i64 (j : Int) ∧ Hid (ValI w wx rb bv bs l') ∧ Hid ((musts ((wTrue).drop j) l').andThen (fun _ r => .ok (.mk 2 ByteArray.empty [] []) r) = RES))
          case atStart => exact ⟨0, _, rfl, by omega, rfl, HI3, HE2⟩
          case round =>
            obtain ⟨j, l', rfl, hj, rfl, HIX, HEX⟩ := hrel
            clear HE2 HE HI3 HB3 c0 c1 c2 HP HCV HRES H34 HNUM HNB
            obtain rfl | rfl | rfl | rfl | rfl : j = 0 ∨ j = 1 ∨ j = 2 ∨ j = 3 ∨ j = 4 := by omega
            · have HM := Lib.hid (j_must 116 HIX.out.rdr)
              go_wp2_with (fail)
              refine HM.out.mono ?_
              intro e wy hp
              have HEX : Hid ((musts (116 :: (wTrue).drop 1) l').andThen (fun _ r => .ok (.mk 2 ByteArray.empty [] []) r) = RES) := HEX
              rcases musts_cases 116 ((wTrue).drop 1) l' with ⟨r', e1, e2⟩ | ⟨p, er, e1, e2⟩
              · rw [e1] at hp
                obtain ⟨⟨_, rfl, rfl⟩, hr, hk⟩ := hp
                rw [e2] at HEX
                have HIY := Lib.hid (HIX.out.step hr hk)
                clear hr hk HM
                go_wp2_with (fail)
                go_roundg 4
                case measure => decide
                case rel => exact ⟨1, _, rfl, by omega, rfl, HIY, HEX⟩
              · rw [e1] at hp
                obtain ⟨rfl, hk⟩ := hp
                refine leave_panic (P := Tryz.prog) (fn := Tryz.f39) rfl ?_
                rw [← HEX.out, e2]
                exact ⟨rfl, HIX.out.keep.trans' hk⟩
            · have HM := Lib.hid (j_must 114 HIX.out.rdr)
              go_wp2_with (fail)
              refine HM.out.mono ?_
              intro e wy hp
              have HEX : Hid ((musts (114 :: (wTrue).drop 2) l').andThen (fun _ r => .ok (.mk 2 ByteArray.empty [] []) r) = RES) := HEX
              rcases musts_cases 114 ((wTrue).drop 2) l' with ⟨r', e1, e2⟩ | ⟨p, er, e1, e2⟩
              · rw [e1] at hp
                obtain ⟨⟨_, rfl, rfl⟩, hr, hk⟩ := hp
                rw [e2] at HEX
                have HIY := Lib.hid (HIX.out.step hr hk)
                clear hr hk HM
                go_wp2_with (fail)
                go_roundg 3
                case measure => decide
                case rel => exact ⟨2, _, rfl, by omega, rfl, HIY, HEX⟩
              · rw [e1] at hp
                obtain ⟨rfl, hk⟩ := hp
                refine leave_panic (P := Tryz.prog) (fn := Tryz.f39) rfl ?_
                rw [← HEX.out, e2]
                exact ⟨rfl, HIX.out.keep.trans' hk⟩
            · have HM := Lib.hid (j_must 117 HIX.out.rdr)
              go_wp2_with (fail)
              refine HM.out.mono ?_
              intro e wy hp
              have HEX : Hid ((musts (117 :: (wTrue).drop 3) l').andThen (fun _ r => .ok (.mk 2 ByteArray.empty [] []) r) = RES) := HEX
              rcases musts_cases 117 ((wTrue).drop 3) l' with ⟨r', e1, e2⟩ | ⟨p, er, e1, e2⟩
              · rw [e1] at hp
                obtain ⟨⟨_, rfl, rfl⟩, hr, hk⟩ := hp
                rw [e2] at HEX
                have HIY := Lib.hid (HIX.out.step hr hk)
                clear hr hk HM
                go_wp2_with (fail)
                go_roundg 2
                case measure => decide
                case rel => exact ⟨3, _, rfl, by omega, rfl, HIY, HEX⟩
              · rw [e1] at hp
                obtain ⟨rfl, hk⟩ := hp
                refine leave_panic (P := Tryz.prog) (fn := Tryz.f39) rfl ?_
                rw [← HEX.out, e2]
                exact ⟨rfl, HIX.out.keep.trans' hk⟩
            · have HM := Lib.hid (j_must 101 HIX.out.rdr)
              go_wp2_with (fail)
              refine HM.out.mono ?_
              intro e wy hp
              have HEX : Hid ((musts (101 :: (wTrue).drop 4) l').andThen (fun _ r => .ok (.mk 2 ByteArray.empty [] []) r) = RES) := HEX
              rcases musts_cases 101 ((wTrue).drop 4) l' with ⟨r', e1, e2⟩ | ⟨p, er, e1, e2⟩
              · rw [e1] at hp
                obtain ⟨⟨_, rfl, rfl⟩, hr, hk⟩ := hp
                rw [e2] at HEX
                have HIY := Lib.hid (HIX.out.step hr hk)
                clear hr hk HM
                go_wp2_with (fail)
                go_roundg 1
                case measure => decide
                case rel => exact ⟨4, _, rfl, by omega, rfl, HIY, HEX⟩
              · rw [e1] at hp
                obtain ⟨rfl, hk⟩ := hp
                refine leave_panic (P := Tryz.prog) (fn := Tryz.f39) rfl ?_
                rw [← HEX.out, e2]
                exact ⟨rfl, HIX.out.keep.trans' hk⟩
            · obtain ⟨⟨b0, b1, b2, b3⟩, z0, z1, z2, z3⟩ := jbox_cells HIX.out.res
              go_wp2_with (fail)
              have hf := HIX.out.fin (q := rawOf 2 ⟨#[]⟩) (v := .mk 2 ByteArray.empty [] []) (JAt.plain _ _ _ _)
              refine bodyPost_ret (v := (rawOf 2 ⟨#[]⟩).val) (jres_cell rfl hf.1 _ rfl) rfl ?_
              rw [← HEX.out]
              exact hf.2
        · have hc2 : (cv == ((((⟨#[116, 114, 117, 101]⟩ : ByteArray)[0]'(by decide)).toNat : Nat) : Int)) = false := by
            have : (cv == 116) = false := by simpa using hc
            exact this
          have HC := Lib.hid hc
          clear hc
          go_wp2_with (fail)
          go_roundg 1
          case measure => decide
          case rel => exact ⟨3, rfl, by omega, rfl, rfl, Lib.hid ⟨fun _ => HP.out.1 (by omega), fun _ => HP.out.2.1 (by omega), fun _ => HC.out⟩⟩
      · have HW := Lib.hid (j_wrong HI3.out.rdr)
        go_wp2_with (fail)
        refine HW.out.mono ?_
        rintro e w' ⟨rfl, rfl⟩
        refine leave_panic (P := Tryz.prog) (fn := Tryz.f39) rfl ?_
        have hp := HP.out
        have hc := HCV.out
        rw [HE.out]
        cases l with
        | nil => exact ⟨rfl, HI3.out.keep⟩
        | cons c r =>
          have hc : cv = (c.toNat : Int) := hc
          unfold wordly
          dsimp only
          rw [if_neg (fun e => hp.1 (by omega) (by rw [hc, e]; rfl)), if_neg (fun e => hp.2.1 (by omega) (by rw [hc, e]; rfl)), if_neg (fun e => hp.2.2 (by omega) (by rw [hc, e]; rfl))]
          exact ⟨rfl, HI3.out.keep⟩
set_option maxRecDepth 100000 in
set_option maxHeartbeats 8000000 in
theorem j_open123 (dep : Int) (hd0 : 0 ≤ dep) (hd1 : dep < 32) (val : List UInt8 → Out JV) (hfit : ∀ l, (val l).Fits 1 l)
    (hval : ∀ W l, Rdr W rb bv bs l → Calls Tryz.prog 39 #[.pointer (some ⟨rb, 0, none⟩), .int .i64 (dep + 1)] W (ROut rb bv bs W (VJ W.heap.size) (val l))) (h : Rdr w rb bv bs (123 :: l)) :
    Calls Tryz.prog 39 #[.pointer (some ⟨rb, 0, none⟩), .int .i64 dep] w (ROut rb bv bs w (VJ w.heap.size) (object val l)) := by
  obtain ⟨w1, hw1, HBX⟩ := jbox_zero w
  have HI1 : Hid (ValI w w1 rb bv bs (123 :: l)) := Lib.hid ⟨h.below HBX.out.1, (Keeps.refl _ _).below HBX.out.1, HBX.out.2, h.lt, h.glt⟩
  have HW1 := Lib.hid hw1
  clear hw1 h HBX
  obtain ⟨RES, hres⟩ : ∃ o, o = object val l := ⟨_, rfl⟩
  rw [← hres]
  have HRES := Lib.hid hres
  clear hres
  have HH := Lib.hid (j_here HI1.out.rdr)
  have HVAL := Lib.hid hval
  have HFIT := Lib.hid hfit
  clear hval hfit
  have hd2 : decide (32 ≤ dep) = false := by simp; omega
  go_enter Tryz.func39, Tryz.ntmps39
  go_upto_region 1 with fail
  rw [show w.alloc (.cells #[.int .i64 0, .string ⟨#[]⟩, .slice none 0 0, .slice none 0 0] 25) = w1 from HW1.out]
  go_wp2_with (fail)
  refine HH.out.mono ?_
  rintro e w2 ⟨rfl, n2, rfl⟩
  obtain ⟨w2, hw2⟩ : ∃ x, x = w1.drewN n2 := ⟨_, rfl⟩
  have hi2 := HI1.out.below (below_drewN w1.heap.size w1 n2)
  rw [← hw2] at hi2
  rw [← hw2]
  have HI2 := Lib.hid hi2
  clear hi2 hw2 HI1 HH HW1 w1
  obtain ⟨a, cap, k, hbv, hk, hkl, c0, c1, f1⟩ := HI2.out.rdr.parts
  have hw64 : wrap64 ((k : Int) + 1) = (k : Int) + 1 := by
    have := HI2.out.rdr.len
    unfold wrap64; omega
  have HI3 : Hid (ValI w (w2.setCell ⟨rb, 1, none⟩ (.int .i64 ((k : Int) + 1))) rb bv bs l) := Lib.hid (HI2.out.step (HI2.out.rdr.move (tailSuf HI2.out.rdr.suf) (by simp only [List.length_cons] at hkl hk; omega)) (keeps_set _ _ _ _))
  clear hk hkl hbv
  go_upto_region 6 with fail
  clear c0 c1 f1
  obtain ⟨w3, hw3⟩ : ∃ x, x = w2.setCell ⟨rb, 1, none⟩ (.int .i64 ((k : Int) + 1)) := ⟨_, rfl⟩
  rw [← hw3] at HI3 ⊢
  have HOB := Lib.hid (j_object (w := w3) dep hd0 (by omega) val HFIT.out HVAL.out HI3.out.rdr)
  clear hw3 HI2 hw64 hd2
  go_wp2_with (fail)
  refine HOB.out.mono ?_
  intro e w4 hp
  cases ho : object val l with
  | bad p er =>
    have HE : Hid (RES = .bad p er) := Lib.hid (by rw [HRES.out, ho])
    rw [ho] at hp
    obtain ⟨rfl, hk⟩ := hp
    refine leave_panic (P := Tryz.prog) (fn := Tryz.f39) rfl ?_
    rw [HE.out]
    exact ⟨rfl, HI3.out.keep.trans' hk⟩
  | ok v l3 =>
    have HE : Hid (RES = .ok v l3) := Lib.hid (by rw [HRES.out, ho])
    rw [ho] at hp
    obtain ⟨⟨v3, rfl, q, hv3, hq⟩, hr3, hk3⟩ := hp
    replace hv3 : v3 = .agg #[.int .i64 q.k, .string q.t, .slice q.la q.ll q.lc, .slice q.na q.nl q.nc] := hv3
    subst hv3
    have HI4 := Lib.hid (HI3.out.step hr3 hk3)
    have HQ := Lib.hid (hq.mono (A' := fun g => w.heap.size < g) (fun g hg => by have := HI3.out.size; omega))
    clear hr3 hk3 HOB ho HI3 hq
    obtain ⟨⟨b0, b1, b2, b3⟩, z0, z1, z2, z3⟩ := jbox_cells HI4.out.res
    go_wp2_with (fail)
    have hf := HI4.out.fin HQ.out
    refine bodyPost_ret (v := q.val) (jres_cell rfl hf.1 _ rfl) rfl ?_
    rw [HE.out]
    exact hf.2
set_option maxRecDepth 100000 in
set_option maxHeartbeats 8000000 in
theorem j_open91 (dep : Int) (hd0 : 0 ≤ dep) (hd1 : dep < 32) (val : List UInt8 → Out JV) (hfit : ∀ l, (val l).Fits 1 l)
    (hval : ∀ W l, Rdr W rb bv bs l → Calls Tryz.prog 39 #[.pointer (some ⟨rb, 0, none⟩), .int .i64 (dep + 1)] W (ROut rb bv bs W (VJ W.heap.size) (val l))) (h : Rdr w rb bv bs (91 :: l)) :
    Calls Tryz.prog 39 #[.pointer (some ⟨rb, 0, none⟩), .int .i64 dep] w (ROut rb bv bs w (VJ w.heap.size) (array val l)) := by
  obtain ⟨w1, hw1, HBX⟩ := jbox_zero w
  have HI1 : Hid (ValI w w1 rb bv bs (91 :: l)) := Lib.hid ⟨h.below HBX.out.1, (Keeps.refl _ _).below HBX.out.1, HBX.out.2, h.lt, h.glt⟩
  have HW1 := Lib.hid hw1
  clear hw1 h HBX
  obtain ⟨RES, hres⟩ : ∃ o, o = array val l := ⟨_, rfl⟩
  rw [← hres]
  have HRES := Lib.hid hres
  clear hres
  have HH := Lib.hid (j_here HI1.out.rdr)
  have HVAL := Lib.hid hval
  have HFIT := Lib.hid hfit
  clear hval hfit
  have hd2 : decide (32 ≤ dep) = false := by simp; omega
  go_enter Tryz.func39, Tryz.ntmps39
  go_upto_region 1 with fail
  rw [show w.alloc (.cells #[.int .i64 0, .string ⟨#[]⟩, .slice none 0 0, .slice none 0 0] 25) = w1 from HW1.out]
  go_wp2_with (fail)
  refine HH.out.mono ?_
  rintro e w2 ⟨rfl, n2, rfl⟩
  obtain ⟨w2, hw2⟩ : ∃ x, x = w1.drewN n2 := ⟨_, rfl⟩
  have hi2 := HI1.out.below (below_drewN w1.heap.size w1 n2)
  rw [← hw2] at hi2
  rw [← hw2]
  have HI2 := Lib.hid hi2
  clear hi2 hw2 HI1 HH HW1 w1
  obtain ⟨a, cap, k, hbv, hk, hkl, c0, c1, f1⟩ := HI2.out.rdr.parts
  have hw64 : wrap64 ((k : Int) + 1) = (k : Int) + 1 := by
    have := HI2.out.rdr.len
    unfold wrap64; omega
  have HI3 : Hid (ValI w (w2.setCell ⟨rb, 1, none⟩ (.int .i64 ((k : Int) + 1))) rb bv bs l) := Lib.hid (HI2.out.step (HI2.out.rdr.move (tailSuf HI2.out.rdr.suf) (by simp only [List.length_cons] at hkl hk; omega)) (keeps_set _ _ _ _))
  clear hk hkl hbv
  go_upto_region 6 with fail
  clear c0 c1 f1
  obtain ⟨w3, hw3⟩ : ∃ x, x = w2.setCell ⟨rb, 1, none⟩ (.int .i64 ((k : Int) + 1)) := ⟨_, rfl⟩
  rw [← hw3] at HI3 ⊢
  have HOB := Lib.hid (j_array (w := w3) dep hd0 (by omega) val HFIT.out HVAL.out HI3.out.rdr)
  clear hw3 HI2 hw64 hd2
  go_wp2_with (fail)
  refine HOB.out.mono ?_
  intro e w4 hp
  cases ho : array val l with
  | bad p er =>
    have HE : Hid (RES = .bad p er) := Lib.hid (by rw [HRES.out, ho])
    rw [ho] at hp
    obtain ⟨rfl, hk⟩ := hp
    refine leave_panic (P := Tryz.prog) (fn := Tryz.f39) rfl ?_
    rw [HE.out]
    exact ⟨rfl, HI3.out.keep.trans' hk⟩
  | ok v l3 =>
    have HE : Hid (RES = .ok v l3) := Lib.hid (by rw [HRES.out, ho])
    rw [ho] at hp
    obtain ⟨⟨v3, rfl, q, hv3, hq⟩, hr3, hk3⟩ := hp
    replace hv3 : v3 = .agg #[.int .i64 q.k, .string q.t, .slice q.la q.ll q.lc, .slice q.na q.nl q.nc] := hv3
    subst hv3
    have HI4 := Lib.hid (HI3.out.step hr3 hk3)
    have HQ := Lib.hid (hq.mono (A' := fun g => w.heap.size < g) (fun g hg => by have := HI3.out.size; omega))
    clear hr3 hk3 HOB ho HI3 hq
    obtain ⟨⟨b0, b1, b2, b3⟩, z0, z1, z2, z3⟩ := jbox_cells HI4.out.res
    go_wp2_with (fail)
    have hf := HI4.out.fin HQ.out
    refine bodyPost_ret (v := q.val) (jres_cell rfl hf.1 _ rfl) rfl ?_
    rw [HE.out]
    exact hf.2
set_option maxRecDepth 100000 in
set_option maxHeartbeats 8000000 in
theorem j_deep (c : UInt8) (hc : c = 123 ∨ c = 91) (h : Rdr w rb bv bs (c :: l)) :
    Calls Tryz.prog 39 #[.pointer (some ⟨rb, 0, none⟩), .int .i64 32] w (ROut rb bv bs w (VJ w.heap.size) (.bad (l.length + 1) 20)) := by
  obtain ⟨w1, hw1, HBX⟩ := jbox_zero w
  have HI1 : Hid (ValI w w1 rb bv bs (c :: l)) := Lib.hid ⟨h.below HBX.out.1, (Keeps.refl _ _).below HBX.out.1, HBX.out.2, h.lt, h.glt⟩
  have HW1 := Lib.hid hw1
  clear hw1 h HBX
  have HH := Lib.hid (j_here HI1.out.rdr)
  go_enter Tryz.func39, Tryz.ntmps39
  go_upto_region 1 with fail
  rw [show w.alloc (.cells #[.int .i64 0, .string ⟨#[]⟩, .slice none 0 0, .slice none 0 0] 25) = w1 from HW1.out]
  go_wp2_with (fail)
  refine HH.out.mono ?_
  rintro e w2 ⟨rfl, n2, rfl⟩
  obtain ⟨w2, hw2⟩ : ∃ x, x = w1.drewN n2 := ⟨_, rfl⟩
  have hi2 := HI1.out.below (below_drewN w1.heap.size w1 n2)
  rw [← hw2] at hi2
  rw [← hw2]
  have HI2 := Lib.hid hi2
  clear hi2 hw2 HI1 HH HW1 w1
  obtain ⟨a, cap, k, hbv, hk, hkl, c0, c1, f1⟩ := HI2.out.rdr.parts
  have HK := Lib.hid hk
  clear hk hkl hbv
  rcases hc with rfl | rfl
  all_goals
    go_wp2_with (fail)
    refine (j_fail _ _ _ _).mono ?_
    rintro e w3 ⟨rfl, rfl⟩
    refine leave_panic (P := Tryz.prog) (fn := Tryz.f39) rfl ?_
    exact ⟨by rw [HK.out]; rfl, HI2.out.keep⟩
theorem j_value : ∀ (d : Nat) (dep : Int) (w : World) (l : List UInt8), dep = 32 - (d : Int) → d ≤ 32 → Rdr w rb bv bs l →
    Calls Tryz.prog 39 #[.pointer (some ⟨rb, 0, none⟩), .int .i64 dep] w (ROut rb bv bs w (VJ w.heap.size) (value d l))
  | d, dep, w, [], hd, hd2, h => by
    have e : value d [] = scalar [] := by cases d <;> rfl
    rw [e]
    exact j_scalar dep h (fun c r e => by cases e)
  | d, dep, w, c :: r, hd, hd2, h => by
    by_cases hc : c = 123 ∨ c = 91
    · cases d with
      | zero =>
        have e : value 0 (c :: r) = .bad (r.length + 1) 20 := by unfold value; dsimp only; rw [if_pos hc]
        rw [e, show dep = 32 from by omega]
        exact j_deep c hc h
      | succ d =>
        have ih := fun W l => j_value d (dep + 1) W l (by omega) (by omega)
        rcases hc with rfl | rfl
        · exact j_open123 dep (by omega) (by omega) (value d) (value_fits d) ih h
        · exact j_open91 dep (by omega) (by omega) (value d) (value_fits d) ih h
    · have e : value d (c :: r) = scalar (c :: r) := by
        have h1 : ¬ c = 123 := fun e => hc (.inl e)
        have h2 : ¬ c = 91 := fun e => hc (.inr e)
        cases d with
        | zero => unfold value; dsimp only; rw [if_neg hc]
        | succ d => unfold value; dsimp only; rw [if_neg h1, if_neg h2]
      rw [e]
      exact j_scalar dep h (fun c' r' e => by cases e; exact ⟨fun e => hc (.inl e), fun e => hc (.inr e)⟩)
end
end Go.Proofs.YthjcolehccbihaaGreatDoor
