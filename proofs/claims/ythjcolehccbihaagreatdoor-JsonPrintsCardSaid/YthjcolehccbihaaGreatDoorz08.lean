/- The walk of a JSON reader's escape. -/
import Derived.Test.YthjcolehccbihaaGreatDoorz07
import Derived.Lib.SlBytesConst
namespace Go.Proofs.YthjcolehccbihaaGreatDoor
open Go.RowKit Go.Shelf
def marksL : List UInt8 := [34, 92, 47, 98, 102, 110, 114, 116]
def markOk (c : UInt8) : Bool := match markVal c with
  | none => decide (Lib.indexByte marksL c < 0)
  | some r => decide ((Lib.indexByte marksL c = 0 ∧ r = 34) ∨ (Lib.indexByte marksL c = 1 ∧ r = 92) ∨ (Lib.indexByte marksL c = 2 ∧ r = 47) ∨ (Lib.indexByte marksL c = 3 ∧ r = 8) ∨ (Lib.indexByte marksL c = 4 ∧ r = 12) ∨
      (Lib.indexByte marksL c = 5 ∧ r = 10) ∨ (Lib.indexByte marksL c = 6 ∧ r = 13) ∨ (Lib.indexByte marksL c = 7 ∧ r = 9))
theorem mark_ok : ∀ c : UInt8, markOk c = true := by_bytes (q := fun _ => true) (by decide +kernel)
/-- What is yet to come of the second half: so many signs, the digits. -/
def secRest (pl x : Nat) : Nat → List UInt8 → Out Nat
  | 0, l => (fourN pl 4 0 l).andThen fun y l => if y < 0xdc00 ∨ 0xe000 ≤ y then .bad pl 11 else .ok (0x10000 + (x - 0xd800) * 1024 + (y - 0xdc00)) l
  | 1, l => (mustIs 117 pl l).andThen fun _ l => secRest pl x 0 l
  | _ + 2, l => (mustIs 92 pl l).andThen fun _ l => secRest pl x 1 l
theorem sec_eq (pl x : Nat) (l : List UInt8) : second pl x l = secRest pl x 2 l := by simp only [second, secRest]
theorem sec_one (pl x : Nat) (l : List UInt8) : secRest pl x (0 + 1) l = (mustIs 117 pl l).andThen fun _ l => secRest pl x 0 l := by show secRest pl x 1 l = _; rw [secRest]
theorem sec_two (pl x : Nat) (l : List UInt8) : secRest pl x (1 + 1) l = (mustIs 92 pl l).andThen fun _ l => secRest pl x 1 l := by show secRest pl x 2 l = _; rw [secRest]
theorem four_lt : ∀ (n pl y : Nat) (l : List UInt8) (x : Nat) (r : List UInt8), fourN pl n y l = .ok x r → x < (y + 1) * 16 ^ n
  | 0, pl, y, l, x, r, h => by simp only [fourN, Out.ok.injEq] at h; omega
  | n + 1, pl, y, [], x, r, h => by simp [fourN] at h
  | n + 1, pl, y, c :: l, x, r, h => by
    unfold fourN at h
    split at h
    · cases h
    · rename_i v hv
      have := four_lt n pl _ _ _ _ h
      have hv16 : v < 16 := by
        have := hex_ok c
        unfold hexOk at this
        rw [hv] at this
        simp only [Bool.and_eq_true, decide_eq_true_eq] at this
        exact this.2
      calc x < (16 * y + v + 1) * 16 ^ n := this
        _ ≤ ((y + 1) * 16) * 16 ^ n := Nat.mul_le_mul_right _ (by omega)
        _ = (y + 1) * 16 ^ (n + 1) := by rw [Nat.pow_succ, Nat.mul_assoc, Nat.mul_comm 16]
/-- Two signs, as a slice of the call's own. -/
def SignsAt (w : World) (nb : Nat) : Prop := w.heap[nb]? = some (.cells #[.int .u8 92, .int .u8 117] 5 (2, 3))
theorem signs_cells {w : World} {nb : Nat} (h : SignsAt w nb) : w.cell? ⟨nb, 0, none⟩ = some (.int .u8 92) ∧ w.cell? ⟨nb, 1, none⟩ = some (.int .u8 117) := by
  constructor <;> simp [World.cell?, show w.heap[nb]? = _ from h]
section
variable {w : World} {rb : Nat} {bv : Value} {bs l : List UInt8}
/-- A reader, with what is known of where it stands, in the walk's words. -/
theorem Rdr.next {a : Option Addr} {cap : Nat} {c : UInt8} {r : List UInt8} (h : Rdr w rb (.slice a bs.length cap) bs (c :: r)) : ∃ k g off : Nat, a = some ⟨g, off, none⟩ ∧
    w.cell? ⟨rb, 0, none⟩ = some (.slice (some ⟨g, off, none⟩) bs.length cap) ∧ w.cell? ⟨rb, 1, none⟩ = some (.int .i64 (k : Int)) ∧ w.frozen? ⟨rb, 1, none⟩ = false ∧ w.cell? ⟨g, off + k, none⟩ = some (.int .u8 (c.toNat : Int)) ∧
    (((k : Nat) : Int) == ((bs.length : Nat) : Int)) = false ∧ (k : Int) < (bs.length : Int) ∧ wrap64 ((k : Int) + 1) = (k : Int) + 1 ∧ Hid (((bs.length - r.length : Nat) : Int) = (k : Int) + 1 ∧ k = bs.length - (c :: r).length ∧ k < 1000000) := by
  obtain ⟨a, cap, k, hbv, hk, hkl, c0, c1, f1⟩ := h.parts
  injection hbv with e1 _ e3
  subst e1 e3
  obtain ⟨g, off, rfl, c2⟩ := h.byte hk rfl
  have := h.len
  simp only [List.length_cons] at hkl hk
  refine ⟨k, g, off, rfl, c0, c1, f1, c2, by simp; omega, by omega, by unfold wrap64; omega, Lib.hid ⟨by omega, by simp only [List.length_cons]; omega, by omega⟩⟩
theorem Rdr.atEnd {a : Option Addr} {cap : Nat} (h : Rdr w rb (.slice a bs.length cap) bs []) : ∃ k : Nat, w.cell? ⟨rb, 0, none⟩ = some (.slice a bs.length cap) ∧ w.cell? ⟨rb, 1, none⟩ = some (.int .i64 (k : Int)) ∧
    (((k : Nat) : Int) == ((bs.length : Nat) : Int)) = true := by
  obtain ⟨a, cap, k, hbv, hk, hkl, c0, c1, f1⟩ := h.parts
  injection hbv with e1 _ e3
  subst e1 e3
  exact ⟨k, c0, c1, by simp at hkl ⊢; omega⟩
set_option maxRecDepth 100000 in
set_option maxHeartbeats 4000000 in
theorem j_escaped (h : Rdr w rb bv bs (92 :: l)) : Calls Tryz.prog 99 #[.pointer (some ⟨rb, 0, none⟩)] w (ROut rb bv bs w VRune (escaped (l.length + 1) l)) := by
  obtain ⟨RES, hres⟩ : ∃ o, o = escaped (l.length + 1) l := ⟨_, rfl⟩
  rw [← hres]
  have HRES := Lib.hid hres
  obtain ⟨a, cap, -, rfl, -⟩ := h.parts
  have HR := Lib.hid h
  obtain ⟨k, g, off, rfl, c0, c1, f1, c2, t0, t1, t2, HN⟩ := h.next
  have HP : Hid (((bs.length - (l.length + 1) : Nat) : Int) = (k : Int)) := Lib.hid (by have := HN.out.2.1; simp at this; omega)
  have kc := fun (w : World) (C : Array Value) (n c : Nat) => Lib.run_convert_bytes_const (P := Tryz.prog) w 26 5 C n c Tryz.underlying26 Tryz.underlying5
  clear hres h t0 t1 c2
  go_enter Tryz.func99, Tryz.ntmps99
  go_upto_region 3 with (fail)
  have HM := Lib.hid (HR.out.move (tailSuf HR.out.suf) HN.out.1.symm)
  obtain ⟨w1, hw1⟩ : ∃ w1, w1 = w.setCell ⟨rb, 1, none⟩ (.int .i64 ((k : Int) + 1)) := ⟨_, rfl⟩
  rw [← hw1] at HM
  have HK : Hid (Keeps (Only rb) w w1) := Lib.hid (by rw [hw1]; exact keeps_set _ _ _ _)
  rw [← hw1]
  clear hw1 c0 c1 f1 t2
  cases l with
  | nil =>
    obtain ⟨k1, c0, c1, t0⟩ := HM.out.atEnd
    go_wp2_with (fail)
    go_quiet (fail)
    go_wp2_with (fail)
    refine (j_wrong (HM.out.below (below_drewN _ _ _))).mono ?_
    rintro e w' ⟨rfl, rfl⟩
    refine leave_panic (P := Tryz.prog) (fn := Tryz.f99) rfl ?_
    rw [HRES.out]
    exact ⟨rfl, HK.out.drewN _⟩
  | cons c l =>
    obtain ⟨k1, g', off', e, c0, c1, f1, c2, t0, t1, t2, HN1⟩ := HM.out.next
    injection e with e; injection e with e1 e2 _; subst e1 e2
    obtain ⟨i, hi⟩ : ∃ i, i = Lib.indexByte marksL c := ⟨_, rfl⟩
    have HX : Hid (∀ W, Calls Tryz.prog 96 #[.string ⟨#[34, 92, 47, 98, 102, 110, 114, 116]⟩, .int .u8 (c.toNat : Int)] W fun e w' => e = .returned (.int .i64 i) ∧ w' = W) := Lib.hid fun W => by
      have := Tryz.strings_IndexByte ⟨#[34, 92, 47, 98, 102, 110, 114, 116]⟩ (c.toNat : Int) W
      rw [toByte] at this
      rw [hi]
      exact this
    have hho := mark_ok c
    unfold markOk at hho
    rw [← hi] at hho
    have HHO := Lib.hid hho
    clear hi hho
    go_wp2_with (fail)
    go_quiet (fail)
    rename Nat => n1
    go_wp2_with (fail)
    go_quiet (fail)
    go_upto_region 7 with (fail)
    have hm2 := (HM.out.below (below_drewN _ _ (n1 + nq))).move (tailSuf HM.out.suf) HN1.out.1.symm
    have hk2 := (HK.out.drewN (n1 + nq)).trans' (keeps_set _ rb 1 (.int .i64 ((k1 : Int) + 1)))
    obtain ⟨w2, hw2⟩ : ∃ w2, w2 = (w1.drewN (n1 + nq)).setCell ⟨rb, 1, none⟩ (.int .i64 ((k1 : Int) + 1)) := ⟨_, rfl⟩
    rw [← hw2] at hm2 hk2
    rw [← hw2]
    have HM2 := Lib.hid hm2
    have HK2 := Lib.hid hk2
    clear hm2 hk2 hw2 c0 c1 f1 c2 t0 t1 t2
    go_wp2_with (fail)
    refine (HX.out _).mono ?_
    rintro e w9 ⟨rfl, rfl⟩
    cases hx : markVal c with
    | some x =>
      have HE : Hid (RES = .ok x l) := Lib.hid (by rw [HRES.out]; simp [escaped, hx])
      have hcase := HHO.out
      rw [hx] at hcase
      simp only [decide_eq_true_eq] at hcase
      clear hx
      rcases hcase with ⟨rfl, rfl⟩ | ⟨rfl, rfl⟩ | ⟨rfl, rfl⟩ | ⟨rfl, rfl⟩ | ⟨rfl, rfl⟩ | ⟨rfl, rfl⟩ | ⟨rfl, rfl⟩ | ⟨rfl, rfl⟩
      all_goals
        go_wp2_with (fail)
        go_ret
        rw [HE.out]
        refine ⟨⟨_, rfl, ?_⟩, HM2.out, HK2.out⟩
        exact congrArg (Value.int .i32) (by kernel_rfl)
    | none =>
      have hi0 : i < 0 := by have := HHO.out; rw [hx] at this; simpa using this
      by_cases hc : c = 117
      · have HE : Hid (RES = (fourN (l.length + 2) 4 0 l).andThen fun x l' => if x < 0xd800 ∨ 0xe000 ≤ x then .ok x l' else if 0xdc00 ≤ x then .bad (l.length + 2) 11 else second (l.length + 2) x l') := Lib.hid (by rw [HRES.out]; unfold escaped; dsimp only; rw [hx]; dsimp only; rw [if_pos hc]; rfl)
        have h117 : ((c.toNat : Int) != 117) = false := by rw [hc]; rfl
        have HF := Lib.hid (j_four (l.length + 2) HM2.out)
        have hpp : ((bs.length - (l.length + 2) : Nat) : Int) = (k : Int) := by have := HP.out; simp only [List.length_cons] at this; exact this
        rw [hpp] at HF
        have HPP := Lib.hid hpp
        clear hx hc hpp
        go_wp2_with (fail)
        refine HF.out.mono ?_
        intro e w3 hp
        cases ho : fourN (l.length + 2) 4 0 l with
        | bad p er =>
          rw [ho] at hp
          obtain ⟨rfl, hk⟩ := hp
          refine leave_panic (P := Tryz.prog) (fn := Tryz.f99) rfl ?_
          rw [HE.out, ho]
          exact ⟨rfl, HK2.out.trans' hk⟩
        | ok x r =>
          rw [ho] at hp
          obtain ⟨⟨v, rfl, rfl⟩, hr, hk⟩ := hp
          have HM3 := Lib.hid hr
          have HK3 := Lib.hid (HK2.out.trans' hk)
          have HXL := Lib.hid (four_lt _ _ _ _ _ _ ho)
          rw [ho] at HE
          have HE3 : Hid (RES = if x < 0xd800 ∨ 0xe000 ≤ x then .ok x r else if 0xdc00 ≤ x then .bad (l.length + 2) 11 else secRest (l.length + 2) x 2 r) := Lib.hid (by have := HE.out; rw [Out.andThen_ok, sec_eq] at this; exact this)
          obtain ⟨X, hX⟩ : ∃ X : Int, X = (x : Int) := ⟨_, rfl⟩
          rw [← hX]
          have HXX := Lib.hid hX
          clear hr hk ho HE HF HX HHO h117 hi0 hX
          by_cases h1 : x < 0xd800
          · have h1i : X < 55296 := by rw [HXX.out]; omega
            have HR1 : Hid (RES = .ok x r) := Lib.hid (by rw [HE3.out, if_pos (.inl h1)])
            clear h1
            go_wp2_with (fail)
            go_ret
            rw [HR1.out]
            exact ⟨⟨_, rfl, by rw [HXX.out]; rfl⟩, HM3.out, HK3.out⟩
          · have h1i : ¬ X < 55296 := by rw [HXX.out]; omega
            by_cases h2 : 0xe000 ≤ x
            · have h2i : (57344 : Int) ≤ X := by rw [HXX.out]; omega
              have HR1 : Hid (RES = .ok x r) := Lib.hid (by rw [HE3.out, if_pos (.inr h2)])
              clear h1 h2
              go_wp2_with (fail)
              go_ret
              rw [HR1.out]
              exact ⟨⟨_, rfl, by rw [HXX.out]; rfl⟩, HM3.out, HK3.out⟩
            · have h2i : ¬ (57344 : Int) ≤ X := by rw [HXX.out]; omega
              by_cases h3 : 0xdc00 ≤ x
              · have h3i : (56320 : Int) ≤ X := by rw [HXX.out]; omega
                have HR1 : Hid (RES = .bad (l.length + 2) 11) := Lib.hid (by rw [HE3.out, if_neg (by omega), if_pos h3])
                clear h1 h2 h3
                go_wp2_with (fail)
                refine (j_fail _ _ _ _).mono ?_
                rintro e w' ⟨rfl, rfl⟩
                refine leave_panic (P := Tryz.prog) (fn := Tryz.f99) rfl ?_
                rw [HR1.out]
                exact ⟨by rw [HPP.out]; rfl, HK3.out⟩
              · have h3i : ¬ (56320 : Int) ≤ X := by rw [HXX.out]; omega
                have HR1 : Hid (RES = secRest (l.length + 2) x 2 r) := Lib.hid (by rw [HE3.out, if_neg (by omega), if_neg h3])
                have HXB : Hid (55296 ≤ x ∧ x < 56320) := Lib.hid (by omega)
                clear h1 h2 h3
                have HLT := Lib.hid HM3.out.lt
                go_wp2_with (fail)
                obtain ⟨w4, hw4⟩ : ∃ w4, w4 = w3.alloc (.cells #[.int .u8 92, .int .u8 117] 5 (2, 3)) := ⟨_, rfl⟩
                have hb4 : Below w3.heap.size w3 w4 := by rw [hw4]; exact (Below.refl _ _).alloc (Nat.le_refl _) _
                have HS4 : Hid (SignsAt w4 w3.heap.size) := Lib.hid (by rw [hw4]; exact blk_new w3 _)
                have HM4 := Lib.hid (HM3.out.below hb4)
                have HK4 : Hid (Keeps (Only rb) w w4) := Lib.hid (HK3.out.trans' ((Keeps.of_below hb4).mono fun _ _ h => h.elim))
                obtain ⟨nb, hnb⟩ : ∃ nb, nb = w3.heap.size := ⟨_, rfl⟩
                rw [← hnb] at HS4 HLT
                rw [show w3.alloc (.cells #[.int .u8 92, .int .u8 117] 5 (2, 3)) = w4 from hw4.symm, ← hnb]
                clear kc hw4 hb4 hnb HM3 HK3 HM2 HK2 HM HK HR HN HN1 HRES HE3
                go_loopw [80] (fun iv wx => ∃ (m : Nat) (l' : List UInt8), m ≤ 2 ∧ iv = .int .i64 (2 - (m : Int)) ∧ Hid (RES = secRest (l.length + 2) x m l') ∧ Hid (Rdr wx rb (.slice (some ⟨g, off, none⟩) bs.length cap) bs l') ∧ Hid (Keeps (Only rb) w wx) ∧ Hid (SignsAt wx nb)) (fun iv _ => (2 - intOf iv).toNat)
                case atStart => exact ⟨2, r, Nat.le_refl _, rfl, HR1, HM4, HK4, HS4⟩
                case round =>
                  obtain ⟨m, l', hm, rfl, HE, HM, HK, HS⟩ := hrel
                  have hm3 : m = 0 ∨ m = 1 ∨ m = 2 := by omega
                  clear hm
                  rcases hm3 with rfl | hm3
                  · have HF := Lib.hid (j_four (l.length + 2) HM.out)
                    rw [HPP.out] at HF
                    go_wp2_with (fail)
                    refine HF.out.mono ?_
                    intro e w5 hp
                    cases ho : fourN (l.length + 2) 4 0 l' with
                    | bad p er =>
                      rw [ho] at hp
                      obtain ⟨rfl, hk⟩ := hp
                      refine leave_panic (P := Tryz.prog) (fn := Tryz.f99) rfl ?_
                      rw [HE.out]
                      unfold secRest
                      rw [ho]
                      exact ⟨rfl, HK.out.trans' hk⟩
                    | ok y r5 =>
                      rw [ho] at hp
                      obtain ⟨⟨v, rfl, rfl⟩, hr, hk⟩ := hp
                      have HM5 := Lib.hid hr
                      have HK5 := Lib.hid (HK.out.trans' hk)
                      have HE5 : Hid (RES = if y < 0xdc00 ∨ 0xe000 ≤ y then .bad (l.length + 2) 11 else .ok (0x10000 + (x - 0xd800) * 1024 + (y - 0xdc00)) r5) := Lib.hid (by have := HE.out; unfold secRest at this; rw [ho] at this; exact this)
                      obtain ⟨Y, hY⟩ : ∃ Y : Int, Y = (y : Int) := ⟨_, rfl⟩
                      rw [← hY]
                      have HYY := Lib.hid hY
                      clear hr hk ho HE HF hY HM HK
                      by_cases h1 : y < 0xdc00
                      · have j1 : Y < 56320 := by rw [HYY.out]; omega
                        have HR1 : Hid (RES = .bad (l.length + 2) 11) := Lib.hid (by rw [HE5.out, if_pos (.inl h1)])
                        clear h1
                        go_wp2_with (fail)
                        refine (j_fail _ _ _ _).mono ?_
                        rintro e w' ⟨rfl, rfl⟩
                        refine leave_panic (P := Tryz.prog) (fn := Tryz.f99) rfl ?_
                        rw [HR1.out]
                        exact ⟨by rw [HPP.out]; rfl, HK5.out⟩
                      · have j1 : ¬ Y < 56320 := by rw [HYY.out]; omega
                        by_cases h2 : 0xe000 ≤ y
                        · have j2 : (57344 : Int) ≤ Y := by rw [HYY.out]; omega
                          have HR1 : Hid (RES = .bad (l.length + 2) 11) := Lib.hid (by rw [HE5.out, if_pos (.inr h2)])
                          clear h1 h2
                          go_wp2_with (fail)
                          refine (j_fail _ _ _ _).mono ?_
                          rintro e w' ⟨rfl, rfl⟩
                          refine leave_panic (P := Tryz.prog) (fn := Tryz.f99) rfl ?_
                          rw [HR1.out]
                          exact ⟨by rw [HPP.out]; rfl, HK5.out⟩
                        · have j2 : ¬ (57344 : Int) ≤ Y := by rw [HYY.out]; omega
                          have HR1 : Hid (RES = .ok (0x10000 + (x - 0xd800) * 1024 + (y - 0xdc00)) r5) := Lib.hid (by rw [HE5.out, if_neg (by omega)])
                          have HYB : Hid (56320 ≤ y ∧ y < 57344) := Lib.hid (by omega)
                          clear h1 h2
                          go_wp2_with (fail)
                          go_ret
                          rw [HR1.out]
                          refine ⟨⟨_, rfl, ?_⟩, HM5.out, HK5.out⟩
                          have hx1 := HXX.out; have hx2 := HXB.out; have hy1 := HYY.out; have hy2 := HYB.out
                          exact congrArg (Value.int .i32) (by rw [hx1, hy1]; omega)
                  · obtain ⟨q, sg, hq, hqm, hsg⟩ : ∃ (q : Nat) (sg : UInt8), m = q + 1 ∧ ((q = 0 ∧ sg = 117) ∨ (q = 1 ∧ sg = 92)) ∧ Hid (∀ l', secRest (l.length + 2) x (q + 1) l' = (mustIs sg (l.length + 2) l').andThen fun _ l2 => secRest (l.length + 2) x q l2) := by
                      rcases hm3 with rfl | rfl
                      · exact ⟨0, 117, rfl, .inl ⟨rfl, rfl⟩, Lib.hid fun _ => sec_one _ _ _⟩
                      · exact ⟨1, 92, rfl, .inr ⟨rfl, rfl⟩, Lib.hid fun _ => sec_two _ _ _⟩
                    subst hq
                    have hE2 := HE.out
                    rw [hsg.out] at hE2
                    have HE2 := Lib.hid hE2
                    obtain ⟨s0, s1⟩ := signs_cells HS.out
                    have hsc : wr.cell? ⟨nb, (2 - ((q + 1 : Nat) : Int)).toNat, none⟩ = some (.int .u8 (sg.toNat : Int)) ∧ 2 - ((q + 1 : Nat) : Int) < 2 ∧ 0 ≤ 2 - ((q + 1 : Nat) : Int) := by
                      rcases hqm with ⟨rfl, rfl⟩ | ⟨rfl, rfl⟩
                      · exact ⟨s1, by decide, by decide⟩
                      · exact ⟨s0, by decide, by decide⟩
                    obtain ⟨i80, h80⟩ : ∃ i80 : Int, i80 = 2 - ((q + 1 : Nat) : Int) := ⟨_, rfl⟩
                    rw [← h80] at hsc
                    rw [← h80]
                    obtain ⟨n80, hn80⟩ : ∃ n80 : Nat, i80 = (n80 : Int) := ⟨i80.toNat, by omega⟩
                    have H80 := Lib.hid h80
                    subst hn80
                    obtain ⟨hs2, hs3, -⟩ := hsc
                    simp only [Int.toNat_natCast] at hs2
                    have HQ := Lib.hid hqm
                    clear hm3 hE2 HE s0 s1 h80 hqm hsg
                    cases l' with
                    | nil =>
                      obtain ⟨k2, c0, c1, t0⟩ := HM.out.atEnd
                      go_wp2_with (fail)
                      go_quiet (fail)
                      go_wp2_with (fail)
                      refine (j_wrong (HM.out.below (below_drewN _ _ _))).mono ?_
                      rintro e w' ⟨rfl, rfl⟩
                      refine leave_panic (P := Tryz.prog) (fn := Tryz.f99) rfl ?_
                      rw [HE2.out]
                      exact ⟨rfl, HK.out.drewN _⟩
                    | cons d l' =>
                      obtain ⟨k2, g', off', e, c0, c1, f1, c2, t0, t1, t2, HN2⟩ := HM.out.next
                      injection e with e; injection e with e1 e2 _; subst e1 e2
                      by_cases hd : d = sg
                      · have hne : ((d.toNat : Int) != (sg.toNat : Int)) = false := by rw [hd]; simp
                        have HE3 : Hid (RES = secRest (l.length + 2) x q l') := Lib.hid (by rw [HE2.out]; simp [mustIs, hd])
                        clear hd
                        go_wp2_with (fail)
                        go_quiet (fail)
                        rename Nat => n2
                        go_wp2_with (fail)
                        go_quiet (fail)
                        go_wp2_with (fail)
                        have hkS := keeps_set (wr.drewN (n2 + nq)) rb 1 (.int .i64 ((k2 : Int) + 1))
                        refine ⟨⟨q, l', by have := HQ.out; omega, congrArg _ (by have := H80.out; omega), HE3, Lib.hid (((HM.out.below (below_drewN _ _ (n2 + nq)))).move (tailSuf HM.out.suf) HN2.out.1.symm), Lib.hid ((HK.out.drewN (n2 + nq)).trans' hkS), Lib.hid ?_⟩, ?_⟩
                        · exact hkS.obj (w := wr.drewN (n2 + nq)) HS.out (by intro e; have e : nb = rb := e; have := HLT.out; omega)
                        · simp only [intOf]; have := H80.out; omega
                      · have hne : ((d.toNat : Int) != (sg.toNat : Int)) = true := by
                          have : ¬ d.toNat = sg.toNat := fun e => hd (UInt8.toNat_inj.1 e)
                          simp; omega
                        have HE3 : Hid (RES = .bad (l.length + 2) 11) := Lib.hid (by rw [HE2.out]; simp [mustIs, hd])
                        clear hd
                        go_wp2_with (fail)
                        go_quiet (fail)
                        rename Nat => n2
                        go_wp2_with (fail)
                        go_quiet (fail)
                        go_wp2_with (fail)
                        refine (j_fail _ _ _ _).mono ?_
                        rintro e w' ⟨rfl, rfl⟩
                        refine leave_panic (P := Tryz.prog) (fn := Tryz.f99) rfl ?_
                        rw [HE3.out]
                        exact ⟨by rw [HPP.out]; rfl, (HK.out.drewN _)⟩
      · have HE : Hid (RES = .bad (l.length + 2) 11) := Lib.hid (by rw [HRES.out]; simp [escaped, hx, hc])
        have h117 : ((c.toNat : Int) != 117) = true := by
          have : ¬ c.toNat = 117 := fun e => hc (UInt8.toNat_inj.1 e)
          simp; omega
        clear hx hc
        go_wp2_with (fail)
        refine (j_fail _ _ _ _).mono ?_
        rintro e w' ⟨rfl, rfl⟩
        refine leave_panic (P := Tryz.prog) (fn := Tryz.f99) rfl ?_
        rw [HE.out]
        refine ⟨?_, HK2.out⟩
        have := HP.out
        simp only [List.length_cons] at this
        rw [← this]
        rfl
end
end Go.Proofs.YthjcolehccbihaaGreatDoor
