/- The walk of exlaw7.spread. -/
import Derived.Test.YthjcolehccbihaaGreatDoorNy
set_option linter.unusedSectionVars false
set_option linter.unusedSimpArgs false
set_option linter.unusedVariables false
namespace Go.Proofs.YthjcolehccbihaaGreatDoor
open Go.RowKit Go.Shelf
open Go.Lib (encodeRune byteCells)

theorem rd_bytes (w : World) (ys : List UInt8) (cs : Array Value) (hc : cs = (byteCells ys).toArray) (T : TypeId) : RdAt byteKind (w.alloc (.cells cs T)) (.slice (some ⟨w.heap.size, 0, none⟩) ys.length ys.length) ys := by
  refine ⟨_, _, rfl, fun j y hy => ⟨_, _, rfl, fun i hi => ?_⟩⟩
  have hi0 : i = 0 := by have : i < 1 := hi; omega
  subst hi0
  show (w.alloc (.cells cs T)).cell? ⟨w.heap.size, 0 + j * 1 + 0, none⟩ = some (.int .u8 (y.toNat : Int))
  rw [show 0 + j * 1 + 0 = j by omega, blk_cell (blk_new w _), hc, List.getElem?_toArray, byteCells_get, hy]
  rfl
/-- Bytes appended to a row of the call's own. -/
theorem push_bytes {w : World} {B : Nat} {a : Option Addr} {cap : Nat} {out : List UInt8} (h : RowAt w B (.slice a out.length cap) out) (hB : B ≤ w.heap.size) (ho : out.length ≤ 100000000) (ys : List UInt8) (hy : ys ≠ []) (hl : ys.length ≤ 100) (n : Nat) (hn : ys.length = n) (cs : Array Value) (hc : cs = (byteCells ys).toArray) :
    ∃ a' cap' w', (Builtin.append_ #[26, 26] 26 #[.slice a out.length cap, .slice (some ⟨w.heap.size, 0, none⟩) n n]).run Tryz.prog (w.alloc (.cells cs 5)) = .ok (.slice a' (out.length + n) cap') w' ∧
      Hid (RowAt w' B (.slice a' (out.length + n) cap') (out ++ ys) ∧ Keeps (fun k => B ≤ k) w w') := by
  subst hn
  have hal : Below w.heap.size w (w.alloc (.cells cs 5)) := (Below.refl _ _).alloc (Nat.le_refl _) _
  have hk : Keeps (fun k => B ≤ k) w (w.alloc (.cells cs 5)) := (Keeps.of_below hal).mono fun _ _ h => h.elim
  have hr := h.keeps (Keeps.of_below hal) (fun g _ e => e)
  obtain ⟨v', w', h1, h2, h3⟩ := run_append_row hr (by simp; omega) (rd_bytes w ys cs hc 5) hy (by omega) 26
  obtain ⟨a', cap', rfl⟩ := h2.shape
  rw [List.length_append] at h1 h2
  exact ⟨a', cap', w', h1, Lib.hid ⟨h2, hk.trans' h3⟩⟩
/-- The row, as a text that may be read. -/
theorem RowAt.bytes {w : World} {B : Nat} {v : Value} {out : List UInt8} (h : RowAt w B v out) (hl : out.length ≤ 1000000) : BytesAt w v out := by
  refine ⟨h.rd, hl, fun a n c e => ?_⟩
  rcases h.2 with ⟨h1, h0⟩ | ⟨g, cap, cur, h1, hb, hg, hn, hm, hs, ht⟩
  · rw [h1] at e
    injection e with _ _ e3
    omega
  · rw [h1] at e
    injection e with _ _ e3
    unfold maxLen at hm
    omega
/-- The text so far, the row that holds it. -/
structure SprI (w wr : World) (bv : Value) (bs : List UInt8) (v : Value) (out : List UInt8) : Prop where
  row : RowAt wr w.heap.size v out
  rd : RdAt byteKind wr bv bs
  keep : Below w.heap.size w wr
theorem SprI.push {w wr wy : World} {bv v v' : Value} {bs out out' : List UInt8} (h : SprI w wr bv bs v out) (hb : RdAt byteKind w bv bs) (hr : RowAt wy w.heap.size v' out') (hk : Keeps (fun k => w.heap.size ≤ k) wr wy) : SprI w wy bv bs v' out' := by
  have : Below w.heap.size w wy := below_keeps h.keep hk (fun i e => e) h.keep.size
  exact ⟨hr, hb.below this, this⟩
set_option maxRecDepth 100000 in
set_option maxHeartbeats 8000000 in
theorem j_spread {w : World} {a : Option Addr} {cap : Nat} {bs : List UInt8} (hb : RdAt byteKind w (.slice a bs.length cap) bs) (hl : bs.length ≤ 4000) :
    Calls Tryz.prog 16 #[.slice a bs.length cap] w fun e w' => ∃ bv, e = .returned bv ∧ Hid (BytesAt w' bv (spr 0 bs) ∧ Below w.heap.size w w') := by
  obtain ⟨S, hS⟩ : ∃ S, S = spr 0 bs := ⟨_, rfl⟩
  rw [← hS]
  have HB := Lib.hid hb
  have hl2 : (bs.length : Int) ≤ 4000 := by omega
  have HS : Hid (S.length ≤ 20000) := Lib.hid (by rw [hS]; have := (spr_len bs 0).2; omega)
  have HI0 : Hid (SprI w w (.slice a bs.length cap) bs (.slice none 0 0) []) := Lib.hid ⟨RowAt.nil _ _, hb, Below.refl _ _⟩
  have HE0 : Hid ([] ++ spr 0 (bs.drop 0) = S) := Lib.hid (by rw [hS]; rfl)
  clear hb hS hl
  go_enter Tryz.func16, Tryz.ntmps16
  go_wp2_with (fail)
  go_loopw [3, 4, 5] (fun ov nv iv wr => ∃ (i : Nat) (wn : Bool) (oa : Option Addr) (oc : Nat) (out : List UInt8), i ≤ bs.length ∧ iv = .int .i64 i ∧ nv = .bool wn ∧ ov = .slice oa out.length oc ∧ Hid (SprI w wr (.slice a bs.length cap) bs (.slice oa out.length oc) out) ∧ Hid (out ++ spr (if wn then 1 else 0) (bs.drop i) = S)) (fun _ _ iv _ => bs.length - (intOf iv).toNat)
  case atStart => exact ⟨0, false, none, 0, [], Nat.zero_le _, rfl, rfl, rfl, HI0, HE0⟩
  case round =>
    obtain ⟨i, wn, oa, oc, out, hi, rfl, rfl, rfl, HI, HE⟩ := hrel
    by_cases hlt : i < bs.length
    · obtain ⟨c, hc⟩ : ∃ c, bs[i]? = some c := ⟨_, List.getElem?_eq_getElem hlt⟩
      have hdr : bs.drop i = c :: bs.drop (i + 1) := by
        rw [List.drop_eq_getElem_cons hlt]
        have := List.getElem?_eq_getElem hlt
        rw [hc] at this
        rw [Option.some.inj this]
      obtain ⟨g, off, e1, c0⟩ := byte_cell HI.out.rd hc
      subst e1
      obtain ⟨z, hz⟩ : ∃ z : Int, z = (c.toNat : Int) := ⟨_, rfl⟩
      rw [← hz] at c0
      have j1 : (0 : Int) ≤ (i : Int) := by omega
      have j2 : (i : Int) < (bs.length : Int) := by omega
      have hol : out.length ≤ 20000 := by have h1 := HE.out; have h2 := HS.out; rw [← h1, List.length_append] at h2; omega
      have HDR := Lib.hid hdr
      have HOL := Lib.hid hol
      clear hc hdr hol
      cases wn with
      | true =>
        obtain ⟨a1, p1, w1, hrun1, HP1⟩ := push_bytes HI.out.row HI.out.keep.size (by have := HOL.out; omega) [c] (by simp) (by simp) 1 rfl #[.int .u8 z] (by rw [hz]; rfl)
        have HI1 : Hid (SprI w w1 (.slice (some ⟨g, off, none⟩) bs.length cap) bs (.slice a1 (out.length + 1) p1) (out ++ [c])) := Lib.hid (HI.out.push HB.out HP1.out.1 HP1.out.2)
        by_cases h92 : c = 92
        · have hz92 : z = 92 := by rw [hz, h92]; rfl
          subst hz92
          by_cases hnx : i + 1 < bs.length
          · have k1 : (i : Int) + 1 < (bs.length : Int) := by omega
            have k2 : decide ((i : Int) + 1 < (bs.length : Int)) = true := by simp; omega
            obtain ⟨d, hd⟩ : ∃ d, bs[i + 1]? = some d := ⟨_, List.getElem?_eq_getElem hnx⟩
            have hdr2 : bs.drop (i + 1) = d :: bs.drop (i + 1 + 1) := by
              rw [List.drop_eq_getElem_cons hnx]
              have := List.getElem?_eq_getElem hnx
              rw [hd] at this
              rw [Option.some.inj this]
            obtain ⟨g', off', e1, c1⟩ := byte_cell HI1.out.rd hd
            obtain ⟨rfl, rfl⟩ : g = g' ∧ off = off' := by simpa using e1
            obtain ⟨y, hy⟩ : ∃ y : Int, y = (d.toNat : Int) := ⟨_, rfl⟩
            rw [← hy] at c1
            obtain ⟨a2, p2, w2, hrun2, HP2⟩ := push_bytes (out := out ++ [c]) (by rw [List.length_append]; exact HI1.out.row) HI1.out.keep.size (by have := HOL.out; rw [List.length_append]; simp; omega) [d] (by simp) (by simp) 1 rfl #[.int .u8 y] (by rw [hy]; rfl)
            rw [List.length_append] at hrun2 HP2
            have HI2 : Hid (SprI w w2 (.slice (some ⟨g, off, none⟩) bs.length cap) bs (.slice a2 (out.length + 1 + 1) p2) ((out ++ [c]) ++ [d])) := Lib.hid (HI1.out.push HB.out HP2.out.1 HP2.out.2)
            have HE2 : Hid (((out ++ [c]) ++ [d]) ++ spr (if true = true then 1 else 0) (bs.drop (i + 1 + 1)) = S) := Lib.hid (by
              have := HE.out
              rw [HDR.out, hdr2, h92, if_pos rfl, spr1_back, spr2_cons] at this
              rw [← this, h92, if_pos rfl]
              simp)
            have k3 : (0 : Int) ≤ (i : Int) + 1 := by omega
            clear hz hd hdr2 hy e1 h92
            go_wp2_with (first | (at_builtin; refine wpList_append_run rfl (.tmp 18) (.tmp 20) 26 rfl _ _ rfl rfl _ _ hrun1 ?_) | (at_builtin; refine wpList_append_run rfl (.tmp 33) (.tmp 38) 26 rfl _ _ rfl rfl _ _ hrun2 ?_))
            go_roundw
            case rel => exact ⟨i + 1 + 1, true, a2, p2, (out ++ [c]) ++ [d], by omega, by go_num, rfl, by simp, by have := HI2; simpa using this, HE2⟩
            case measure => simp [intOf]; omega
          · have k1 : ¬ (i : Int) + 1 < (bs.length : Int) := by omega
            have k2 : decide ((i : Int) + 1 < (bs.length : Int)) = false := by simp; omega
            have HE1 : Hid ((out ++ [c]) ++ spr (if true = true then 1 else 0) (bs.drop (i + 1)) = S) := Lib.hid (by
              have := HE.out
              have hn : bs.drop (i + 1) = [] := List.drop_eq_nil_of_le (by omega)
              rw [HDR.out, hn, h92, if_pos rfl, spr1_back, spr_nil] at this
              rw [← this, hn, h92, if_pos rfl, spr_nil]
              simp)
            clear hz h92
            go_wp2_with (first | (at_builtin; refine wpList_append_run rfl (.tmp 18) (.tmp 20) 26 rfl _ _ rfl rfl _ _ hrun1 ?_))
            go_roundw
            case rel => exact ⟨i + 1, true, a1, p1, out ++ [c], by omega, by go_num, rfl, by simp, by have := HI1; simpa using this, HE1⟩
            case measure => simp [intOf]; omega
        · have hz92 : (z == 92) = false := by
            rw [hz]
            have : c.toNat ≠ 92 := fun e => h92 (UInt8.toNat.inj e)
            simp; omega
          by_cases h34 : c = 34
          · have hz34 : z = 34 := by rw [hz, h34]; rfl
            subst hz34
            have HE1 : Hid ((out ++ [c]) ++ spr (if false = true then 1 else 0) (bs.drop (i + 1)) = S) := Lib.hid (by
              have := HE.out
              rw [HDR.out, h34, if_pos rfl, spr1_end] at this
              rw [← this, h34, if_neg (by decide)]
              simp)
            clear hz h92 h34
            go_wp2_with (first | (at_builtin; refine wpList_append_run rfl (.tmp 18) (.tmp 20) 26 rfl _ _ rfl rfl _ _ hrun1 ?_))
            go_roundw
            case rel => exact ⟨i + 1, false, a1, p1, out ++ [c], by omega, by go_num, rfl, by simp, by have := HI1; simpa using this, HE1⟩
            case measure => simp [intOf]; omega
          · have hz34 : (z == 34) = false := by
              rw [hz]
              have : c.toNat ≠ 34 := fun e => h34 (UInt8.toNat.inj e)
              simp; omega
            have HE1 : Hid ((out ++ [c]) ++ spr (if true = true then 1 else 0) (bs.drop (i + 1)) = S) := Lib.hid (by
              have := HE.out
              rw [HDR.out, if_pos rfl, spr1_else h92 h34] at this
              rw [← this, if_pos rfl]
              simp)
            clear hz h92 h34
            go_wp2_with (first | (at_builtin; refine wpList_append_run rfl (.tmp 18) (.tmp 20) 26 rfl _ _ rfl rfl _ _ hrun1 ?_))
            go_roundw
            case rel => exact ⟨i + 1, true, a1, p1, out ++ [c], by omega, by go_num, rfl, by simp, by have := HI1; simpa using this, HE1⟩
            case measure => simp [intOf]; omega
      | false =>
        by_cases h34 : c = 34
        · obtain ⟨a1, p1, w1, hrun1, HP1⟩ := push_bytes HI.out.row HI.out.keep.size (by have := HOL.out; omega) [c] (by simp) (by simp) 1 rfl #[.int .u8 z] (by rw [hz]; rfl)
          have HI1 : Hid (SprI w w1 (.slice (some ⟨g, off, none⟩) bs.length cap) bs (.slice a1 (out.length + 1) p1) (out ++ [c])) := Lib.hid (HI.out.push HB.out HP1.out.1 HP1.out.2)
          have hz34 : z = 34 := by rw [hz, h34]; rfl
          subst hz34
          have HE1 : Hid ((out ++ [c]) ++ spr (if true = true then 1 else 0) (bs.drop (i + 1)) = S) := Lib.hid (by
            have := HE.out
            rw [HDR.out, h34, if_neg (by decide), spr0_quote] at this
            rw [← this, h34, if_pos rfl]
            simp)
          clear hz h34
          go_wp2_with (first | (at_builtin; refine wpList_append_run rfl (.tmp 49) (.tmp 51) 26 rfl _ _ rfl rfl _ _ hrun1 ?_))
          go_roundw
          case rel => exact ⟨i + 1, true, a1, p1, out ++ [c], by omega, by go_num, rfl, by simp, by have := HI1; simpa using this, HE1⟩
          case measure => simp [intOf]; omega
        have hz34 : (z == 34) = false := by
          rw [hz]
          have : c.toNat ≠ 34 := fun e => h34 (UInt8.toNat.inj e)
          simp; omega
        by_cases hm : isMark c = true
        · obtain ⟨a1, p1, w1, hrun1, HP1⟩ := push_bytes HI.out.row HI.out.keep.size (by have := HOL.out; omega) [32, 9, c, 10, 13] (by simp) (by simp) 5 rfl #[.int .u8 32, .int .u8 9, .int .u8 z, .int .u8 10, .int .u8 13] (by rw [hz]; rfl)
          have HI1 : Hid (SprI w w1 (.slice (some ⟨g, off, none⟩) bs.length cap) bs (.slice a1 (out.length + 5) p1) (out ++ [32, 9, c, 10, 13])) := Lib.hid (HI.out.push HB.out HP1.out.1 HP1.out.2)
          have HE1 : Hid ((out ++ [32, 9, c, 10, 13]) ++ spr (if false = true then 1 else 0) (bs.drop (i + 1)) = S) := Lib.hid (by
            have := HE.out
            rw [HDR.out, if_neg (by decide), spr0_mark hm] at this
            rw [← this, if_neg (by decide)]
            simp)
          have hzm : z = 123 ∨ z = 125 ∨ z = 91 ∨ z = 93 ∨ z = 44 ∨ z = 58 := by
            simp only [isMark, Bool.or_eq_true, beq_iff_eq] at hm
            rw [hz]
            rcases hm with ((((rfl | rfl) | rfl) | rfl) | rfl) | rfl <;> simp
          clear hz h34 hm hz34
          rcases hzm with rfl | rfl | rfl | rfl | rfl | rfl
          all_goals
            go_wp2_with (first | (at_builtin; refine wpList_append_run rfl (.tmp 60) (.tmp 62) 26 rfl _ _ rfl rfl _ _ hrun1 ?_))
            go_roundw
            case rel => exact ⟨i + 1, false, a1, p1, out ++ [32, 9, c, 10, 13], by omega, by go_num, rfl, by simp, by have := HI1; simpa using this, HE1⟩
            case measure => simp [intOf]; omega
        · obtain ⟨a1, p1, w1, hrun1, HP1⟩ := push_bytes HI.out.row HI.out.keep.size (by have := HOL.out; omega) [c] (by simp) (by simp) 1 rfl #[.int .u8 z] (by rw [hz]; rfl)
          have HI1 : Hid (SprI w w1 (.slice (some ⟨g, off, none⟩) bs.length cap) bs (.slice a1 (out.length + 1) p1) (out ++ [c])) := Lib.hid (HI.out.push HB.out HP1.out.1 HP1.out.2)
          have HE1 : Hid ((out ++ [c]) ++ spr (if false = true then 1 else 0) (bs.drop (i + 1)) = S) := Lib.hid (by
            have := HE.out
            rw [HDR.out, if_neg (by decide), spr0_else h34 (by simpa using hm)] at this
            rw [← this, if_neg (by decide)]
            simp)
          have key : ∀ n : Nat, n < 256 → isMark (UInt8.ofNat n) = true → (z == (n : Int)) = false := fun n hn hmn => by
            have : c.toNat ≠ n := fun e => hm (by rw [← e] at hmn; simpa using hmn)
            rw [hz]
            simp; omega
          have m1 : (z == 123) = false := key 123 (by decide) (by decide)
          have m2 : (z == 125) = false := key 125 (by decide) (by decide)
          have m3 : (z == 91) = false := key 91 (by decide) (by decide)
          have m4 : (z == 93) = false := key 93 (by decide) (by decide)
          have m5 : (z == 44) = false := key 44 (by decide) (by decide)
          have m6 : (z == 58) = false := key 58 (by decide) (by decide)
          clear hz h34 hm key
          go_wp2_with (first | (at_builtin; refine wpList_append_run rfl (.tmp 43) (.tmp 45) 26 rfl _ _ rfl rfl _ _ hrun1 ?_))
          go_roundw
          case rel => exact ⟨i + 1, false, a1, p1, out ++ [c], by omega, by go_num, rfl, by simp, by have := HI1; simpa using this, HE1⟩
          case measure => simp [intOf]; omega
    · have j2 : ¬ (i : Int) < (bs.length : Int) := by omega
      have hfin : out = S := by
        have := HE.out
        rw [List.drop_eq_nil_of_le (by omega), spr_nil, List.append_nil] at this
        exact this
      have HF : Hid (BytesAt wr (.slice oa out.length oc) S ∧ Below w.heap.size w wr) := Lib.hid ⟨by rw [← hfin]; exact HI.out.row.bytes (by rw [hfin]; have := HS.out; omega), HI.out.keep⟩
      clear hfin
      go_wp2_with (fail)
      go_ret
      exact ⟨_, rfl, HF⟩
end Go.Proofs.YthjcolehccbihaaGreatDoor
