/- The walk of exlaw7.spread. -/
import Derived.Test.YthjcolehccbihaaGreatDoorz40
import Derived.Test.YthjcolehccbihaaGreatDoorz43
import Derived.Test.YthjcolehccbihaaGreatDoorz30
import Derived.Test.YthjcolehccbihaaGreatDoorz26
set_option linter.unusedSectionVars false
set_option linter.unusedSimpArgs false
set_option linter.unusedVariables false
namespace Go.Proofs.YthjcolehccbihaaGreatDoor
open Go.RowKit Go.Shelf
open Go.Lib (encodeRune byteCells)
theorem rd_bytes (w : World) (ys : List UInt8) (cs : Array Value) (hc : cs = (byteCells ys).toArray) (T : TypeId) : RdAt byteKind (w.alloc (.cells cs T)) (.slice (some ⟨w.heap.size, 0, none⟩) ys.length ys.length) ys := by
  refine ⟨_, _, rfl, fun j y hy => ⟨_, _, rfl, fun i hi => ?_⟩⟩
  have hi0 : i = 0 := by have : i < 1 := hi; omega
  subst hi0
  show (w.alloc (.cells cs T)).cell? ⟨w.heap.size, 0 + j * 1 + 0, none⟩ = some (.int .u8 (y.toNat : Int))
  rw [show 0 + j * 1 + 0 = j by omega, blk_cell (blk_new w _), hc, List.getElem?_toArray, byteCells_get, hy]
  rfl
/-- Bytes appended to a row of the call's own. -/
theorem push_bytes {w : World} {B : Nat} {a : Option Addr} {cap : Nat} {out : List UInt8} (h : RowAt w B (.slice a out.length cap) out) (hB : B ≤ w.heap.size) (ho : out.length ≤ 100000000) (ys : List UInt8) (hy : ys ≠ []) (hl : ys.length ≤ 100) (n : Nat) (hn : ys.length = n) (cs : Array Value) (hc : cs = (byteCells ys).toArray) :
    ∃ a' cap' w', (Builtin.append_ #[26, 26] 26 #[.slice a out.length cap, .slice (some ⟨w.heap.size, 0, none⟩) n n]).run Tryz.prog (w.alloc (.cells cs 5)) = .ok (.slice a' (out.length + n) cap') w' ∧
      Hid (RowAt w' B (.slice a' (out.length + n) cap') (out ++ ys) ∧ Keeps (fun k => B ≤ k) w w') := by
  subst hn
  have hal : Below w.heap.size w (w.alloc (.cells cs 5)) := (Below.refl _ _).alloc (Nat.le_refl _) _
  have hk : Keeps (fun k => B ≤ k) w (w.alloc (.cells cs 5)) := (Keeps.of_below hal).mono fun _ _ h => h.elim
  have hr := h.keeps (Keeps.of_below hal) (fun g _ e => e)
  obtain ⟨v', w', h1, h2, h3⟩ := run_append_row hr (by simp; omega) (rd_bytes w ys cs hc 5) hy (by omega) 26
  obtain ⟨a', cap', rfl⟩ := h2.shape
  rw [List.length_append] at h1 h2
  exact ⟨a', cap', w', h1, Lib.hid ⟨h2, hk.trans' h3⟩⟩
/-- The row, as a text that may be read. -/
theorem RowAt.bytes {w : World} {B : Nat} {v : Value} {out : List UInt8} (h : RowAt w B v out) (hl : out.length ≤ 1000000) : BytesAt w v out := by
  refine ⟨h.rd, hl, fun a n c e => ?_⟩
  rcases h.2 with ⟨h1, h0⟩ | ⟨g, cap, cur, h1, hb, hg, hn, hm, hs, ht⟩
  · rw [h1] at e
    injection e with _ _ e3
    omega
  · rw [h1] at e
    injection e with _ _ e3
    unfold maxLen at hm
    omega
/-- The text so far, the row that holds it. -/
structure SprI (w wr : World) (bv : Value) (bs : List UInt8) (v : Value) (out : List UInt8) : Prop where
  row : RowAt wr w.heap.size v out
  rd : RdAt byteKind wr bv bs
  keep : Below w.heap.size w wr
theorem SprI.push {w wr wy : World} {bv v v' : Value} {bs out out' : List UInt8} (h : SprI w wr bv bs v out) (hb : RdAt byteKind w bv bs) (hr : RowAt wy w.heap.size v' out') (hk : Keeps (fun k => w.heap.size ≤ k) wr wy) : SprI w wy bv bs v' out' := by
  have : Below w.heap.size w wy := below_keeps h.keep hk (fun i e => e) h.keep.size
  exact ⟨hr, hb.below this, this⟩
end Go.Proofs.YthjcolehccbihaaGreatDoor
set_option linter.unusedSectionVars false
set_option linter.unusedSimpArgs false
set_option linter.unusedVariables false
namespace Go.Proofs.YthjcolehccbihaaGreatDoor
open Go.RowKit Go.Shelf
open Go.Lib (byteCells)
theorem row_one (w : World) (x : UInt8) : RowAt (w.alloc (.cells #[.int .u8 (x.toNat : Int)] 5)) w.heap.size (.slice (some ⟨w.heap.size, 0, none⟩) 1 1) [x] :=
  ⟨rfl, .inr ⟨w.heap.size, 1, _, rfl, Nat.le_refl _, blk_new w _, Nat.le_refl _, by decide, rfl, rfl⟩⟩
def hexes16 : ByteArray := ⟨#[48, 49, 50, 51, 52, 53, 54, 55, 56, 57, 97, 98, 99, 100, 101, 102]⟩
theorem hex_key : ∀ k : Fin 16, hexes16[k.val]'(k.isLt) = hexChar k.val := by decide
theorem hex_ix (i : Int) (n : Nat) (hi : i = (n : Int)) (hn : n < 16) (h : i.toNat < hexes16.size) : hexes16[i.toNat]'h = hexChar n := by
  subst hi
  exact hex_key ⟨n, hn⟩
section
variable {w : World}
/-- The row so far. -/
structure QtI (w wr : World) (v : Value) (out : List UInt8) : Prop where
  row : RowAt wr w.heap.size v out
  keep : Below w.heap.size w wr
theorem QtI.next {wr wy : World} {v v' : Value} {out out' : List UInt8} (h : QtI w wr v out) (hr : RowAt wy w.heap.size v' out') (hk : Keeps (fun k => w.heap.size ≤ k) wr wy) : QtI w wy v' out' :=
  ⟨hr, below_keeps h.keep hk (fun i e => e) h.keep.size⟩
set_option maxRecDepth 100000 in
set_option maxHeartbeats 8000000 in
theorem k_quote (s : ByteArray) (hs : s.size ≤ 1000000) : Calls Tryz.prog 29 #[.string s] w fun e w' => e = .returned (.string (str (quote (raw s)))) ∧ Below w.heap.size w w' := by
  have hsI : (s.size : Int) ≤ 1000000 := by omega
  have HS := Lib.hid hs
  obtain ⟨w0, hw0⟩ : ∃ w0, w0 = w.alloc (.cells #[.int .u8 34] 5) := ⟨_, rfl⟩
  have HI0 : Hid (QtI w w0 (.slice (some ⟨w.heap.size, 0, none⟩) ([34] : List UInt8).length 1) [34]) := Lib.hid ⟨by rw [hw0]; exact row_one w 34, by rw [hw0]; exact (Below.refl _ _).alloc (Nat.le_refl _) _⟩
  have HW0 := Lib.hid hw0.symm
  obtain ⟨Q, hQ⟩ : ∃ Q, Q = quote (raw s) := ⟨_, rfl⟩
  rw [← hQ]
  have HQ := Lib.hid hQ
  clear hs hw0 hQ
  go_enter Tryz.func29, Tryz.ntmps29
  go_upto_region 3 with (fail)
  rw [HW0.out]
  clear HW0
  go_wp2_with (fail)
  go_loopw [4, 5, 6] (fun ov iv _ wr => ∃ (i : Nat) (oa : Option Addr) (oc : Nat) (out : List UInt8), i ≤ s.size ∧ iv = .int .i64 (i : Int) ∧ ov = .slice oa out.length oc ∧ Hid (QtI w wr (.slice oa out.length oc) out) ∧ Hid (out = 34 :: ((raw s).take i).flatMap quoteByte)) (fun _ iv _ _ => s.size - (intOf iv).toNat)
  case atStart => exact ⟨0, _, 1, [34], Nat.zero_le _, rfl, rfl, HI0, Lib.hid rfl⟩
  case round =>
    obtain ⟨i, oa, oc, out, hi, rfl, rfl, HI, HO⟩ := hrel
    have HOL : Hid (out.length ≤ 7000000) := Lib.hid (by
      have h1 := quote_room ((raw s).take i)
      have h2 : ((raw s).take i).length ≤ s.size := by rw [List.length_take]; exact Nat.min_le_right _ _
      have := HS.out
      rw [HO.out, List.length_cons]
      omega)
    by_cases hlt : i < s.size
    · have k1 : (i : Int) < (s.size : Int) := by omega
      have k0 : (0 : Int) ≤ (i : Int) := by omega
      obtain ⟨c, hc⟩ : ∃ c, (raw s)[i]? = some c := ⟨_, List.getElem?_eq_getElem (by rw [raw_size]; exact hlt)⟩
      have hg := raw_get hc hlt
      have HNX : Hid (out ++ quoteByte c = 34 :: ((raw s).take (i + 1)).flatMap quoteByte) := Lib.hid (by
        rw [HO.out, List.take_add_one, hc, List.flatMap_append]
        simp)
      have HLT := Lib.hid hlt
      obtain ⟨z, hz⟩ : ∃ z : Int, z = (c.toNat : Int) := ⟨_, rfl⟩
      have hz0 : (0 : Int) ≤ z := by omega
      have hz2 : z < 256 := by have := c.toNat_lt; omega
      have HZ := Lib.hid hz
      go_upto_region 8 with (fail)
      rw [← hz]
      clear hc hg
      have HHZ := Lib.hid (And.intro hz0 hz2)
      by_cases h34 : c = 34 ∨ c = 92
      · have HQB : Hid (quoteByte c = [92, c]) := Lib.hid (by unfold quoteByte; rw [if_pos h34])
        obtain ⟨a1, p1, w1, hrun1, HP1⟩ := push_bytes HI.out.row HI.out.keep.size (by have := HOL.out; omega) [92, c] (by simp) (by simp) 2 rfl #[.int .u8 92, .int .u8 z] (by rw [hz]; rfl)
        have HI1 : Hid (QtI w w1 (.slice a1 (out.length + 2) p1) (out ++ quoteByte c)) := Lib.hid (by rw [HQB.out]; exact HI.out.next HP1.out.1 HP1.out.2)
        have hlen : Hid ((out ++ quoteByte c).length = out.length + 2) := Lib.hid (by rw [HQB.out]; simp)
        rcases h34 with h | h
        · have t1 : (z == 34) = true := by rw [hz, h]; rfl
          clear hz h HZ hz0 hz2
          go_wp2_with (first | (at_builtin; refine wpList_append_run rfl (.tmp 28) (.tmp 30) 26 rfl _ _ rfl rfl _ _ hrun1 ?_))
          go_roundw
          case rel => exact ⟨i + 1, a1, p1, out ++ quoteByte c, HLT.out, by go_num, by rw [hlen.out], by rw [hlen.out]; exact HI1, HNX⟩
          case measure => have := HLT.out; simp [intOf]; omega
        · have t1 : (z == 34) = false := by rw [hz, h]; rfl
          have t2 : (z == 92) = true := by rw [hz, h]; rfl
          clear hz h HZ hz0 hz2
          go_wp2_with (first | (at_builtin; refine wpList_append_run rfl (.tmp 28) (.tmp 30) 26 rfl _ _ rfl rfl _ _ hrun1 ?_))
          go_roundw
          case rel => exact ⟨i + 1, a1, p1, out ++ quoteByte c, HLT.out, by go_num, by rw [hlen.out], by rw [hlen.out]; exact HI1, HNX⟩
          case measure => have := HLT.out; simp [intOf]; omega
      · have t1 : (z == 34) = false := by
          have : c.toNat ≠ 34 := fun e => h34 (.inl (UInt8.toNat_inj.1 e))
          rw [hz]; simp; omega
        have t2 : (z == 92) = false := by
          have : c.toNat ≠ 92 := fun e => h34 (.inr (UInt8.toNat_inj.1 e))
          rw [hz]; simp; omega
        by_cases h32 : c < 32 ∨ c = 127
        · have HQB : Hid (quoteByte c = [92, 117, 48, 48, hexChar (c.toNat / 16), hexChar (c.toNat % 16)]) := Lib.hid (by unfold quoteByte; rw [if_neg h34, if_pos h32])
          obtain ⟨A, hA⟩ : ∃ A : Int, A = ((hexChar (c.toNat / 16)).toNat : Int) := ⟨_, rfl⟩
          obtain ⟨D, hD⟩ : ∃ D : Int, D = ((hexChar (c.toNat % 16)).toNat : Int) := ⟨_, rfl⟩
          obtain ⟨a1, p1, w1, hrun1, HP1⟩ := push_bytes (w := wr.drew) (HI.out.row.keeps (S := fun _ => False) (Keeps.of_below ((Below.refl _ _).drew)) (fun _ _ h => h)) (by have := HI.out.keep.size; exact this) (by have := HOL.out; omega) [92, 117, 48, 48, hexChar (c.toNat / 16), hexChar (c.toNat % 16)] (by simp) (by simp) 6 rfl #[.int .u8 92, .int .u8 117, .int .u8 48, .int .u8 48, .int .u8 A, .int .u8 D] (by rw [hA, hD]; rfl)
          obtain ⟨V, hV⟩ : ∃ V, V = wr.drew := ⟨_, rfl⟩
          rw [← hV] at hrun1 HP1
          have HVV := Lib.hid hV.symm
          have hkV : Keeps (fun k => w.heap.size ≤ k) wr V := by rw [hV]; exact (Keeps.of_below ((Below.refl wr.heap.size wr).drew)).mono fun _ _ h => h.elim
          have HI1 : Hid (Hid (QtI w w1 (.slice a1 (out.length + 6) p1) (out ++ quoteByte c))) := Lib.hid (Lib.hid (by rw [HQB.out]; exact HI.out.next HP1.out.1 (hkV.trans' HP1.out.2)))
          have hlen : Hid ((out ++ quoteByte c).length = out.length + 6) := Lib.hid (by rw [HQB.out]; simp)
          have HAD := Lib.hid (And.intro hA hD)
          have q1 : (0 : Int) ≤ z / 16 := by omega
          have q2 : z / 16 < 16 := by omega
          have q3 : (0 : Int) ≤ z % 16 := by omega
          have q4 : z % 16 < 16 := by omega
          have hw1 := IntWalk.u8_quo z 16 ⟨hz0, by omega, by decide⟩
          have hw2 : z.tmod 16 = z % 16 := Int.tmod_eq_emod_of_nonneg hz0
          have HN1 : Hid (z / 16 = ((c.toNat / 16 : Nat) : Int) ∧ z % 16 = ((c.toNat % 16 : Nat) : Int) ∧ c.toNat / 16 < 16 ∧ c.toNat % 16 < 16) := Lib.hid (by have := c.toNat_lt; omega)
          rcases h32 with h | h
          · have t3 : decide (z < 32) = true := by
              have := UInt8.lt_iff_toNat_lt.1 h
              have e : (32 : UInt8).toNat = 32 := rfl
              rw [hz]; simp; omega
            clear hz h h34 HZ hV hA hD
            go_upto_region 11 with (fail)
            refine wp_region_B (T := fun _ => True) (B := fun _ => true) (by kernel_rfl) ?_
            rw [HVV.out]
            refine wpAnyB_take (i := 0) (v := ?nv0) rfl (by kernel_rfl) (by kernel_rfl) (by kernel_rfl) (fun _ _ _ h => h) (Or.inl ⟨by rfl, ?ny0⟩) ?ns0
            case ny0 => (intro w; go_simp) <;> with_reducible rfl
            try simp only [Act.put, List.setIfInBounds_toArray, List.set_cons_zero, List.set_cons_succ]
            refine wpAnyB_take (i := 1) (v := ?nv1) rfl (by kernel_rfl) (by kernel_rfl) (by kernel_rfl) (fun _ _ _ h => h) (Or.inl ⟨by rfl, ?ny1⟩) ?ns1
            case ny1 => (intro w; go_simp) <;> with_reducible rfl
            try simp only [Act.put, List.setIfInBounds_toArray, List.set_cons_zero, List.set_cons_succ]
            refine wpAnyB_take (i := 2) (v := ?nv2) rfl (by kernel_rfl) (by kernel_rfl) (by kernel_rfl) (fun _ _ _ h => h) (Or.inl ⟨by rfl, ?ny2⟩) ?ns2
            case ny2 => (intro w; go_simp) <;> with_reducible rfl
            try simp only [Act.put, List.setIfInBounds_toArray, List.set_cons_zero, List.set_cons_succ]
            refine wpAnyB_take (i := 3) (v := ?nv3) rfl (by kernel_rfl) (by kernel_rfl) (by kernel_rfl) (fun _ _ _ h => h) (Or.inl ⟨by rfl, ?ny3⟩) ?ns3
            case ny3 => (intro w; go_simp) <;> with_reducible rfl
            try simp only [Act.put, List.setIfInBounds_toArray, List.set_cons_zero, List.set_cons_succ]
            refine wpAnyB_take (i := 4) (v := .int .u8 A) rfl (by kernel_rfl) (by kernel_rfl) (by kernel_rfl) (fun _ _ _ h => h) (Or.inl ⟨by rfl, ?ny4⟩) ?ns4
            case ny4 =>
              intro w
              go_simp
              rw [HAD.out.1]
              exact congrArg (fun x : UInt8 => (x.toNat : Int)) (hex_ix (z / 16) (c.toNat / 16) HN1.out.1 HN1.out.2.2.1 (by show _ < 16; omega))
            try simp only [Act.put, List.setIfInBounds_toArray, List.set_cons_zero, List.set_cons_succ]
            refine wpAnyB_take (i := 5) (v := ?nv5) rfl (by kernel_rfl) (by kernel_rfl) (by kernel_rfl) (fun _ _ _ h => h) (Or.inl ⟨by rfl, ?ny5⟩) ?ns5
            case ny5 => (intro w; go_simp) <;> with_reducible rfl
            try simp only [Act.put, List.setIfInBounds_toArray, List.set_cons_zero, List.set_cons_succ]
            refine wpAnyB_take (i := 6) (v := ?nv6) rfl (by kernel_rfl) (by kernel_rfl) (by kernel_rfl) (fun _ _ _ h => h) (Or.inl ⟨by rfl, ?ny6⟩) ?ns6
            case ny6 => (intro w; go_simp) <;> with_reducible rfl
            try simp only [Act.put, List.setIfInBounds_toArray, List.set_cons_zero, List.set_cons_succ]
            refine wpAnyB_take (i := 7) (v := ?nv7) rfl (by kernel_rfl) (by kernel_rfl) (by kernel_rfl) (fun _ _ _ h => h) (Or.inl ⟨by rfl, ?ny7⟩) ?ns7
            case ny7 => (intro w; go_simp) <;> with_reducible rfl
            try simp only [Act.put, List.setIfInBounds_toArray, List.set_cons_zero, List.set_cons_succ]
            refine wpAnyB_take (i := 8) (v := .int .u8 D) rfl (by kernel_rfl) (by kernel_rfl) (by kernel_rfl) (fun _ _ _ h => h) (Or.inl ⟨by rfl, ?ny8⟩) ?ns8
            case ny8 =>
              intro w
              go_simp
              rw [HAD.out.2]
              exact congrArg (fun x : UInt8 => (x.toNat : Int)) (hex_ix (z % 16) (c.toNat % 16) HN1.out.2.1 HN1.out.2.2.2 (by show _ < 16; omega))
            try simp only [Act.put, List.setIfInBounds_toArray, List.set_cons_zero, List.set_cons_succ]
            refine wpAnyB_ready (rs := [9]) (by kernel_rfl) (by simp) ?_
            refine AllReadyB.cons (o := { dst := some 48, op := Op.buildSlice 26 6 #[(0, Operand.const (Value.int IntKind.u8 92)), (1, Operand.const (Value.int IntKind.u8 117)), (2, Operand.const (Value.int IntKind.u8 48)), (3, Operand.const (Value.int IntKind.u8 48)), (4, Operand.tmp 43), (5, Operand.tmp 47)], type := 26, pos := "json.go:411", after := #[{ on := 4, ground := Ground.data }, { on := 8, ground := Ground.data }], guard := none }) rfl (fun K hK => ?_) AllReadyB.nil
            go_simp
            refine hK.out _ _ (fun _ h => h) ?_
            clear hK K
            try simp only [Act.put, List.setIfInBounds_toArray, List.set_cons_zero, List.set_cons_succ]
            refine wpAnyB_ready (rs := [10]) (by kernel_rfl) (by simp) ?_
            refine AllReadyB.cons (o := { dst := some 49, op := Op.call { callee := Callee.builtin Builtin.append, args := #[Operand.tmp 39, Operand.tmp 48], argTypes := #[26, 26] }, type := 26, pos := "json.go:411", after := #[{ on := 0, ground := Ground.data }, { on := 9, ground := Ground.data }], guard := none }) rfl (fun K hK => ?_) AllReadyB.nil
            refine step_append_run rfl (.tmp 39) (.tmp 48) 26 rfl _ _ rfl rfl _ _ hrun1 ?_
            refine hK.out _ _ (fun _ h => h) ?_
            clear hK K
            try simp only [Act.put, List.setIfInBounds_toArray, List.set_cons_zero, List.set_cons_succ]
            refine wpAnyB_take (i := 11) (v := ?nv11) rfl (by kernel_rfl) (by kernel_rfl) (by kernel_rfl) (fun _ _ _ h => h) (Or.inl ⟨by rfl, ?ny11⟩) ?ns11
            case ny11 => (intro w; go_simp) <;> with_reducible rfl
            try simp only [Act.put, List.setIfInBounds_toArray, List.set_cons_zero, List.set_cons_succ]
            refine wpAnyB_done (by kernel_rfl) ?_ _
            go_wp2_with (fail)
            go_roundw
            case rel => exact ⟨i + 1, a1, p1, out ++ quoteByte c, HLT.out, by go_num, by rw [hlen.out], by rw [hlen.out]; exact HI1.out, HNX⟩
            case measure => have := HLT.out; simp [intOf]; omega
          · have t3 : decide (z < 32) = false := by rw [hz, h]; rfl
            have t4 : (z == 127) = true := by rw [hz, h]; rfl
            clear hz h h34 HZ hV hA hD
            go_upto_region 11 with (fail)
            refine wp_region_B (T := fun _ => True) (B := fun _ => true) (by kernel_rfl) ?_
            rw [HVV.out]
            refine wpAnyB_take (i := 0) (v := ?mv0) rfl (by kernel_rfl) (by kernel_rfl) (by kernel_rfl) (fun _ _ _ h => h) (Or.inl ⟨by rfl, ?my0⟩) ?ms0
            case my0 => (intro w; go_simp) <;> with_reducible rfl
            try simp only [Act.put, List.setIfInBounds_toArray, List.set_cons_zero, List.set_cons_succ]
            refine wpAnyB_take (i := 1) (v := ?mv1) rfl (by kernel_rfl) (by kernel_rfl) (by kernel_rfl) (fun _ _ _ h => h) (Or.inl ⟨by rfl, ?my1⟩) ?ms1
            case my1 => (intro w; go_simp) <;> with_reducible rfl
            try simp only [Act.put, List.setIfInBounds_toArray, List.set_cons_zero, List.set_cons_succ]
            refine wpAnyB_take (i := 2) (v := ?mv2) rfl (by kernel_rfl) (by kernel_rfl) (by kernel_rfl) (fun _ _ _ h => h) (Or.inl ⟨by rfl, ?my2⟩) ?ms2
            case my2 => (intro w; go_simp) <;> with_reducible rfl
            try simp only [Act.put, List.setIfInBounds_toArray, List.set_cons_zero, List.set_cons_succ]
            refine wpAnyB_take (i := 3) (v := ?mv3) rfl (by kernel_rfl) (by kernel_rfl) (by kernel_rfl) (fun _ _ _ h => h) (Or.inl ⟨by rfl, ?my3⟩) ?ms3
            case my3 => (intro w; go_simp) <;> with_reducible rfl
            try simp only [Act.put, List.setIfInBounds_toArray, List.set_cons_zero, List.set_cons_succ]
            refine wpAnyB_take (i := 4) (v := .int .u8 A) rfl (by kernel_rfl) (by kernel_rfl) (by kernel_rfl) (fun _ _ _ h => h) (Or.inl ⟨by rfl, ?my4⟩) ?ms4
            case my4 =>
              intro w
              go_simp
              rw [HAD.out.1]
              exact congrArg (fun x : UInt8 => (x.toNat : Int)) (hex_ix (z / 16) (c.toNat / 16) HN1.out.1 HN1.out.2.2.1 (by show _ < 16; omega))
            try simp only [Act.put, List.setIfInBounds_toArray, List.set_cons_zero, List.set_cons_succ]
            refine wpAnyB_take (i := 5) (v := ?mv5) rfl (by kernel_rfl) (by kernel_rfl) (by kernel_rfl) (fun _ _ _ h => h) (Or.inl ⟨by rfl, ?my5⟩) ?ms5
            case my5 => (intro w; go_simp) <;> with_reducible rfl
            try simp only [Act.put, List.setIfInBounds_toArray, List.set_cons_zero, List.set_cons_succ]
            refine wpAnyB_take (i := 6) (v := ?mv6) rfl (by kernel_rfl) (by kernel_rfl) (by kernel_rfl) (fun _ _ _ h => h) (Or.inl ⟨by rfl, ?my6⟩) ?ms6
            case my6 => (intro w; go_simp) <;> with_reducible rfl
            try simp only [Act.put, List.setIfInBounds_toArray, List.set_cons_zero, List.set_cons_succ]
            refine wpAnyB_take (i := 7) (v := ?mv7) rfl (by kernel_rfl) (by kernel_rfl) (by kernel_rfl) (fun _ _ _ h => h) (Or.inl ⟨by rfl, ?my7⟩) ?ms7
            case my7 => (intro w; go_simp) <;> with_reducible rfl
            try simp only [Act.put, List.setIfInBounds_toArray, List.set_cons_zero, List.set_cons_succ]
            refine wpAnyB_take (i := 8) (v := .int .u8 D) rfl (by kernel_rfl) (by kernel_rfl) (by kernel_rfl) (fun _ _ _ h => h) (Or.inl ⟨by rfl, ?my8⟩) ?ms8
            case my8 =>
              intro w
              go_simp
              rw [HAD.out.2]
              exact congrArg (fun x : UInt8 => (x.toNat : Int)) (hex_ix (z % 16) (c.toNat % 16) HN1.out.2.1 HN1.out.2.2.2 (by show _ < 16; omega))
            try simp only [Act.put, List.setIfInBounds_toArray, List.set_cons_zero, List.set_cons_succ]
            refine wpAnyB_ready (rs := [9]) (by kernel_rfl) (by simp) ?_
            refine AllReadyB.cons (o := { dst := some 48, op := Op.buildSlice 26 6 #[(0, Operand.const (Value.int IntKind.u8 92)), (1, Operand.const (Value.int IntKind.u8 117)), (2, Operand.const (Value.int IntKind.u8 48)), (3, Operand.const (Value.int IntKind.u8 48)), (4, Operand.tmp 43), (5, Operand.tmp 47)], type := 26, pos := "json.go:411", after := #[{ on := 4, ground := Ground.data }, { on := 8, ground := Ground.data }], guard := none }) rfl (fun K hK => ?_) AllReadyB.nil
            go_simp
            refine hK.out _ _ (fun _ h => h) ?_
            clear hK K
            try simp only [Act.put, List.setIfInBounds_toArray, List.set_cons_zero, List.set_cons_succ]
            refine wpAnyB_ready (rs := [10]) (by kernel_rfl) (by simp) ?_
            refine AllReadyB.cons (o := { dst := some 49, op := Op.call { callee := Callee.builtin Builtin.append, args := #[Operand.tmp 39, Operand.tmp 48], argTypes := #[26, 26] }, type := 26, pos := "json.go:411", after := #[{ on := 0, ground := Ground.data }, { on := 9, ground := Ground.data }], guard := none }) rfl (fun K hK => ?_) AllReadyB.nil
            refine step_append_run rfl (.tmp 39) (.tmp 48) 26 rfl _ _ rfl rfl _ _ hrun1 ?_
            refine hK.out _ _ (fun _ h => h) ?_
            clear hK K
            try simp only [Act.put, List.setIfInBounds_toArray, List.set_cons_zero, List.set_cons_succ]
            refine wpAnyB_take (i := 11) (v := ?mv11) rfl (by kernel_rfl) (by kernel_rfl) (by kernel_rfl) (fun _ _ _ h => h) (Or.inl ⟨by rfl, ?my11⟩) ?ms11
            case my11 => (intro w; go_simp) <;> with_reducible rfl
            try simp only [Act.put, List.setIfInBounds_toArray, List.set_cons_zero, List.set_cons_succ]
            refine wpAnyB_done (by kernel_rfl) ?_ _
            go_wp2_with (fail)
            go_roundw
            case rel => exact ⟨i + 1, a1, p1, out ++ quoteByte c, HLT.out, by go_num, by rw [hlen.out], by rw [hlen.out]; exact HI1.out, HNX⟩
            case measure => have := HLT.out; simp [intOf]; omega
        · have HQB : Hid (quoteByte c = [c]) := Lib.hid (by unfold quoteByte; rw [if_neg h34, if_neg h32])
          have t3 : decide (z < 32) = false := by
            have : ¬ c.toNat < 32 := fun e => h32 (.inl (UInt8.lt_iff_toNat_lt.2 e))
            rw [hz]; simp; omega
          have t4 : (z == 127) = false := by
            have : c.toNat ≠ 127 := fun e => h32 (.inr (UInt8.toNat_inj.1 e))
            rw [hz]; simp; omega
          obtain ⟨a1, p1, w1, hrun1, HP1⟩ := push_bytes HI.out.row HI.out.keep.size (by have := HOL.out; omega) [c] (by simp) (by simp) 1 rfl #[.int .u8 z] (by rw [hz]; rfl)
          have HI1 : Hid (QtI w w1 (.slice a1 (out.length + 1) p1) (out ++ quoteByte c)) := Lib.hid (by rw [HQB.out]; exact HI.out.next HP1.out.1 HP1.out.2)
          have hlen : Hid ((out ++ quoteByte c).length = out.length + 1) := Lib.hid (by rw [HQB.out]; simp)
          clear hz h34 h32 HZ hz0 hz2
          go_wp2_with (first | (at_builtin; refine wpList_append_run rfl (.tmp 17) (.tmp 19) 26 rfl _ _ rfl rfl _ _ hrun1 ?_))
          go_roundw
          case rel => exact ⟨i + 1, a1, p1, out ++ quoteByte c, HLT.out, by go_num, by rw [hlen.out], by rw [hlen.out]; exact HI1, HNX⟩
          case measure => have := HLT.out; simp [intOf]; omega
    · have k1 : ¬ (i : Int) < (s.size : Int) := by omega
      obtain ⟨a1, p1, w1, hrun1, HP1⟩ := push_bytes HI.out.row HI.out.keep.size (by have := HOL.out; omega) [34] (by simp) (by simp) 1 rfl #[.int .u8 34] rfl
      have HQ2 : Hid (out ++ [34] = Q) := Lib.hid (by
        rw [HO.out, List.take_of_length_le (by rw [raw_size]; omega), HQ.out]
        rfl)
      have HI1 : Hid (QtI w w1 (.slice a1 (out.length + 1) p1) Q) := Lib.hid (by rw [← HQ2.out]; exact HI.out.next HP1.out.1 HP1.out.2)
      have hcv : (convert 26 9 (.slice a1 (out.length + 1) p1)).run Tryz.prog w1 = .ok (.string (str Q)) w1 := by
        have h1 := HI1.out.row.rd
        have hl : out.length + 1 = Q.length := by rw [← HQ2.out]; simp
        rw [hl] at h1 ⊢
        exact run_text h1
      clear hlt
      go_wp2_with (first | (at_builtin; refine wpList_append_run rfl (.tmp 50) (.tmp 51) 26 rfl _ _ rfl rfl _ _ hrun1 ?_))
      go_ret
      exact ⟨rfl, HI1.out.keep⟩
end
end Go.Proofs.YthjcolehccbihaaGreatDoor
