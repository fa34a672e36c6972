/- The walk of the document's DecodeBatch. -/
import Derived.Test.YtagdchgkjjpacaaGreatb20
import Derived.Test.YtagdchgkjjpacaaGreatb21
import Derived.Deep.CutBlock
import Derived.Deep.DeepCutAuto
set_option maxRecDepth 100000
open Go.Lib (hid)
set_option linter.unusedSimpArgs false
set_option linter.unusedVariables false
set_option linter.unusedSectionVars false
namespace Go.Proofs.YtagdchgkjjpacaaGreat
open Go.RowKit Go.Shelf
def docR (ys : List UInt8) : Int × List Chg × Int := match decB ys with
 | none => (0, [], 10)
 | some (s, l) => ((s : Int), l, 0)
theorem NewSl.none_ {α : Type} {ek : ElKind α} {T : TypeId} {w w' : World} (h : Below w.heap.size w w') : NewSl ek T w w' (.slice none 0 0) [] := ⟨SlAt.nil, fun g hg => by simp [Value.ownBlock] at hg, h⟩
structure DocI (w wr : World) (v : Value) (ys : List UInt8) (n i p : Nat) (l : List Chg) : Prop where
 sl : NewSl chgKind 43 w wr v l
 len : l.length = i
 le : p ≤ ys.length
 eq : takeChgs n (ys.drop 10) = match takeChgs (n - i) (ys.drop p) with
  | none => none
  | some (m, q) => some (l ++ m, q)
theorem DocI.none_ {w wr : World} {v : Value} {ys : List UInt8} {n i p : Nat} {l : List Chg} (h : DocI w wr v ys n i p l) (hi : i < n) (ht : takeChg (ys.drop p) = none) : takeChgs n (ys.drop 10) = none := by
 rw [h.eq, show n - i = (n - (i + 1)) + 1 by omega]
 simp only [takeChgs, ht]
theorem DocI.some_ {w wr : World} {v : Value} {ys : List UInt8} {n i p : Nat} {l : List Chg} (h : DocI w wr v ys n i p l) (hi : i < n) {c : Chg} {p' : Nat} (ht : takeChg (ys.drop p) = some (c, ys.drop p')) : takeChgs n (ys.drop 10) = match takeChgs (n - (i + 1)) (ys.drop p') with
 | none => none
 | some (m, q) => some ((l ++ [c]) ++ m, q) := by
 rw [h.eq, show n - i = (n - (i + 1)) + 1 by omega]
 simp only [takeChgs, ht]
 cases takeChgs (n - (i + 1)) (ys.drop p') with
 | none => rfl
 | some x => simp
theorem NewSl.dchg0 {w w1 : World} {v : Value} {l : List Chg} (h : NewSl chgKind 43 w w1 v l) (hl : l.length ≤ 1500000) (c : Chg) :
 ∃ va vc V, (Builtin.append_ #[32, 32] 32 #[v, .slice (some ⟨w1.heap.size, 0, none⟩) 1 1]).run Tryz.prog (w1.alloc (.cells #[.string c.key, .string c.val, .bool c.drop] 43)) = .ok (.slice va (l.length + 1) vc) V ∧ NewSl chgKind 43 w V (.slice va (l.length + 1) vc) (l ++ [c]) := by
 have hb0 : Below w1.heap.size w1 (w1.alloc (.cells #[.string c.key, .string c.val, .bool c.drop] 43)) := (Below.refl _ _).alloc (Nat.le_refl _) _
 obtain ⟨v', V, hap, hsl, hk, hown⟩ := append_dchg (h.sl.below hb0) (rd_one (ek := chgKind) w1 c #[.string c.key, .string c.val, .bool c.drop] rfl 43) (by simp only [List.length_cons, List.length_nil]; omega) 32
 obtain ⟨va, vc, e⟩ := hsl.shape
 rw [List.length_append, List.length_singleton] at e
 subst e
 refine ⟨va, vc, V, hap, hsl, fun g hg => ?_, below_keeps (h.below.trans (hb0.mono h.below.size)) hk (fun i e => h.new i e) (by have := h.below.size; have := hb0.size; omega)⟩
 rcases hown g hg with e | e
 ·exact h.new g e
 ·have := h.below.size; have := hb0.size; omega
theorem drop_two {ys : List UInt8} {p : Nat} (h : p + 2 ≤ ys.length) : ∃ x y, ys[p]? = some x ∧ ys[p + 1]? = some y ∧ ys.drop p = x :: y :: ys.drop (p + 2) := by
 refine ⟨ys[p], ys[p + 1], List.getElem?_eq_getElem _, List.getElem?_eq_getElem _, ?_⟩
 rw [List.drop_eq_getElem_cons (by omega), List.drop_eq_getElem_cons (i := p + 1) (by omega)]
theorem doc_none {ys : List UInt8} (h : takeChgs (numOf ((ys.drop 8).take 2)) (ys.drop 10) = none) : docR ys = (0, [], 10) := by
 unfold docR decB
 by_cases hl : ys.length < 10
 ·rw [if_pos hl]
 ·rw [if_neg hl, List.drop_drop, h]
theorem top_bit {ys : List UInt8} {x : UInt8} (h : ys[7]? = some x) : numOf (ys.take 8) < 9223372036854775808 ↔ x.toNat < 128 := by
 have h1 := numOf_take h
 have h2 := numOf_lt (ys.take 7)
 have h3 : (ys.take 7).length = 7 := by
  have := (List.getElem?_eq_some_iff.1 h).1
  rw [List.length_take]
  omega
 rw [h3] at h2
 have h4 : numOf (ys.take 8) = _ := h1
 rw [h4]
 omega
theorem doc_top {ys : List UInt8} (h : ¬ numOf (ys.take 8) < 9223372036854775808) : docR ys = (0, [], 10) := by
 unfold docR decB
 by_cases hl : ys.length < 10
 ·rw [if_pos hl]
 ·rw [if_neg hl]
  cases takeChgs (numOf ((ys.drop 8).take 2)) ((ys.drop 8).drop 2) with
  | none => rfl
  | some x =>
    obtain ⟨l, q⟩ := x
    simp only
    rw [if_pos (by omega)]
theorem doc_end {ys : List UInt8} {l : List Chg} {n p sq : Nat} (h : takeChgs n (ys.drop 10) = some (l, ys.drop p)) (hn : n = numOf ((ys.drop 8).take 2)) (hq : sq = numOf (ys.take 8)) (h10 : 10 ≤ ys.length) (h20 : ys.length ≤ 20000) (h63 : sq < 9223372036854775808) :
 docR ys = if (encB (sq : Int) l).2 = 0 ∧ (encB (sq : Int) l).1 = ys then ((sq : Int), l, 0) else (0, [], 10) := by
 obtain ⟨e1, e2, e3⟩ := takeChgs_some _ _ _ _ h
 have hb : ys = batB sq l ++ ys.drop p := by
  have h8 : (ys.take 8).length = 8 := by rw [List.length_take]; omega
  have h2 : ((ys.drop 8).take 2).length = 2 := by rw [List.length_take, List.length_drop]; omega
  have w8 := lowN_numOf (ys.take 8)
  have w2 := lowN_numOf ((ys.drop 8).take 2)
  rw [h8, ← hq] at w8
  rw [h2, ← hn, ← e1] at w2
  unfold batB
  rw [w8, w2, List.append_assoc, List.append_assoc, ← e2, show ys.drop 10 = (ys.drop 8).drop 2 by rw [List.drop_drop], List.take_append_drop, List.take_append_drop]
 have hlen : (batB sq l).length ≤ 1048576 := by
  have := congrArg List.length hb
  rw [List.length_append] at this
  omega
 have hD : decB ys = if ys.drop p ≠ [] ∨ 1048576 < ys.length ∨ sq < 1 ∨ 9223372036854775808 ≤ sq ∨ chkB l ≠ 0 then none else some (sq, l) := by
  unfold decB
  rw [if_neg (by omega), ← hn, List.drop_drop, h, ← hq]
 unfold docR
 by_cases c1 : sq < 1
 ·have e : encB (sq : Int) l = ([], 10) := by unfold encB; rw [if_pos (by omega)]
  have d : decB ys = none := by rw [hD, if_pos (.inr (.inr (.inl c1)))]
  rw [d, e, if_neg (by rintro ⟨h, _⟩; cases h)]
 by_cases c2 : chkB l ≠ 0
 ·have e : encB (sq : Int) l = ([], chkB l) := by unfold encB; rw [if_neg (by omega), if_pos c2]
  have d : decB ys = none := by rw [hD, if_pos (.inr (.inr (.inr (.inr c2))))]
  rw [d, e, if_neg (fun h => c2 h.1)]
 have e : encB (sq : Int) l = (batB sq l, 0) := by
  unfold encB
  rw [if_neg (by omega), if_neg c2, Int.toNat_natCast, if_neg (by omega)]
 by_cases c3 : ys.drop p = []
 ·have d : decB ys = some (sq, l) := by rw [hD, if_neg (by rintro (h | h | h | h | h); exact h c3; omega; omega; omega; exact c2 h)]
  rw [c3, List.append_nil] at hb
  rw [d, e, if_pos ⟨rfl, hb.symm⟩]
 ·have d : decB ys = none := by rw [hD, if_pos (.inl c3)]
  rw [d, e, if_neg]
  rintro ⟨-, h⟩
  rw [show batB sq l = ys from h] at hb
  have := congrArg List.length hb
  rw [List.length_append] at this
  exact c3 (List.eq_nil_of_length_eq_zero (by omega))
theorem doc_small {ys : List UInt8} {l : List Chg} {n p : Nat} (h : takeChgs n (ys.drop 10) = some (l, ys.drop p)) (h20 : ys.length ≤ 20000) : ∀ c ∈ l, c.key.size ≤ 20000 ∧ c.val.size ≤ 20000 := by
 obtain ⟨e1, e2, e3⟩ := takeChgs_some _ _ _ _ h
 intro c hc
 have hn : c.norm = c := by
  have h1 : ∀ (l : List Chg), l.map Chg.norm = l → ∀ c ∈ l, c.norm = c := by
   intro l
   induction l with
   | nil => intro _ c hc; simp at hc
   | cons x l ih =>
     intro h c hc
     rw [List.map_cons, List.cons.injEq] at h
     rcases List.mem_cons.1 hc with e | e
     ·rw [e]; exact h.1
     ·exact ih h.2 c e
  exact h1 l e3 c hc
 have hle : (chgB c).length ≤ (l.flatMap chgB).length := by
  obtain ⟨a, b, rfl⟩ := List.append_of_mem hc
  rw [List.flatMap_append, List.flatMap_cons, List.length_append, List.length_append]
  omega
 have h3 := congrArg List.length e2
 rw [List.length_drop, List.length_append] at h3
 rw [chgB_len] at hle
 cases hd : c.drop with
 | true =>
   have : c.val = ByteArray.empty := by
    rw [← hn]
    unfold Chg.norm
    rw [if_pos hd]
   rw [this]
   rw [hd] at hle
   simp only [if_true] at hle
   exact ⟨by omega, by show (0 : Nat) ≤ _; omega⟩
 | false =>
   rw [hd] at hle
   simp only [Bool.false_eq_true, if_false] at hle
   omega
theorem encB_len (q : Int) (l : List Chg) : (encB q l).1.length ≤ 1048576 := by
 unfold encB
 split
 ·exact Nat.zero_le _
 ·split
  ·exact Nat.zero_le _
  ·split
   ·exact Nat.zero_le _
   ·show (batB q.toNat l).length ≤ _
    omega
section
variable {w : World} {a : Option Addr} {cap : Nat} {ys : List UInt8}
set_option maxHeartbeats 8000000 in
theorem d_decode (hu : RdAt byteKind w (.slice a ys.length cap) ys) (hn : ys.length ≤ 20000) (hcap : ys.length ≤ cap ∧ cap ≤ 9223372036854775807) :
 Calls Tryz.prog 17 #[.slice a ys.length cap] w fun e w' => ∃ lv, e = .returned (.tuple #[.int .i64 (docR ys).1, lv, .int .i64 (docR ys).2.2]) ∧ Hid (NewSl chgKind 43 w w' lv (docR ys).2.1) := by
 have HU := hid hu
 have HCAP := hid hcap
 have hc1 : (ys.length : Int) ≤ (cap : Int) := by omega
 have hc2 : (cap : Int) ≤ 9223372036854775807 := by omega
 have hlI : (ys.length : Int) ≤ 20000 := by omega
 by_cases h10 : ys.length < 10
 ·have HR : Hid (docR ys = (0, [], 10)) := hid (by unfold docR decB; rw [if_pos h10])
  have q0 : (ys.length : Int) < 10 := by omega
  clear hu hcap h10
  go_enter Tryz.func17, Tryz.ntmps17
  go_wp2_with (fail)
  exact bodyPost_ret (results_tmp3 rfl _ _ _) rfl ⟨_, by rw [HR.out]; rfl, by rw [HR.out]; exact hid (NewSl.nil w)⟩
 obtain ⟨x7, hx7⟩ : ∃ x, ys[7]? = some x := ⟨_, List.getElem?_eq_getElem (by omega)⟩
 obtain ⟨g, off, rfl, hc7⟩ := byte_cell hu hx7
 have q0 : ¬ (ys.length : Int) < 10 := by omega
 have HX7 := hid hx7
 clear hu hcap hx7
 by_cases h128 : 128 ≤ x7.toNat
 ·have HR : Hid (docR ys = (0, [], 10)) := hid (doc_top fun e => by have := (top_bit HX7.out).1 e; omega)
  have q1 : (128 : Int) ≤ (x7.toNat : Int) := by omega
  clear h10 h128
  go_enter Tryz.func17, Tryz.ntmps17
  go_wp2_with (fail)
  exact bodyPost_ret (results_tmp3 rfl _ _ _) rfl ⟨_, by rw [HR.out]; rfl, by rw [HR.out]; exact hid (NewSl.nil w)⟩
 have q1 : ¬ (128 : Int) ≤ (x7.toNat : Int) := by omega
 have HNUM : Hid (numOf (ys.take 8) < 9223372036854775808) := hid ((top_bit HX7.out).2 (by omega))
 have HS8 : Hid (∀ W, Below w.heap.size w W → RdAt byteKind W (.slice (some ⟨g, off, none⟩) 8 cap) (ys.take 8)) := hid fun W hW => (HU.out.take (by omega) cap).below hW
 have HS2 : Hid (RdAt byteKind w (.slice (some ⟨g, off + 8, none⟩) 2 (cap - 8)) ((ys.drop 8).take 2)) := hid (HU.out.sub (by omega) _ _ fun _ => rfl)
 have HL8 : Hid ((ys.take 8).length = 8 ∧ ((ys.drop 8).take 2).length = 2) := hid (by simp only [List.length_take, List.length_drop]; omega)
 have q2 : (10 : Int) ≤ (ys.length : Int) := by omega
 clear h10 h128
 go_enter Tryz.func17, Tryz.ntmps17
 go_wp2_with (fail)
 refine (d_number (HS8.out w (Below.refl _ _)) (by rw [HL8.out.1]; decide) HNUM.out).mono ?_
 rintro e w1 ⟨rfl, rfl⟩
 clear hc7
 go_wp2_with (fail)
 refine (d_number HS2.out (by rw [HL8.out.2]; decide) ?_).mono ?_
 ·have h1 := numOf_lt ((ys.drop 8).take 2)
  rw [HL8.out.2] at h1
  omega
 rintro e w1 ⟨rfl, rfl⟩
 obtain ⟨n, hn⟩ : ∃ n, n = numOf ((ys.drop 8).take 2) := ⟨_, rfl⟩
 obtain ⟨sq, hsq⟩ : ∃ n, n = numOf (ys.take 8) := ⟨_, rfl⟩
 have hn2 : (n : Int) < 65536 := by
  have h1 := numOf_lt ((ys.drop 8).take 2)
  rw [HL8.out.2] at h1
  omega
 rw [← hsq] at HNUM
 rw [← hn, ← hsq]
 have HE := hid (And.intro hn hsq)
 have HI : Hid (DocI w w (.slice none 0 0) ys n 0 10 []) := hid ⟨NewSl.nil w, rfl, by omega, by
  rw [Nat.sub_zero]
  cases takeChgs n (ys.drop 10) <;> rfl⟩
 clear hn hsq HS8 HS2 hc2
 go_wp2_with (fail)
 go_loopw [7, 8, 9] (fun pv ov iv wr => ∃ (i p : Nat) (l : List Chg) (va : Option Addr) (vc : Nat), pv = .int .i64 (p : Int) ∧ iv = .int .i64 (i : Int) ∧ ov = .slice va l.length vc ∧ i ≤ n ∧ p ≤ ys.length ∧ Hid (DocI w wr (.slice va l.length vc) ys n i p l)) (fun _ _ iv _ => n - (intOf iv).toNat)
 case atStart => exact ⟨0, 10, [], none, 0, rfl, rfl, rfl, Nat.zero_le _, by omega, HI⟩
 case round =>
  clear HI
  obtain ⟨i, p, l, va, vc, rfl, rfl, rfl, hi, hp, HD⟩ := hrel
  have i0 : (0 : Int) ≤ (i : Int) := by omega
  have p0 : (0 : Int) ≤ (p : Int) := by omega
  have p1 : (p : Int) ≤ (ys.length : Int) := by omega
  by_cases hlt : i < n
  ·have i1 : (i : Int) < (n : Int) := by omega
   by_cases hs : ys.length < p + 2
   ·have s1 : (ys.length : Int) - (p : Int) < 2 := by omega
    have HR : Hid (docR ys = (0, [], 10)) := hid (doc_none (by
     rw [← HE.out.1]
     refine HD.out.none_ hlt ?_
     have h1 : (ys.drop p).length < 2 := by rw [List.length_drop]; omega
     match ys.drop p, h1 with
     | [], _ => rfl
     | [_], _ => rfl))
    clear hlt hs hi hp
    go_wp2_with (fail)
    exact bodyPost_ret (results_tmp3 rfl _ _ _) rfl ⟨_, by rw [HR.out]; rfl, by rw [HR.out]; exact hid (NewSl.none_ HD.out.sl.below)⟩
   obtain ⟨x, y, hx, hy, hdr⟩ := drop_two (ys := ys) (p := p) (by omega)
   obtain ⟨g2, off2, e2, hcx⟩ := byte_cell (HU.out.below HD.out.sl.below) hx
   cases e2
   obtain ⟨g2, off2, e2, hcy⟩ := byte_cell (HU.out.below HD.out.sl.below) hy
   cases e2
   obtain ⟨r, hr⟩ : ∃ r : Nat, (ys.length : Int) - (p : Int) = (r : Int) := ⟨ys.length - p, by omega⟩
   have s1 : ¬ (r : Int) < 2 := by omega
   have s1b : (r : Int) ≤ 20000 := by omega
   have s2 : (p : Int) + 1 < (ys.length : Int) := by omega
   have s3 : (p : Int) < (ys.length : Int) := by omega
   obtain ⟨z, hz⟩ : ∃ z : Nat, z = x.toNat := ⟨_, rfl⟩
   obtain ⟨k, hkz⟩ : ∃ k : Nat, k = y.toNat := ⟨_, rfl⟩
   have hk256 : k < 256 := by have := y.toNat_lt; omega
   rw [← hz] at hcx
   rw [← hkz] at hcy
   have y0 : (0 : Int) ≤ (k : Int) := by omega
   have y1 : (k : Int) < 256 := by omega
   have hxz : ∀ m : UInt8, x = m ↔ z = m.toNat := fun m => by rw [hz]; exact ⟨fun e => by rw [e], fun e => UInt8.toNat_inj.1 e⟩
   by_cases hk : z ≠ 1 ∧ z ≠ 2
   ·have HR : Hid (docR ys = (0, [], 10)) := hid (doc_none (by
     rw [← HE.out.1]
     refine HD.out.none_ hlt ?_
     rw [hdr]
     simp only [takeChg]
     rw [if_pos ⟨fun e => hk.1 ((hxz 1).1 e), fun e => hk.2 ((hxz 2).1 e)⟩]))
    have k1 : ((z : Int) != 1) = true := by simp; omega
    have k2 : ((z : Int) != 2) = true := by simp; omega
    clear hlt hs hi hp hk hx hy hdr hz hkz hk256 hxz hcy s2 y0 y1
    go_wp2_with (fail)
    exact bodyPost_ret (results_tmp3 rfl _ _ _) rfl ⟨_, by rw [HR.out]; rfl, by rw [HR.out]; exact hid (NewSl.none_ HD.out.sl.below)⟩
   have hz12 : z = 1 ∨ z = 2 := by omega
   obtain ⟨d, hd⟩ : ∃ d : Bool, (z == 2) = d := ⟨_, rfl⟩
   have HZ := hid (And.intro hz12 (And.intro hz hd))
   have HLT := hid hlt
   cases d with
   | true =>
     have hz2 : z = 2 := by simpa using hd
     subst hz2
     clear hz hd hk hz12 hk256 hs hlt hi hp
     go_upto_region 13 with (fail)
     obtain ⟨W1, hW1⟩ : ∃ W, W = wr.alloc (.cells #[.string ⟨#[]⟩, .string ⟨#[]⟩, .bool true] 43) := ⟨_, rfl⟩
     have hB1 : Below wr.heap.size wr W1 := by rw [hW1]; exact (Below.refl _ _).alloc (Nat.le_refl _) _
     have hblk : IsBlk W1 wr.heap.size #[.string ⟨#[]⟩, .string ⟨#[]⟩, .bool true] 43 := by rw [hW1]; exact blk_new _ _
     have hcy1 := (hB1.cell (p := ⟨g, off + (p + 1), none⟩) (World.block_lt_of_cell? _ _ hcy)).trans hcy
     rw [← hW1]
     have HB1 := hid hB1
     have HBLK := hid hblk
     obtain ⟨cb, hcb⟩ : ∃ b, b = wr.heap.size := ⟨_, rfl⟩
     rw [← hcb] at HBLK ⊢
     have HCB := hid hcb
     clear hW1 hB1 hblk hcy hcx hcb
     by_cases hs2 : ys.length < p + 2 + k
     ·obtain ⟨r2, hr2⟩ : ∃ r : Nat, (ys.length : Int) - ((p : Int) + 2) = (r : Int) := ⟨ys.length - (p + 2), by omega⟩
      have s5 : (r2 : Int) < (k : Int) := by omega
      have HR : Hid (docR ys = (0, [], 10)) := hid (doc_none (by
       rw [← HE.out.1]
       refine HD.out.none_ HLT.out ?_
       rw [hdr]
       simp only [takeChg]
       rw [if_neg (fun e => e.2 ((hxz 2).2 (by decide))), if_pos (by rw [List.length_drop, ← hkz]; omega)]))
      clear hs2 hkz hxz hdr hx hy
      go_wp2_with (fail)
      exact bodyPost_ret (results_tmp3 rfl _ _ _) rfl ⟨_, by rw [HR.out]; rfl, by rw [HR.out]; exact hid (NewSl.none_ (HD.out.sl.below.trans (HB1.out.mono HD.out.sl.below.size)))⟩
     ·have hk2 : p + 2 + k ≤ ys.length := by omega
      obtain ⟨r2, hr2⟩ : ∃ r : Nat, (ys.length : Int) - ((p : Int) + 2) = (r : Int) := ⟨ys.length - (p + 2), by omega⟩
      have s5 : ¬ (r2 : Int) < (k : Int) := by omega
      have s7 : (p : Int) + 2 + (k : Int) ≤ (cap : Int) := by omega
      obtain ⟨ke, hke⟩ : ∃ ke, ke = st ((ys.drop (p + 2)).take k) := ⟨_, rfl⟩
      have hlk : ((ys.drop (p + 2)).take k).length = k := by rw [List.length_take, List.length_drop]; omega
      obtain ⟨A, hA⟩ : ∃ A : Option Addr, (if cap = p + 2 then some ⟨g, off, none⟩ else some ⟨g, off + (p + 2), none⟩) = A := ⟨_, rfl⟩
      have hL : p + 2 + k - (p + 2) = k := by omega
      have hcv : (convert 23 9 (.slice A k (cap - (p + 2)))).run Tryz.prog W1 = .ok (.string ke) W1 := by
       have h := run_text (a := A) (cap := cap - (p + 2)) (ys := (ys.drop (p + 2)).take k) (W := W1) (by
        rw [hlk]
        exact ((HU.out.sub (q := p + 2) (m := k) (by omega) _ (cap - (p + 2)) fun e => by rw [← hA, if_neg (by have := HCAP.out; omega)]).below HD.out.sl.below).below HB1.out)
       rw [hlk] at h
       rw [hke]
       exact h
      have HKE := hid (And.intro hke hlk)
      have d0z : W1.frozen? ⟨cb, 0, none⟩ = false := blk_free HBLK.out 0
      have d0c : W1.cell? ⟨cb, 0, none⟩ = some (.string ⟨#[]⟩) := blk_cell HBLK.out 0
      have HTK : Hid (takeChg (ys.drop p) = some (⟨ke, ByteArray.empty, true⟩, ys.drop (p + 2 + k))) := hid (by
       rw [hdr, hke]
       simp only [takeChg]
       rw [if_neg (fun e => e.2 ((hxz 2).2 (by decide))), if_neg (by rw [List.length_drop, ← hkz]; omega), if_pos ((hxz 2).2 (by decide)), ← hkz, List.drop_drop])
      have HK2 := hid hk2
      clear hs2 hkz hxz hdr hx hy hke hlk hk2
      go_upto_region 18 with (fail)
      have hB2 : Below wr.heap.size wr (W1.setCell ⟨cb, 0, none⟩ (.string ke)) := below_keeps HB1.out ((Keeps.refl (Only cb) W1).setCell (p := (⟨cb, 0, none⟩ : Addr)) (fun _ => rfl) _) (fun i e => by have e : i = cb := e; have := HCB.out; omega) HB1.out.size
      have hblk2 : IsBlk (W1.setCell ⟨cb, 0, none⟩ (.string ke)) cb #[.string ke, .string ⟨#[]⟩, .bool true] 43 := blk_set HBLK.out 0 _
      clear d0z d0c hcv hcy1 hA hL
      generalize W1.setCell ⟨cb, 0, none⟩ (.string ke) = W2 at hB2 hblk2 ⊢
      have HB2 := hid hB2
      have HN2 := hid (HD.out.sl.read hB2)
      have d0 : W2.cell? ⟨cb, 0, none⟩ = some (.string ke) := blk_cell hblk2 0
      have d1 : W2.cell? ⟨cb, 1, none⟩ = some (.string ⟨#[]⟩) := blk_cell hblk2 1
      have d2 : W2.cell? ⟨cb, 2, none⟩ = some (.bool true) := blk_cell hblk2 2
      clear hB2 hblk2
      have hll : l.length ≤ 70000 := by have := HD.out.len; have := HLT.out; omega
      obtain ⟨va2, vc2, V, hrun, hn3⟩ := HN2.out.dchg0 (by omega) (⟨ke, ⟨#[]⟩, true⟩ : Chg)
      have HN3 : Hid (DocI w V (.slice va2 (l ++ [(⟨ke, ByteArray.empty, true⟩ : Chg)]).length vc2) ys n (i + 1) (p + 2 + k) (l ++ [(⟨ke, ByteArray.empty, true⟩ : Chg)])) := hid ⟨by rw [List.length_append, List.length_singleton]; exact hn3, by rw [List.length_append, List.length_singleton, HD.out.len], HK2.out, HD.out.some_ HLT.out HTK.out⟩
      have hlen1 : (l ++ [(⟨ke, ByteArray.empty, true⟩ : Chg)]).length = l.length + 1 := by simp
      rw [hlen1] at HN3
      clear hn3 HN2 hll hlen1
      go_wp2_with (at_builtin; refine wpList_append_run rfl (.tmp 119) (.tmp 121) 32 rfl _ _ rfl rfl _ _ hrun ?_)
      go_roundw
      case rel => exact ⟨i + 1, p + 2 + k, l ++ [(⟨ke, ByteArray.empty, true⟩ : Chg)], va2, vc2, by go_num, by go_num, by simp, HLT.out, HK2.out, by simpa using HN3⟩
      case measure => simp [intOf]; have := HLT.out; omega
   | false =>
     have hz2 : z = 1 := by
      have h9 : ¬ z = 2 := by simpa using hd
      omega
     subst hz2
     clear hz hd hk hz12 hk256 hs hlt hi hp
     go_upto_region 13 with (fail)
     obtain ⟨W1, hW1⟩ : ∃ W, W = wr.alloc (.cells #[.string ⟨#[]⟩, .string ⟨#[]⟩, .bool false] 43) := ⟨_, rfl⟩
     have hB1 : Below wr.heap.size wr W1 := by rw [hW1]; exact (Below.refl _ _).alloc (Nat.le_refl _) _
     have hblk : IsBlk W1 wr.heap.size #[.string ⟨#[]⟩, .string ⟨#[]⟩, .bool false] 43 := by rw [hW1]; exact blk_new _ _
     have hcy1 := (hB1.cell (p := ⟨g, off + (p + 1), none⟩) (World.block_lt_of_cell? _ _ hcy)).trans hcy
     rw [← hW1]
     have HB1 := hid hB1
     have HBLK := hid hblk
     obtain ⟨cb, hcb⟩ : ∃ b, b = wr.heap.size := ⟨_, rfl⟩
     rw [← hcb] at HBLK ⊢
     have HCB := hid hcb
     clear hW1 hB1 hblk hcy hcx hcb
     by_cases hs2 : ys.length < p + 2 + k
     ·obtain ⟨r2, hr2⟩ : ∃ r : Nat, (ys.length : Int) - ((p : Int) + 2) = (r : Int) := ⟨ys.length - (p + 2), by omega⟩
      have s5 : (r2 : Int) < (k : Int) := by omega
      have HR : Hid (docR ys = (0, [], 10)) := hid (doc_none (by
       rw [← HE.out.1]
       refine HD.out.none_ HLT.out ?_
       rw [hdr]
       simp only [takeChg]
       rw [if_neg (fun e => e.1 ((hxz 1).2 (by decide))), if_pos (by rw [List.length_drop, ← hkz]; omega)]))
      clear hs2 hkz hxz hdr hx hy
      go_wp2_with (fail)
      exact bodyPost_ret (results_tmp3 rfl _ _ _) rfl ⟨_, by rw [HR.out]; rfl, by rw [HR.out]; exact hid (NewSl.none_ (HD.out.sl.below.trans (HB1.out.mono HD.out.sl.below.size)))⟩
     ·have hk2 : p + 2 + k ≤ ys.length := by omega
      obtain ⟨r2, hr2⟩ : ∃ r : Nat, (ys.length : Int) - ((p : Int) + 2) = (r : Int) := ⟨ys.length - (p + 2), by omega⟩
      have s5 : ¬ (r2 : Int) < (k : Int) := by omega
      have s7 : (p : Int) + 2 + (k : Int) ≤ (cap : Int) := by omega
      obtain ⟨ke, hke⟩ : ∃ ke, ke = st ((ys.drop (p + 2)).take k) := ⟨_, rfl⟩
      have hlk : ((ys.drop (p + 2)).take k).length = k := by rw [List.length_take, List.length_drop]; omega
      obtain ⟨A, hA⟩ : ∃ A : Option Addr, (if cap = p + 2 then some ⟨g, off, none⟩ else some ⟨g, off + (p + 2), none⟩) = A := ⟨_, rfl⟩
      have hL : p + 2 + k - (p + 2) = k := by omega
      have hcv : (convert 23 9 (.slice A k (cap - (p + 2)))).run Tryz.prog W1 = .ok (.string ke) W1 := by
       have h := run_text (a := A) (cap := cap - (p + 2)) (ys := (ys.drop (p + 2)).take k) (W := W1) (by
        rw [hlk]
        exact ((HU.out.sub (q := p + 2) (m := k) (by omega) _ (cap - (p + 2)) fun e => by rw [← hA, if_neg (by have := HCAP.out; omega)]).below HD.out.sl.below).below HB1.out)
       rw [hlk] at h
       rw [hke]
       exact h
      have HKE := hid (And.intro hke hlk)
      have d0z : W1.frozen? ⟨cb, 0, none⟩ = false := blk_free HBLK.out 0
      have d0c : W1.cell? ⟨cb, 0, none⟩ = some (.string ⟨#[]⟩) := blk_cell HBLK.out 0
      have HNX : Hid (takeChg (ys.drop p) = if (ys.drop (p + 2 + k)).length < 4 then none else if (ys.drop (p + 2 + k + 4)).length < numOf ((ys.drop (p + 2 + k)).take 4) then none else some (⟨ke, st ((ys.drop (p + 2 + k + 4)).take (numOf ((ys.drop (p + 2 + k)).take 4))), false⟩, ys.drop (p + 2 + k + 4 + numOf ((ys.drop (p + 2 + k)).take 4)))) := hid (by
       rw [hdr, hke]
       simp only [takeChg]
       rw [if_neg (fun e => e.1 ((hxz 1).2 (by decide))), if_neg (by rw [List.length_drop, ← hkz]; omega), if_neg (fun e => by have := (hxz 2).1 e; revert this; decide), ← hkz]
       simp only [List.drop_drop])
      have HK2 := hid hk2
      clear hs2 hkz hxz hdr hx hy hke hlk hk2
      go_upto_region 18 with (fail)
      rw [hA, hL]
      have hB2 : Below wr.heap.size wr (W1.setCell ⟨cb, 0, none⟩ (.string ke)) := below_keeps HB1.out ((Keeps.refl (Only cb) W1).setCell (p := (⟨cb, 0, none⟩ : Addr)) (fun _ => rfl) _) (fun i e => by have e : i = cb := e; have := HCB.out; omega) HB1.out.size
      have hblk2 : IsBlk (W1.setCell ⟨cb, 0, none⟩ (.string ke)) cb #[.string ke, .string ⟨#[]⟩, .bool false] 43 := blk_set HBLK.out 0 _
      clear d0z d0c hcv hcy1 hA hL
      generalize W1.setCell ⟨cb, 0, none⟩ (.string ke) = W2 at hB2 hblk2 ⊢
      have HB2 := hid hB2
      have HBLK2 := hid hblk2
      have d2 : W2.cell? ⟨cb, 2, none⟩ = some (.bool false) := blk_cell hblk2 2
      obtain ⟨r3, hr3⟩ : ∃ r : Nat, (ys.length : Int) - ((p : Int) + 2 + (k : Int)) = (r : Int) := ⟨ys.length - (p + 2 + k), by have := HK2.out; omega⟩
      have r3b : (r3 : Int) ≤ 20000 := by omega
      clear hB2 hblk2 s5 s7 hr2 hr s1b
      have HNI := hid (And.intro hn2 i1)
      clear hn2 i1
      go_upto_if 88 with (fail)
      go_cut [7] from 31 to 122 (fun pv wd => ∃ (p3 : Nat) (ve : ByteArray), pv = .int .i64 (p3 : Int) ∧ Hid (p3 ≤ ys.length ∧ takeChg (ys.drop p) = some (⟨ke, ve, false⟩, ys.drop p3) ∧ Below wr.heap.size wr wd ∧ IsBlk wd cb #[.string ke, .string ve, .bool false] 43))
      case first =>
       by_cases h4 : ys.length < p + 2 + k + 4
       ·have s8 : (r3 : Int) < 4 := by omega
        have HR : Hid (docR ys = (0, [], 10)) := hid (doc_none (by
         rw [← HE.out.1]
         refine HD.out.none_ HLT.out ?_
         rw [HNX.out, if_pos (by rw [List.length_drop]; omega)]))
        clear h4
        go_wp2_with (fail)
        exact bodyPost_ret (results_tmp3 rfl _ _ _) rfl ⟨_, by rw [HR.out]; rfl, by rw [HR.out]; exact hid (NewSl.none_ (HD.out.sl.below.trans (HB2.out.mono HD.out.sl.below.size)))⟩
       have s8 : ¬ (r3 : Int) < 4 := by omega
       have s9 : (p : Int) + 2 + (k : Int) + 4 ≤ (cap : Int) := by omega
       have HS4 : Hid (RdAt byteKind W2 (.slice (some ⟨g, off + (p + 2 + k), none⟩) 4 (cap - (p + 2 + k))) ((ys.drop (p + 2 + k)).take 4)) := hid (by
        exact ((HU.out.sub (q := p + 2 + k) (m := 4) (by omega) _ (cap - (p + 2 + k)) fun e => rfl).below HD.out.sl.below).below HB2.out)
       have HL4 : Hid (((ys.drop (p + 2 + k)).take 4).length = 4) := hid (by rw [List.length_take, List.length_drop]; omega)
       have H4 := hid h4
       clear h4
       go_wp2_with (fail)
       refine (d_number HS4.out (by rw [HL4.out]; decide) ?_).mono ?_
       ·have h1 := numOf_lt ((ys.drop (p + 2 + k)).take 4)
        rw [HL4.out] at h1
        omega
       rintro e w4 ⟨rfl, rfl⟩
       obtain ⟨m, hm⟩ : ∃ m, m = numOf ((ys.drop (p + 2 + k)).take 4) := ⟨_, rfl⟩
       have hm4 : (m : Int) < 4294967296 := by
        have h1 := numOf_lt ((ys.drop (p + 2 + k)).take 4)
        rw [HL4.out] at h1
        omega
       rw [← hm] at HNX ⊢
       obtain ⟨r4, hr4⟩ : ∃ r : Nat, (ys.length : Int) - ((p : Int) + 2 + (k : Int) + 4) = (r : Int) := ⟨ys.length - (p + 2 + k + 4), by have := H4.out; omega⟩
       have r4b : (r4 : Int) ≤ 20000 := by omega
       have m0 : (0 : Int) ≤ (m : Int) := by omega
       clear HS4 HL4 hm s8 s9 hr3 r3b
       by_cases h5 : ys.length < p + 2 + k + 4 + m
       ·have t5 : (r4 : Int) < (m : Int) := by omega
        have HR : Hid (docR ys = (0, [], 10)) := hid (doc_none (by
         rw [← HE.out.1]
         refine HD.out.none_ HLT.out ?_
         rw [HNX.out, if_neg (by rw [List.length_drop]; have := H4.out; omega), if_pos (by rw [List.length_drop]; have := H4.out; omega)]))
        clear h5
        go_wp2_with (fail)
        exact bodyPost_ret (results_tmp3 rfl _ _ _) rfl ⟨_, by rw [HR.out]; rfl, by rw [HR.out]; exact hid (NewSl.none_ (HD.out.sl.below.trans (HB2.out.mono HD.out.sl.below.size)))⟩
       have t5 : ¬ (r4 : Int) < (m : Int) := by omega
       have t6 : (p : Int) + 2 + (k : Int) + 4 + (m : Int) ≤ (cap : Int) := by omega
       obtain ⟨ve, hve⟩ : ∃ ve, ve = st ((ys.drop (p + 2 + k + 4)).take m) := ⟨_, rfl⟩
       have hlm : ((ys.drop (p + 2 + k + 4)).take m).length = m := by rw [List.length_take, List.length_drop]; omega
       obtain ⟨A, hA⟩ : ∃ A : Option Addr, (if cap = p + 2 + k + 4 then some ⟨g, off, none⟩ else some ⟨g, off + (p + 2 + k + 4), none⟩) = A := ⟨_, rfl⟩
       have hL : p + 2 + k + 4 + m - (p + 2 + k + 4) = m := by omega
       have hcv : (convert 23 9 (.slice A m (cap - (p + 2 + k + 4)))).run Tryz.prog W2 = .ok (.string ve) W2 := by
        have h := run_text (a := A) (cap := cap - (p + 2 + k + 4)) (ys := (ys.drop (p + 2 + k + 4)).take m) (W := W2) (by
         rw [hlm]
         exact ((HU.out.sub (q := p + 2 + k + 4) (m := m) (by omega) _ (cap - (p + 2 + k + 4)) fun e => by rw [← hA, if_neg (by have := HCAP.out; omega)]).below HD.out.sl.below).below HB2.out)
        rw [hlm] at h
        rw [hve]
        exact h
       have HTK : Hid (takeChg (ys.drop p) = some (⟨ke, ve, false⟩, ys.drop (p + 2 + k + 4 + m))) := hid (by
        rw [HNX.out, if_neg (by rw [List.length_drop]; have := H4.out; omega), if_neg (by rw [List.length_drop]; omega), hve])
       have HK3 : Hid (p + 2 + k + 4 + m ≤ ys.length) := hid (by omega)
       have d1z : W2.frozen? ⟨cb, 1, none⟩ = false := blk_free HBLK2.out 1
       have d1c : W2.cell? ⟨cb, 1, none⟩ = some (.string ⟨#[]⟩) := blk_cell HBLK2.out 1
       have t7 : (p : Int) + 2 + (k : Int) + 4 + (m : Int) ≤ 20000 := by omega
       clear h5 hve hlm hm4 r4b t7 t6
       go_upto_region 26 with (fail)
       clear hr4 t5
       have t6 : (p : Int) + 2 + (k : Int) + 4 + (m : Int) ≤ (cap : Int) := by have := HK3.out; omega
       have t7 : (p : Int) + 2 + (k : Int) + 4 + (m : Int) ≤ 20000 := by have := HK3.out; omega
       go_upto_region 27 with (fail)
       rw [hA, hL]
       go_wp2_with (fail)
       go_meet
       exact ⟨p + 2 + k + 4 + m, ve, by go_num, hid ⟨HK3.out, HTK.out, below_keeps HB2.out ((Keeps.refl (Only cb) W2).setCell (p := (⟨cb, 1, none⟩ : Addr)) (fun _ => rfl) _) (fun i e => by have e : i = cb := e; have := HCB.out; omega) HB2.out.size, blk_set HBLK2.out 1 _⟩⟩
      case rest =>
       obtain ⟨p3, ve, rfl, HC⟩ := hcut
       have hn2 := HNI.out.1
       have i1 := HNI.out.2
       rename World => W3
       have hB3 := HC.out.2.2.1
       have hblk3 := HC.out.2.2.2
       have HN2 := hid (HD.out.sl.read hB3)
       have d0 : W3.cell? ⟨cb, 0, none⟩ = some (.string ke) := blk_cell hblk3 0
       have d1 : W3.cell? ⟨cb, 1, none⟩ = some (.string ve) := blk_cell hblk3 1
       have d2 : W3.cell? ⟨cb, 2, none⟩ = some (.bool false) := blk_cell hblk3 2
       clear hB3 hblk3
       have hll : l.length ≤ 70000 := by have := HD.out.len; have := HLT.out; omega
       obtain ⟨va2, vc2, V, hrun, hn3⟩ := HN2.out.dchg0 (by omega) (⟨ke, ve, false⟩ : Chg)
       have HN3 : Hid (DocI w V (.slice va2 (l ++ [(⟨ke, ve, false⟩ : Chg)]).length vc2) ys n (i + 1) p3 (l ++ [(⟨ke, ve, false⟩ : Chg)])) := hid ⟨by rw [List.length_append, List.length_singleton]; exact hn3, by rw [List.length_append, List.length_singleton, HD.out.len], HC.out.1, HD.out.some_ HLT.out HC.out.2.1⟩
       have hlen1 : (l ++ [(⟨ke, ve, false⟩ : Chg)]).length = l.length + 1 := by simp
       rw [hlen1] at HN3
       clear hn3 HN2 hll hlen1
       go_wp2_with (at_builtin; refine wpList_append_run rfl (.tmp 119) (.tmp 121) 32 rfl _ _ rfl rfl _ _ hrun ?_)
       go_roundw
       case rel => exact ⟨i + 1, p3, l ++ [(⟨ke, ve, false⟩ : Chg)], va2, vc2, by go_num, rfl, by simp, HLT.out, HC.out.1, by simpa using HN3⟩
       case measure => simp [intOf]; have := HLT.out; omega
  ·have i1 : ¬ (i : Int) < (n : Int) := by omega
   have hin : i = n := by omega
   have HTK : Hid (takeChgs n (ys.drop 10) = some (l, ys.drop p)) := hid (by
    have h := HD.out.eq
    rw [hin, Nat.sub_self] at h
    simpa [takeChgs] using h)
   have HEND := hid (doc_end HTK.out HE.out.1 HE.out.2 (by omega) hn HNUM.out)
   have HSM := hid (doc_small HTK.out hn)
   have hll : l.length ≤ 65536 := by have := HD.out.len; omega
   have hlb := encB_len (sq : Int) l
   have HENC := hid (d_encode HD.out.sl.sl.rd (by omega) (fun c hc => by have := HSM.out c hc; omega) (sq : Int) (by have := HNUM.out; omega))
   obtain ⟨E, hE⟩ : ∃ E, E = encB (sq : Int) l := ⟨_, rfl⟩
   rw [← hE] at HEND HENC hlb
   obtain ⟨E1, E2⟩ := E
   have HLB := hid hlb
   clear hin hE hlb hi hlt hp hll
   go_wp2_with (fail)
   refine HENC.out.mono ?_
   rintro e w4 ⟨bv, rfl, hfr⟩
   have HFR := hid hfr.out
   obtain ⟨ba, bc, e2⟩ := hfr.out.sl.shape
   subst e2
   clear hfr
   go_wp2_with (fail)
   refine (r_sameB HFR.out.sl.rd ((HU.out.below HD.out.sl.below).below HFR.out.below) (by have := HLB.out; omega) (by omega)).mono ?_
   rintro e w5 ⟨rfl, hb5⟩
   have HN5 := hid ((HD.out.sl.read HFR.out.below).read hb5)
   clear hb5
   obtain ⟨bs, hbs⟩ : ∃ b : Bool, b = decide (E1 = ys) := ⟨_, rfl⟩
   rw [← hbs]
   have HBS := hid hbs
   clear hbs
   by_cases c0 : E2 = 0
   ·subst c0
    cases bs with
    | true =>
      have HR : Hid (docR ys = ((sq : Int), l, 0)) := hid (by rw [HEND.out, if_pos ⟨rfl, of_decide_eq_true HBS.out.symm⟩])
      go_wp2_with (fail)
      exact bodyPost_ret (results_tmp3 rfl _ _ _) rfl ⟨_, by rw [HR.out]; rfl, by rw [HR.out]; exact HN5⟩
    | false =>
      have HR : Hid (docR ys = (0, [], 10)) := hid (by rw [HEND.out, if_neg (fun e => of_decide_eq_false HBS.out.symm e.2)])
      go_wp2_with (fail)
      exact bodyPost_ret (results_tmp3 rfl _ _ _) rfl ⟨_, by rw [HR.out]; rfl, by rw [HR.out]; exact hid (NewSl.none_ HN5.out.below)⟩
   ·have HR : Hid (docR ys = (0, [], 10)) := hid (by rw [HEND.out, if_neg (fun e => c0 e.1)])
    have c1 : ((E2 : Int) != 0) = true := by simp; omega
    clear c0
    go_wp2_with (fail)
    exact bodyPost_ret (results_tmp3 rfl _ _ _) rfl ⟨_, by rw [HR.out]; rfl, by rw [HR.out]; exact hid (NewSl.none_ HN5.out.below)⟩
end
end Go.Proofs.YtagdchgkjjpacaaGreat
