/- The walks of the document's Low and Number up to eight bytes, of exlaw4.few and exlaw4.Changes. -/
import Derived.Test.YtagdchgkjjpacaaGreatb11
import Derived.BigQuiet
import Derived.Test.YtagdchgkjjpacaaGreatb07
import Derived.Sort.Walk0
set_option maxRecDepth 100000
open Go.Lib (hid)
set_option linter.unusedSimpArgs false
set_option linter.unusedVariables false
set_option linter.unusedSectionVars false
namespace Go.Proofs.YtagdchgkjjpacaaGreat
open Go.RowKit Go.Shelf
set_option maxHeartbeats 2000000 in
theorem d_low (w : World) (n : Nat) (hn : n < 9223372036854775808) (s : Nat) (hs : s ≤ 8) (z : Int) (hz : z = (s : Int)) :
 Calls Tryz.prog 50 #[.int .i64 (n : Int), .int .i64 z] w fun e w' => ∃ v', e = .returned v' ∧ FreshAt w w' v' (lowN s n) := by
 have HV := hid (GrowAt.refl (SlAt.nil (ek := byteKind) (e := 5) (w := w)))
 have HZ := hid (And.intro hz hs)
 have hz8 : z ≤ 8 := by omega
 clear hz hs
 go_enter Tryz.func50, Tryz.ntmps50
 go_wp2_with (fail)
 go_loopw [0, 5, 6] (fun c b i wr => ∃ (j m : Nat) (zs : List UInt8) (y : Int), y = z - (j : Int) ∧ j ≤ s ∧ i = .int .i64 y ∧ c = .int .i64 (m : Int) ∧ m < 9223372036854775808 ∧ Hid (zs ++ lowN j m = lowN s n) ∧ Hid (GrowAt w (.slice none 0 0) wr b zs)) (fun _ _ i _ => 8 - (intOf i).toNat)
 case atStart => exact ⟨s, n, [], 0, by have := HZ.out.1; omega, Nat.le_refl _, rfl, rfl, hn, hid rfl, HV⟩
 case round =>
  obtain ⟨j, m, zs, y, hy, hj, rfl, rfl, hm, HE, HG⟩ := hrel
  cases j with
  | zero =>
    have hy1 : ¬ y < z := by omega
    clear hy
    go_wp2_with (fail)
    go_ret
    refine ⟨_, rfl, GrowAt.new ?_⟩
    rw [← HE.out]
    simpa [lowN] using HG.out
  | succ j =>
    obtain ⟨v', w', hrun, hg⟩ := grow_one HG.out (by have h1 := congrArg List.length HE.out; have := HZ.out.2; rw [List.length_append, lowN_len, lowN_len] at h1; omega) (UInt8.ofNat m) 23
    rw [byteOf] at hrun
    have HG' := hid hg
    have hj1 : y < z := by omega
    have hj0 : 0 ≤ y := by have := HZ.out.1; omega
    have hm1 : (0 : Int) ≤ (m : Int) := by omega
    have HM := hid (And.intro hm (And.intro hy hj))
    clear hg hm hy hj
    go_wp2_with (at_builtin; refine wpList_append_run rfl (.tmp 12) (.tmp 15) 23 rfl _ _ rfl rfl _ _ hrun ?_)
    go_roundw
    case rel => exact ⟨j, m / 256, zs ++ [UInt8.ofNat m], y + 1, by have := HM.out; omega, by have := HM.out; omega, by go_num, by rw [IntWalk.wrap64_in _ (by have := HM.out; omega)]; rfl, by have := HM.out; omega, hid (by rw [List.append_assoc]; exact HE.out), HG'⟩
    case measure => simp [intOf]; omega
theorem numOf_dropLe (ys : List UInt8) : ∀ k, numOf (ys.drop k) ≤ numOf ys
 | 0 => by simp
 | k + 1 => by
   have h := numOf_dropLe ys k
   by_cases hk : k < ys.length
   ·have := numOf_drop (List.getElem?_eq_getElem hk)
    omega
   ·rw [List.drop_eq_nil_of_le (by omega)]
    exact Nat.zero_le _
set_option maxHeartbeats 1000000 in
theorem d_number {w : World} {a : Option Addr} {len cap : Nat} {ys : List UInt8} (hu : RdAt byteKind w (.slice a len cap) ys) (hn : ys.length ≤ 8) (h63 : numOf ys < 9223372036854775808) :
 Calls Tryz.prog 57 #[.slice a len cap] w fun e w' => e = .returned (.int .i64 (numOf ys : Int)) ∧ w = w' := by
 have HR := hid hu
 obtain rfl : len = ys.length := by obtain ⟨_, _, e, _⟩ := hu; injection e
 clear hu
 have H63 := hid h63
 have hn2 : (ys.length : Int) ≤ 8 := by omega
 clear h63
 go_enter Tryz.func57, Tryz.ntmps57
 go_wp2_with (fail)
 go_loopw [3, 4] (fun c i wr => ∃ k : Nat, k ≤ ys.length ∧ i = .int .i64 ((k : Int) - 1) ∧ c = .int .i64 (numOf (ys.drop k) : Int) ∧ wr = w) (fun _ i _ => (intOf i + 1).toNat)
 case atStart => exact ⟨ys.length, Nat.le_refl _, rfl, by rw [List.drop_length]; rfl, rfl⟩
 case round =>
  obtain ⟨k, hk, rfl, rfl, rfl⟩ := hrel
  cases k with
  | succ k =>
    have hx : ys[k]? = some ys[k] := List.getElem?_eq_getElem (by omega)
    generalize ys[k] = x at hx
    obtain ⟨g, off, rfl, hc⟩ := byte_cell HR.out hx
    have HD := hid (numOf_drop hx)
    have hlt := numOf_dropLe ys k
    rw [HD.out] at hlt
    generalize numOf (ys.drop (k + 1)) = m at HD hlt
    have H := hid hlt
    have hx0 : (x.toNat : Int) < 256 := by have := x.toNat_lt; omega
    have hw1 : wrap64 ((m : Int) * 256) = (m : Int) * 256 := IntWalk.wrap64_in _ (by have := H63.out; omega)
    have hw2 : wrap64 ((m : Int) * 256 + (x.toNat : Int)) = (m : Int) * 256 + (x.toNat : Int) := IntWalk.wrap64_in _ (by have := H63.out; omega)
    have hk0 : (0 : Int) ≤ (k : Int) := by omega
    have hk1 : (k : Int) < (ys.length : Int) := by omega
    clear hx hlt
    go_wp2_with (fail)
    go_roundw
    case rel => exact ⟨k, by omega, rfl, by rw [HD.out]; congr 1; omega, trivial⟩
    case measure => simp [intOf]
  | zero =>
    go_wp2_with (fail)
    go_ret
    exact ⟨rfl, rfl⟩
structure BatsAt (W : World) (v : Value) (ls : List (List Chg)) : Prop where
 ex : ∃ ss : List SlV, RdAt slKind W v ss ∧ ss.length = ls.length ∧ ∀ (j : Nat) (s : SlV) (l : List Chg), ss[j]? = some s → ls[j]? = some l → s.len = l.length ∧ RdAt chgKind W s.val l
 few : ls.length ≤ 1048576
 each : ∀ l ∈ ls, l.length ≤ 1048576 ∧ ∀ c ∈ l, c.key.size ≤ 1048576 ∧ c.val.size ≤ 1048576
theorem BatsAt.shape {W : World} {v : Value} {ls : List (List Chg)} (h : BatsAt W v ls) : ∃ a cap, v = .slice a ls.length cap := by
 obtain ⟨ss, ⟨a, cap, e, _⟩, h2, _⟩ := h.ex
 exact ⟨a, cap, by rw [e, h2]⟩
theorem BatsAt.below {W W' : World} {v : Value} {ls : List (List Chg)} (h : BatsAt W v ls) (hb : Below W.heap.size W W') : BatsAt W' v ls := by
 obtain ⟨ss, h1, h2, h3⟩ := h.ex
 exact ⟨⟨ss, h1.below hb, h2, fun j s l hs hl => ⟨(h3 j s l hs hl).1, (h3 j s l hs hl).2.below hb⟩⟩, h.few, h.each⟩
theorem BatsAt.at_ {W : World} {v : Value} {ls : List (List Chg)} (h : BatsAt W v ls) {j : Nat} {l : List Chg} (hj : ls[j]? = some l) :
 ∃ g off cap a c, v = .slice (some ⟨g, off, none⟩) ls.length cap ∧ W.cell? ⟨g, off + j, none⟩ = some (.slice a l.length c) ∧ RdAt chgKind W (.slice a l.length c) l := by
 obtain ⟨ss, ⟨a0, cap, rfl, hr⟩, h2, h3⟩ := h.ex
 obtain ⟨s, hs⟩ : ∃ s, ss[j]? = some s := ⟨_, List.getElem?_eq_getElem (by rw [h2]; exact (List.getElem?_eq_some_iff.1 hj).1)⟩
 obtain ⟨g, off, rfl, hc⟩ := hr j s hs
 obtain ⟨e1, hrd⟩ := h3 j s l hs hj
 have := hc 0 (by decide)
 have e2 : off + j * slKind.size + 0 = off + j := by show off + j * 1 + 0 = _; omega
 rw [e2] at this
 refine ⟨g, off, cap, s.a, s.cap, by rw [h2], ?_, ?_⟩
 ·rw [← e1]; simpa [slKind] using this
 ·rw [← e1]; exact hrd
def chgW (c : Chg) : Nat := min c.key.size 20000 + min c.val.size 80000
def batW (l : List Chg) : Nat := (l.map chgW).sum
def batsW (ls : List (List Chg)) : Nat := (ls.map batW).sum
structure FewB (ls : List (List Chg)) : Prop where
 len : ls.length ≤ 40
 each : ∀ l ∈ ls, l.length ≤ 600
 sum : batsW ls ≤ 80000
theorem sum_take {α : Type} (f : α → Nat) (l : List α) {i : Nat} {x : α} (h : l[i]? = some x) : ((l.take (i + 1)).map f).sum = ((l.take i).map f).sum + f x := by
 rw [List.take_add_one, h]; simp
def BFewPost (ls : List (List Chg)) (w : World) (e : Ending) (w' : World) : Prop := ∃ b : Bool, e = .returned (.bool b) ∧ (b = true → FewB ls) ∧ Below w.heap.size w w'
set_option maxHeartbeats 4000000 in
theorem x_fewB {w : World} {v : Value} {ls : List (List Chg)} (h : BatsAt w v ls) : Calls Tryz.prog 11 #[v] w (BFewPost ls w) := by
 obtain ⟨a0, cap0, rfl⟩ := h.shape
 have HR := hid h
 have hm : (ls.length : Int) ≤ 1048576 := by have := h.few; omega
 clear h
 go_enter Tryz.func11, Tryz.ntmps11
 go_wp2
 go_loopw [3, 4] (fun n i wr => ∃ (j m : Nat), j ≤ ls.length ∧ j ≤ 41 ∧ i = .int .i64 (j : Int) ∧ n = .int .i64 (m : Int) ∧ m ≤ 160000 ∧ Hid ((∀ l ∈ ls.take j, l.length ≤ 600) ∧ (batsW (ls.take j) ≤ m ∨ m = 160000)) ∧ Hid (Below w.heap.size w wr)) (fun _ i _ => ls.length - (intOf i).toNat)
 case atStart => exact ⟨0, 0, Nat.zero_le _, by omega, rfl, rfl, by omega, hid ⟨fun l hl => by simp at hl, .inl (by simp [batsW])⟩, hid (Below.refl _ _)⟩
 case round =>
  obtain ⟨j, m, hj, hj2, rfl, rfl, hm1, HI, HB⟩ := hrel
  have hm0 : (0 : Int) ≤ (m : Int) := by omega
  have hm2 : (m : Int) ≤ 160000 := by omega
  have hj0 : (0 : Int) ≤ (j : Int) := by omega
  by_cases hlt : j < ls.length
  ·have k2 : (j : Int) < (ls.length : Int) := by omega
   by_cases hlt2 : j ≤ 40
   ·obtain ⟨l, hl⟩ : ∃ l, ls[j]? = some l := ⟨_, List.getElem?_eq_getElem hlt⟩
    obtain ⟨g, off, cap, a, c, hv, hc, hrd⟩ := (HR.out.below HB.out).at_ hl
    injection hv with hv _ _
    subst hv
    have HRD := hid hrd
    have HL := hid hl
    have HEA := hid (HR.out.each l (List.mem_of_getElem? hl))
    have z3 : (l.length : Int) ≤ 1048576 := by have := HEA.out.1; omega
    have k3 : (j : Int) ≤ 40 := by omega
    have HM1 := hid (And.intro hm1 (And.intro hj hlt))
    have HCC : Hid (∀ W, Below wr.heap.size wr W → W.cell? ⟨g, off + j, none⟩ = some (.slice a l.length c)) := hid fun W hW => (hW.cell (p := ⟨g, off + j, none⟩) (World.block_lt_of_cell? wr _ hc)).trans hc
    clear hrd hl hm1 hj hlt hj2 hlt2
    go_wp2
    go_loopw [3, 5] (fun n kv wr2 => ∃ (k m2 : Nat), k ≤ l.length ∧ k ≤ 601 ∧ kv = .int .i64 (k : Int) ∧ n = .int .i64 (m2 : Int) ∧ m2 ≤ 160000 ∧ Hid (batsW (ls.take j) + ((l.take k).map chgW).sum ≤ m2 ∨ m2 = 160000) ∧ Hid (Below w.heap.size w wr2) ∧ Hid (Below wr.heap.size wr wr2)) (fun _ kv _ => l.length - (intOf kv).toNat)
    case atStart => exact ⟨0, m, Nat.zero_le _, by omega, rfl, rfl, HM1.out.1, hid (by have := HI.out.2; simpa using this), HB, hid (Below.refl _ _)⟩
    case round =>
     obtain ⟨k, m2, hk, hk2, rfl, rfl, hm3, HK, HB2, HBW⟩ := hrel
     have hm4 : (0 : Int) ≤ (m2 : Int) := by omega
     have hm5 : (m2 : Int) ≤ 160000 := by omega
     have hk0 : (0 : Int) ≤ (k : Int) := by omega
     have hc2 := HCC.out _ HBW.out
     by_cases hlt3 : k < l.length
     ·have k5 : (k : Int) < (l.length : Int) := by omega
      by_cases hlt4 : k ≤ 600
      ·have k6 : (k : Int) ≤ 600 := by omega
       obtain ⟨x, hx⟩ : ∃ x, l[k]? = some x := ⟨_, List.getElem?_eq_getElem hlt3⟩
       obtain ⟨g2, off2, ea, d0, d1, d2⟩ := chg_cells (HRD.out.below HBW.out) hx
       subst ea
       have hks : (x.key.size : Int) ≤ 1048576 := by have := (HEA.out.2 x (List.mem_of_getElem? hx)).1; omega
       have hvs : (x.val.size : Int) ≤ 1048576 := by have := (HEA.out.2 x (List.mem_of_getElem? hx)).2; omega
       have HX := hid hx
       have HKK := hid (And.intro hlt3 hlt4)
       have HW := hid hm3
       have HSUM := hid (sum_take chgW l hx)
       obtain ⟨p1, hp1⟩ : ∃ y : Nat, y = min x.key.size 20000 := ⟨_, rfl⟩
       obtain ⟨p2, hp2⟩ : ∃ y : Nat, y = min x.val.size 80000 := ⟨_, rfl⟩
       obtain ⟨p3, hp3⟩ : ∃ y : Nat, y = min (m2 + p1 + p2) 160000 := ⟨_, rfl⟩
       have y1 : min (x.key.size : Int) 20000 = (p1 : Int) := by omega
       have y2 : min (x.val.size : Int) 80000 = (p2 : Int) := by omega
       have y3 : min ((m2 : Int) + (p1 : Int) + (p2 : Int)) 160000 = (p3 : Int) := by omega
       have b1 : p1 ≤ 20000 := by rw [hp1]; exact Nat.min_le_right _ _
       have b2 : p2 ≤ 80000 := by rw [hp2]; exact Nat.min_le_right _ _
       have b3 : p3 ≤ 160000 := by rw [hp3]; exact Nat.min_le_right _ _
       have HP := hid (And.intro hp1 (And.intro hp2 hp3))
       clear hp1 hp2 hp3
       have y4 : IntKind.i64.wrap ((m2 : Int) + (p1 : Int)) = (m2 : Int) + (p1 : Int) := IntWalk.i64_in _ (by omega)
       have y5 : IntKind.i64.wrap ((m2 : Int) + (p1 : Int) + (p2 : Int)) = (m2 : Int) + (p1 : Int) + (p2 : Int) := IntWalk.i64_in _ (by omega)
       have HB3 := hid b3
       clear hk hk2 hm3 hx hlt3 hlt4 hm4 hm5 b1 b2 b3
       go_wp2_with (fail)
       go_quiet (fail)
       have HNX : Hid (batsW (ls.take j) + ((l.take (k + 1)).map chgW).sum ≤ p3 ∨ p3 = 160000) := hid (by
        have h1 := HSUM.out
        have h2 : chgW x = p1 + p2 := by unfold chgW; rw [HP.out.1, HP.out.2.1]
        have h3 := HP.out.2.2
        have h4 := HK.out
        have h5 := HW.out
        clear y1 y2 y3 HP
        rcases h4 with h4 | h4 <;> omega)
       clear y1 y2 y3
       go_wp2_with (fail)
       go_roundw
       case rel => exact ⟨k + 1, p3, HKK.out.1, by have := HKK.out.2; omega, by go_num, rfl, HB3.out, HNX, hid (HB2.out.trans (below_drewN _ _ _)), hid (HBW.out.trans (below_drewN _ _ _))⟩
       case measure => simp [intOf]; have := HKK.out.1; omega
      ·have k6 : ¬ (k : Int) ≤ 600 := by omega
       have k7 : (600 : Int) < (l.length : Int) := by omega
       clear hlt3 hlt4
       go_wp2_with (fail)
       go_ret
       exact ⟨_, rfl, fun h => by simp at h, HB2.out⟩
     ·have k5 : ¬ (k : Int) < (l.length : Int) := by omega
      have hke : k = l.length := by omega
      have HSUM := hid (sum_take batW ls HL.out)
      by_cases k8 : 600 < l.length
      ·have k7 : (600 : Int) < (l.length : Int) := by omega
       clear hk hk2 hlt3 hke hm3 k8 HSUM
       go_wp2_with (fail)
       go_ret
       exact ⟨_, rfl, fun h => by simp at h, HB2.out⟩
      have k7 : ¬ (600 : Int) < (l.length : Int) := by omega
      have HNX : Hid ((∀ l ∈ ls.take (j + 1), l.length ≤ 600) ∧ (batsW (ls.take (j + 1)) ≤ m2 ∨ m2 = 160000)) := hid (by
       refine ⟨fun y hy => ?_, ?_⟩
       ·rw [List.take_add_one, HL.out] at hy
        rcases List.mem_append.1 hy with e | e
        ·exact HI.out.1 y e
        ·rw [show y = l by simpa using e]; omega
       ·have h1 := HK.out
        rw [hke, List.take_length] at h1
        have h2 : batsW (ls.take (j + 1)) = batsW (ls.take j) + batW l := HSUM.out
        rw [h2]
        exact h1)
      have HJ := hid hm3
      clear hk hk2 hlt3 hke hm3
      go_wp2_with (fail)
      exact ⟨⟨_, _, _, ⟨j + 1, by have := HM1.out; omega, by omega, rfl, m2, rfl, HJ.out, HNX⟩, rfl, rfl, by go_num⟩, by simp [intOf]; omega⟩
   ·have k3 : ¬ ((j : Int) ≤ 40) := by omega
    have hgt : ¬ ((ls.length : Int) ≤ 40) := by omega
    go_wp2
    go_ret
    exact ⟨_, rfl, fun h => by simp at h, HB.out⟩
  ·have k2 : ¬ (j : Int) < (ls.length : Int) := by omega
   have hje : j = ls.length := by omega
   have HF : Hid (ls.length ≤ 40 → m ≤ 80000 → FewB ls) := hid fun h1 h2 => by
    have h3 := HI.out
    rw [hje, List.take_length] at h3
    exact ⟨h1, h3.1, by rcases h3.2 with e | e <;> omega⟩
   go_wp2
   all_goals (go_ret; exact ⟨_, rfl, fun h => HF.out (by first | omega | (simp at h; try omega)) (by first | omega | (simp at h; try omega)), HB.out⟩)
open Go.RowKit Go.Shelf Go.Sort
theorem mapBlock_heap (w : World) (g : Nat) (f : Array Value → Array Value) {cs : Array Value} {T : TypeId} (h : IsBlk w g cs T) : IsBlk (mapBlock w g f) g (f cs) T := by
 show (w.heap.modify g (onCells f))[g]? = _
 rw [Array.getElem?_modify, if_pos rfl]
 have : w.heap[g]? = some (.cells cs T (0, 0)) := h
 rw [this]; rfl
theorem keeps_mapBlock (w : World) (g : Nat) (f : Array Value → Array Value) : Keeps (fun k => some g = some k) w (mapBlock w g f) :=
 ⟨rfl, rfl, rfl, by simp [mapBlock], fun k _ hn => by
  show (w.heap.modify g (onCells f))[k]? = _
  rw [Array.getElem?_modify, if_neg (fun e => hn (by rw [e]))]⟩
theorem keeps_grow {S : Nat → Prop} (w : World) (os : Array Obj) : Keeps S w (grow w os) :=
 ⟨rfl, rfl, rfl, by simp [grow], fun k hk _ => by
  show (w.heap ++ os)[k]? = _
  rw [Array.getElem?_append_left hk]⟩
theorem keeps_ahead {S : Nat → Prop} (w : World) (n : Nat) : Keeps S w (Sort.ahead w n) := ⟨rfl, rfl, rfl, Nat.le_refl _, fun _ _ _ => rfl⟩
theorem text_flat (L : List ByteArray) : L.flatMap textKind.enc = L.map Value.string := by
 induction L with
 | nil => rfl
 | cons x xs ih => simp only [List.flatMap_cons, List.map_cons, ih]; rfl
theorem put_texts {w : World} {g off cap k : Nat} {cur : Array Value} (hb : IsBlk w g cur 9) (hc : k ≤ cap) (hm : cap ≤ maxLen) (hs : off + cap * textKind.size ≤ cur.size) (M : List (List UInt8)) (hM : M.length = k) (n : Nat) (os : Array Obj) :
 SlAt textKind 9 (grow (putRow encStr (Sort.ahead w n) g off M.toArray) os) (.slice (some ⟨g, off, none⟩) k cap) (M.map fun x => (⟨x.toArray⟩ : ByteArray)) ∧ Keeps (fun i => (Value.slice (some ⟨g, off, none⟩) k cap).ownBlock = some i) w (grow (putRow encStr (Sort.ahead w n) g off M.toArray) os) := by
 have hl : (M.map (fun x => (⟨x.toArray⟩ : ByteArray))).length = k := by rw [List.length_map, hM]
 have hb1 : IsBlk (Sort.ahead w n) g cur 9 := hb
 have hb2 : IsBlk (putRow encStr (Sort.ahead w n) g off M.toArray) g (putCells encStr off M.toArray cur) 9 := mapBlock_heap (Sort.ahead w n) g _ hb1
 have hb3 := (keeps_grow (S := fun _ => False) (putRow encStr (Sort.ahead w n) g off M.toArray) os).obj hb2 (fun e => e.elim)
 have e1 : ∀ j : Nat, j * textKind.size = j := fun j => Nat.mul_one j
 refine ⟨.inr ⟨g, off, cap, _, by rw [hl], hb3, by rw [hl]; exact hc, hm, ?_, ?_⟩, ?_⟩
 ·simp only [putCells, Array.size_mapIdx]; exact hs
 ·intro i hi
  rw [text_flat]
  rw [e1] at hi hs
  rw [hl] at hi
  have hsz : off + i < cur.size := by omega
  simp only [putCells]
  rw [Array.getElem?_mapIdx, Array.getElem?_eq_getElem hsz, Option.map_some]
  rw [if_pos (by simp only [List.size_toArray]; omega)]
  rw [Nat.add_sub_cancel_left, getElem!_pos _ i (by simp only [List.size_toArray]; omega)]
  rw [List.map_map, List.getElem?_map, List.getElem?_eq_getElem (by omega), Option.map_some, List.getElem_toArray]
  rfl
 ·exact ((keeps_ahead w n).trans' (keeps_mapBlock (Sort.ahead w n) g _)).trans' (keeps_grow _ os)
theorem f_sort {w : World} {v : Value} {L : List ByteArray} (h : SlAt textKind 9 w v L) (hn : L.length < 4611686018427387904) :
 Calls Tryz.prog 88 #[v] w fun e w' => e = .returned (.tuple #[]) ∧ ∃ L', L'.Perm L ∧ L'.Pairwise (fun a b => slt b a = false) ∧ SlAt textKind 9 w' v L' ∧ Keeps (fun k => v.ownBlock = some k) w w' := by
 rcases h with ⟨rfl, rfl⟩ | ⟨g, off, cap, cur, rfl, hb, hc, hm, hs, hr⟩
 ·refine (Tryz.slices_Sort_string_none none 0 w).mono ?_
  rintro e w' ⟨rfl, rfl⟩
  exact ⟨rfl, [], List.Perm.nil, List.Pairwise.nil, SlAt.nil, Keeps.refl _ _⟩
 ·have hcur : ∀ i, i < L.length → cur[off + i]? = (L.map Value.string)[i]? := by
   intro i hi
   have := hr i (by show i < L.length * 1; omega)
   rw [this, text_flat]
  have hH : Holds encStr w g off (L.map fun x => x.data.toList).toArray := by
   intro j hj
   simp only [List.size_toArray, List.length_map] at hj
   refine ⟨?_, ?_⟩
   ·rw [blk_cell hb, hcur j hj]
    rw [getElem!_pos _ j (by simpa using hj)]
    simp [hj]
   ·exact blk_free hb _
  have hblk := lt_of_block hb
  have := Tryz.slices_Sort_string g off cap (L.map fun x => x.data.toList) w hH hblk (by simpa using hn)
  rw [List.length_map] at this
  refine this.mono ?_
  rintro e w' ⟨rfl, n, os, rfl⟩
  have hperm := List.mergeSort_perm (L.map fun x => x.data.toList) (fun x y => decide (x ≤ y))
  have hpair : (List.mergeSort (L.map fun x => x.data.toList) (fun x y => decide (x ≤ y))).Pairwise (fun a b => decide (a ≤ b) = true) := List.pairwise_mergeSort (fun a b c h k => by
   simp only [decide_eq_true_eq] at *; exact List.le_trans h k) (fun a b => by
   simp only [Bool.or_eq_true, decide_eq_true_eq]; exact List.le_total a b) _
  generalize List.mergeSort (L.map fun x => x.data.toList) (fun x y => decide (x ≤ y)) = M at hperm hpair ⊢
  have hlen : M.length = L.length := by rw [hperm.length_eq, List.length_map]
  refine ⟨rfl, M.map (fun x => ⟨x.toArray⟩), ?_, ?_, (put_texts hb hc hm hs M hlen n os).1, (put_texts hb hc hm hs M hlen n os).2⟩
  ·refine (hperm.map (fun x => (⟨x.toArray⟩ : ByteArray))).trans ?_
   rw [List.map_map]
   have : ((fun x => (⟨x.toArray⟩ : ByteArray)) ∘ fun x : ByteArray => x.data.toList) = id := by funext x; simp
   rw [this, List.map_id]
  ·rw [List.pairwise_map]
   refine hpair.imp ?_
   intro a b hab
   simp only [decide_eq_true_eq] at hab
   unfold slt
   rw [Lib.toList_data, Lib.toList_data, bytesLess_eq]
   simpa using hab
def namesL {V : Type} (front : ByteArray) (m : List (ByteArray × V)) : List ByteArray := (m.filter fun x => Lib.hasPrefix x.1.data.toList front.data.toList).map (·.1)
theorem infoStr : (Tryz.prog.info? 9).map (fun i => (i.zero, i.size, i.bytes)) = some (some (.string ⟨#[]⟩), 1, 16) := by kernel_rfl
theorem append_texts {w : World} {v u : Value} {xs ys : List ByteArray} (hv : SlAt textKind 9 w v xs) (hu : RdAt textKind w u ys) (hn : xs.length + ys.length ≤ 1000000000) (ty : TypeId) :
 ∃ v' w', (Builtin.append_ #[56, 56] ty #[v, u]).run Tryz.prog w = .ok v' w' ∧ SlAt textKind 9 w' v' (xs ++ ys) ∧ Keeps (fun k => v.ownBlock = some k) w w' ∧
   (∀ k, v'.ownBlock = some k → v.ownBlock = some k ∨ w.heap.size ≤ k) ∧ (v' = .slice none 0 0 ↔ v = .slice none 0 0 ∧ ys = []) := by
 obtain ⟨i0, hi, hz0, hz1, hz2⟩ := info_parts infoStr
 exact run_append_sl (ek := textKind) 56 ty i0 _ 16 Tryz.underlying56 hi hz0 hz1 hz2 rfl hv hu (by unfold maxLen; omega) (by omega)
structure NmI (w : World) (mb : Nat) (rs : List (ByteArray × Pl)) (front : ByteArray) (s : Value) (left : List (ByteArray × Pl)) (wr : World) : Prop where
 ex : ∃ done, (done ++ left).Perm rs ∧ SlAt textKind 9 wr s (namesL front done) ∧ done.length ≤ rs.length
 rng : RangeAt strKind evP wr mb w.heap.size rs left
 new : ∀ k, s.ownBlock = some k → w.heap.size < k
 below : Below w.heap.size w wr
theorem sorted_unique : ∀ {a b : List ByteArray}, a.Perm b → a.Pairwise (fun x y => slt y x = false) → b.Pairwise (fun x y => slt y x = false) → a = b := by
 intro a b hp ha hb
 refine hp.eq_of_pairwise (le := fun x y => slt y x = false) ?_ ha hb
 intro x y _ _ h1 h2
 exact slt_ord.eq _ _ h2 h1
theorem namesL_rise {V : Type} {m : List (ByteArray × V)} (h : Rise slt m) (front : ByteArray) : (namesL front m).Pairwise (fun x y => slt y x = false) := by
 unfold namesL
 rw [List.pairwise_map]
 exact (List.Pairwise.filter _ h).imp (fun h => slt_ord.asymm h)
theorem namesL_perm {V : Type} {m m' : List (ByteArray × V)} (h : m.Perm m') (front : ByteArray) : (namesL front m).Perm (namesL front m') := (h.filter _).map _
theorem namesL_app {V : Type} (m m' : List (ByteArray × V)) (front : ByteArray) : namesL front (m ++ m') = namesL front m ++ namesL front m' := by unfold namesL; rw [List.filter_append, List.map_append]
theorem namesL_map {V W : Type} (f : V → W) (m : List (ByteArray × V)) (front : ByteArray) : namesL front (m.map fun x => (x.1, f x.2)) = namesL front m := by
 unfold namesL
 rw [List.filter_map, List.map_map]
 rfl
section
variable {w : World} {fb mb : Nat} {F : FsS} {S : Nat → Prop} {rs : List (ByteArray × Pl)}
structure TextsAt (w w' : World) (v : Value) (L : List ByteArray) : Prop where
 sl : SlAt textKind 9 w' v L
 new : ∀ k, v.ownBlock = some k → w.heap.size ≤ k
 below : Below w.heap.size w w'
set_option maxHeartbeats 600000 in
theorem f_names (h : FsAt w fb F S mb rs) (hl : rs.length ≤ 1000000) (front : ByteArray) :
 Calls Tryz.prog 27 #[.pointer (some ⟨fb, 0, none⟩), .string front] w fun e w' => ∃ v, e = .returned v ∧ TextsAt w w' v (namesL front F.files) := by
 have c2 : w.cell? ⟨fb, 2, none⟩ = some (.map (some mb)) := blk_cell h.blk 2
 obtain ⟨W1, hrange, hR, hk1, hz1⟩ := h.map.range (P := Tryz.prog) (t := 100) Tryz.underlying100
 have H := hid h
 have HL := hid hl
 have HI : Hid (NmI w mb rs front (.slice none 0 0) rs W1) := hid ⟨⟨[], by simp, SlAt.nil, by simp⟩, hR, fun k e => by simp [Value.ownBlock] at e, hk1⟩
 clear h hR hk1 hz1 hl
 go_enter Tryz.func27, Tryz.ntmps27
 go_wp2_with (fail)
 go_loopg [5] (rs.length + 1) (fun g s wr => ∃ left : List (ByteArray × Pl), g = left.length + 1 ∧ Hid (NmI w mb rs front s left wr))
 case atStart => exact ⟨rs, rfl, HI⟩
 case round =>
  obtain ⟨left, rfl, HN⟩ := hrel
  rcases HN.out.rng.next (P := Tryz.prog) 0 with ⟨rfl, hrun⟩ | ⟨x, rest, w1, hp, hrun, hR, hk, hz, hent⟩
  ·have HS : Hid (∃ done, done.Perm rs ∧ SlAt textKind 9 wr u5 (namesL front done) ∧ done.length ≤ rs.length) := hid (by
    obtain ⟨done, h1, h2, h3⟩ := HN.out.ex
    exact ⟨done, by simpa using h1, h2, h3⟩)
   go_wp2_with (fail)
   obtain ⟨done, h1, h2, h3⟩ := HS.out
   have hlen : (namesL front done).length ≤ 1000000 := by
    unfold namesL
    rw [List.length_map]
    exact Nat.le_trans (List.length_filter_le _ _) (Nat.le_trans h3 HL.out)
   refine (f_sort h2 (by omega)).mono ?_
   rintro e w2 ⟨rfl, L', hp, hs, hsl, hk2⟩
   have HE : Hid (TextsAt w w2 u5 (namesL front F.files)) := by
    have e : L' = namesL front F.files := by
     rw [H.out.files]
     refine (sorted_unique (hp.trans (namesL_perm h1 front)) hs (namesL_rise H.out.map.rise front)).trans ?_
     exact (namesL_map (fun q : Pl => q.fl) rs front).symm
    rw [e] at hsl
    exact hid ⟨hsl, fun k hk => Nat.le_of_lt (HN.out.new k hk), below_keeps HN.out.below hk2 (fun i e => Nat.le_of_lt (HN.out.new i e)) HN.out.below.size⟩
   clear h1 h2 h3 hlen hp hs hsl hk2
   go_wp2_with (fail)
   go_ret
   exact ⟨_, rfl, HE.out⟩
  ·have hent' : (Instr.entry (.pointer (some ⟨w.heap.size, 0, none⟩))).run Tryz.prog w1 = .ok (.tuple #[.string x.1, evP x.2]) w1 := hent
   have hrun' : (Instr.next (.pointer (some ⟨w.heap.size, 0, none⟩)) false 0).run Tryz.prog wr = .ok (.tuple #[.bool true, .string x.1, evP x.2]) w1 := hrun
   have hlen : left.length = rest.length + 1 := by rw [hp.length_eq]; rfl
   have hk' : Keeps (fun i => i = w.heap.size) wr w1 := hk
   have hbw : Below w.heap.size w w1 := below_keeps HN.out.below hk (fun i e => by omega) HN.out.below.size
   have hsl : ∃ done, (done ++ x :: rest).Perm rs ∧ SlAt textKind 9 w1 u5 (namesL front done) ∧ done.length + 1 ≤ rs.length := by
    obtain ⟨done, h1, h2, h3⟩ := HN.out.ex
    refine ⟨done, (List.Perm.append_left done hp.symm).trans h1, h2.keeps hk (fun g hg e => ?_), ?_⟩
    ·have := HN.out.new g hg; omega
    ·have := ((List.Perm.append_left done hp.symm).trans h1).length_eq
     simp only [List.length_append, List.length_cons] at this; omega
   have HX := hid (And.intro hR (And.intro hbw hsl))
   have HNEW := hid HN.out.new
   have HPR := Tryz.strings_HasPrefix x.1 front w1
   clear hent hrun hk hk' hR hbw hsl hp hz
   cases hpre : Lib.hasPrefix x.1.data.toList front.data.toList with
   | false =>
     rw [hpre] at HPR
     have HI2 : Hid (NmI w mb rs front u5 rest w1) := hid (by
      obtain ⟨h1, h2, done, h3, h4, h5⟩ := HX.out
      exact ⟨⟨done ++ [x], by simpa using h3, by rw [namesL_app]; unfold namesL at h4 ⊢; simpa [hpre] using h4, by simpa using h5⟩, h1, HNEW.out, h2⟩)
     have HPR := hid HPR
     clear hpre
     go_wp2_with (fail)
     refine HPR.out.mono ?_
     rintro e w2 ⟨rfl, rfl⟩
     go_wp2_with (fail)
     go_roundg (rest.length + 1)
     case measure => omega
     case rel => exact ⟨rest, rfl, HI2⟩
   | true =>
     rw [hpre] at HPR
     have hu : RdAt textKind (w1.alloc (.cells #[.string x.1] 9)) (.slice (some ⟨w1.heap.size, 0, none⟩) 1 1) [x.1] := by
      refine ⟨_, 1, rfl, fun j y hy => ⟨w1.heap.size, 0, rfl, fun i hi => ?_⟩⟩
      match j, hy with
      | 0, hy =>
        simp only [List.getElem?_cons_zero, Option.some.injEq] at hy
        subst hy
        have hi0 : i = 0 := by have : i < 1 := hi; omega
        subst hi0
        exact blk_cell (cs := #[.string x.1]) (heap_alloc_new w1 _) 0
     have hal : Below w1.heap.size w1 (w1.alloc (.cells #[.string x.1] 9)) := (Below.refl _ _).alloc (Nat.le_refl _) _
     have HI2 : Hid (∃ v' w', (Builtin.append_ #[56, 56] 56 #[u5, .slice (some ⟨w1.heap.size, 0, none⟩) 1 1]).run Tryz.prog (w1.alloc (.cells #[.string x.1] 9)) = .ok v' w' ∧ NmI w mb rs front v' rest w') := hid (by
      obtain ⟨h1, h2, done, h3, h4, h5⟩ := HX.out
      have h4' := h4.below hal
      have hle : (namesL front done).length ≤ 1000000 := by
       unfold namesL
       rw [List.length_map]
       exact Nat.le_trans (List.length_filter_le _ _) (by have := HL.out; omega)
      obtain ⟨v', w', hrun, hs, hk, ho, _⟩ := append_texts h4' hu (by simp only [List.length_cons, List.length_nil]; omega) 56
      refine ⟨v', w', hrun, ⟨done ++ [x], by simpa using h3, by rw [namesL_app]; unfold namesL at hs ⊢; simpa [hpre] using hs, by simpa using h5⟩, ?_, ?_, ?_⟩
      ·refine (h1.below hal).keeps hk ?_ ?_
       ·intro e
        have := HNEW.out _ e
        have := H.out.lt _ H.out.smb
        omega
       ·intro e
        have := HNEW.out _ e
        omega
      ·intro k e
       rcases ho k e with e | e
       ·exact HNEW.out k e
       ·have := hal.size
        have := h1.lt
        have : w1.heap.size < (w1.alloc (.cells #[.string x.1] 9)).heap.size := by simp
        omega
      ·exact below_keeps (h2.trans (hal.mono h2.size)) hk (fun i e => Nat.le_of_lt (HNEW.out i e)) (Nat.le_trans h2.size hal.size))
     obtain ⟨v', w2, hap, hN2⟩ := HI2.out
     have HN2 := hid hN2
     have HPR := hid HPR
     clear hpre hu hal hN2 HI2
     go_wp2_with (fail)
     refine HPR.out.mono ?_
     rintro e w3 ⟨rfl, rfl⟩
     go_wp2_with (at_builtin; refine wpList_append_run rfl (.tmp 19) (.tmp 21) 56 rfl _ _ rfl rfl _ _ hap ?_)
     go_roundg (rest.length + 1)
     case measure => omega
     case rel => exact ⟨rest, rfl, HN2⟩
end
end Go.Proofs.YtagdchgkjjpacaaGreat
