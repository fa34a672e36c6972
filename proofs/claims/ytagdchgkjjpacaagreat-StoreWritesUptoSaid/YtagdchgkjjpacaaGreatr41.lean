/- The walk of exlaw4.Same: has a store just these pairs? -/
import Derived.Test.YtagdchgkjjpacaaGreatr38
import Derived.Test.YtagdchgkjjpacaaGreatr40
import Derived.Test.YtagdchgkjjpacaaGreatr34
import Derived.Test.YtagdchgkjjpacaaGreatr27
import Derived.Test.YtagdchgkjjpacaaGreatr37
import Derived.Test.YtagdchgkjjpacaaGreatr24
import Derived.Test.YtagdchgkjjpacaaGreatr11
import Derived.Test.YtagdchgkjjpacaaGreatr22
set_option maxRecDepth 100000
open Go.Lib (hid)
set_option linter.unusedSimpArgs false
set_option linter.unusedVariables false
set_option linter.unusedSectionVars false
namespace Go.Proofs.YtagdchgkjjpacaaGreat
open Go.RowKit Go.Shelf
attribute [local go_sem] Oper.semAt_some
theorem egSoAll1 : ∀ args w,(callFunc 146 args).run Tryz.prog w = .ok (.enter 146 args) w:=enters_of Tryz.func146 (by kernel_rfl) rfl
theorem iter_soAll {w : World} {bb sb n : Nat} {c : StC} {m : Prs} (hb : IsBlk w bb #[.pointer (some ⟨sb,0,none⟩)] 49) (hs : StB w sb c m n) :
 IterC Tryz.prog 146 #[.pointer (some ⟨bb,0,none⟩)] Ss.encKV Ss.KeepW m w :=
 fun l J Jx W hW hg hr h0 => q_soAll l J Jx ⟨hg,hr⟩ bb W ((hW.block _ (lt_of_block hb)).trans hb) (hs.below hW) h0
theorem seq_nil (g : Nat) (lb : Array Value) (W : World) : (binOp .eql 82 (.func (.func g) #[] lb) .nilFunc).run Tryz.prog W = .ok (.bool false) W:=by kernel_rfl
structure SmBox (w : World) (N sb : Nat) (v : Value) (b : Bool) (i : Int) (W : World) : Prop where
 b0 : IsBlk W N #[.pointer (some ⟨sb,0,none⟩)] 49
 b1 : IsBlk W (N + 1) #[v] 64
 b2 : IsBlk W (N + 2) #[.bool b] 4
 b3 : IsBlk W (N + 4) #[.int .i64 i] 3
 below : Below w.heap.size w W
section
variable {w A B : World} {N sb l : Nat} {v : Value} {b : Bool} {i : Int}
theorem SmBox.keeps (h : SmBox w N sb v b i A) (hk : Keeps (fun k => k = l) A B) (hl : N + 5 ≤ l) (hN : w.heap.size ≤ N) : SmBox w N sb v b i B :=
 ⟨hk.obj h.b0 (by omega),hk.obj h.b1 (by omega),hk.obj h.b2 (by omega),hk.obj h.b3 (by omega),below_keeps h.below hk (by intro i hi; omega) h.below.size⟩
theorem SmBox.ext (h : SmBox w N sb v b i A) (hk : Below A.heap.size A B) : SmBox w N sb v b i B :=
 ⟨(hk.block _ (lt_of_block h.b0)).trans h.b0,(hk.block _ (lt_of_block h.b1)).trans h.b1,(hk.block _ (lt_of_block h.b2)).trans h.b2,(hk.block _ (lt_of_block h.b3)).trans h.b3,h.below.trans (hk.mono h.below.size)⟩
theorem SmBox.set (h : SmBox w N sb v b i A) (hN : w.heap.size ≤ N) (j : Int) : SmBox w N sb v b j (A.setCell ⟨N + 4,0,none⟩ (.int .i64 j)) :=
 ⟨blk_other h.b0 0 _ (by omega),blk_other h.b1 0 _ (by omega),blk_other h.b2 0 _ (by omega),blk_set h.b3 0 _,h.below.setCell (p:=⟨N + 4,0,none⟩) (by simp; omega) _⟩
theorem SmBox.res (h : SmBox w N sb v b i A) (hN : w.heap.size ≤ N) (c : Bool) : SmBox w N sb v c i (A.setCell ⟨N + 2,0,none⟩ (.bool c)) :=
 ⟨blk_other h.b0 0 _ (by omega),blk_other h.b1 0 _ (by omega),blk_set h.b2 0 _,blk_other h.b3 0 _ (by omega),h.below.setCell (p:=⟨N + 2,0,none⟩) (by simp; omega) _⟩
theorem SmBox.start {w w1 : World} {sb : Nat} {v : Value} {N : Nat} (hN : N = w.heap.size) (hw1 : w1 = ((((w.alloc (.cells #[.pointer (some ⟨sb,0,none⟩)] 49)).alloc (.cells #[v] 64)).alloc (.cells #[.bool false] 4)).alloc (.cells #[.pointer (some ⟨sb,0,none⟩)] 49)).alloc (.cells #[.int .i64 0] 3)) :
 SmBox w N sb v false 0 w1 ∧ IsBlk w1 (N + 3) #[.pointer (some ⟨sb,0,none⟩)] 49 ∧ w1.heap.size = N + 5:=by
 subst hN
 obtain ⟨a1,h1⟩ : ∃ x,x = w.alloc (.cells #[.pointer (some ⟨sb,0,none⟩)] 49):=⟨_,rfl⟩
 obtain ⟨a2,h2⟩ : ∃ x,x = a1.alloc (.cells #[v] 64):=⟨_,rfl⟩
 obtain ⟨a3,h3⟩ : ∃ x,x = a2.alloc (.cells #[.bool false] 4):=⟨_,rfl⟩
 obtain ⟨a4,h4⟩ : ∃ x,x = a3.alloc (.cells #[.pointer (some ⟨sb,0,none⟩)] 49):=⟨_,rfl⟩
 rw [← h1,← h2,← h3,← h4] at hw1
 have z1 : a1.heap.size = w.heap.size + 1:=by rw [h1]; exact World.size_alloc _ _
 have z2 : a2.heap.size = w.heap.size + 2:=by rw [h2,World.size_alloc,z1]
 have z3 : a3.heap.size = w.heap.size + 3:=by rw [h3,World.size_alloc,z2]
 have z4 : a4.heap.size = w.heap.size + 4:=by rw [h4,World.size_alloc,z3]
 have z5 : w1.heap.size = w.heap.size + 5:=by rw [hw1,World.size_alloc,z4]
 have k1 : Below w.heap.size w a1:=by rw [h1]; exact (Below.refl _ _).alloc (Nat.le_refl _) _
 have k2 : Below a1.heap.size a1 a2:=by rw [h2]; exact (Below.refl _ _).alloc (Nat.le_refl _) _
 have k3 : Below a2.heap.size a2 a3:=by rw [h3]; exact (Below.refl _ _).alloc (Nat.le_refl _) _
 have k4 : Below a3.heap.size a3 a4:=by rw [h4]; exact (Below.refl _ _).alloc (Nat.le_refl _) _
 have k5 : Below a4.heap.size a4 w1:=by rw [hw1]; exact (Below.refl _ _).alloc (Nat.le_refl _) _
 have i1 : IsBlk a1 w.heap.size #[.pointer (some ⟨sb,0,none⟩)] 49:=by rw [h1]; exact blk_new _ _
 have i2 : IsBlk a2 (w.heap.size + 1) #[v] 64:=by rw [← z1,h2]; exact blk_new _ _
 have i3 : IsBlk a3 (w.heap.size + 2) #[.bool false] 4:=by rw [← z2,h3]; exact blk_new _ _
 have i4 : IsBlk a4 (w.heap.size + 3) #[.pointer (some ⟨sb,0,none⟩)] 49:=by rw [← z3,h4]; exact blk_new _ _
 have i5 : IsBlk w1 (w.heap.size + 4) #[.int .i64 0] 3:=by rw [← z4,hw1]; exact blk_new _ _
 have k25:=k2.trans ((k3.trans ((k4.trans (k5.mono k4.size)).mono k3.size)).mono k2.size)
 have k35:=k3.trans ((k4.trans (k5.mono k4.size)).mono k3.size)
 have k45:=k4.trans (k5.mono k4.size)
 exact ⟨⟨(k25.block _ (lt_of_block i1)).trans i1,(k35.block _ (lt_of_block i2)).trans i2,(k45.block _ (lt_of_block i3)).trans i3,i5,k1.trans (k25.mono k1.size)⟩,(k5.block _ (lt_of_block i4)).trans i4,z5⟩
theorem same_end {tmps : Array Value} (hN : w.heap.size ≤ N) (hB : SmBox w N sb v b i B) (hD : B.heap[N + 5]? = some (.deferred (some []))) (h4 : tmps[4]? = some (.pointer (some ⟨N + 2,0,none⟩))) :
 bodyPostM Fence.wide 0 Tryz.prog Tryz.f34 (fun e w' => e = .returned (.bool b) ∧ Below w.heap.size w w') Exit.ret { tmps:=tmps,defers:=[{ target:=.collected (N + 5),args:=#[] }] } B:=by
 have k1 : IsBlk (B.putObj (N + 5) (.deferred none)) (N + 2) #[.bool b] 4:=(World.putObj_heap_other (by omega)).trans hB.b2
 have k2 : Below w.heap.size w (B.putObj (N + 5) (.deferred none)):=below_keeps hB.below (keeps_putObj B (N + 5) (.deferred none)) (by intro i hi; omega) hB.below.size
 refine leaves_of_marked [N + 5] B ⟨hD,.bool b,?_,rfl,k2⟩
 have c:=blk_cell k1 0
 simp [results,Tryz.results34,go_sem,h4,c]
end
theorem pre_full {α : Type} {pre xs : List α} {x : α} (h : pre ++ [x] <+: xs) : xs[pre.length]? = some x ∧ pre.length < xs.length:=by
 obtain ⟨r,rfl⟩:=h
 simp
set_option maxHeartbeats 8000000 in
theorem x_same {w : World} {sb n : Nat} {c : StC} {m want : Prs} (hs : StB w sb c m n) {v : Value} (hv : RdAt prKind w v want) (hn : m.length ≤ 1000000000) (hw : want.length ≤ 1000000000) :
 Calls Tryz.prog 34 #[.pointer (some ⟨sb,0,none⟩),v] w fun e w' => e = .returned (.bool (decide (m = want))) ∧ Below w.heap.size w w':=by
 obtain ⟨a,cap,rfl,-⟩:=id hv
 have HV:=hid hv
 have HS:=hid hs
 have HLN:=hid (And.intro hn hw)
 obtain ⟨N,hN⟩ : ∃ N,N = w.heap.size:=⟨_,rfl⟩
 obtain ⟨W0,hW0⟩ : ∃ x,x = ((w.alloc (.cells #[.pointer (some ⟨sb,0,none⟩)] 49)).alloc (.cells #[.slice a want.length cap] 64)).alloc (.cells #[.bool false] 4):=⟨_,rfl⟩
 have hz0 : W0.heap.size = N + 3:=by rw [hW0,hN]; simp
 have hp0 : W0.cell? ⟨N,0,none⟩ = some (.pointer (some ⟨sb,0,none⟩)):=by
  rw [hW0,hN]
  exact blk_cell (blk_alloc (blk_alloc (blk_new w _))) 0
 clear hv hs hn hw
 refine calls_of_wp_marks Tryz.func34 rfl ?_
 simp only [Tryz.ntmps34,List.size_toArray,List.length_cons,List.length_nil,Nat.reduceAdd,Nat.reduceSub,Array.replicate_succ,Array.replicate_zero,List.push_toArray,List.append_toArray,List.nil_append,List.cons_append]
 go_upto_region 1 with fail
 rw [← hW0,← hN]
 simp only [Nat.add_assoc,Nat.reduceAdd]
 have HW0:=hid hW0
 have HNN:=hid hN
 clear hW0 hN
 go_wp2_with fail
 refine (so_All W0 sb).mono ?_
 rintro e w1 ⟨rfl,hw1⟩
 obtain ⟨w2,hw2⟩ : ∃ x,x = w1.alloc (.cells #[.int .i64 0] 3):=⟨_,rfl⟩
 obtain ⟨hB,hIB,hZ⟩:=SmBox.start (w1:=w2) (sb:=sb) (v:=.slice a want.length cap) HNN.out (by rw [hw2,hw1,HW0.out])
 have hz1 : w1.heap.size = N + 4:=by rw [hw1,World.size_alloc,hz0]
 have HIT:=hid (iter_soAll hIB (HS.out.below hB.below))
 have HB:=hid hB
 have HZ:=hid hZ
 have hne : (.func (.func 146) #[] #[.pointer (some ⟨W0.heap.size,0,none⟩)] : Value) = .func (.func 146) #[] #[.pointer (some ⟨N + 3,0,none⟩)]:=by rw [hz0]
 rw [hne]
 have HW2:=hid hw2
 have hfn:=fun (lb : Array Value) (W : World) => seq_nil 146 lb W
 clear hw1 hw2 hB hIB hZ hne hp0
 go_upto_region 5 with (fail)
 rw [← HW2.out]
 clear HW2 hz1 hfn hz0
 go_wp2_with (fail)
 refine wp_forSeq rfl egSoAll1 HIT.out (fun _ => rfl) Ss.KeepW.trans (fun W r o h => keepS_put o h) (fun pre A => Hid (pre <+: want ∧ SmBox w N sb (.slice a want.length cap) false (pre.length : Int) A)) (fun co q A => co = .ret ∧ Hid (m ≠ want ∧ ∃ i,SmBox w N sb (.slice a want.length cap) false i A))
   (fun s A B h hk => ?hI) (fun co q A B h hk => ?hIx) (hid ⟨List.nil_prefix,HB.out⟩) ?a1 ?assign ?body ?done ?stop
 case hI => exact hid ⟨h.out.1,h.out.2.keeps hk.loop (by rw [HZ.out]; omega) (by rw [HNN.out]; exact Nat.le_refl _)⟩
 case hIx =>
  obtain ⟨i,h2⟩:=h.2.out.2
  exact ⟨h.1,hid ⟨h.2.out.1,i,h2.keeps hk.loop (by rw [HZ.out]; omega) (by rw [HNN.out]; exact Nat.le_refl _)⟩⟩
 case assign =>
  intro x W K hK
  gi_wp2
  exact hK
 case stop =>
  intro co q B hq h hd
  obtain ⟨rfl,h2⟩:=h
  obtain ⟨hne,i,hB⟩:=h2.out
  have hres : decide (m = want) = false:=decide_eq_false hne
  go_wp2_with (fail)
  rw [hres]
  rw [HZ.out] at hd ⊢
  exact same_end (by rw [HNN.out]; exact Nat.le_refl _) hB hd rfl
 case body =>
  intro pre x A hI hp hsz
  obtain ⟨hx,hlt⟩:=pre_full hp
  have HI:=hid hI.out
  have HX:=hid hx
  have HP:=hid hp
  have HSZ : Hid (N + 7 ≤ A.heap.size):=hid (by rw [HZ.out] at hsz; omega)
  have f0 : A.cell? ⟨N,0,none⟩ = some (.pointer (some ⟨sb,0,none⟩)):=blk_cell HI.out.2.b0 0
  have f1 : A.cell? ⟨N + 1,0,none⟩ = some (.slice a want.length cap):=blk_cell HI.out.2.b1 0
  have f4 : A.cell? ⟨N + 4,0,none⟩ = some (.int .i64 (pre.length : Int)):=blk_cell HI.out.2.b3 0
  have f2 : A.cell? ⟨N + 2,0,none⟩ = some (.bool false):=blk_cell HI.out.2.b2 0
  have z2 : A.frozen? ⟨N + 2,0,none⟩ = false:=blk_free HI.out.2.b2 0
  have z4 : A.frozen? ⟨N + 4,0,none⟩ = false:=blk_free HI.out.2.b3 0
  have q0 : (0 : Int) ≤ (pre.length : Int):=by omega
  have q9 : wrap64 ((pre.length : Int) + 1) = (pre.length : Int) + 1:=IntWalk.wrap64_in _ (by have:=HLN.out.1; omega)
  have q8 : IntKind.i64.wrap ((pre.length : Int) + 1) = (pre.length : Int) + 1:=IntWalk.i64_in _ (by have:=HLN.out.1; omega)
  have HST : Hid (m ≠ want → ∀ W,SmBox w N sb (.slice a want.length cap) false (pre.length : Int) W → Keeps (fun k => k = N + 2) A W → ForPost w2.heap.size Ss.KeepW (fun pre A => Hid (pre <+: want ∧ SmBox w N sb (.slice a want.length cap) false (pre.length : Int) A)) (fun co q A => co = .ret ∧ Hid (m ≠ want ∧ ∃ i,SmBox w N sb (.slice a want.length cap) false i A)) (pre ++ [x]) A .ret ⟨#[],[]⟩ W):=hid fun hne W h1 h2 => by
   refine ⟨?_,?_,?_,rfl,hid ⟨hne,_,h1⟩⟩
   ·exact h2.block _ (by rw [HZ.out]; have:=HSZ.out; omega) (by rw [HZ.out]; omega)
   ·exact h2.block _ (by rw [HZ.out]; have:=HSZ.out; omega) (by rw [HZ.out]; omega)
   ·exact keepS_keeps h2 (by intro T hT b cs hb e; exact ne_of_type hb (e ▸ HI.out.2.b2) (by rintro rfl; simp at hT) rfl)
  clear hI hp hsz hx
  by_cases hwl : pre.length < want.length
  ·obtain ⟨y,hy⟩ : ∃ y,want[pre.length]? = some y:=⟨_,List.getElem?_eq_getElem hwl⟩
   obtain ⟨g,off,rfl,d0,d1⟩:=pr_cells (HV.out.below HI.out.2.below) hy
   have HY:=hid hy
   have q1 : (pre.length : Int) < (want.length : Int):=by omega
   have q2 : decide (want.length ≤ pre.length) = false:=decide_eq_false (by omega)
   clear hy hwl hlt
   by_cases hxy : y = x
   ·subst hxy
    have HG:=hid (so_get (HS.out.below HI.out.2.below) y.1)
    rw [Kv.find_of_mem HS.out.rise (List.mem_of_getElem? HX.out)] at HG
    gi_wp2_with (fail)
    refine ⟨trivial,rfl,(CallsIn.inRound _ (callsIn_wide.2 HG.out)).mono ?_⟩
    rintro e W1 ⟨rfl,hb1⟩
    have HB1:=hid hb1
    have HI1:=hid (HI.out.2.ext hb1)
    clear hb1 HG f0 f1 f2 f4 z2 z4 d0 d1
    simp only [Ss.getRes,Option.getD_some,Option.isSome_some]
    have f4 : W1.cell? ⟨N + 4,0,none⟩ = some (.int .i64 (pre.length : Int)):=blk_cell HI1.out.b3 0
    have z4 : W1.frozen? ⟨N + 4,0,none⟩ = false:=blk_free HI1.out.b3 0
    gi_wp2_with (fail)
    have hkk : Keeps (fun k => k = N + 4) A (W1.setCell ⟨N + 4,0,none⟩ (.int .i64 ((pre.length : Int) + 1))):=((Keeps.of_below HB1.out).mono fun _ _ e => e.elim).trans' (keeps_set _ _ _ _)
    refine ⟨?_,?_,?_,hid ⟨?_,?_⟩⟩
    ·exact hkk.block _ (by rw [HZ.out]; have:=HSZ.out; omega) (by rw [HZ.out]; omega)
    ·exact hkk.block _ (by rw [HZ.out]; have:=HSZ.out; omega) (by rw [HZ.out]; omega)
    ·exact keepS_keeps hkk (by intro T hT b cs hb e; exact ne_of_type hb (e ▸ HI.out.2.b3) (by rintro rfl; simp at hT) rfl)
    ·obtain ⟨r,hr⟩:=HI.out.1
     have h1:=HY.out
     rw [← hr,List.getElem?_append_right (Nat.le_refl _),Nat.sub_self] at h1
     cases r with
     | nil => simp at h1
     | cons z r =>
       simp only [List.getElem?_cons_zero,Option.some.injEq] at h1
       subst h1
       exact ⟨r,by rw [← hr]; simp⟩
    ·have:=HI1.out.set (by rw [HNN.out]; exact Nat.le_refl _) ((pre.length : Int) + 1)
     rw [show (((pre ++ [y]).length : Nat) : Int) = (pre.length : Int) + 1 from by simp]
     exact this
   ·have hne : m ≠ want:=fun e => by
     have h1:=HX.out
     rw [e,HY.out] at h1
     exact hxy (Option.some.inj h1)
    have HNE:=hid hne
    by_cases h1 : y.1 = x.1
    ·have h2 : (y.2.toList == x.2.toList) = false:=beq_eq_false_iff_ne.2 fun e => hxy (Prod.ext h1 (str_inj e))
     rw [h1] at d0
     clear hne hxy h1
     gi_wp2_with (fail)
     exact HST.out HNE.out _ (HI.out.2.res (by rw [HNN.out]; exact Nat.le_refl _) false) (keeps_set _ _ _ _)
    ·have h2 : (y.1.toList == x.1.toList) = false:=beq_eq_false_iff_ne.2 fun e => h1 (str_inj e)
     clear hne hxy h1
     gi_wp2_with (fail)
     exact HST.out HNE.out _ (HI.out.2.res (by rw [HNN.out]; exact Nat.le_refl _) false) (keeps_set _ _ _ _)
  ·have q1 : ¬ (pre.length : Int) < (want.length : Int):=by omega
   have q2 : decide (want.length ≤ pre.length) = true:=decide_eq_true (by omega)
   have hne : m ≠ want:=fun e => by rw [e] at hlt; omega
   have HNE:=hid hne
   clear hne hwl hlt
   gi_wp2_with (fail)
   exact HST.out HNE.out _ (HI.out.2.res (by rw [HNN.out]; exact Nat.le_refl _) false) (keeps_set _ _ _ _)
 case done =>
  intro A hI hD
  have HI:=hid hI.out
  have HD : Hid (A.heap[N + 5]? = some (.deferred (some []))):=hid (by rw [← HZ.out]; exact hD)
  have hbeq : decide (m = want) = ((m.length : Int) == (want.length : Int)):=by
   cases h : ((m.length : Int) == (want.length : Int)) with
   | false => exact decide_eq_false fun e => by rw [e] at h; simp at h
   | true =>
     have h1 : (m.length : Int) = (want.length : Int):=by simpa using h
     exact decide_eq_true (HI.out.1.eq_of_length (by omega))
  have f0 : A.cell? ⟨N,0,none⟩ = some (.pointer (some ⟨sb,0,none⟩)):=blk_cell HI.out.2.b0 0
  have f1 : A.cell? ⟨N + 1,0,none⟩ = some (.slice a want.length cap):=blk_cell HI.out.2.b1 0
  have f2 : A.cell? ⟨N + 2,0,none⟩ = some (.bool false):=blk_cell HI.out.2.b2 0
  have f4 : A.cell? ⟨N + 4,0,none⟩ = some (.int .i64 (m.length : Int)):=blk_cell HI.out.2.b3 0
  have z2 : A.frozen? ⟨N + 2,0,none⟩ = false:=blk_free HI.out.2.b2 0
  have l0:=lt_of_block HI.out.2.b0
  have l1:=lt_of_block HI.out.2.b1
  have l2:=lt_of_block HI.out.2.b2
  have l4:=lt_of_block HI.out.2.b3
  have HL : Hid (∀ X,Below w.heap.size w X → Calls Tryz.prog 31 #[.pointer (some ⟨sb,0,none⟩)] X fun e w' => e = .returned (.int .i64 (m.length : Int)) ∧ Below X.heap.size X w'):=hid fun X hX => so_len (HS.out.below hX)
  have HBQ:=hid hbeq
  clear hI hD hbeq
  cases hq : ((m.length : Int) == (want.length : Int)) with
  | true =>
    go_wp2_with fail
    have hd : Below A.heap.size A A.drew:=(Below.refl _ _).drew
    have e0 : A.drew.cell? ⟨N,0,none⟩ = some (.pointer (some ⟨sb,0,none⟩)):=f0
    refine wp_region_noPanic ?_
    go_region_law (first
     | (go_simp; go_at_call 31; refine (HL.out _ (HI.out.2.below.trans (hd.mono HI.out.2.below.size))).mono ?_; rintro e w1 ⟨rfl,g1⟩
        have hI1:=HI.out.2.ext (hd.trans (g1.mono (by simp)))
        have y1:=blk_cell hI1.b1 0
        have y2:=blk_cell hI1.b2 0
        have y3:=blk_free hI1.b2 0
        have HI1:=hid hI1
        have HD1:=hid ((g1.block _ (by simpa using lt_of_block HD.out)).trans HD.out)
        clear hI1))
    all_goals
     simp only [NoPanic]
     go_wp2_with (fail)
     rw [HBQ.out,hq,HZ.out]
     exact same_end (by rw [HNN.out]; exact Nat.le_refl _) (HI1.out.res (by rw [HNN.out]; exact Nat.le_refl _) true) (blk_other HD1.out 0 _ (by omega)) rfl
  | false =>
    go_wp2_with fail
    refine wp_region_still_tail 11 (by kernel_rfl) (by kernel_rfl) ?_
    simp only [List.take_succ_cons,List.take_zero,List.drop_succ_cons,List.drop_zero]
    repeat still_step
    refine wpStill_nil ?_
    go_wp2_with (fail)
    rw [HBQ.out,hq,HZ.out]
    exact same_end (by rw [HNN.out]; exact Nat.le_refl _) ((HI.out.2.ext (Below.refl _ _).drew).res (by rw [HNN.out]; exact Nat.le_refl _) false) (blk_other HD.out 0 _ (by omega)) rfl
end Go.Proofs.YtagdchgkjjpacaaGreat
namespace Go.Proofs.YtagdchgkjjpacaaGreat
open Go.RowKit Go.Shelf
section
variable {F : FsS} {dir : ByteArray} {k last : Nat}
theorem readF_bytes : ∀ (c n : Nat) (F : FsS) (cut : Nat) (out : List (List UInt8)),n + c = last + 1 ∨ c = 0 → endOf (readF dir last c n F cut out).2.2.1 ≤ endOf out + restN F dir n c
 | 0,n,F,cut,out,_ => by simp only [readF]; omega
 | c + 1,n,F,cut,out,hs => by
   have hs : n + (c + 1) = last + 1:=by rcases hs with e | e; exact e; omega
   rw [restN_succ]
   have e0 : endOf [] = 0:=rfl
   cases hx : F.find (segName dir n) with
   | none => simp only [readF,hx,e0]; omega
   | some x =>
     have h1:=scan_end x.data
     have h2 : szO (some x) = x.data.length:=rfl
     rw [h2]
     by_cases he : endOf (scanOf x.data) = x.data.length
     ·have:=readF_bytes c (n + 1) F cut (out ++ scanOf x.data) (.inl (by omega))
      rw [endOf_append] at this
      simp only [readF,hx]
      rw [if_pos he]
      omega
     ·by_cases hl : n < last
      ·simp only [readF,hx]
       rw [if_neg he,if_pos hl]
       simp only [e0]; omega
      ·have hc0 : c = 0:=by omega
       subst hc0
       simp only [readF,hx]
       rw [if_neg he,if_neg hl]
       split
       ·split
        ·simp only [endOf_append]; omega
        ·simp only [e0]; omega
       ·simp only [e0]; omega
theorem openR_bytes {size : Int} (h : FsOk F k) (f l : Nat) (hl : l ≤ 1000) : endOf (openR F dir size f l).2.2.1 ≤ 67108864:=by
 unfold openR
 simp only
 have h1:=readF_bytes (dir:=dir) (last:=l) (l + 1 - f) f F 0 [] (by omega)
 have e0 : endOf [] = 0:=rfl
 rw [e0] at h1
 by_cases hf : f ≤ l
 ·have h2:=restN_le h dir f (l + 1 - f) (by omega)
  omega
 ·have hc : l + 1 - f = 0:=by omega
  rw [hc] at h1 ⊢
  have : restN F dir f 0 = 0:=rfl
  omega
theorem openL_bytes {size : Int} (h : FsOk F k) (hl : (openL F dir size).2.1.last ≤ 1000) : endOf (openL F dir size).2.2.1 ≤ 67108864:=by
 have e0 : endOf [] = 0:=rfl
 unfold openL at hl ⊢
 split
 ·simp [e0]
 ·rename_i h1
  rw [if_neg h1] at hl
  split
  ·simp [e0]
  ·rename_i h2
   rw [if_neg h2] at hl
   split
   ·simp [e0]
   ·rename_i h3
    rw [if_neg h3] at hl
    cases hs : scanNums (segNums F dir) 0 0 with
    | none => simp only [hs] at hl ⊢; simp [e0]
    | some x =>
      obtain ⟨f,l⟩:=x
      simp only [hs] at hl ⊢
      split
      ·split
       ·exact openR_bytes (h.create _) 1 1 (by omega)
       ·simp [e0]
      ·rename_i hf
       rw [if_neg hf] at hl
       exact openR_bytes h f l hl
theorem openL_dir (F : FsS) (dir : ByteArray) (size : Int) : (openL F dir size).2.1.dir = dir:=by
 unfold openL
 split
 ·rfl
 ·split
  ·rfl
  ·split
   ·rfl
   ·split
    ·rfl
    ·split
     ·split <;> rfl
     ·rfl
theorem end_len (rs : List (List UInt8)) : 8 * rs.length ≤ endOf rs:=by
 induction rs with
 | nil => simp
 | cons p rs ih => rw [endOf_cons,List.length_cons]; omega
theorem end_mem {rs : List (List UInt8)} {p : List UInt8} (h : p ∈ rs) : p.length ≤ endOf rs:=by
 induction rs with
 | nil => simp at h
 | cons q rs ih =>
   rw [endOf_cons]
   rcases List.mem_cons.1 h with e | e
   ·subst e; omega
   ·have:=ih e; omega
section
variable {w0 w : World} {fb : Nat} {S : Nat → Prop}
theorem st_open2 (h : Hd w0 w fb F k S) (hp : PureS S w) (hk : k < 700000) (dir : ByteArray) (hdir : dir.size ≤ 900) (size : Int) (hl : (openL F (nmOf dir sLog) size).2.2.2 = 0 → (openL F (nmOf dir sLog) size).2.1.last ≤ 1000) :
 Calls Tryz.prog 24 #[.pointer (some ⟨fb,0,none⟩),.string dir,.agg #[.int .i64 size]] w (OpnPost w0 w fb S (k + 1500) (openS F dir size)):=by
 refine st_open h hp hk dir hdir size (fun b y _ hy => ?_) fun h0 => ?_
 ·have h1:=(h.ok.len hy).1
  have h2:=cntR_bytes (scanOf y.data)
  have h3:=scan_end y.data
  omega
 ·have h1:=hl h0
  have h2:=openL_bytes h.ok h1
  have h3:=end_len (openL F (nmOf dir sLog) size).2.2.1
  have h4:=cntR_bytes (openL F (nmOf dir sLog) size).2.2.1
  have h5:=nm_size dir sLog
  have h6 : sLog.size = 3:=rfl
  exact ⟨by omega,fun p hp => by have:=end_mem hp; omega,by omega,h1,by rw [openL_dir]; omega⟩
end
end
abbrev nmS : ByteArray:=⟨#[115]⟩
abbrev sg1 : ByteArray:=⟨#[115,47,108,111,103,47,48,48,48,48,48,48,48,49]⟩
abbrev sg2 : ByteArray:=⟨#[115,47,108,111,103,47,48,48,48,48,48,48,48,50]⟩
abbrev bs1 : ByteArray:=⟨#[115,47,98,97,115,101,45,48,48,48,48,48,48,48,49]⟩
abbrev mn1 : ByteArray:=⟨#[115,47,109,97,110,105,102,101,115,116]⟩
def ca1 : Chg:=⟨⟨#[97]⟩,⟨#[49]⟩,false⟩
def ca2 : Chg:=⟨⟨#[98]⟩,⟨#[50]⟩,false⟩
def cb1 : Chg:=⟨⟨#[97]⟩,⟨#[]⟩,true⟩
def cb2 : Chg:=⟨⟨#[99]⟩,⟨#[51]⟩,false⟩
def cc1 : Chg:=⟨⟨#[97]⟩,⟨#[]⟩,false⟩
def sp1 : Prs:=[(⟨#[97]⟩,⟨#[49]⟩),(⟨#[98]⟩,⟨#[50]⟩)]
def sp2 : Prs:=[(⟨#[98]⟩,⟨#[50]⟩),(⟨#[99]⟩,⟨#[51]⟩)]
def sx1 : List UInt8:=frameOf (batB 1 [ca1,ca2])
def sx2 : List UInt8:=sx1 ++ frameOf (batB 2 [cb1,cb2])
def sl1 : LogS:=⟨⟨#[115,47,108,111,103]⟩,64,1,1,0,false⟩
def sl2 : LogS:=⟨⟨#[115,47,108,111,103]⟩,64,2,2,0,false⟩
def sf1 : FsS:=⟨10000,0,[(sg1,⟨[],0⟩)],1,0,false⟩
def sf2 : FsS:=⟨10000,34,[(sg1,⟨sx1,34⟩)],3,0,false⟩
def sf3 : FsS:=⟨10000,63,[(sg1,⟨sx2,63⟩)],5,0,false⟩
def sf4 : FsS:=⟨10000,82,[(bs1,⟨imgB 2 sp2,58⟩),(sg2,⟨[],0⟩),(mn1,⟨frameOf (saidB 1 2),24⟩)],14,0,false⟩
def ss1 : StS:=⟨nmS,sl1,0,false,[],0⟩
def ss2 : StS:=⟨nmS,sl1,0,false,sp1,1⟩
def ss3 : StS:=⟨nmS,sl1,0,false,sp2,2⟩
def ss4 : StS:=⟨nmS,sl2,1,false,sp2,2⟩
theorem sf_a : openS (FsS.new 10000) nmS 64 = (sf1,some ss1,0):=by kernel_rfl
theorem sf_b : writeS ss1 sf1 [ca1,ca2] = (ss2,sf2,0):=by kernel_rfl
theorem sf_c : writeS ss2 sf2 [cb1,cb2] = (ss3,sf3,0):=by kernel_rfl
theorem sf_d : writeS ss3 sf3 [cc1,cc1] = (ss3,sf3,12):=by kernel_rfl
theorem sf_e : chkS ss3 sf3 = (ss4,sf4,0):=by kernel_rfl
theorem sf_g : namesL nmS sf4.files = [bs1,sg2,mn1]:=by kernel_rfl
theorem sf_h : sf4.crash (fun _ _ => 0) = sf4:=by kernel_rfl
theorem sf_i : openS sf4 nmS 64 = (sf4,some ss4,0):=by kernel_rfl
abbrev twoCs (x y : Chg) : Array Value:=#[.string x.key,.string x.val,.bool x.drop,.string y.key,.string y.val,.bool y.drop]
theorem two_chg (w : World) (x y : Chg) : RdAt chgKind (w.alloc (.cells (twoCs x y) 42)) (.slice (some ⟨w.heap.size,0,none⟩) 2 2) [x,y]:=by
 have hb:=blk_new w (.cells (twoCs x y) 42)
 refine ⟨_,2,rfl,fun j z hz => ⟨w.heap.size,0,rfl,fun i hi => ?_⟩⟩
 have hi3 : i < 3:=hi
 match j,hz with
 | 0,hz =>
   simp only [List.getElem?_cons_zero,Option.some.injEq] at hz
   subst hz
   match i,hi3 with
   | 0,_ => exact blk_cell hb 0
   | 1,_ => exact blk_cell hb 1
   | 2,_ => exact blk_cell hb 2
 | 1,hz =>
   simp only [List.getElem?_cons_succ,List.getElem?_cons_zero,Option.some.injEq] at hz
   subst hz
   match i,hi3 with
   | 0,_ => exact blk_cell hb 3
   | 1,_ => exact blk_cell hb 4
   | 2,_ => exact blk_cell hb 5
def Lst (w0 w : World) (fb : Nat) (F : FsS) (k lb sb tb : Nat) (s : StS) (n : Nat) : Prop:=∃ S,Db w0 w fb F k S lb sb tb s n
section
variable {w0 w : World} {fb k lb sb tb n : Nat} {F : FsS} {s : StS}
theorem lst_write2 (h : Lst w0 w fb F k lb sb tb s n) (hk : k < 900000) (hdir : s.log.dir.size ≤ 1000) (hlast : s.log.last < 90000000) (hq : s.seq < 9223372036854775800) (hn : n < 700000000) (x y : Chg) :
 Calls Tryz.prog 25 #[.pointer (some ⟨sb,0,none⟩),.slice (some ⟨w.heap.size,0,none⟩) 2 2] (w.alloc (.cells (twoCs x y) 42)) fun e w' => e = .returned (.int .i64 (writeS s F [x,y]).2.2) ∧ Lst w0 w' fb (writeS s F [x,y]).2.1 (k + 3) lb sb tb (writeS s F [x,y]).1 (n + 500):=by
 obtain ⟨S,h⟩:=h
 have hb : Below w.heap.size w (w.alloc (.cells (twoCs x y) 42)):=(Below.refl _ _).alloc (Nat.le_refl _) _
 have ha:=h.apart
 refine (st_write (h.below hb) (by omega) hdir hlast hq hn (l:=[x,y]) (two_chg w x y) (fun _ g hg => ?_) (by simp)).mono fun e w' ⟨he,hp⟩ => ⟨he,?_⟩
 ·have e : g = w.heap.size:=by simpa [Value.ownBlock] using hg.symm
  subst e
  exact ⟨fun e => by have:=h.lg.hd.fs.lt _ e; omega,by omega,by omega,by omega⟩
 ·obtain ⟨T,h1,_⟩:=hp.ex
  exact ⟨T,h1⟩
theorem lst_chk (h : Lst w0 w fb F k lb sb tb s n) (hk : k < 700000) (hdir : s.dir.size ≤ 900) (hdl : s.log.dir.size ≤ 1000) (hlast : s.log.last < 900) (hq : s.seq < 9223372036854775800) (hn : n < 700000000) (hok : PrsOk s.all) (hlen : (imgB s.seq s.all).length ≤ 1000000) (hN : topBase s.dir F < 100000000) :
 Calls Tryz.prog 26 #[.pointer (some ⟨sb,0,none⟩)] w fun e w' => e = .returned (.int .i64 (chkS s F).2.2) ∧ Lst w0 w' fb (chkS s F).2.1 (k + 1500) lb sb tb (chkS s F).1 n:=by
 obtain ⟨S,h⟩:=h
 refine (st_checkpoint h hk hdir hdl hlast hq hn hok hlen hN).mono fun e w' ⟨he,hp⟩ => ⟨he,?_⟩
 obtain ⟨T,h1,_⟩:=hp.ex
 exact ⟨T,h1⟩
theorem lst_open {S : Nat → Prop} (h : Hd w0 w fb F k S) (hk : k < 700000) (dir : ByteArray) (hdir : dir.size ≤ 900) (size : Int) (hl : (openL F (nmOf dir sLog) size).2.1.last ≤ 1000) {G : FsS} (hO : openS F dir size = (G,some s,0)) :
 Calls Tryz.prog 24 #[.pointer (some ⟨fb,0,none⟩),.string dir,.agg #[.int .i64 size]] w fun e w' => ∃ lb sb tb,e = .returned (.tuple #[.pointer (some ⟨sb,0,none⟩),.int .i64 0]) ∧ Lst w0 w' fb G (k + 1500) lb sb tb s 600000000 ∧ Keeps S w w':=by
 refine (st_open2 h.ps (PS.pure _ _) hk dir hdir size (fun _ => hl)).mono fun e w' ⟨hkp,ho⟩ => ?_
 rw [hO] at ho
 rcases ho with ⟨s2,lb,sb,tb,T,e1,_,rfl,hdb,_⟩ | ⟨e1,_⟩
 ·obtain rfl : s = s2:=Option.some.inj e1
  exact ⟨lb,sb,tb,rfl,⟨T,hdb⟩,hkp.mono fun i _ e => e.1⟩
 ·cases e1
end
theorem prs_sp2 : PrsOk sp2:=by
 refine ⟨?_,?_⟩
 ·unfold Rise sp2
  refine List.Pairwise.cons (fun y hy => ?_) (List.Pairwise.cons (fun y hy => by simp at hy) List.Pairwise.nil)
  rw [List.mem_singleton.1 hy]
  kernel_rfl
 ·intro p hp
  unfold sp2 at hp
  rcases List.mem_cons.1 hp with e | e
  ·subst e; decide
  ·rw [List.mem_singleton.1 e]; decide
theorem three_texts (W : World) (a b c : ByteArray) : RdAt textKind (W.alloc (.cells #[.string a,.string b,.string c] 9)) (.slice (some ⟨W.heap.size,0,none⟩) 3 3) [a,b,c]:=by
 have hb:=blk_new W (.cells #[.string a,.string b,.string c] 9)
 refine ⟨_,3,rfl,fun j y hy => ⟨W.heap.size,0,rfl,fun i hi => ?_⟩⟩
 have hi0 : i = 0:=by have : i < 1:=hi; omega
 subst hi0
 match j,hy with
 | 0,hy => simp only [List.getElem?_cons_zero,Option.some.injEq] at hy; subst hy; exact blk_cell hb 0
 | 1,hy => simp only [List.getElem?_cons_succ,List.getElem?_cons_zero,Option.some.injEq] at hy; subst hy; exact blk_cell hb 1
 | 2,hy => simp only [List.getElem?_cons_succ,List.getElem?_cons_zero,Option.some.injEq] at hy; subst hy; exact blk_cell hb 2
set_option maxHeartbeats 8000000 in
theorem x_sfirst (w : World) : Calls Tryz.prog 10 #[] w fun e w' => e = .returned (.bool true) ∧ Below w.heap.size w w':=by
 go_enter Tryz.func10,Tryz.ntmps10
 go_wp2_with (fail)
 refine (f_new 10000 (by omega) (by omega)).mono ?_
 rintro e w1 ⟨fb,rfl,hf,hb⟩
 have HF : Hid (Hd w w1 fb (FsS.new 10000) 0 (New w w1 fun _ => False)):=hid ⟨hf,fun i e => by rcases e with e | e; exact e.elim; exact e.1,hb,FsOk.new0 10000⟩
 clear hf hb
 go_wp2_with (fail)
 refine (lst_open HF.out (by omega) nmS (by decide) 64 (of_decide_eq_true (by kernel_rfl)) sf_a).mono ?_
 rintro e w2 ⟨lb,sb,tb,rfl,hl,-⟩
 have HL2:=hid hl
 clear hl HF
 go_wp2_with (first | (go_at_call 19; refine (r_num _ _).mono ?_; rintro e w' ⟨rfl,rfl⟩))
 refine (lst_write2 HL2.out (by omega) (by decide) (by decide) (by decide) (by decide) ca1 ca2).mono ?_
 rw [sf_b]
 rintro e w3 ⟨rfl,hl⟩
 have HL3:=hid hl
 clear hl HL2
 go_wp2_with (fail)
 refine (lst_write2 HL3.out (by omega) (by decide) (by decide) (by decide) (by decide) cb1 cb2).mono ?_
 rw [sf_c]
 rintro e w4 ⟨rfl,hl⟩
 have HL4:=hid hl
 clear hl HL3
 go_wp2_with (fail)
 refine (lst_write2 HL4.out (by omega) (by decide) (by decide) (by decide) (by decide) cc1 cc1).mono ?_
 rw [sf_d]
 rintro e w5 ⟨rfl,hl⟩
 have HL5:=hid hl
 clear hl HL4
 go_wp2_with (fail)
 refine (lst_chk HL5.out (by omega) (by decide) (by decide) (by decide) (by decide) (by decide) prs_sp2 (of_decide_eq_true (by kernel_rfl)) (of_decide_eq_true (by kernel_rfl))).mono ?_
 rw [sf_e]
 rintro e w6 ⟨rfl,hl⟩
 have HL6:=hid hl
 clear hl HL5
 go_wp2_with (fail)
 obtain ⟨S6,hl6⟩:=HL6.out
 have hnm:=s_names hl6.lg.hd.fs hl6.lg.hd.ok nmS
 rw [sf_g] at hnm
 have HW6 : Hid (Hd w w6 fb sf4 (0 + 1500 + 3 + 3 + 3 + 1500) S6):=hid hl6.lg.hd
 have HLT:=hid hl6.lg.hd.fs.lt
 clear hl6 HL6
 refine hnm.mono ?_
 rintro e w7 ⟨a7,c7,rfl,ht⟩
 have HT:=hid ht
 have HW7:=hid (HW6.out.read ht.below)
 have HTN : Hid (∀ g,(Value.slice a7 [bs1,sg2,mn1].length c7).ownBlock = some g → w6.heap.size ≤ g ∧ g < w7.heap.size):=hid fun g hg => by
  obtain ⟨cs,hcs⟩:=HT.out.sl.own g hg
  exact ⟨HT.out.new g hg,lt_of_block hcs⟩
 clear ht hnm HW6
 go_wp2_with (fail)
 refine (d_crash_nil HW7.out).mono ?_
 rw [sf_h]
 rintro e w8 ⟨rfl,hd8,hk8⟩
 have HW8:=hid hd8
 have HT8 : Hid (RdAt textKind w8 (.slice a7 [bs1,sg2,mn1].length c7) [bs1,sg2,mn1]):=hid (HT.out.sl.rd.keeps hk8 (fun g hg e => by
  have h1:=HTN.out g hg
  have h2:=HLT.out g e
  omega))
 clear hd8 hk8 HW7 HT
 go_wp2_with (fail)
 refine (lst_open HW8.out (by omega) nmS (by decide) 64 (of_decide_eq_true (by kernel_rfl)) sf_i).mono ?_
 rintro e w9 ⟨lb2,sb2,tb2,rfl,⟨S9,hdb⟩,hk9⟩
 have HD9:=hid hdb
 have HT9 : Hid (RdAt textKind w9 (.slice a7 [bs1,sg2,mn1].length c7) [bs1,sg2,mn1]):=hid (HT8.out.keeps hk9 (fun g hg e => by
  have h1:=HTN.out g hg
  rcases e with e | e
  ·have h2:=HLT.out g e; omega
  ·omega))
 have HB9 : Hid (Below w.heap.size w w9):=hid hdb.lg.hd.below
 clear hdb hk9 HW8 HT8
 go_wp2_with (first | (go_at_call 19; refine (r_num _ _).mono ?_; rintro e w' ⟨rfl,rfl⟩))
 refine (so_get HD9.out.st ⟨#[99]⟩).mono ?_
 rw [show findL slt ss4.all ⟨#[99]⟩ = some ⟨#[51]⟩ from by kernel_rfl]
 simp only [Ss.getRes,Option.getD_some,Option.isSome_some]
 rintro e w10 ⟨rfl,hb10⟩
 have HB10:=hid hb10
 have HS10:=hid (HD9.out.st.below hb10)
 clear hb10
 go_wp2_with (first | (go_at_call 19; refine (r_num _ _).mono ?_; rintro e w' ⟨rfl,rfl⟩))
 refine (so_seq HS10.out.blk).mono ?_
 rintro e w11 ⟨rfl,hb11⟩
 have HB11:=hid hb11
 have HS11:=hid (HS10.out.below hb11)
 clear hb11
 rw [show ((ss4.seq : Nat) : Int) = 2 from rfl]
 go_wp2_with (fail)
 refine (so_len HS11.out).mono ?_
 rintro e w12 ⟨rfl,hb12⟩
 have HB12:=hid (HB10.out.trans ((HB11.out.trans (hb12.mono HB11.out.size)).mono HB10.out.size))
 clear hb12 HB10 HB11 HS10 HS11
 rw [show ((ss4.all.length : Nat) : Int) = 2 from rfl]
 go_wp2_with (fail)
 have hal : Below w12.heap.size w12 (w12.alloc (.cells #[.string bs1,.string sg2,.string mn1] 9)):=(Below.refl _ _).alloc (Nat.le_refl _) _
 refine (r_sameTexts ((HT9.out.below HB12.out).below hal) (three_texts w12 bs1 sg2 mn1) (by decide)).mono ?_
 rintro e w13 ⟨rfl,hb13⟩
 have h12 : Below w.heap.size w w12:=HB9.out.trans (HB12.out.mono HB9.out.size)
 have HE : Hid (Below w.heap.size w w13):=hid (h12.trans ((hal.trans (hb13.mono hal.size)).mono h12.size))
 clear hal hb13 h12
 go_wp2_with (fail)
 go_ret
 exact ⟨rfl,HE.out⟩
end Go.Proofs.YtagdchgkjjpacaaGreat
