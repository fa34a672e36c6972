/- The walk of exlaw4.Changes. -/
import Derived.Test.YtagdchgkjjpacaaGreatr15
import Derived.Test.YtagdchgkjjpacaaGreatr38
set_option maxRecDepth 100000
open Go.Lib (hid)
set_option linter.unusedSimpArgs false
set_option linter.unusedVariables false
set_option linter.unusedSectionVars false
namespace Go.Proofs.YtagdchgkjjpacaaGreat
open Go.RowKit Go.Shelf
theorem infoDChg : (Tryz.prog.info? 43).map (fun i => (i.zero,i.size,i.bytes)) = some (some (.agg #[.string ⟨#[]⟩,.string ⟨#[]⟩,.bool false]),3,40):=by kernel_rfl
theorem append_dchg {w : World} {v u : Value} {xs ys : List Chg} (hv : SlAt chgKind 43 w v xs) (hu : RdAt chgKind w u ys) (hn : xs.length + ys.length ≤ 2000000) (ty : TypeId) :
 ∃ v' w',(Builtin.append_ #[32,32] ty #[v,u]).run Tryz.prog w = .ok v' w' ∧ SlAt chgKind 43 w' v' (xs ++ ys) ∧ Keeps (fun k => v.ownBlock = some k) w w' ∧ (∀ k,v'.ownBlock = some k → v.ownBlock = some k ∨ w.heap.size ≤ k):=by
 obtain ⟨i,hi,hz,hs,hb⟩:=info_parts infoDChg
 obtain ⟨v',w',h1,h2,h3,h4,_⟩:=run_append_sl (ek:=chgKind) (P:=Tryz.prog) 32 ty i _ 40 Tryz.underlying32 hi hz hs hb rfl hv hu (by unfold maxLen; omega) (by omega)
 exact ⟨v',w',h1,h2,h3,h4⟩
structure NewSl {α : Type} (ek : ElKind α) (T : TypeId) (w w' : World) (v : Value) (l : List α) : Prop where
 sl : SlAt ek T w' v l
 new : ∀ g,v.ownBlock = some g → w.heap.size ≤ g
 below : Below w.heap.size w w'
section
variable {α : Type} {ek : ElKind α} {T : TypeId} {w w' w'' : World} {v : Value} {l : List α}
theorem NewSl.nil (w : World) : NewSl ek T w w (.slice none 0 0) []:=⟨SlAt.nil,fun g hg => by simp [Value.ownBlock] at hg,Below.refl _ _⟩
theorem NewSl.read (h : NewSl ek T w w' v l) (k : Below w'.heap.size w' w'') : NewSl ek T w w'' v l:=⟨h.sl.below k,h.new,h.below.trans (k.mono h.below.size)⟩
end
theorem NewSl.dchg {w w1 : World} {v : Value} {l : List Chg} (h : NewSl chgKind 43 w w1 v l) (hl : l.length ≤ 1500000) (c : Chg) :
 ∃ va vc V,(Builtin.append_ #[32,32] 32 #[v,.slice (some ⟨w1.heap.size,0,none⟩) 1 1]).run Tryz.prog (w1.alloc (.cells #[.string c.key,.string c.val,.bool c.drop] 43)).drew = .ok (.slice va (l.length + 1) vc) V ∧ NewSl chgKind 43 w V (.slice va (l.length + 1) vc) (l ++ [c]):=by
 have hb0 : Below w1.heap.size w1 (w1.alloc (.cells #[.string c.key,.string c.val,.bool c.drop] 43)):=(Below.refl _ _).alloc (Nat.le_refl _) _
 have hb1 : Below w1.heap.size w1 (w1.alloc (.cells #[.string c.key,.string c.val,.bool c.drop] 43)).drew:=hb0.drew
 obtain ⟨v',V,hap,hsl,hk,hown⟩:=append_dchg (h.sl.below hb1) ((rd_one (ek:=chgKind) w1 c #[.string c.key,.string c.val,.bool c.drop] rfl 43).below (Below.refl _ _).drew) (by simp only [List.length_cons,List.length_nil]; omega) 32
 obtain ⟨va,vc,e⟩:=hsl.shape
 rw [List.length_append,List.length_singleton] at e
 subst e
 refine ⟨va,vc,V,hap,hsl,fun g hg => ?_,below_keeps (h.below.trans (hb1.mono h.below.size)) hk (fun i e => h.new i e) (by have:=h.below.size; have:=hb1.size; omega)⟩
 rcases hown g hg with e | e
 ·exact h.new g e
 ·have:=h.below.size; have:=hb1.size; omega
set_option maxHeartbeats 4000000 in
theorem x_changes {w : World} {v : Value} {l : List Chg} (h : RdAt chgKind w v l) (hl : l.length ≤ 1048576) :
 Calls Tryz.prog 14 #[v] w fun e w' => ∃ va vc,e = .returned (.slice va l.length vc) ∧ NewSl chgKind 43 w w' (.slice va l.length vc) l:=by
 have HR:=hid h
 obtain ⟨a,cap,rfl,-⟩:=h
 have HL:=hid hl
 have hlI : (l.length : Int) ≤ 1048576:=by omega
 clear hl
 go_enter Tryz.func14,Tryz.ntmps14
 go_wp2_with (fail)
 go_loopw [3,4] (fun ov iv wr => ∃ (i : Nat) (va : Option Addr) (vc : Nat),i ≤ l.length ∧ iv = .int .i64 (i : Int) ∧ ov = .slice va i vc ∧ Hid (NewSl chgKind 43 w wr (.slice va i vc) (l.take i))) (fun _ iv _ => l.length - (intOf iv).toNat)
 case atStart => exact ⟨0,none,0,Nat.zero_le _,rfl,rfl,hid (NewSl.nil w)⟩
 case round =>
  obtain ⟨i,va,vc,hi,rfl,rfl,HN⟩:=hrel
  have q1 : (0 : Int) ≤ (i : Int):=by omega
  by_cases hlt : i < l.length
  ·have q2 : (i : Int) < (l.length : Int):=by omega
   obtain ⟨c,hc⟩ : ∃ c,l[i]? = some c:=⟨_,List.getElem?_eq_getElem hlt⟩
   obtain ⟨g,off,rfl,d0,d1,d2⟩:=chg_cells (HR.out.below HN.out.below) hc
   have hlen : (l.take i).length = i:=by rw [List.length_take]; omega
   obtain ⟨va2,vc2,V,hrun,hn2⟩:=HN.out.dchg (by have:=HL.out; omega) c
   rw [hlen] at hrun hn2
   have HN2 : Hid (NewSl chgKind 43 w V (.slice va2 (i + 1) vc2) (l.take (i + 1))):=hid (by rw [List.take_add_one,hc]; exact hn2)
   have HI:=hid hlt
   clear hc hn2 hlen hlt hi
   go_wp2_with (fail)
   go_region_law ((refine step_append_run (by rfl) (.tmp 11) (.tmp 28) 32 (by rfl) _ _ (by rfl) (by rfl) _ _ hrun ?_))
   all_goals
    go_wp2_with (fail)
    go_roundw
    case rel => exact ⟨i + 1,va2,vc2,HI.out,by go_num,rfl,HN2⟩
    case measure => simp [intOf]; omega
  ·have q2 : ¬ (i : Int) < (l.length : Int):=by omega
   obtain rfl : i = l.length:=by omega
   have HN2 : Hid (NewSl chgKind 43 w wr (.slice va l.length vc) l):=hid (by have:=HN.out; rwa [List.take_length] at this)
   go_wp2_with (fail)
   go_ret
   exact ⟨_,_,rfl,HN2.out⟩
section
variable {w : World}
def keysRev (l : List Chg) : List ByteArray:=(l.map Chg.key).reverse
theorem seen_of {l : List Chg} {i : Nat} {c : Chg} (h : ∀ k y,k < i → l[k]? = some y → y.key ≠ c.key) : ((keysRev (l.take i)).any fun q => decide (tx q = tx c.key)) = false:=by
 rw [List.any_eq_false]
 intro q hq
 unfold keysRev at hq
 rw [List.mem_reverse,List.mem_map] at hq
 obtain ⟨y,hy,rfl⟩:=hq
 obtain ⟨k,hk⟩:=List.getElem?_of_mem hy
 have h1 : k < i:=by
  have:=(List.getElem?_eq_some_iff.1 hk).1
  rw [List.length_take] at this; omega
 rw [List.getElem?_take_of_lt h1] at hk
 have:=h k y h1 hk
 simp only [decide_eq_true_eq]
 exact fun e => this (tx_inj e)
theorem seen_yes {l : List Chg} {i k : Nat} {c y : Chg} (hk : k < i) (hy : l[k]? = some y) (h : y.key = c.key) : ((keysRev (l.take i)).any fun q => decide (tx q = tx c.key)) = true:=by
 rw [List.any_eq_true]
 refine ⟨y.key,?_,by rw [h]; simp⟩
 unfold keysRev
 rw [List.mem_reverse,List.mem_map]
 exact ⟨y,List.mem_of_getElem? (i:=k) (by rw [List.getElem?_take_of_lt hk]; exact hy),rfl⟩
theorem chk_step {l : List Chg} {i : Nat} {c : Chg} (hc : l[i]? = some c) : chkFrom (keysRev (l.take i)) (l.drop i) = if c.key.size < 1 ∨ 200 < c.key.size then 1 else if c.drop = false ∧ 65536 < c.val.size then 8 else if ((keysRev (l.take i)).any fun q => decide (tx q = tx c.key)) = true then 12 else chkFrom (keysRev (l.take (i + 1))) (l.drop (i + 1)):=by
 rw [List.drop_eq_getElem_cons (List.getElem?_eq_some_iff.1 hc).1,(List.getElem?_eq_some_iff.1 hc).2]
 have e : keysRev (l.take (i + 1)) = c.key :: keysRev (l.take i):=by
  unfold keysRev
  rw [List.take_add_one,hc]; simp
 rw [e]
 rfl
set_option maxHeartbeats 4000000 in
theorem d_check {v : Value} {l : List Chg} (h : RdAt chgKind w v l) (hl : l.length ≤ 1048576) (hs : ∀ c ∈ l,c.key.size ≤ 1048576 ∧ c.val.size ≤ 1048576) :
 Calls Tryz.prog 49 #[v] w fun e w' => e = .returned (.int .i64 (chkB l : Int)) ∧ Below w.heap.size w w':=by
 have HR:=hid h
 have HSZ:=hid hs
 obtain ⟨a,cap,rfl,-⟩:=h
 have hlI : (l.length : Int) ≤ 1048576:=by omega
 clear hs
 by_cases h5 : 500 < l.length
 ·have t0 : decide ((500 : Int) < (l.length : Int)) = true:=by simp; omega
  have t1 : (500 : Int) < (l.length : Int):=by omega
  have HC : Hid (chkB l = 9):=hid (by unfold chkB; rw [if_pos h5])
  clear h5
  go_enter Tryz.func49,Tryz.ntmps49
  go_wp2_with (fail)
  go_ret
  rw [HC.out]
  exact ⟨rfl,Below.refl _ _⟩
 have t0 : decide ((500 : Int) < (l.length : Int)) = false:=by simp; omega
 have t1 : ¬ (500 : Int) < (l.length : Int):=by omega
 have HC : Hid (chkB l = chkFrom [] l):=hid (by unfold chkB; rw [if_neg h5])
 clear h5
 go_enter Tryz.func49,Tryz.ntmps49
 go_wp2_with (fail)
 go_loopw [3] (fun iv wr => ∃ i : Nat,i ≤ l.length ∧ iv = .int .i64 (i : Int) ∧ Hid (chkFrom (keysRev (l.take i)) (l.drop i) = chkFrom [] l) ∧ Hid (Below w.heap.size w wr)) (fun iv _ => l.length - (intOf iv).toNat)
 case atStart => exact ⟨0,Nat.zero_le _,rfl,hid rfl,hid (Below.refl _ _)⟩
 case round =>
  obtain ⟨i,hi,rfl,HI,HB⟩:=hrel
  have q1 : (0 : Int) ≤ (i : Int):=by omega
  by_cases hlt : i < l.length
  ·have q2 : (i : Int) < (l.length : Int):=by omega
   obtain ⟨c,hc⟩ : ∃ c,l[i]? = some c:=⟨_,List.getElem?_eq_getElem hlt⟩
   obtain ⟨g,off,ea,d0,d1,d2⟩:=chg_cells (HR.out.below HB.out) hc
   have HEA:=hid ea
   have HST : Hid (chkB l = _):=hid (HC.out.trans (HI.out.symm.trans (chk_step hc)))
   have hks : (c.key.size : Int) ≤ 1048576:=by have:=(HSZ.out c (List.mem_of_getElem? hc)).1; omega
   have hvs : (c.val.size : Int) ≤ 1048576:=by have:=(HSZ.out c (List.mem_of_getElem? hc)).2; omega
   have HCI:=hid hc
   have HLT:=hid hlt
   subst ea
   clear hc hlt hi
   by_cases k1 : c.key.size < 1 ∨ 200 < c.key.size
   ·have HE : Hid (chkB l = 1):=hid (by rw [HST.out,if_pos k1])
    by_cases k2 : c.key.size < 1
    ·have z1 : (c.key.size : Int) < 1:=by omega
     go_wp2_with (fail)
     go_ret
     rw [HE.out]
     exact ⟨rfl,HB.out⟩
    ·have z1 : ¬ (c.key.size : Int) < 1:=by omega
     have z2 : (200 : Int) < (c.key.size : Int):=by omega
     go_wp2_with (fail)
     go_ret
     rw [HE.out]
     exact ⟨rfl,HB.out⟩
   have z1 : ¬ (c.key.size : Int) < 1:=by omega
   have z2 : ¬ (200 : Int) < (c.key.size : Int):=by omega
   have HST2 : Hid (chkB l = _):=hid (HST.out.trans (if_neg k1))
   by_cases k2 : c.drop = false ∧ 65536 < c.val.size
   ·have HE : Hid (chkB l = 8):=hid (by rw [HST2.out,if_pos k2])
    have z3 : (65536 : Int) < (c.val.size : Int):=by omega
    rw [k2.1] at d2
    clear k2
    go_wp2_with (fail)
    go_ret
    rw [HE.out]
    exact ⟨rfl,HB.out⟩
   have HST3 : Hid (chkB l = _):=hid (HST2.out.trans (if_neg k2))
   have HD : Hid (c.drop = false → (c.val.size : Int) ≤ 65536):=hid fun e => by
    have : ¬ 65536 < c.val.size:=fun h => k2 ⟨e,h⟩
    omega
   clear k1 k2 HST HST2
   obtain ⟨dr,hdr⟩ : ∃ b,b = c.drop:=⟨_,rfl⟩
   rw [← hdr] at d2 HD
   clear hdr
   have HCELL : Hid (∀ W,Below wr.heap.size wr W → W.cell? ⟨g,off + i * 3,none⟩ = some (.string c.key) ∧ W.cell? ⟨g,off + i * 3 + 1,none⟩ = some (.string c.val) ∧ W.cell? ⟨g,off + i * 3 + 2,none⟩ = some (.bool dr)):=hid fun W hW =>
    ⟨(hW.cell (p:=⟨g,off + i * 3,none⟩) (World.block_lt_of_cell? wr _ d0)).trans d0,(hW.cell (p:=⟨g,off + i * 3 + 1,none⟩) (World.block_lt_of_cell? wr _ d1)).trans d1,(hW.cell (p:=⟨g,off + i * 3 + 2,none⟩) (World.block_lt_of_cell? wr _ d2)).trans d2⟩
   cases dr with
   | false =>
     have z3 : ¬ (65536 : Int) < (c.val.size : Int):=by have:=HD.out rfl; omega
     clear HD
     go_wp2_with (fail)
     go_loopw [4] (fun kv wr2 => ∃ k : Nat,k ≤ i ∧ kv = .int .i64 (k : Int) ∧ Hid (∀ k' y,k' < k → l[k']? = some y → y.key ≠ c.key) ∧ Hid (Below wr.heap.size wr wr2)) (fun kv _ => i - (intOf kv).toNat)
     case atStart => exact ⟨0,Nat.zero_le _,rfl,hid fun _ _ h => by omega,hid (Below.refl _ _)⟩
     case round =>
      obtain ⟨k,hk,rfl,HK,HBW⟩:=hrel
      obtain ⟨d0,d1,d2⟩:=HCELL.out _ HBW.out
      have hk0 : (0 : Int) ≤ (k : Int):=by omega
      by_cases hki : k < i
      ·have hk1 : (k : Int) < (i : Int):=by omega
       obtain ⟨y,hy⟩ : ∃ y,l[k]? = some y:=⟨_,List.getElem?_eq_getElem (by have:=HLT.out; omega)⟩
       obtain ⟨g2,off2,e2,c0,-,-⟩:=chg_cells (HR.out.below (HB.out.trans (HBW.out.mono HB.out.size))) hy
       injection e2 with e2
       injection e2 with e2 e3 _
       subst e2 e3
       have HY:=hid hy
       have hkl : (k : Int) < (l.length : Int):=by omega
       have HKI:=hid hki
       clear hy hk hki d1 d2
       by_cases he : y.key = c.key
       ·have t2 : (y.key.toList == c.key.toList) = true:=by rw [he]; simp
        have HE : Hid (chkB l = 12):=hid (by rw [HST3.out,if_pos (seen_yes HKI.out HY.out he)])
        clear he
        go_wp2_with (fail)
        go_quiet (fail)
        go_wp2_with (fail)
        go_ret
        rw [HE.out]
        exact ⟨rfl,HB.out.trans ((HBW.out.trans (below_drewN _ _ _)).mono HB.out.size)⟩
       ·have t2 : (y.key.toList == c.key.toList) = false:=beq_eq_false_iff_ne.2 (fun e => he (str_inj e))
        have HN : Hid (∀ k' z,k' < k + 1 → l[k']? = some z → z.key ≠ c.key):=hid fun k' z h1 h2 => by
         by_cases h3 : k' < k
         ·exact HK.out k' z h3 h2
         ·have e : k' = k:=by omega
          rw [e,HY.out] at h2
          rw [← Option.some.inj h2]
          exact he
        clear he
        go_wp2_with (fail)
        go_quiet (fail)
        go_wp2_with (fail)
        go_roundw
        case rel => exact ⟨k + 1,HKI.out,by go_num,HN,hid (HBW.out.trans (below_drewN _ _ _))⟩
        case measure => simp [intOf]; have:=HKI.out; omega
      ·have hk1 : ¬ (k : Int) < (i : Int):=by omega
       have hke : k = i:=by omega
       have HNX : Hid (chkFrom (keysRev (l.take (i + 1))) (l.drop (i + 1)) = chkFrom [] l):=hid (by
        rw [← HC.out,HST3.out,if_neg (by rw [seen_of (fun k' z h1 h2 => HK.out k' z (by omega) h2)]; simp)])
       have HFB : Hid (Below w.heap.size w _):=hid (HB.out.trans (HBW.out.mono HB.out.size))
       clear hk hki hke d0 d1 d2
       go_wp2_with (fail)
       go_roundw
       case rel => exact ⟨i + 1,HLT.out,by go_num,HNX,HFB⟩
       case measure => simp [intOf]; have:=HLT.out; omega
   | true =>
     clear HD
     go_wp2_with (fail)
     go_loopw [4] (fun kv wr2 => ∃ k : Nat,k ≤ i ∧ kv = .int .i64 (k : Int) ∧ Hid (∀ k' y,k' < k → l[k']? = some y → y.key ≠ c.key) ∧ Hid (Below wr.heap.size wr wr2)) (fun kv _ => i - (intOf kv).toNat)
     case atStart => exact ⟨0,Nat.zero_le _,rfl,hid fun _ _ h => by omega,hid (Below.refl _ _)⟩
     case round =>
      obtain ⟨k,hk,rfl,HK,HBW⟩:=hrel
      obtain ⟨d0,d1,d2⟩:=HCELL.out _ HBW.out
      have hk0 : (0 : Int) ≤ (k : Int):=by omega
      by_cases hki : k < i
      ·have hk1 : (k : Int) < (i : Int):=by omega
       obtain ⟨y,hy⟩ : ∃ y,l[k]? = some y:=⟨_,List.getElem?_eq_getElem (by have:=HLT.out; omega)⟩
       obtain ⟨g2,off2,e2,c0,-,-⟩:=chg_cells (HR.out.below (HB.out.trans (HBW.out.mono HB.out.size))) hy
       injection e2 with e2
       injection e2 with e2 e3 _
       subst e2 e3
       have HY:=hid hy
       have hkl : (k : Int) < (l.length : Int):=by omega
       have HKI:=hid hki
       clear hy hk hki d1 d2
       by_cases he : y.key = c.key
       ·have t2 : (y.key.toList == c.key.toList) = true:=by rw [he]; simp
        have HE : Hid (chkB l = 12):=hid (by rw [HST3.out,if_pos (seen_yes HKI.out HY.out he)])
        clear he
        go_wp2_with (fail)
        go_quiet (fail)
        go_wp2_with (fail)
        go_ret
        rw [HE.out]
        exact ⟨rfl,HB.out.trans ((HBW.out.trans (below_drewN _ _ _)).mono HB.out.size)⟩
       ·have t2 : (y.key.toList == c.key.toList) = false:=beq_eq_false_iff_ne.2 (fun e => he (str_inj e))
        have HN : Hid (∀ k' z,k' < k + 1 → l[k']? = some z → z.key ≠ c.key):=hid fun k' z h1 h2 => by
         by_cases h3 : k' < k
         ·exact HK.out k' z h3 h2
         ·have e : k' = k:=by omega
          rw [e,HY.out] at h2
          rw [← Option.some.inj h2]
          exact he
        clear he
        go_wp2_with (fail)
        go_quiet (fail)
        go_wp2_with (fail)
        go_roundw
        case rel => exact ⟨k + 1,HKI.out,by go_num,HN,hid (HBW.out.trans (below_drewN _ _ _))⟩
        case measure => simp [intOf]; have:=HKI.out; omega
      ·have hk1 : ¬ (k : Int) < (i : Int):=by omega
       have hke : k = i:=by omega
       have HNX : Hid (chkFrom (keysRev (l.take (i + 1))) (l.drop (i + 1)) = chkFrom [] l):=hid (by
        rw [← HC.out,HST3.out,if_neg (by rw [seen_of (fun k' z h1 h2 => HK.out k' z (by omega) h2)]; simp)])
       have HFB : Hid (Below w.heap.size w _):=hid (HB.out.trans (HBW.out.mono HB.out.size))
       clear hk hki hke d0 d1 d2
       go_wp2_with (fail)
       go_roundw
       case rel => exact ⟨i + 1,HLT.out,by go_num,HNX,HFB⟩
       case measure => simp [intOf]; have:=HLT.out; omega
  ·have q2 : ¬ (i : Int) < (l.length : Int):=by omega
   have HE : Hid (chkB l = 0):=hid (by
    rw [HC.out,← HI.out,List.drop_eq_nil_of_le (by omega)]
    rfl)
   go_wp2_with (fail)
   go_ret
   rw [HE.out]
   exact ⟨rfl,HB.out⟩
end
theorem batB_front (s : Nat) (l : List Chg) (i : Nat) : (lowN 8 s ++ lowN 2 l.length ++ (l.take i).flatMap chgB).length ≤ (batB s l).length:=by
 rw [batB_take,List.take_length]
 simp only [List.length_append]
 have : ((l.take i).flatMap chgB).length ≤ (l.flatMap chgB).length:=by
  conv => rhs; rw [← List.take_append_drop i l,List.flatMap_append,List.length_append]
  omega
 omega
section
variable {w : World}
set_option maxHeartbeats 8000000 in
theorem d_encode {v : Value} {l : List Chg} (h : RdAt chgKind w v l) (hl : l.length ≤ 1048576) (hsz : ∀ c ∈ l,c.key.size ≤ 1048576 ∧ c.val.size ≤ 1048576) (seq : Int) (hs : seq ≤ 9223372036854775807) :
 Calls Tryz.prog 13 #[.int .i64 seq,v] w fun e w' => ∃ bv,e = .returned (.tuple #[bv,.int .i64 ((encB seq l).2 : Int)]) ∧ Hid (FreshAt w w' bv (encB seq l).1):=by
 have HR:=hid h
 have HL:=hid hl
 obtain ⟨a,cap,rfl,-⟩:=h
 have hlI : (l.length : Int) ≤ 1048576:=by omega
 have HF0 : Hid (FreshAt w w (.slice none 0 0) []):=hid ⟨SlAt.nil,fun k hk => by simp [Value.ownBlock] at hk,Below.refl _ _⟩
 by_cases h1 : seq < 1
 ·have t0 : decide (seq < 1) = true:=by simp; omega
  have HE : Hid (encB seq l = ([],10)):=hid (by unfold encB; rw [if_pos h1])
  clear hsz
  go_enter Tryz.func13,Tryz.ntmps13
  go_wp2_with (fail)
  exact bodyPost_ret (results_tmp2 rfl _ _ _) rfl ⟨_,by rw [HE.out]; rfl,by rw [HE.out]; exact HF0⟩
 have t0 : decide (seq < 1) = false:=by simp; omega
 have HC:=hid (d_check (w:=w) HR.out HL.out hsz)
 clear hsz
 by_cases h2 : chkB l ≠ 0
 ·have HE : Hid (encB seq l = ([],chkB l)):=hid (by unfold encB; rw [if_neg h1,if_pos h2])
  obtain ⟨er,her⟩ : ∃ x : Int,x = (chkB l : Int):=⟨_,rfl⟩
  have t1 : (er != 0) = true:=by simp; omega
  rw [← her] at HC
  have HER:=hid her
  clear h2 her
  go_enter Tryz.func13,Tryz.ntmps13
  go_wp2_with (fail)
  refine HC.out.mono ?_
  rintro e w1 ⟨rfl,hb1⟩
  have HF1 : Hid (FreshAt w w1 (.slice none 0 0) []):=hid (HF0.out.read hb1)
  clear hb1
  go_wp2_with (fail)
  exact bodyPost_ret (results_tmp2 rfl _ _ _) rfl ⟨_,by rw [HE.out,HER.out]; rfl,by rw [HE.out]; exact HF1⟩
 have hc0 : chkB l = 0:=by omega
 have HC0:=hid hc0
 obtain ⟨N,rfl⟩ : ∃ N : Nat,seq = (N : Int):=⟨seq.toNat,by omega⟩
 have HN : Hid (N < 9223372036854775808):=hid (by omega)
 have HE : Hid (encB (N : Int) l = if 1048576 < (batB N l).length then ([],8) else (batB N l,0)):=hid (by unfold encB; rw [if_neg h1,if_neg h2,Int.toNat_natCast])
 have hl5 : (l.length : Int) ≤ 500:=by have:=(chkB_ok hc0).1; omega
 rw [hc0] at HC
 clear h2 hc0 h1
 go_enter Tryz.func13,Tryz.ntmps13
 go_wp2_with (fail)
 refine HC.out.mono ?_
 rintro e w1 ⟨rfl,hb1⟩
 have HB1:=hid hb1
 clear hb1 HC HF0
 go_wp2_with (fail)
 refine (d_low w1 N HN.out 8 (by decide) 8 rfl).mono ?_
 rintro e w2 ⟨v2,rfl,hf2⟩
 obtain ⟨a2,c2,hv2⟩:=hf2.sl.shape
 subst hv2
 have HF2:=hid hf2
 clear hf2
 go_wp2_with (fail)
 refine (d_low w2 l.length (by have:=HL.out; omega) 2 (by decide) 2 rfl).mono ?_
 rintro e w3 ⟨v3,rfl,hf3⟩
 have h8 : (lowN 8 N).length = 8:=lowN_len _ _
 obtain ⟨v4,w4,hrun4,hf4⟩:=FreshAt.append HF2.out (hf3.below) (hf3.sl.rd) (by rw [lowN_len,lowN_len]; omega) 23
 have HF4 : Hid (FreshAt w w4 v4 (lowN 8 N ++ lowN 2 l.length)):=hid ⟨hf4.sl,fun g hg => by have:=hf4.new g hg; have:=HB1.out.size; omega,HB1.out.trans (hf4.below.mono HB1.out.size)⟩
 clear hf3 hf4
 go_wp2_with (at_builtin; refine wpList_append_run rfl (.tmp 18) (.tmp 21) 23 rfl _ _ rfl rfl _ _ hrun4 ?_)
 clear hrun4
 go_loopw [7,8,9] (fun bv iv _ wr => ∃ i : Nat,i ≤ l.length ∧ iv = .int .i64 (i : Int) ∧ Hid (FreshAt w wr bv (lowN 8 N ++ lowN 2 l.length ++ (l.take i).flatMap chgB)) ∧ Hid ((lowN 8 N ++ lowN 2 l.length ++ (l.take i).flatMap chgB).length ≤ 1048576)) (fun _ iv _ _ => l.length - (intOf iv).toNat)
 case atStart => exact ⟨0,Nat.zero_le _,rfl,by simpa using HF4,hid (by simp [lowN_len])⟩
 case round =>
  obtain ⟨i,hi,rfl,HF,HLE⟩:=hrel
  by_cases hlt : i < l.length
  ·have q1 : (0 : Int) ≤ (i : Int):=by omega
   have q2 : (i : Int) < (l.length : Int):=by omega
   obtain ⟨c,hc⟩ : ∃ c,l[i]? = some c:=⟨_,List.getElem?_eq_getElem hlt⟩
   obtain ⟨g,off,ea,d0,d1,d2⟩:=chg_cells HR.out hc
   subst ea
   have HLT:=hid hlt
   have HTK : Hid ((l.take (i + 1)).flatMap chgB = (l.take i).flatMap chgB ++ chgB c):=hid (by rw [List.take_add_one,hc]; simp)
   have HOK:=hid ((chkB_ok HC0.out).2 c (List.mem_of_getElem? hc))
   obtain ⟨k,u,dr⟩:=c
   simp only at d0 d1 d2
   have HCELL : Hid (∀ W,Below w.heap.size w W → W.cell? ⟨g,off + i * 3,none⟩ = some (.string k) ∧ W.cell? ⟨g,off + i * 3 + 1,none⟩ = some (.string u) ∧ W.cell? ⟨g,off + i * 3 + 2,none⟩ = some (.bool dr)):=hid fun W hW =>
    ⟨(hW.cell (p:=⟨g,off + i * 3,none⟩) (World.block_lt_of_cell? w _ d0)).trans d0,(hW.cell (p:=⟨g,off + i * 3 + 1,none⟩) (World.block_lt_of_cell? w _ d1)).trans d1,(hW.cell (p:=⟨g,off + i * 3 + 2,none⟩) (World.block_lt_of_cell? w _ d2)).trans d2⟩
   clear d0 d1 d2 hc hlt hi
   obtain ⟨e0,e1,e2⟩:=HCELL.out _ HF.out.below
   obtain ⟨Z,hZ⟩ : ∃ Z,Z = lowN 8 N ++ lowN 2 l.length ++ (l.take i).flatMap chgB:=⟨_,rfl⟩
   rw [← hZ] at HF HLE
   have HZ:=hid hZ
   have HG1 : Hid (GrowAt wr u7 wr u7 Z):=hid (GrowAt.refl HF.out.sl)
   have ks : (k.size : Int) ≤ 200:=by have:=HOK.out.2.1; simp only at this; omega
   have HKS : Hid (k.size ≤ 200):=hid (by omega)
   have HKL : Hid ((tx k).length = k.size):=hid rfl
   clear hZ
   cases dr with
   | true =>
     obtain ⟨v4,w4,hrun4,hg4⟩:=HG1.out.two (by have:=HLE.out; omega) (2 : UInt8) (UInt8.ofNat k.size) 23
     rw [show ((((2 : UInt8).toNat : Nat)) : Int) = 2 from rfl,show (((UInt8.ofNat k.size).toNat : Nat) : Int) = (k.size : Int) from by rw [UInt8.toNat_ofNat']; omega] at hrun4
     obtain ⟨f0,f1,f2⟩:=HCELL.out _ (HF.out.grow hg4).below
     obtain ⟨v5,w5,hrun5,hg5⟩:=hg4.str k (by rw [List.length_append]; simp only [List.length_cons,List.length_nil]; have:=HLE.out; have:=HKS.out; omega) 23
     obtain ⟨g0,g1,g2⟩:=HCELL.out _ (HF.out.grow hg5).below
     have hf5:=HF.out.grow hg5
     obtain ⟨Z5,hZ5⟩ : ∃ Z5,Z5 = Z ++ [(2 : UInt8),UInt8.ofNat k.size] ++ tx k:=⟨_,rfl⟩
     rw [← hZ5] at hf5
     have HNX : Hid (Z5 = lowN 8 N ++ lowN 2 l.length ++ (l.take (i + 1)).flatMap chgB):=hid (by
      rw [hZ5,HZ.out,HTK.out]
      simp [chgB])
     have z5 : (Z5.length : Int) ≤ 2000000:=by rw [hZ5]; simp only [List.length_append,List.length_cons,List.length_nil]; have:=HLE.out; have:=HKS.out; have:=HKL.out; omega
     obtain ⟨a5,c5,hv5⟩:=hf5.sl.shape
     subst hv5
     have HF5:=hid hf5
     clear hg4 hg5 hf5 hZ5 HG1
     by_cases hbig : 1048576 < Z5.length
     ·have z6 : (1048576 : Int) < (Z5.length : Int):=by omega
      have HE3 : Hid (encB (N : Int) l = ([],8)):=hid (by
       rw [HE.out,if_pos]
       have:=batB_front N l (i + 1)
       rw [← HNX.out] at this
       omega)
      have HF6 : Hid (FreshAt w w5 (.slice none 0 0) []):=hid ⟨SlAt.nil,fun k hk => by simp [Value.ownBlock] at hk,HF5.out.below⟩
      clear hbig
      go_wp2_with (first | (at_builtin; refine wpList_append_run rfl (.tmp 34) (.tmp 43) 23 rfl _ _ rfl rfl _ _ hrun4 ?_) | (at_builtin; refine wpList_append_run2 rfl (.tmp 45) (.tmp 50) 23 9 rfl _ _ rfl rfl _ _ hrun5 ?_))
      exact bodyPost_ret (results_tmp2 rfl _ _ _) rfl ⟨_,by rw [HE3.out]; rfl,by rw [HE3.out]; exact HF6⟩
     ·have z6 : ¬ (1048576 : Int) < (Z5.length : Int):=by omega
      have HLE5 : Hid (Z5.length ≤ 1048576):=hid (by omega)
      clear hbig
      go_wp2_with (first | (at_builtin; refine wpList_append_run rfl (.tmp 34) (.tmp 43) 23 rfl _ _ rfl rfl _ _ hrun4 ?_) | (at_builtin; refine wpList_append_run2 rfl (.tmp 45) (.tmp 50) 23 9 rfl _ _ rfl rfl _ _ hrun5 ?_))
      go_roundw
      case rel => exact ⟨i + 1,HLT.out,by go_num,hid (by rw [← HNX.out]; exact HF5.out),hid (by rw [← HNX.out]; exact HLE5.out)⟩
      case measure => have:=HLT.out; simp [intOf]; omega
   | false =>
     have us : (u.size : Int) ≤ 65536:=by have:=HOK.out.2.2 rfl; simp only at this; omega
     have HUS : Hid (u.size ≤ 65536):=hid (by omega)
     have HUL : Hid ((tx u).length = u.size):=hid rfl
     obtain ⟨v4,w4,hrun4,hg4⟩:=HG1.out.two (by have:=HLE.out; omega) (1 : UInt8) (UInt8.ofNat k.size) 23
     rw [show ((((1 : UInt8).toNat : Nat)) : Int) = 1 from rfl,show (((UInt8.ofNat k.size).toNat : Nat) : Int) = (k.size : Int) from by rw [UInt8.toNat_ofNat']; omega] at hrun4
     obtain ⟨f0,f1,f2⟩:=HCELL.out _ (HF.out.grow hg4).below
     obtain ⟨v5,w5,hrun5,hg5⟩:=hg4.str k (by rw [List.length_append]; simp only [List.length_cons,List.length_nil]; have:=HLE.out; have:=HKS.out; omega) 23
     obtain ⟨g0,g1,g2⟩:=HCELL.out _ (HF.out.grow hg5).below
     have hf5:=HF.out.grow hg5
     obtain ⟨Z5,hZ5⟩ : ∃ Z5,Z5 = Z ++ [(1 : UInt8),UInt8.ofNat k.size] ++ tx k:=⟨_,rfl⟩
     rw [← hZ5] at hf5
     have HZ5:=hid hZ5
     have HZL : Hid (Z5.length ≤ 2000000):=hid (by rw [hZ5]; simp only [List.length_append,List.length_cons,List.length_nil]; have:=HLE.out; have:=HKS.out; have:=HKL.out; omega)
     have HF5:=hid hf5
     obtain ⟨a5,c5,hv5⟩:=hf5.sl.shape
     subst hv5
     clear hg4 hg5 hf5 hZ5 HG1
     go_upto_region 16 with (first | (at_builtin; refine wpList_append_run rfl (.tmp 34) (.tmp 43) 23 rfl _ _ rfl rfl _ _ hrun4 ?_) | (at_builtin; refine wpList_append_run2 rfl (.tmp 45) (.tmp 50) 23 9 rfl _ _ rfl rfl _ _ hrun5 ?_))
     clear hrun4 hrun5 e0 e1 e2 f0 f1 f2 g0 g2
     go_wp2_with (fail)
     refine (d_low w5 u.size (by have:=HUS.out; omega) 4 (by decide) 4 rfl).mono ?_
     rintro e w6 ⟨v6,rfl,hf6⟩
     obtain ⟨v7,w7,hrun7,hf7⟩:=FreshAt.append HF5.out hf6.below hf6.sl.rd (by rw [lowN_len]; have:=HZL.out; omega) 23
     obtain ⟨k0,k1,k2⟩:=HCELL.out _ hf7.below
     obtain ⟨v8,w8,hrun8,hg8⟩:=(GrowAt.refl hf7.sl).str u (by rw [List.length_append,lowN_len]; have:=HZL.out; have:=HUS.out; omega) 23
     obtain ⟨m0,m1,m2⟩:=HCELL.out _ (hf7.grow hg8).below
     have hf8:=hf7.grow hg8
     obtain ⟨Z8,hZ8⟩ : ∃ Z8,Z8 = Z5 ++ lowN 4 u.size ++ tx u:=⟨_,rfl⟩
     rw [← hZ8] at hf8
     have HNX : Hid (Z8 = lowN 8 N ++ lowN 2 l.length ++ (l.take (i + 1)).flatMap chgB):=hid (by
      rw [hZ8,HZ5.out,HZ.out,HTK.out]
      simp [chgB])
     have z5 : (Z8.length : Int) ≤ 3000000:=by rw [hZ8]; simp only [List.length_append,lowN_len]; have:=HZL.out; have:=HUS.out; have:=HUL.out; omega
     obtain ⟨a8,c8,hv8⟩:=hf8.sl.shape
     subst hv8
     have HF8:=hid hf8
     clear hf6 hf7 hg8 hf8 hZ8
     by_cases hbig : 1048576 < Z8.length
     ·have z6 : (1048576 : Int) < (Z8.length : Int):=by omega
      have HE3 : Hid (encB (N : Int) l = ([],8)):=hid (by
       rw [HE.out,if_pos]
       have:=batB_front N l (i + 1)
       rw [← HNX.out] at this
       omega)
      have HF6 : Hid (FreshAt w w8 (.slice none 0 0) []):=hid ⟨SlAt.nil,fun k hk => by simp [Value.ownBlock] at hk,HF8.out.below⟩
      clear hbig
      go_wp2_with (first | (at_builtin; refine wpList_append_run rfl (.tmp 58) (.tmp 65) 23 rfl _ _ rfl rfl _ _ hrun7 ?_) | (at_builtin; refine wpList_append_run2 rfl (.tmp 67) (.tmp 72) 23 9 rfl _ _ rfl rfl _ _ hrun8 ?_))
      exact bodyPost_ret (results_tmp2 rfl _ _ _) rfl ⟨_,by rw [HE3.out]; rfl,by rw [HE3.out]; exact HF6⟩
     ·have z6 : ¬ (1048576 : Int) < (Z8.length : Int):=by omega
      have HLE5 : Hid (Z8.length ≤ 1048576):=hid (by omega)
      clear hbig
      go_wp2_with (first | (at_builtin; refine wpList_append_run rfl (.tmp 58) (.tmp 65) 23 rfl _ _ rfl rfl _ _ hrun7 ?_) | (at_builtin; refine wpList_append_run2 rfl (.tmp 67) (.tmp 72) 23 9 rfl _ _ rfl rfl _ _ hrun8 ?_))
      go_roundw
      case rel => exact ⟨i + 1,HLT.out,by go_num,hid (by rw [← HNX.out]; exact HF8.out),hid (by rw [← HNX.out]; exact HLE5.out)⟩
      case measure => have:=HLT.out; simp [intOf]; omega
  ·have q2 : ¬ (i : Int) < (l.length : Int):=by omega
   obtain rfl : i = l.length:=by omega
   have HF2 : Hid (FreshAt w wr u7 (batB N l)):=hid (by rw [batB_take]; exact HF.out)
   have HE2 : Hid (encB (N : Int) l = (batB N l,0)):=hid (by
    rw [HE.out,if_neg]
    have:=HLE.out
    rw [← batB_take] at this
    omega)
   go_wp2_with (fail)
   exact bodyPost_ret (results_tmp2 rfl _ _ _) rfl ⟨_,by rw [HE2.out]; rfl,by rw [HE2.out]; exact HF2⟩
end
end Go.Proofs.YtagdchgkjjpacaaGreat
