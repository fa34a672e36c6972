/- The walk of package store's reader: change. -/
import Derived.Test.YtagdchgkjjpacaaGreatr13
import Derived.Test.YtagdchgkjjpacaaGreatr11
import Derived.Recover
import Derived.Laws.Pointers
set_option maxRecDepth 100000
open Go.Lib (hid)
set_option linter.unusedSimpArgs false
set_option linter.unusedVariables false
set_option linter.unusedSectionVars false
namespace Go.Proofs.YtagdchgkjjpacaaGreat
open Go.RowKit Go.Shelf
def CBox (w : World) (b : Nat) (c : Chg) : Prop:=IsBlk w b #[.string c.key,.string c.val,.bool c.drop] 42
abbrev zChg : Chg:=⟨⟨#[]⟩,⟨#[]⟩,false⟩
theorem cbox_cells {w : World} {b : Nat} {c : Chg} (h : CBox w b c) : (w.cell? ⟨b,0,none⟩ = some (.string c.key) ∧ w.cell? ⟨b,1,none⟩ = some (.string c.val) ∧ w.cell? ⟨b,2,none⟩ = some (.bool c.drop)) ∧
 (w.frozen? ⟨b,0,none⟩ = false ∧ w.frozen? ⟨b,1,none⟩ = false ∧ w.frozen? ⟨b,2,none⟩ = false):=⟨⟨blk_cell h 0,blk_cell h 1,blk_cell h 2⟩,blk_free h 0,blk_free h 1,blk_free h 2⟩
theorem cbox_new (w : World) (c : Chg) : ∃ w1,w.alloc (.cells #[.string c.key,.string c.val,.bool c.drop] 42) = w1 ∧ Hid (Below w.heap.size w w1 ∧ CBox w1 w.heap.size c ∧ w1.heap.size = w.heap.size + 1):=⟨_,rfl,hid ⟨(Below.refl _ _).alloc (Nat.le_refl _) _,blk_new w _,by simp⟩⟩
theorem cbox_below {w w' : World} {b : Nat} {c : Chg} (h : CBox w b c) (hb : Below w.heap.size w w') : CBox w' b c:=(hb.block _ (lt_of_block h)).trans h
theorem cbox_keeps {S : Nat → Prop} {w w' : World} {b : Nat} {c : Chg} (h : CBox w b c) (hk : Keeps S w w') (hn : ¬ S b) : CBox w' b c:=hk.obj h hn
theorem cbox_set {w : World} {b : Nat} {u : Chg} (h : CBox w b u) (c : Chg) : CBox (((w.setCell ⟨b,0,none⟩ (.string c.key)).setCell ⟨b,1,none⟩ (.string c.val)).setCell ⟨b,2,none⟩ (.bool c.drop)) b c:=blk_set (blk_set (blk_set h 0 (.string c.key)) 1 (.string c.val)) 2 (.bool c.drop)
theorem keeps3 (w : World) (b : Nat) (x y z : Value) : Keeps (Only b) w (((w.setCell ⟨b,0,none⟩ x).setCell ⟨b,1,none⟩ y).setCell ⟨b,2,none⟩ z) :=
 (((Keeps.refl (Only b) w).setCell (p:=⟨b,0,none⟩) (fun _ => rfl) x).setCell (p:=⟨b,1,none⟩) (fun _ => rfl) y).setCell (p:=⟨b,2,none⟩) (fun _ => rfl) z
theorem results_cell1 {fn : Func} {p : Tmp} {ty : TypeId} (h : fn.results = #[.cell p ty]) (tmps : Array Value) (P : Program) (w : World) :
 (results fn tmps).run P w = ((asAddr (tmps.getD p undef)).run P w).andThen fun a w₁ => (loadVar ty a).run P w₁:=by
 simp only [results,h]
 simp [Sem.run_bind,Result.andThen]
theorem cres_cell {fn : Func} {p : Tmp} (hf : fn.results = #[.cell p 42]) {w : World} {b : Nat} {c : Chg} (h : CBox w b c) (tmps : Array Value) (h2 : tmps.getD p undef = .pointer (some ⟨b,0,none⟩)) :
 (results fn tmps).run Tryz.prog w = .ok (.agg #[.string c.key,.string c.val,.bool c.drop]) w:=by
 obtain ⟨⟨c0,c1,c2⟩,-⟩:=cbox_cells h
 rw [results_cell1 hf,h2]
 go_simp
def ChgPost (w : World) (rb B : Nat) (o : Option (Chg × List UInt8)) (e : Ending) (w' : World) : Prop :=
 Keeps (Only rb) w w' ∧ ((∃ c r,o = some (c,r) ∧ e = .returned (.agg #[.string c.key,.string c.val,.bool c.drop]) ∧ ∃ a2 c2,SRd w' rb B a2 c2 r) ∨ (o = none ∧ e = spoiltE))
section
variable {w w' : World} {rb B : Nat} {a : Option Addr} {cap : Nat} {ys : List UInt8}
set_option maxHeartbeats 8000000 in
theorem st_change (h : SRd w rb B a cap ys) (hB : B ≤ w.heap.size) : Calls Tryz.prog 56 #[.pointer (some ⟨rb,0,none⟩)] w (ChgPost w rb B (takeChg ys)):=by
 obtain ⟨w0,hw0,HB0⟩:=cbox_new w zChg
 have H0:=hid (h.below HB0.out.1)
 have HW0:=hid hw0
 have HRB : Hid (rb < w.heap.size):=hid (lt_of_block h.blk)
 have HKN : Hid (∀ W,Keeps (Only rb) w0 W → Keeps (Only rb) w W):=hid fun W hk => ((Keeps.of_below HB0.out.1).mono fun _ _ e => e.elim).trans' hk
 obtain ⟨zb,hzb⟩ : ∃ x,x = w.heap.size:=⟨_,rfl⟩
 have HZB:=hid hzb
 have HZ0 : Hid (CBox w0 zb zChg):=hid (by rw [hzb]; exact HB0.out.2.1)
 have HBB:=hid hB
 clear h hw0 hzb hB
 match ys,H0 with
 | [],H0 =>
   go_enter Tryz.func56,Tryz.ntmps56
   go_upto_region 1 with (fail)
   rw [HW0.out]
   go_wp2_with (fail)
   refine (st_take_bad H0.out 1 (by right; simp)).mono ?_
   rintro e w1 ⟨rfl,rfl⟩
   refine st_leave rfl ?_
   exact ⟨HKN.out _ (Keeps.refl _ _),.inr ⟨rfl,rfl⟩⟩
 | k :: r0,H0 =>
   go_enter Tryz.func56,Tryz.ntmps56
   go_upto_region 1 with (fail)
   rw [HW0.out,← HZB.out]
   go_wp2_with (fail)
   refine (st_take H0.out 1 (by simp)).mono ?_
   rintro e w1 ⟨a1,c1,rfl,a2,c2,HT⟩
   obtain ⟨g,off,ea,hb0⟩:=byte_cell HT.out.1 (show ((k :: r0).take 1)[0]? = some k from rfl)
   subst ea
   rw [Nat.add_zero] at hb0
   have H1 : Hid (SRd w1 rb B a2 c2 r0):=hid HT.out.2.1
   have HK1 : Hid (Keeps (Only rb) w0 w1):=hid HT.out.2.2
   clear HT H0 HW0
   by_cases hkk : k ≠ 1 ∧ k ≠ 2
   ·have n1 : ¬ k.toNat = 1:=fun e => hkk.1 (UInt8.toNat_inj.1 e)
    have n2 : ¬ k.toNat = 2:=fun e => hkk.2 (UInt8.toNat_inj.1 e)
    have t1 : ((k.toNat : Int) != 1) = true:=by simp; omega
    have t2 : ((k.toNat : Int) != 2) = true:=by simp; omega
    have HNO : Hid (takeChg (k :: r0) = none):=hid (by
     cases r0 with
     | nil => rfl
     | cons n r => simp only [takeChg]; rw [if_pos hkk])
    clear hkk
    go_wp2_with (fail)
    refine st_leave rfl ?_
    exact ⟨HKN.out _ HK1.out,.inr ⟨HNO.out,rfl⟩⟩
   ·have hk12 : k = 1 ∨ k = 2:=by
     by_cases h1 : k = 1
     ·exact .inl h1
     ·by_cases h2 : k = 2
      ·exact .inr h2
      ·exact absurd ⟨h1,h2⟩ hkk
    clear hkk
    rcases hk12 with rfl | rfl
    ·match r0,H1 with
     | [],H1 =>
       go_wp2_with (fail)
       refine (st_take_bad H1.out 1 (by right; simp)).mono ?_
       rintro e w2 ⟨rfl,rfl⟩
       refine st_leave rfl ?_
       exact ⟨HKN.out _ HK1.out,.inr ⟨rfl,rfl⟩⟩
     | n :: r,H1 =>
       go_wp2_with (fail)
       refine (st_take H1.out 1 (by simp)).mono ?_
       rintro e w2 ⟨a3,c3,rfl,a4,c4,HT2⟩
       obtain ⟨g2,off2,ea2,hb2⟩:=byte_cell HT2.out.1 (show ((n :: r).take 1)[0]? = some n from rfl)
       subst ea2
       rw [Nat.add_zero] at hb2
       have H2 : Hid (SRd w2 rb B a4 c4 r):=hid HT2.out.2.1
       have HK2 : Hid (Keeps (Only rb) w0 w2):=hid (HK1.out.trans' HT2.out.2.2)
       have hn256 : (n.toNat : Int) < 256:=by have:=n.toNat_lt; omega
       clear HT2 H1 HK1
       go_wp2_with (fail)
       by_cases hlen : r.length < n.toNat
       ·have HNO : Hid (takeChg (1 :: n :: r) = none):=hid (by simp only [takeChg]; rw [if_neg (by decide),if_pos hlen])
        refine (st_take_bad H2.out (n.toNat : Int) (by right; omega)).mono ?_
        rintro e w3 ⟨rfl,rfl⟩
        refine st_leave rfl ?_
        exact ⟨HKN.out _ HK2.out,.inr ⟨HNO.out,rfl⟩⟩
       refine (st_take H2.out n.toNat (by omega)).mono ?_
       rintro e w3 ⟨a5,c5,rfl,a6,c6,HT3⟩
       have HK3 : Hid (Keeps (Only rb) w0 w3):=hid (HK2.out.trans' HT3.out.2.2)
       have H3 : Hid (SRd w3 rb B a6 c6 (r.drop n.toNat)):=hid HT3.out.2.1
       have htl : (r.take n.toNat).length = n.toNat:=by rw [List.length_take]; omega
       obtain ⟨K,hK⟩ : ∃ K,K = st (r.take n.toNat):=⟨_,rfl⟩
       have hcv : (convert 23 9 (.slice a5 n.toNat c5)).run Tryz.prog w3 = .ok (.string K) w3:=by
        have:=run_text (W:=w3) (a:=a5) (cap:=c5) (ys:=r.take n.toNat) (by rw [htl]; exact HT3.out.1)
        rw [htl] at this
        rw [this,hK]
       obtain ⟨Q,hQ⟩ : ∃ Q,Q = r.drop n.toNat:=⟨_,rfl⟩
       rw [← hQ] at H3
       have HTK : Hid (takeChg (1 :: n :: r) = if Q.length < 4 then none else if (Q.drop 4).length < numOf (Q.take 4) then none else some (⟨K,st ((Q.drop 4).take (numOf (Q.take 4))),false⟩,(Q.drop 4).drop (numOf (Q.take 4)))):=hid (by
        simp only [takeChg]
        rw [if_neg (by decide),if_neg hlen,if_neg (by decide),hK,hQ])
       obtain ⟨w4,hw4,HB4⟩:=cbox_new w3 ⟨K,⟨#[]⟩,false⟩
       have HW4:=hid hw4
       obtain ⟨xb,hxb⟩ : ∃ x,x = w3.heap.size:=⟨_,rfl⟩
       have HXB:=hid hxb
       have hz3 : w0.heap.size ≤ w3.heap.size:=HK3.out.size
       have HX4 : Hid (CBox w4 xb ⟨K,⟨#[]⟩,false⟩):=hid (by rw [hxb]; exact HB4.out.2.1)
       have H4 : Hid (SRd w4 rb B a6 c6 Q):=hid (H3.out.below HB4.out.1)
       have HK4 : Hid (Keeps (Only rb) w0 w4):=hid (HK3.out.trans' ((Keeps.of_below HB4.out.1).mono fun _ _ e => e.elim))
       have HLT : Hid (rb < xb ∧ zb < xb ∧ zb ≠ rb ∧ xb < w4.heap.size):=hid (by
        have h1:=HB0.out.2.2
        have h2:=HZB.out
        have h3:=HRB.out
        have h4:=HB4.out.2.2
        omega)
       clear hK hQ htl hw4 hxb HT3 H2 HK2 H3 HK3 hz3 hlen hn256
       go_upto_region 5 with (fail)
       rw [HW4.out,← HXB.out]
       clear HW4 hcv hb2
       obtain ⟨⟨x0,x1,x2⟩,-⟩:=cbox_cells HX4.out
       by_cases h4 : Q.length < 4
       ·have HNO : Hid (takeChg (1 :: n :: r) = none):=hid (by rw [HTK.out,if_pos h4])
        go_wp2_with (fail)
        refine (st_take_bad H4.out 4 (by right; omega)).mono ?_
        rintro e w5 ⟨rfl,rfl⟩
        refine st_leave rfl ?_
        exact ⟨HKN.out _ HK4.out,.inr ⟨HNO.out,rfl⟩⟩
       go_wp2_with (fail)
       refine (st_take H4.out 4 (by omega)).mono ?_
       rintro e w5 ⟨a7,c7,rfl,a8,c8,HT5⟩
       have H5 : Hid (SRd w5 rb B a8 c8 (Q.drop 4)):=hid HT5.out.2.1
       have HK5 : Hid (Keeps (Only rb) w0 w5):=hid (HK4.out.trans' HT5.out.2.2)
       have HX5 : Hid (CBox w5 xb ⟨K,⟨#[]⟩,false⟩):=hid (cbox_keeps HX4.out HT5.out.2.2 (fun e => by have e : xb = rb:=e; have:=HLT.out; omega))
       have HSV:=hid (st_value (w:=w5) HT5.out.1 (by rw [List.length_take]; omega))
       obtain ⟨m,hm⟩ : ∃ m,m = numOf (Q.take 4):=⟨_,rfl⟩
       have hm4 : m < 4294967296:=by rw [hm]; exact numOf_four (by rw [List.length_take]; omega)
       rw [← hm,IntWalk.wrap64_in (m : Int) (by omega)] at HSV
       rw [← hm,if_neg h4] at HTK
       clear HT5 H4 HK4 hm h4 x0 x1 x2
       go_wp2_with (fail)
       refine HSV.out.mono ?_
       rintro e w6 ⟨rfl,rfl⟩
       go_wp2_with (fail)
       by_cases hml : (Q.drop 4).length < m
       ·have HNO : Hid (takeChg (1 :: n :: r) = none):=hid (by rw [HTK.out,if_pos hml])
        refine (st_take_bad H5.out (m : Int) (by right; omega)).mono ?_
        rintro e w6 ⟨rfl,rfl⟩
        refine st_leave rfl ?_
        exact ⟨HKN.out _ HK5.out,.inr ⟨HNO.out,rfl⟩⟩
       rw [if_neg hml] at HTK
       refine (st_take H5.out m (by omega)).mono ?_
       rintro e w6 ⟨a9,c9,rfl,a10,c10,HT6⟩
       obtain ⟨R,hR⟩ : ∃ R,R = (Q.drop 4).drop m:=⟨_,rfl⟩
       obtain ⟨V,hV⟩ : ∃ V,V = st ((Q.drop 4).take m):=⟨_,rfl⟩
       rw [← hV,← hR] at HTK
       have H6 : Hid (SRd w6 rb B a10 c10 R):=hid (by rw [hR]; exact HT6.out.2.1)
       have HK6 : Hid (Keeps (Only rb) w0 w6):=hid (HK5.out.trans' HT6.out.2.2)
       have HX6 : Hid (CBox w6 xb ⟨K,⟨#[]⟩,false⟩):=hid (cbox_keeps HX5.out HT6.out.2.2 (fun e => by have e : xb = rb:=e; have:=HLT.out; omega))
       have htl : ((Q.drop 4).take m).length = m:=by rw [List.length_take]; omega
       have hcv : (convert 23 9 (.slice a9 m c9)).run Tryz.prog w6 = .ok (.string V) w6:=by
        have:=run_text (W:=w6) (a:=a9) (cap:=c9) (ys:=(Q.drop 4).take m) (by rw [htl]; exact HT6.out.1)
        rw [htl] at this
        rw [this,hV]
       obtain ⟨⟨x0,x1,x2⟩,g0,g1,g2⟩:=cbox_cells HX6.out
       have hx7 : CBox (w6.setCell ⟨xb,1,none⟩ (.string V)) xb ⟨K,V,false⟩:=blk_set HX6.out 1 (.string V)
       have hk7 : Keeps (Only xb) w6 (w6.setCell ⟨xb,1,none⟩ (.string V)):=(Keeps.refl (Only xb) w6).setCell (p:=⟨xb,1,none⟩) (fun _ => rfl) _
       have HZ6 : Hid (CBox (w6.setCell ⟨xb,1,none⟩ (.string V)) zb zChg):=hid (cbox_keeps (cbox_keeps HZ0.out HK6.out HLT.out.2.2.1) hk7 (fun e => by have e : zb = xb:=e; have:=HLT.out; omega))
       have H7 : Hid (SRd (w6.setCell ⟨xb,1,none⟩ (.string V)) rb B a10 c10 R):=hid (H6.out.keeps hk7 (fun e => by have e : rb = xb:=e; have:=HLT.out; omega) (fun g off e h0 he => by
        have he : g = xb:=he
        have h1:=H6.out.lo h0 _ e
        have h2:=HBB.out
        have h3:=HZB.out
        have h4:=HLT.out
        simp only at h1
        omega))
       have HK7 : Hid (Keeps (Only rb) w (w6.setCell ⟨xb,1,none⟩ (.string V))):=hid (Keeps.trans (HKN.out _ HK6.out) hk7 fun i _ e => by
        have e : i = xb:=e
        have:=HZB.out
        have:=HLT.out
        omega)
       obtain ⟨⟨y0,y1,y2⟩,-⟩:=cbox_cells hx7
       obtain ⟨⟨z0,z1,z2⟩,f0,f1,f2⟩:=cbox_cells HZ6.out
       simp only at y0 y1 y2 z0 z1 z2
       clear HT6 H5 HK5 HX5 hR hV htl hml hx7 hk7
       go_wp2_with (fail)
       have hk:=keeps3 (w6.setCell ⟨xb,1,none⟩ (.string V)) zb (.string K) (.string V) (.bool false)
       refine bodyPost_ret (v:=.agg #[.string K,.string V,.bool false]) (cres_cell rfl (cbox_set HZ6.out ⟨K,V,false⟩) _ rfl) rfl ⟨?_,.inl ⟨_,_,HTK.out,rfl,a10,c10,?_⟩⟩
       ·refine Keeps.trans HK7.out hk fun i _ e => ?_
        have e : i = zb:=e
        have:=HZB.out
        omega
       ·exact H7.out.keeps hk (fun e => HLT.out.2.2.1 (by have e : rb = zb:=e; exact e.symm)) (fun g off e h0 he => by
         have he : g = zb:=he
         have h1:=H7.out.lo h0 _ e
         have h2:=HBB.out
         have h3:=HZB.out
         simp only at h1
         omega)
    ·match r0,H1 with
     | [],H1 =>
       go_wp2_with (fail)
       refine (st_take_bad H1.out 1 (by right; simp)).mono ?_
       rintro e w2 ⟨rfl,rfl⟩
       refine st_leave rfl ?_
       exact ⟨HKN.out _ HK1.out,.inr ⟨rfl,rfl⟩⟩
     | n :: r,H1 =>
       go_wp2_with (fail)
       refine (st_take H1.out 1 (by simp)).mono ?_
       rintro e w2 ⟨a3,c3,rfl,a4,c4,HT2⟩
       obtain ⟨g2,off2,ea2,hb2⟩:=byte_cell HT2.out.1 (show ((n :: r).take 1)[0]? = some n from rfl)
       subst ea2
       rw [Nat.add_zero] at hb2
       have H2 : Hid (SRd w2 rb B a4 c4 r):=hid HT2.out.2.1
       have HK2 : Hid (Keeps (Only rb) w0 w2):=hid (HK1.out.trans' HT2.out.2.2)
       have hn256 : (n.toNat : Int) < 256:=by have:=n.toNat_lt; omega
       clear HT2 H1 HK1
       go_wp2_with (fail)
       by_cases hlen : r.length < n.toNat
       ·have HNO : Hid (takeChg (2 :: n :: r) = none):=hid (by simp only [takeChg]; rw [if_neg (by decide),if_pos hlen])
        refine (st_take_bad H2.out (n.toNat : Int) (by right; omega)).mono ?_
        rintro e w3 ⟨rfl,rfl⟩
        refine st_leave rfl ?_
        exact ⟨HKN.out _ HK2.out,.inr ⟨HNO.out,rfl⟩⟩
       refine (st_take H2.out n.toNat (by omega)).mono ?_
       rintro e w3 ⟨a5,c5,rfl,a6,c6,HT3⟩
       have HK3 : Hid (Keeps (Only rb) w0 w3):=hid (HK2.out.trans' HT3.out.2.2)
       have H3 : Hid (SRd w3 rb B a6 c6 (r.drop n.toNat)):=hid HT3.out.2.1
       have htl : (r.take n.toNat).length = n.toNat:=by rw [List.length_take]; omega
       obtain ⟨K,hK⟩ : ∃ K,K = st (r.take n.toNat):=⟨_,rfl⟩
       have hcv : (convert 23 9 (.slice a5 n.toNat c5)).run Tryz.prog w3 = .ok (.string K) w3:=by
        have:=run_text (W:=w3) (a:=a5) (cap:=c5) (ys:=r.take n.toNat) (by rw [htl]; exact HT3.out.1)
        rw [htl] at this
        rw [this,hK]
       obtain ⟨Q,hQ⟩ : ∃ Q,Q = r.drop n.toNat:=⟨_,rfl⟩
       rw [← hQ] at H3
       have HTK : Hid (takeChg (2 :: n :: r) = some (⟨K,ByteArray.empty,true⟩,Q)):=hid (by
        simp only [takeChg]
        rw [if_neg (by decide),if_neg hlen,if_pos trivial,hK,hQ])
       obtain ⟨w4,hw4,HB4⟩:=cbox_new w3 ⟨K,⟨#[]⟩,true⟩
       have HW4:=hid hw4
       obtain ⟨xb,hxb⟩ : ∃ x,x = w3.heap.size:=⟨_,rfl⟩
       have HXB:=hid hxb
       have hz3 : w0.heap.size ≤ w3.heap.size:=HK3.out.size
       have HX4 : Hid (CBox w4 xb ⟨K,⟨#[]⟩,true⟩):=hid (by rw [hxb]; exact HB4.out.2.1)
       have H4 : Hid (SRd w4 rb B a6 c6 Q):=hid (H3.out.below HB4.out.1)
       have HK4 : Hid (Keeps (Only rb) w0 w4):=hid (HK3.out.trans' ((Keeps.of_below HB4.out.1).mono fun _ _ e => e.elim))
       have HLT : Hid (rb < xb ∧ zb < xb ∧ zb ≠ rb ∧ xb < w4.heap.size):=hid (by
        have h1:=HB0.out.2.2
        have h2:=HZB.out
        have h3:=HRB.out
        have h4:=HB4.out.2.2
        omega)
       clear hK hQ htl hw4 hxb HT3 H2 HK2 H3 HK3 hz3 hlen hn256
       go_upto_region 5 with (fail)
       rw [HW4.out,← HXB.out]
       clear HW4 hcv hb2
       obtain ⟨⟨x0,x1,x2⟩,-⟩:=cbox_cells HX4.out
       have HZ4 : Hid (CBox w4 zb zChg):=hid (cbox_keeps HZ0.out HK4.out HLT.out.2.2.1)
       obtain ⟨⟨z0,z1,z2⟩,f0,f1,f2⟩:=cbox_cells HZ4.out
       go_wp2_with (fail)
       have hk:=keeps3 w4 zb (.string K) (.string ⟨#[]⟩) (.bool true)
       refine bodyPost_ret (v:=.agg #[.string K,.string ⟨#[]⟩,.bool true]) (cres_cell rfl (cbox_set HZ4.out ⟨K,⟨#[]⟩,true⟩) _ rfl) rfl ⟨?_,.inl ⟨_,_,HTK.out,rfl,a6,c6,?_⟩⟩
       ·refine Keeps.trans (HKN.out _ HK4.out) hk fun i _ e => ?_
        have e : i = zb:=e
        have:=HZB.out
        omega
       ·refine H4.out.keeps hk (fun e => HLT.out.2.2.1 (by have e : rb = zb:=e; exact e.symm)) (fun g off e h0 he => ?_)
        have he : g = zb:=he
        have h1:=H4.out.lo h0 _ e
        have h2:=HBB.out
        have h3:=HZB.out
        simp only at h1
        omega
end
theorem assert_spoilt (W : World) (v : Value) (t : TypeId) : (Instr.typeAssert (.iface 153 v) t 153 true).run Tryz.prog W = .ok (.tuple #[v,.bool true]) W:=by kernel_rfl
theorem reads_idle (vb : Nat) (w : World) : CallsD Tryz.prog 101 #[.pointer (some ⟨vb,0,none⟩)] .returning w fun e u' w' => e = .returned (.tuple #[]) ∧ u' = .returning ∧ w' = w:=by
 refine callsD_of_wpS Tryz.func101 rfl fun c₀ cs hu => ?_
 simp only [Tryz.ntmps101,List.size_toArray,List.length_cons,List.length_nil,Nat.reduceAdd,Nat.reduceSub,Array.replicate_succ,Array.replicate_zero,List.push_toArray,List.append_toArray,List.nil_append,List.cons_append]
 apply wpS_seq
 apply wpS_region
 simp [wpOpsS,go_sem,recoverD,hu,Exit.thenS]
 refine wpS_of_wp ?_
 go_wp2_with (fail)
 refine ⟨rfl,.returning,?_,.tuple #[],by simp [results,Tryz.results101],rfl,rfl,rfl⟩
 cases c₀
 simp_all
set_option maxHeartbeats 4000000 in
theorem reads_caught (vb : Nat) (w : World) (hv : IsBlk w vb #[.bool false] 4) : CallsD Tryz.prog 101 #[.pointer (some ⟨vb,0,none⟩)] (.panicking (spoiltC false)) w fun en u' w' =>
 en = .returned (.tuple #[]) ∧ u' = .panicking (spoiltC true) ∧ IsBlk w' vb #[.bool false] 4 ∧ Keeps (fun k => k = vb) w w':=by
 have HV:=hid hv
 refine callsD_of_wpS Tryz.func101 rfl fun c₀ cs hu => ?_
 simp only [Tryz.ntmps101,List.size_toArray,List.length_cons,List.length_nil,Nat.reduceAdd,Nat.reduceSub,Array.replicate_succ,Array.replicate_zero,List.push_toArray,List.append_toArray,List.nil_append,List.cons_append]
 apply wpS_seq
 apply wpS_region
 simp [wpOpsS,go_sem,recoverD,hu,Exit.thenS,spoiltC]
 refine wpS_of_wp ?_
 have hta:=fun W v => assert_spoilt W v 20
 clear hv
 go_upto_region 7 with (fail)
 clear hta
 obtain ⟨w1,hw1⟩ : ∃ x,x = w.alloc (.cells #[] 153):=⟨_,rfl⟩
 have hb : Below w.heap.size w w1:=by rw [hw1]; exact (Below.refl _ _).alloc (Nat.le_refl _) _
 rw [← hw1]
 have hv1 : IsBlk w1 vb #[.bool false] 4:=(hb.block _ (lt_of_block HV.out)).trans HV.out
 have b0 : w1.cell? ⟨vb,0,none⟩ = some (.bool false):=blk_cell hv1 0
 have z0 : w1.frozen? ⟨vb,0,none⟩ = false:=blk_free hv1 0
 have HV1:=hid hv1
 have HB:=hid hb
 clear hv1 hb hw1
 go_wp2_with (fail)
 have hk : Keeps (Only vb) w1 (w1.setCell ⟨vb,0,none⟩ (.bool false)):=(Keeps.refl (Only vb) w1).setCell (p:=⟨vb,0,none⟩) (fun _ => rfl) _
 have hv2 : IsBlk (w1.setCell ⟨vb,0,none⟩ (.bool false)) vb #[.bool false] 4:=blk_set HV1.out 0 (.bool false)
 refine ⟨rfl,.panicking [{ v:=.iface 153 (.agg #[]),recovered:=true }],?_,.tuple #[],by simp [results,Tryz.results101],rfl,rfl,?_,?_⟩
 ·cases c₀
  simp_all
 ·exact hv2
 ·exact ((Keeps.of_below HB.out).mono fun _ _ e => e.elim).trans' hk
theorem bres_cell {fn : Func} {p : Tmp} (hf : fn.results = #[.cell p 4]) {w : World} {b : Nat} {x : Bool} (h : IsBlk w b #[.bool x] 4) (tmps : Array Value) (h2 : tmps.getD p undef = .pointer (some ⟨b,0,none⟩)) :
 (results fn tmps).run Tryz.prog w = .ok (.bool x) w:=by
 have c0 : w.cell? ⟨b,0,none⟩ = some (.bool x):=blk_cell h 0
 rw [results_cell1 hf,h2]
 go_simp
set_option maxHeartbeats 4000000 in
theorem st_reads (k : FuncId) (hcf : ∀ args w,(callFunc k args).run Tryz.prog w = .ok (.enter k args) w) (caps : Array Value) (w : World) (S : Nat → Prop) (hS1 : ¬ S w.heap.size) (R : Ending → World → Prop)
 (hg : Calls Tryz.prog k caps (w.alloc (.cells #[.bool false] 4)) fun e w' => Keeps S (w.alloc (.cells #[.bool false] 4)) w' ∧ R e w' ∧ ((∃ v,e = .returned v) ∨ e = spoiltE)) :
 Calls Tryz.prog 52 #[.func (Fn.func k) #[] caps] w fun e w' => ∃ w1,Keeps (fun i => i = w.heap.size) w1 w' ∧ w.heap.size < w1.heap.size ∧ ((∃ v,R (.returned v) w1 ∧ e = .returned (.bool true)) ∨ (R spoiltE w1 ∧ e = .returned (.bool false))):=by
 have hmf : ∀ (fn : Fn) (first cap : Array Value) (w : World),(Instr.makeFunc fn first cap).run Tryz.prog w = .ok (.func fn first cap) w:=fun _ _ _ _ => rfl
 have HG:=hid hg
 have HB0 : Hid (IsBlk (w.alloc (.cells #[.bool false] 4)) w.heap.size #[.bool false] 4):=hid (blk_new w _)
 clear hg
 go_enter_defers Tryz.func52,Tryz.ntmps52
 go_wp2_with (fail)
 refine HG.out.mono ?_
 rintro e w1 ⟨hk1,hr1,⟨v,rfl⟩ | rfl⟩
 ·have hb1 : IsBlk w1 w.heap.size #[.bool false] 4:=hk1.obj HB0.out hS1
  have hz1 : w.heap.size < w1.heap.size:=lt_of_block hb1
  have HR:=hid (And.intro hr1 hz1)
  obtain ⟨vb,hvb⟩ : ∃ x,x = w.heap.size:=⟨_,rfl⟩
  rw [← hvb] at hb1
  rw [← hvb]
  have HVB:=hid hvb
  have b0 : w1.cell? ⟨vb,0,none⟩ = some (.bool false):=blk_cell hb1 0
  have z0 : w1.frozen? ⟨vb,0,none⟩ = false:=blk_free hb1 0
  have HB1:=hid hb1
  clear hk1 hr1 hb1 hz1 hvb HB0 HG hS1
  go_wp2_with (fail)
  have hb2 : IsBlk (w1.setCell ⟨vb,0,none⟩ (.bool true)) vb #[.bool true] 4:=blk_set HB1.out 0 (.bool true)
  have hk2 : Keeps (Only vb) w1 (w1.setCell ⟨vb,0,none⟩ (.bool true)):=(Keeps.refl (Only vb) w1).setCell (p:=⟨vb,0,none⟩) (fun _ => rfl) _
  refine leaves_cons (f:=101) (args:=#[.pointer (some ⟨vb,0,none⟩)]) (by simp) (by simp [go_sem]) ?_
  refine (reads_idle vb _).mono ?_
  rintro e u' w'' ⟨rfl,rfl,rfl⟩
  refine ⟨_,bres_cell rfl hb2 _ rfl,w1,?_,HR.out.2,.inl ⟨_,HR.out.1,rfl⟩⟩
  rw [← HVB.out]
  exact hk2
 ·have hb1 : IsBlk w1 w.heap.size #[.bool false] 4:=hk1.obj HB0.out hS1
  have hz1 : w.heap.size < w1.heap.size:=lt_of_block hb1
  refine leaves_cons (f:=101) (args:=#[.pointer (some ⟨w.heap.size,0,none⟩)]) (by simp) (by simp [go_sem]) ?_
  refine (reads_caught _ w1 hb1).mono ?_
  rintro e u' w2 ⟨rfl,rfl,hb,hk⟩
  exact ⟨_,bres_cell rfl hb _ rfl,w1,hk,hz1,.inr ⟨hr1,rfl⟩⟩
end Go.Proofs.YtagdchgkjjpacaaGreat
