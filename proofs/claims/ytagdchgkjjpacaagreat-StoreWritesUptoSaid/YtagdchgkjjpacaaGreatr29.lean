/- The walk of package store's image. -/
import Derived.Test.YtagdchgkjjpacaaGreatr28
import Derived.Laws.EntriesVeiled
import Derived.Maps.RangeWalk
set_option maxRecDepth 100000
open Go.Lib (hid)
set_option linter.unusedSimpArgs false
set_option linter.unusedVariables false
set_option linter.unusedSectionVars false
namespace Go.Proofs.YtagdchgkjjpacaaGreat
open Go.RowKit Go.Shelf
attribute [local go_sem] Oper.semAt_some
attribute [local go_sem] no_callee
theorem wpListIn_append_runS {F : Fence} {n : Nat} {P : Program} {w : World} {ops : Array Oper} {rest : List Oper} {o : Oper} {a : Act} {Q : Exit → Act → World → Prop} (hgd : o.guard = none) (s x : Operand) (t : TypeId) (ho : o.op = .call { callee:=.builtin .append,args:=#[s,x],argTypes:=#[t,t] })
 (v u : Value) (hs : a.eval s = v) (hx : a.eval x = u) (v' : Value) (w' : World) (hrun : (Builtin.append_ #[t,t] o.type #[v,u]).run P w = .ok v' w') (h : wpListIn F n P ops Q rest (a.put o.dst v') w') : wpListIn F n P ops Q (o :: rest) a w:=by
 refine wpListIn_plain hgd fun K hK' => ?_
 unfold Oper.wpIn
 refine ⟨?_,?_⟩
 ·simp [Oper.about,ho,resolve,Target.leads,Sem.run_pure]
 ·rw [Oper.semAt_plain F _ _ (by rw [ho]; intro c hc'; cases hc')]
  simp [execOp,ho,resolve,invoke,builtin,hs,hx,hrun,Result.andThen]
  exact hK' _ _ h
theorem ImI.notX {w A : World} {B0 sb pb lb ob rb fx q room : Nat} {done : List (List Chg)} {cur : List Chg} {lv ov : Value} (h : ImI w B0 sb pb lb ob rb fx q done cur lv ov room A) {b : Nat} {cs : Array Value} (hb : IsBlk A b cs 42) (hl : ¬ lv.ownBlock = some b) : ¬ ImS lb ob rb lv ov b:=by
 rintro (e | e | e | e | e)
 ·exact blk_ne_type hb h.box.l (by decide) e
 ·exact blk_ne_type hb h.box.o (by decide) e
 ·exact blk_ne_type hb h.box.r (by decide) e
 ·exact h.slo.ne hb (by decide) _ e rfl
 ·exact hl e
section
variable {w : World} {sb : Nat} {c : StC} {m : Prs} {n q : Nat}
theorem ImI.start {Wf : World} {pb : Nat} {ov : Value} {fv : Value} (hp : IsBlk Wf pb #[.pointer (some ⟨sb,0,none⟩)] 49) (ho : SlAt byteKind 5 Wf ov (frameOf (lowN 8 q))) (hn : ∀ g,ov.ownBlock = some g → w.heap.size ≤ g) (hb : Below w.heap.size w Wf)
 (hfv : fv = .func (.func 134) #[] #[.pointer (some ⟨pb,0,none⟩),.pointer (some ⟨Wf.heap.size + 1,0,none⟩),.pointer (some ⟨Wf.heap.size,0,none⟩),.pointer (some ⟨Wf.heap.size + 2,0,none⟩)]) :
 ∃ W0,(((Wf.alloc (.cells #[ov] 23)).alloc (.cells #[.slice none 0 0] 22)).alloc (.cells #[.int .i64 1048566] 3)).alloc (.cells #[fv] 1) = W0 ∧ Hid (ImI w (Wf.heap.size + 5) sb pb (Wf.heap.size + 1) Wf.heap.size (Wf.heap.size + 2) (Wf.heap.size + 3) q [] [] (.slice none 0 0) ov 1048566 W0 ∧ W0.heap.size = Wf.heap.size + 4 ∧ Below Wf.heap.size Wf W0):=by
 obtain ⟨w1,h1⟩ : ∃ x,x = Wf.alloc (.cells #[ov] 23):=⟨_,rfl⟩
 obtain ⟨w2,h2⟩ : ∃ x,x = w1.alloc (.cells #[.slice none 0 0] 22):=⟨_,rfl⟩
 obtain ⟨w3,h3⟩ : ∃ x,x = w2.alloc (.cells #[.int .i64 1048566] 3):=⟨_,rfl⟩
 obtain ⟨w4,h4⟩ : ∃ x,x = w3.alloc (.cells #[fv] 1):=⟨_,rfl⟩
 refine ⟨w4,by rw [h4,h3,h2,h1],hid ?_⟩
 have z1 : w1.heap.size = Wf.heap.size + 1:=by rw [h1]; simp
 have z2 : w2.heap.size = Wf.heap.size + 2:=by rw [h2,World.size_alloc,z1]
 have z3 : w3.heap.size = Wf.heap.size + 3:=by rw [h3,World.size_alloc,z2]
 have z4 : w4.heap.size = Wf.heap.size + 4:=by rw [h4,World.size_alloc,z3]
 have b1 : Below Wf.heap.size Wf w1:=by rw [h1]; exact (Below.refl _ _).alloc (Nat.le_refl _) _
 have b2 : Below w1.heap.size w1 w2:=by rw [h2]; exact (Below.refl _ _).alloc (Nat.le_refl _) _
 have b3 : Below w2.heap.size w2 w3:=by rw [h3]; exact (Below.refl _ _).alloc (Nat.le_refl _) _
 have b4 : Below w3.heap.size w3 w4:=by rw [h4]; exact (Below.refl _ _).alloc (Nat.le_refl _) _
 have k1 : IsBlk w1 Wf.heap.size #[ov] 23:=by rw [h1]; exact blk_new _ _
 have k2 : IsBlk w2 (Wf.heap.size + 1) #[.slice none 0 0] 22:=by rw [h2,← z1]; exact blk_new _ _
 have k3 : IsBlk w3 (Wf.heap.size + 2) #[.int .i64 1048566] 3:=by rw [h3,← z2]; exact blk_new _ _
 have k4 : IsBlk w4 (Wf.heap.size + 3) #[fv] 1:=by rw [h4,← z3]; exact blk_new _ _
 have b34 : Below w2.heap.size w2 w4:=b3.trans (b4.mono b3.size)
 have b24 : Below w1.heap.size w1 w4:=b2.trans (b34.mono b2.size)
 have b14 : Below Wf.heap.size Wf w4:=b1.trans (b24.mono b1.size)
 have hz:=hb.size
 refine ⟨⟨⟨(b14.block _ (lt_of_block hp)).trans hp,(b34.block _ (lt_of_block k2)).trans k2,(b24.block _ (lt_of_block k1)).trans k1,(b4.block _ (lt_of_block k3)).trans k3⟩,by rw [← hfv]; exact k4,SlAt.nil,?_,by omega,fun g hg => by simp [Value.ownBlock] at hg,fun g hg => ?_,by simp,Nat.le_refl _,hb.trans (b14.mono hz)⟩,z4,b14⟩
 ·have:=ho.below b14
  unfold imOut
  simpa using this
 ·obtain ⟨cs,hc⟩:=ho.own g hg
  have h5:=lt_of_block hc
  have h6:=hn g hg
  exact ⟨h6,by omega,by omega⟩
set_option maxHeartbeats 16000000 in
theorem st_image (h : StB w sb c m n) (hq : c.seq = (q : Int)) (hq2 : q < 9223372036854775808) (hok : PrsOk m) (hn : n ≤ 900000000) (hlen : (imgB q m).length ≤ 500000000) :
 Calls Tryz.prog 83 #[.pointer (some ⟨sb,0,none⟩)] w fun e w' => ∃ v,e = .returned v ∧ Hid (FreshAt w w' v (imgB q m)):=by
 have HST:=hid h
 have HOK:=hid (And.intro hok (And.intro hq2 hlen))
 have HQ:=hid hq
 obtain ⟨w1,hw1⟩ : ∃ x,x = w.alloc (.cells #[.pointer (some ⟨sb,0,none⟩)] 49):=⟨_,rfl⟩
 have hb1 : Below w.heap.size w w1:=by rw [hw1]; exact (Below.refl _ _).alloc (Nat.le_refl _) _
 have hp1 : IsBlk w1 w.heap.size #[.pointer (some ⟨sb,0,none⟩)] 49:=by rw [hw1]; exact blk_new _ _
 obtain ⟨pb,hpb⟩ : ∃ x,x = w.heap.size:=⟨_,rfl⟩
 rw [← hpb] at hp1
 have p0 : w1.cell? ⟨pb,0,none⟩ = some (.pointer (some ⟨sb,0,none⟩)):=blk_cell hp1 0
 have s0 : w1.cell? ⟨sb,12,none⟩ = some (.int .i64 (q : Int)):=by rw [← hq]; exact blk_cell (h.blk.below hb1) 12
 have HB1:=hid (And.intro hb1 hp1)
 have HPB:=hid hpb
 have hmf : ∀ (fn : Fn) (first cap : Array Value) (w : World),(Instr.makeFunc fn first cap).run Tryz.prog w = .ok (.func fn first cap) w:=fun _ _ _ _ => rfl
 have HNUM : Hid (Calls Tryz.prog 48 #[.slice none 0 0,.int .i64 (q : Int),.int .i64 8] w1 fun e w' => ∃ va vc,e = .returned (.slice va (lowN 8 q).length vc) ∧ Hid (FreshAt w1 w' (.slice va (lowN 8 q).length vc) (lowN 8 q))):=hid (by
  have h1:=st_number (w:=w1) (v:=.slice none 0 0) (xs:=[]) SlAt.nil (by simp) q hq2 8 (by omega)
  refine h1.mono ?_
  rintro e w' ⟨v',rfl,hg⟩
  rw [List.nil_append] at hg
  obtain ⟨va,vc,rfl⟩:=hg.sl.shape
  exact ⟨va,vc,rfl,hid hg.new⟩)
 have HW1 : Hid (w.alloc (.cells #[.pointer (some ⟨sb,0,none⟩)] 49) = w1):=hid hw1.symm
 clear h hok hq hq2 hlen hw1 hb1 hp1
 refine calls_of_wp_marks Tryz.func83 rfl ?_
 simp only [Tryz.ntmps83,List.size_toArray,List.length_cons,List.length_nil,Nat.reduceAdd,Nat.reduceSub,Array.replicate_succ,Array.replicate_zero,List.push_toArray,List.append_toArray,List.nil_append,List.cons_append]
 go_upto_region 1 with fail
 rw [HW1.out,← hpb]
 clear hpb
 go_wp2_with fail
 refine HNUM.out.mono ?_
 rintro e w2 ⟨va,vc,rfl,HF2⟩
 clear p0 s0 HNUM
 go_wp2_with fail
 refine (w_frame (w:=w2) HF2.out.sl.rd (by rw [lowN_len]; omega)).mono ?_
 rintro e w3 ⟨v3,rfl,hf3⟩
 obtain ⟨oa,oc,rfl⟩:=hf3.sl.shape
 have hb13 : Below w1.heap.size w1 w3:=HF2.out.below.trans (hf3.below.mono HF2.out.below.size)
 have hb03 : Below w.heap.size w w3:=HB1.out.1.trans (hb13.mono HB1.out.1.size)
 have hp3 : IsBlk w3 pb #[.pointer (some ⟨sb,0,none⟩)] 49:=(hb13.block _ (lt_of_block HB1.out.2)).trans HB1.out.2
 obtain ⟨W0,hW0,HS0⟩:=ImI.start (w:=w) (q:=q) hp3 hf3.sl (fun g hg => by have h1:=hf3.new g hg; have h2:=HB1.out.1.size; have h3:=HF2.out.below.size; omega) hb03 rfl
 have HW0:=hid hW0
 obtain ⟨N,hN⟩ : ∃ x,x = w3.heap.size:=⟨_,rfl⟩
 rw [← hN] at HS0 HW0
 have HN:=hid hN
 have HNB : Hid (w.heap.size ≤ N):=hid (by rw [hN]; exact hb03.size)
 obtain ⟨ol,hol⟩ : ∃ x,x = (frameOf (lowN 8 q)).length:=⟨_,rfl⟩
 rw [← hol] at HS0 HW0
 clear hf3 hb13 hb03 hp3 hW0 HF2 HB1
 go_upto_region 5 with fail
 rw [← hol,← hN]
 clear hN hol
 try simp only [Nat.add_assoc,Nat.reduceAdd] at HW0 ⊢
 rw [HW0.out]
 have p0 : W0.cell? ⟨pb,0,none⟩ = some (.pointer (some ⟨sb,0,none⟩)):=blk_cell HS0.out.1.box.p 0
 have s11 : W0.cell? ⟨sb,11,none⟩ = some (.pointer (some ⟨c.tb,0,none⟩)):=blk_cell (HST.out.blk.below HS0.out.1.below) 11
 clear HW0 hmf
 go_wp2_with fail
 refine (Ss.q_tAll _ c.tb).mono ?_
 rintro e w4 ⟨rfl,rfl⟩
 obtain ⟨W1,hW1⟩ : ∃ x,x = W0.alloc (.cells #[.pointer (some ⟨c.tb,0,none⟩)] 110):=⟨_,rfl⟩
 rw [← hW1]
 have hbw : Below W0.heap.size W0 W1:=by rw [hW1]; exact (Below.refl _ _).alloc (Nat.le_refl _) _
 have hzw : W1.heap.size = N + 5:=by rw [hW1,World.size_alloc,HS0.out.2.1]
 have hbx : IsBlk W1 W0.heap.size #[.pointer (some ⟨c.tb,0,none⟩)] 110:=by rw [hW1]; exact blk_new _ _
 have HE1 : Hid (ImI w (N + 5) sb pb (N + 1) N (N + 2) (N + 3) q [] [] (.slice none 0 0) (.slice oa ol oc) 1048566 W1):=hid (HS0.out.1.next hbw)
 obtain ⟨t,ver,htab,hino,hv0,hv1⟩:=HST.out.tab
 have HIT : Hid (IterC Tryz.prog 166 #[.pointer (some ⟨W0.heap.size,0,none⟩)] Ss.encKV Ss.KeepW m W1):=hid (by
  rw [← hino]
  exact iter_stall hbx (htab.below (HS0.out.1.below.trans (hbw.mono HS0.out.1.below.size))))
 have HZW:=hid hzw
 have HML : Hid (m.length ≤ 900000000):=hid (by have:=HST.out.len; omega)
 have hz0 : W0.heap.size = N + 4:=HS0.out.2.1
 rw [hz0] at HIT ⊢
 have HSTB : Hid (∀ A,Below w.heap.size w A → StIn A sb c):=hid fun A hA => HST.out.blk.below hA
 clear hW1 hbw hzw hbx htab hino hv0 hv1 p0 s11 HS0 hz0 t ver
 go_wp2_with fail
 refine wp_forSeq rfl egSTAll1 HIT.out (fun _ => rfl) Ss.KeepW.trans (fun W r o h => keepS_put o h)
   (fun pre A => ∃ done cur lv ov room,Hid (ImI w (N + 5) sb pb (N + 1) N (N + 2) (N + 3) q done cur lv ov room A ∧ ImE m done cur room pre.length ∧ (pre ≠ [] → N + 7 ≤ A.heap.size))) (fun _ _ _ => False)
   (fun s A B h hk => ?hI) (fun _ _ _ _ h _ => h.elim) ⟨[],[],.slice none 0 0,.slice oa ol oc,1048566,hid ⟨HE1.out,by unfold ImE; simp,fun h => absurd rfl h⟩⟩ ?a1 ?assign ?body ?done ?stop
 case hI =>
  obtain ⟨done,cur,lv,ov,room,H⟩:=h
  exact ⟨done,cur,lv,ov,room,hid ⟨H.out.1.loop hk (by have:=HZW.out; have:=HNB.out; omega),H.out.2.1,fun h => by have:=H.out.2.2 h; have:=hk.size; omega⟩⟩
 case assign =>
  intro x W K hK
  gi_wp2
  exact hK
 case stop => intro c q B _ h; exact h.elim
 case body =>
  rintro pre ⟨k,v⟩ A ⟨done,cur,lv,ov,room,HI⟩ hp hsz2
  have hx : m[pre.length]? = some (k,v):=by
   obtain ⟨t,ht⟩:=hp
   rw [← ht,List.append_assoc,List.getElem?_append_right (Nat.le_refl _),Nat.sub_self]
   rfl
  have HX:=hid hx
  have HSZ : Hid (N + 5 + 2 ≤ A.heap.size):=hid (by have:=HZW.out; omega)
  have HPL : Hid ((pre ++ [(k,v)]).length = pre.length + 1):=hid (by simp)
  have hkv:=HOK.out.1.2 _ (List.mem_of_getElem? hx)
  have HKV:=hid hkv
  have HSZC:=hid (fun X => st_chgSize (w:=X) ⟨k,v,false⟩ (Nat.le_trans hkv.2.1 (by decide)) (Nat.le_trans hkv.2.2 (by decide)))
  obtain ⟨z,hz⟩ : ∃ z,z = (chgB (wrC (k,v))).length:=⟨_,rfl⟩
  have HZ:=hid hz
  have hz7 : z ≤ 70000:=by rw [hz]; exact chgB_wr ⟨hkv.2.1,hkv.2.2⟩
  rw [show chgB ⟨k,v,false⟩ = chgB (wrC (k,v)) from rfl,← hz] at HSZC
  obtain ⟨la,lc,rfl⟩:=HI.out.1.slc.shape
  obtain ⟨oa2,oc2,rfl⟩:=HI.out.1.slo.shape
  obtain ⟨ol2,hol2⟩ : ∃ x,x = (imOut q done).length:=⟨_,rfl⟩
  rw [← hol2] at HI
  have HOL2:=hid hol2
  obtain ⟨cl,hcl⟩ : ∃ x,x = cur.length:=⟨_,rfl⟩
  rw [← hcl] at HI
  have HCL:=hid hcl
  have hcl5 : cl ≤ 500:=by rw [hcl]; exact HI.out.1.few
  obtain ⟨A1,hA1,HB1⟩:=cbox_new A ⟨k,v,false⟩
  simp only at hA1
  obtain ⟨xb,hxb⟩ : ∃ x,x = A.heap.size:=⟨_,rfl⟩
  have HXB : Hid (CBox A1 xb ⟨k,v,false⟩):=hid (by rw [hxb]; exact HB1.out.2.1)
  have HI1 : Hid (ImI w (N + 5) sb pb (N + 1) N (N + 2) (N + 3) q done cur (.slice la cl lc) (.slice oa2 ol2 oc2) room A1):=hid (HI.out.1.next HB1.out.1)
  have HAB1 : Hid (Below A.heap.size A A1):=hid HB1.out.1
  have HA1:=hid hA1
  have HXN:=hid hxb
  have HLX0 : Hid (¬ (Value.slice la cl lc).ownBlock = some xb):=hid fun e => by
   obtain ⟨cs,hcs⟩:=HI.out.1.slc.own _ e
   have:=lt_of_block hcs
   have:=HXN.out
   omega
  clear hxb hA1 hx hp hsz2 hkv hz hol2 hcl HB1
  gi_wp2_with (fail)
  rw [HA1.out,← HXN.out]
  clear HA1
  have hT0 : (fun X : World => X.cell? ⟨N + 1,0,none⟩ = some (.slice la cl lc) ∧ X.cell? ⟨N + 2,0,none⟩ = some (.int .i64 (room : Int)) ∧ X.cell? ⟨xb,0,none⟩ = some (.string k) ∧ X.cell? ⟨xb,1,none⟩ = some (.string v) ∧ X.cell? ⟨xb,2,none⟩ = some (.bool false)) A1.drew:=⟨blk_cell HI1.out.box.l 0,blk_cell HI1.out.box.r 0,(cbox_cells HXB.out).1⟩
  by_cases h5 : cl = 500
  ·have t1 : ((cl : Int) == 500) = true:=by simp; omega
   have HEF0:=hid (HI.out.2.1.flush HX.out (.inl (by rw [← HCL.out]; exact h5)))
   have HEF : Hid (ImE m (done ++ [cur]) [wrC (k,v)] (1048566 - z) (pre.length + 1)):=hid (by rw [HZ.out]; exact HEF0.out.1)
   have HG:=hid (grp_enc HOK.out.1 q HOK.out.2.1 HEF0.out.2)
   have HGL:=hid (imOut_le q HI.out.2.1)
   clear h5 HEF0
   refine wpIn_round_any (by kernel_rfl) (fun ⟨_,_,h⟩ => h) (by kernel_rfl) ?_
   refine wpAny_of_B (T:=fun X : World => X.cell? ⟨N + 1,0,none⟩ = some (.slice la cl lc) ∧ X.cell? ⟨N + 2,0,none⟩ = some (.int .i64 (room : Int)) ∧ X.cell? ⟨xb,0,none⟩ = some (.string k) ∧ X.cell? ⟨xb,1,none⟩ = some (.string v) ∧ X.cell? ⟨xb,2,none⟩ = some (.bool false)) (B:=fun _ => true) _ _ _ _ ?_
   have HV : Hid (Below A1.heap.size A1 A1.drew):=hid (Below.refl _ _).drew
   generalize A1.drew = V at hT0 HV ⊢
   refine wpAnyB_load (i:=0) (oi:=⟨some 27,.load 22 (.tmp 4),22,"store.go:249",#[],none⟩) (v:=?mv0) rfl (by kernel_rfl) (by kernel_rfl) (by kernel_rfl) (by kernel_rfl) (fun _ _ _ h => h) (Or.inl ⟨by kernel_rfl,?my0⟩) (by assumption) ?ms0
   case my0 => (intro w hSw; obtain ⟨u0,u1,u2,u3,u4⟩:=hSw; go_simp) <;> with_reducible rfl
   try go_frame
   refine wpAnyB_take (i:=1) (oi:=⟨some 28,.call ⟨.builtin .len,#[.tmp 27],#[22]⟩,3,"store.go:249",#[⟨0,.data⟩],none⟩) (v:=?mv1) rfl (by kernel_rfl) (by kernel_rfl) (by kernel_rfl) (fun _ _ _ h => h) (Or.inl ⟨by kernel_rfl,?my1⟩) ?ms1
   case my1 => (intro w; go_simp) <;> with_reducible rfl
   try go_frame
   refine wpAnyB_take (i:=2) (oi:=⟨some 29,.binOp .eql 3 (.tmp 28) (.const (.int .i64 500)) 3,4,"store.go:249",#[⟨1,.data⟩],none⟩) (v:=?mv2) rfl (by kernel_rfl) (by kernel_rfl) (by kernel_rfl) (fun _ _ _ h => h) (Or.inl ⟨by kernel_rfl,?my2⟩) ?ms2
   case my2 => (intro w; go_simp) <;> with_reducible rfl
   try go_frame
   refine wpAnyB_take (i:=3) (oi:=⟨some 30,.move (.tmp 29),4,"store.go:249",#[⟨2,.data⟩],none⟩) (v:=?mv3) rfl (by kernel_rfl) (by kernel_rfl) (by kernel_rfl) (fun _ _ _ h => h) (Or.inl ⟨by kernel_rfl,?my3⟩) ?ms3
   case my3 => (intro w; go_simp) <;> with_reducible rfl
   try go_frame
   refine wpAnyB_take (i:=4) (oi:=⟨some 31,.load 42 (.tmp 9),42,"store.go:249",#[⟨3,.guard⟩],some (3,false)⟩) (v:=undef) rfl (by kernel_rfl) (by kernel_rfl) (by kernel_rfl) (fun _ _ _ h => h) (Or.inr ⟨by rfl,rfl⟩) ?_
   try go_frame
   refine wpAnyB_take (i:=5) (oi:=⟨some 32,.call ⟨.value (.func 136),#[.tmp 31],#[42]⟩,3,"store.go:249",#[⟨4,.data⟩,⟨3,.chain⟩,⟨3,.guard⟩],some (3,false)⟩) (v:=undef) rfl (by kernel_rfl) (by kernel_rfl) (by kernel_rfl) (fun _ _ _ h => h) (Or.inr ⟨by rfl,rfl⟩) ?_
   try go_frame
   refine wpAnyB_take (i:=6) (oi:=⟨some 33,.load 3 (.tmp 5),3,"store.go:249",#[⟨3,.guard⟩],some (3,false)⟩) (v:=undef) rfl (by kernel_rfl) (by kernel_rfl) (by kernel_rfl) (fun _ _ _ h => h) (Or.inr ⟨by rfl,rfl⟩) ?_
   try go_frame
   refine wpAnyB_take (i:=7) (oi:=⟨some 34,.binOp .gtr 3 (.tmp 32) (.tmp 33) 3,4,"store.go:249",#[⟨5,.data⟩,⟨6,.data⟩,⟨3,.guard⟩],some (3,false)⟩) (v:=undef) rfl (by kernel_rfl) (by kernel_rfl) (by kernel_rfl) (fun _ _ _ h => h) (Or.inr ⟨by rfl,rfl⟩) ?_
   try go_frame
   refine wpAnyB_take (i:=8) (oi:=⟨some 35,.pick (.tmp 30) (.const (.bool true)) (.tmp 34),4,"store.go:249",#[⟨3,.data⟩,⟨7,.data⟩],none⟩) (v:=?mv8) rfl (by kernel_rfl) (by kernel_rfl) (by kernel_rfl) (fun _ _ _ h => h) (Or.inl ⟨by kernel_rfl,?my8⟩) ?ms8
   case my8 => (intro w; go_simp) <;> with_reducible rfl
   try go_frame
   clear hT0
   refine wpAnyB_done (by kernel_rfl) ?_ _
   have HNX : Hid (xb < V.heap.size):=hid (by have:=lt_of_block HXB.out; have:=HV.out.size; omega)
   have HIV : Hid (ImI w (N + 5) sb pb (N + 1) N (N + 2) (N + 3) q done cur (.slice la cl lc) (.slice oa2 ol2 oc2) room V):=hid (HI1.out.next HV.out)
   have HIV2 : Hid (Below A.heap.size A V):=hid (HAB1.out.trans (HV.out.mono HAB1.out.size))
   have HXV : Hid (CBox V xb ⟨k,v,false⟩):=hid (cbox_below HXB.out HV.out)
   have HFB : Hid (ImB V pb (N + 1) N (N + 2) sb (.slice la cl lc) (.slice oa2 ol2 oc2) (room : Int)):=hid HIV.out.box
   have f0 : V.cell? ⟨N + 3,0,none⟩ = some (.func (.func 134) #[] #[.pointer (some ⟨pb,0,none⟩),.pointer (some ⟨N + 1,0,none⟩),.pointer (some ⟨N,0,none⟩),.pointer (some ⟨N + 2,0,none⟩)]):=blk_cell HIV.out.fbx 0
   have HFC:=hid (st_flush (HSTB.out _ HIV.out.below) HQ.out HOK.out.2.1 HFB.out HIV.out.slc (by have:=HCL.out; omega) HIV.out.slo HG.out.1 (by have:=HG.out.2; omega) (by have h1:=HGL.out; have h2:=HOK.out.2.2; omega))
   gi_wp2_with (fail)
   refine ⟨trivial,rfl,(CallsIn.inRound _ (callsIn_wide.2 HFC.out)).mono ?_⟩
   rintro e V2 ⟨⟨_,rfl⟩,ov3,HFL⟩
   have HFS:=hid (HIV.out.flush HFL.out (by have:=HSZ.out; have:=HIV2.out.size; omega))
   have HIM : Hid (ImI w (N + 5) sb pb (N + 1) N (N + 2) (N + 3) q (done ++ [cur]) [] (.slice none 0 0) ov3 1048566 V2):=hid HFS.out.1
   have HKM : Hid (Keeps (ImS (N + 1) N (N + 2) (.slice la cl lc) (.slice oa2 ol2 oc2)) A V2):=hid (((Keeps.of_below HIV2.out).mono fun _ _ e => e.elim).trans' HFS.out.2.1)
   have HSM : Hid (∀ i,ImS (N + 1) N (N + 2) (.slice none 0 0) ov3 i → i < A.heap.size → ImS (N + 1) N (N + 2) (.slice la cl lc) (.slice oa2 ol2 oc2) i):=hid fun i h1 h2 => HFS.out.2.2 i h1 (by have:=HIV2.out.size; omega)
   have HXM : Hid (CBox V2 xb ⟨k,v,false⟩):=hid (HFS.out.2.1.obj HXV.out (HIV.out.notX HXV.out HLX0.out))
   have HZM : Hid (A.heap.size ≤ V2.heap.size):=hid (by have h1:=HIV2.out.size; have h2:=HFS.out.2.1.size; omega)
   have HEM : Hid (ImE m (done ++ [cur]) ([] ++ [wrC (k,v)]) (1048566 - z) (pre.length + 1)):=hid HEF.out
   have hzr : z ≤ 1048566:=by omega
   have HLX : Hid (¬ (Value.slice none 0 0).ownBlock = some xb):=hid (by simp [Value.ownBlock])
   clear f0 HFB HFC HFL HFS HIV HIV2 HXV HEF HG HGL
   have HROOM : Hid (z ≤ 1048566 ∧ 1048566 ≤ 1048566):=hid (by omega)
   obtain ⟨va,nv,vc,V3,hap,lz,l0,hI3,hk3,hs3⟩:=HIM.out.push (wrC (k,v)) (by simp) (by have:=HSZ.out; have:=HZM.out; omega)
   simp only at hap
   have HI3:=hid hI3
   have HK3:=hid (And.intro hk3 hs3)
   have HX3 : Hid (CBox (V3.setCell ⟨N + 1,0,none⟩ (.slice va nv vc)) xb ⟨k,v,false⟩):=hid (hk3.obj HXM.out (HIM.out.notX HXM.out HLX.out))
   obtain ⟨⟨x0,x1,x2⟩,-⟩:=cbox_cells HXM.out
   have l1 : V2.cell? ⟨N + 1,0,none⟩ = some (.slice none 0 0):=blk_cell HIM.out.box.l 0
   clear hI3 hk3 hs3
   gi_wp2_with (gi_at_builtin; refine wpListIn_append_runS rfl (.tmp 38) (.tmp 40) 22 rfl _ _ rfl rfl _ _ hap ?_)
   clear x0 x1 x2 l1 l0 lz hap
   generalize V3.setCell ⟨N + 1,0,none⟩ (.slice va nv vc) = V4 at HI3 HK3 HX3 ⊢
   have hT2 : (fun X : World => X.cell? ⟨N + 2,0,none⟩ = some (.int .i64 (1048566 : Int)) ∧ X.cell? ⟨xb,0,none⟩ = some (.string k) ∧ X.cell? ⟨xb,1,none⟩ = some (.string v) ∧ X.cell? ⟨xb,2,none⟩ = some (.bool false)) V4.drew:=⟨blk_cell HI3.out.box.r 0,(cbox_cells HX3.out).1⟩
   refine wpIn_round_any (by kernel_rfl) (fun ⟨_,_,h⟩ => h) (by kernel_rfl) ?_
   refine wpAny_of_B (T:=fun X : World => X.cell? ⟨N + 2,0,none⟩ = some (.int .i64 (1048566 : Int)) ∧ X.cell? ⟨xb,0,none⟩ = some (.string k) ∧ X.cell? ⟨xb,1,none⟩ = some (.string v) ∧ X.cell? ⟨xb,2,none⟩ = some (.bool false)) (B:=fun i => i != 4) _ _ _ _ ?_
   have HV4 : Hid (Below V4.heap.size V4 V4.drew):=hid (Below.refl _ _).drew
   generalize V4.drew = V5 at hT2 HV4 ⊢
   refine wpAnyB_load (i:=0) (oi:=⟨some 42,.load 3 (.tmp 5),3,"store.go:253",#[],none⟩) (v:=?kbv0) rfl (by kernel_rfl) (by kernel_rfl) (by kernel_rfl) (by kernel_rfl) (fun _ _ _ h => h) (Or.inl ⟨by kernel_rfl,?kby0⟩) (by assumption) ?kbs0
   case kby0 => (intro w hSw; obtain ⟨u0,u1,u2,u3⟩:=hSw; go_simp) <;> with_reducible rfl
   try go_frame
   refine wpAnyB_load (i:=1) (oi:=⟨some 43,.load 42 (.tmp 9),42,"store.go:253",#[],none⟩) (v:=?kbv1) rfl (by kernel_rfl) (by kernel_rfl) (by kernel_rfl) (by kernel_rfl) (fun _ _ _ h => h) (Or.inl ⟨by kernel_rfl,?kby1⟩) (by assumption) ?kbs1
   case kby1 => (intro w hSw; obtain ⟨u0,u1,u2,u3⟩:=hSw; go_simp) <;> with_reducible rfl
   try go_frame
   clear hT2
   refine wpAnyB_ready (rs:=[2]) (by kernel_rfl) (by simp) ?_
   refine AllReadyB.cons (o:=⟨some 44,.call ⟨.value (.func 136),#[.tmp 43],#[42]⟩,3,"store.go:253",#[⟨1,.data⟩],none⟩) rfl (fun K hK => ?_) AllReadyB.nil
   go_simp
   go_at_call 136
   refine (HSZC.out V5).mono ?_
   rintro e V6 ⟨rfl,hb6⟩
   have HV6 : Hid (Below V4.heap.size V4 V6):=hid (HV4.out.trans (hb6.mono HV4.out.size))
   have HI6:=hid (HI3.out.next HV6.out)
   have HX6:=hid (cbox_below HX3.out HV6.out)
   refine hK.out _ _ (fun _ _ => ⟨blk_cell HI6.out.box.r 0,(cbox_cells HX6.out).1⟩) ?_
   clear hK K hb6
   try go_frame
   have HSUB : Hid (IntKind.i64.wrap ((1048566 : Int) - (z : Int)) = (((1048566 : Nat) - z : Nat) : Int)):=hid (by rw [wrapEq]; unfold wrap64; have:=HROOM.out; omega)
   refine wpAnyB_take (i:=3) (oi:=⟨some 45,.binOp .sub 3 (.tmp 42) (.tmp 44) 3,3,"store.go:253",#[⟨0,.data⟩,⟨2,.data⟩],none⟩) (v:=?kbv3) rfl (by kernel_rfl) (by kernel_rfl) (by kernel_rfl) (fun _ _ _ h => h) (Or.inl ⟨by kernel_rfl,?kby3⟩) ?kbs3
   case kby3 => (intro w; go_simp) <;> with_reducible rfl
   try go_frame
   have r0 : V6.cell? ⟨N + 2,0,none⟩ = some (.int .i64 (1048566 : Int)):=blk_cell HI6.out.box.r 0
   have rz : V6.frozen? ⟨N + 2,0,none⟩ = false:=blk_free HI6.out.box.r 0
   refine wpAnyB_ready (rs:=[4]) (by kernel_rfl) (by simp) ?_
   refine AllReadyB.cons (o:=⟨none,.store 3 (.tmp 5) (.tmp 45),0,"store.go:253",#[⟨3,.data⟩,⟨2,.chain⟩,⟨0,.phase⟩,⟨1,.phase⟩,⟨2,.phase⟩,⟨3,.phase⟩],none⟩) rfl (fun K hK => ?_) AllReadyB.nil
   go_simp
   refine hK.out _ _ (fun h => by simp at h) ?_
   clear hK K
   try go_frame
   refine wpAnyB_done (by kernel_rfl) ?_ _
   gi_wp2_with (fail)
   rw [HSUB.out]
   have hfin:=HI6.out.setRoom (1048566 - z) (by have:=HROOM.out; omega)
   have hkk : Keeps (ImS (N + 1) N (N + 2) (.slice la cl lc) (.slice oa2 ol2 oc2)) A (V6.setCell ⟨N + 2,0,none⟩ (.int .i64 (((1048566 : Nat) - z : Nat) : Int))) :=
    ((HKM.out.trans HK3.out.1 fun i hi e => HSM.out i e hi).trans' ((Keeps.of_below HV6.out).mono fun _ _ e => e.elim)).trans hfin.2 fun i hi e => HSM.out i (HK3.out.2 i e (by have:=HZM.out; omega)) hi
   have hlp:=HI.out.1.loops hkk HSZ.out
   rw [HZW.out]
   refine ⟨hlp.1,hlp.2,HI.out.1.keepW hkk,_,_,_,_,_,hid ⟨hfin.1,?_,fun _ => by have:=hkk.size; have:=HSZ.out; omega⟩⟩
   rw [HPL.out]
   exact HEM.out
  ·have t1 : ((cl : Int) == 500) = false:=by simp; omega
   refine wpIn_round_any (by kernel_rfl) (fun ⟨_,_,h⟩ => h) (by kernel_rfl) ?_
   refine wpAny_of_B (T:=fun X : World => X.cell? ⟨N + 1,0,none⟩ = some (.slice la cl lc) ∧ X.cell? ⟨N + 2,0,none⟩ = some (.int .i64 (room : Int)) ∧ X.cell? ⟨xb,0,none⟩ = some (.string k) ∧ X.cell? ⟨xb,1,none⟩ = some (.string v) ∧ X.cell? ⟨xb,2,none⟩ = some (.bool false)) (B:=fun _ => true) _ _ _ _ ?_
   have HV : Hid (Below A1.heap.size A1 A1.drew):=hid (Below.refl _ _).drew
   generalize A1.drew = V at hT0 HV ⊢
   refine wpAnyB_load (i:=0) (oi:=⟨some 27,.load 22 (.tmp 4),22,"store.go:249",#[],none⟩) (v:=?nv0) rfl (by kernel_rfl) (by kernel_rfl) (by kernel_rfl) (by kernel_rfl) (fun _ _ _ h => h) (Or.inl ⟨by kernel_rfl,?ny0⟩) (by assumption) ?ns0
   case ny0 => (intro w hSw; obtain ⟨u0,u1,u2,u3,u4⟩:=hSw; go_simp) <;> with_reducible rfl
   try go_frame
   refine wpAnyB_take (i:=1) (oi:=⟨some 28,.call ⟨.builtin .len,#[.tmp 27],#[22]⟩,3,"store.go:249",#[⟨0,.data⟩],none⟩) (v:=?nv1) rfl (by kernel_rfl) (by kernel_rfl) (by kernel_rfl) (fun _ _ _ h => h) (Or.inl ⟨by kernel_rfl,?ny1⟩) ?ns1
   case ny1 => (intro w; go_simp) <;> with_reducible rfl
   try go_frame
   refine wpAnyB_take (i:=2) (oi:=⟨some 29,.binOp .eql 3 (.tmp 28) (.const (.int .i64 500)) 3,4,"store.go:249",#[⟨1,.data⟩],none⟩) (v:=?nv2) rfl (by kernel_rfl) (by kernel_rfl) (by kernel_rfl) (fun _ _ _ h => h) (Or.inl ⟨by kernel_rfl,?ny2⟩) ?ns2
   case ny2 => (intro w; go_simp) <;> with_reducible rfl
   try go_frame
   refine wpAnyB_take (i:=3) (oi:=⟨some 30,.move (.tmp 29),4,"store.go:249",#[⟨2,.data⟩],none⟩) (v:=?nv3) rfl (by kernel_rfl) (by kernel_rfl) (by kernel_rfl) (fun _ _ _ h => h) (Or.inl ⟨by kernel_rfl,?ny3⟩) ?ns3
   case ny3 => (intro w; go_simp) <;> with_reducible rfl
   try go_frame
   refine wpAnyB_load (i:=4) (oi:=⟨some 31,.load 42 (.tmp 9),42,"store.go:249",#[⟨3,.guard⟩],some (3,false)⟩) (v:=?nv4) rfl (by kernel_rfl) (by kernel_rfl) (by kernel_rfl) (by kernel_rfl) (fun _ _ _ h => h) (Or.inl ⟨by kernel_rfl,?ny4⟩) (by assumption) ?ns4
   case ny4 => (intro w hSw; obtain ⟨u0,u1,u2,u3,u4⟩:=hSw; go_simp) <;> with_reducible rfl
   try go_frame
   refine wpAnyB_load (i:=6) (oi:=⟨some 33,.load 3 (.tmp 5),3,"store.go:249",#[⟨3,.guard⟩],some (3,false)⟩) (v:=?nv6) rfl (by kernel_rfl) (by kernel_rfl) (by kernel_rfl) (by kernel_rfl) (fun _ _ _ h => h) (Or.inl ⟨by kernel_rfl,?ny6⟩) (by assumption) ?ns6
   case ny6 => (intro w hSw; obtain ⟨u0,u1,u2,u3,u4⟩:=hSw; go_simp) <;> with_reducible rfl
   try go_frame
   clear hT0
   refine wpAnyB_ready (rs:=[5]) (by kernel_rfl) (by simp) ?_
   refine AllReadyB.cons (o:=⟨some 32,.call ⟨.value (.func 136),#[.tmp 31],#[42]⟩,3,"store.go:249",#[⟨4,.data⟩,⟨3,.chain⟩,⟨3,.guard⟩],some (3,false)⟩) rfl (fun K hK => ?_) AllReadyB.nil
   go_simp
   go_at_call 136
   refine (HSZC.out V).mono ?_
   rintro e V1 ⟨rfl,hbv⟩
   have HV1 : Hid (Below A1.heap.size A1 V1):=hid (HV.out.trans (hbv.mono HV.out.size))
   have HNX : Hid (xb < V1.heap.size):=hid (by have:=lt_of_block HXB.out; have:=HV1.out.size; omega)
   have HIV : Hid (ImI w (N + 5) sb pb (N + 1) N (N + 2) (N + 3) q done cur (.slice la cl lc) (.slice oa2 ol2 oc2) room V1):=hid (HI1.out.next HV1.out)
   have HIV2 : Hid (Below A.heap.size A V1):=hid (HAB1.out.trans (HV1.out.mono HAB1.out.size))
   have HXV : Hid (CBox V1 xb ⟨k,v,false⟩):=hid (cbox_below HXB.out HV1.out)
   refine hK.out _ _ (fun _ _ => ⟨blk_cell HIV.out.box.l 0,blk_cell HIV.out.box.r 0,(cbox_cells HXV.out).1⟩) ?_
   clear hK K hbv
   try go_frame
   by_cases hr : room < z
   ·have t2 : decide ((room : Int) < (z : Int)) = true:=by simp; omega
    have t3 : (room : Int) < (z : Int):=by omega
    have HEF0:=hid (HI.out.2.1.flush HX.out (.inr (by rw [← HZ.out]; exact hr)))
    have HEF : Hid (ImE m (done ++ [cur]) [wrC (k,v)] (1048566 - z) (pre.length + 1)):=hid (by rw [HZ.out]; exact HEF0.out.1)
    have HG:=hid (grp_enc HOK.out.1 q HOK.out.2.1 HEF0.out.2)
    have HGL:=hid (imOut_le q HI.out.2.1)
    clear h5 HEF0 hr
    refine wpAnyB_take (i:=7) (oi:=⟨some 34,.binOp .gtr 3 (.tmp 32) (.tmp 33) 3,4,"store.go:249",#[⟨5,.data⟩,⟨6,.data⟩,⟨3,.guard⟩],some (3,false)⟩) (v:=?av7) rfl (by kernel_rfl) (by kernel_rfl) (by kernel_rfl) (fun _ _ _ h => h) (Or.inl ⟨by kernel_rfl,?ay7⟩) ?as7
    case ay7 => (intro w; go_simp) <;> with_reducible rfl
    try go_frame
    refine wpAnyB_take (i:=8) (oi:=⟨some 35,.pick (.tmp 30) (.const (.bool true)) (.tmp 34),4,"store.go:249",#[⟨3,.data⟩,⟨7,.data⟩],none⟩) (v:=?av8) rfl (by kernel_rfl) (by kernel_rfl) (by kernel_rfl) (fun _ _ _ h => h) (Or.inl ⟨by kernel_rfl,?ay8⟩) ?as8
    case ay8 => (intro w; go_simp) <;> with_reducible rfl
    try go_frame
    refine wpAnyB_done (by kernel_rfl) ?_ _
    have HFB : Hid (ImB V1 pb (N + 1) N (N + 2) sb (.slice la cl lc) (.slice oa2 ol2 oc2) (room : Int)):=hid HIV.out.box
    have f0 : V1.cell? ⟨N + 3,0,none⟩ = some (.func (.func 134) #[] #[.pointer (some ⟨pb,0,none⟩),.pointer (some ⟨N + 1,0,none⟩),.pointer (some ⟨N,0,none⟩),.pointer (some ⟨N + 2,0,none⟩)]):=blk_cell HIV.out.fbx 0
    have HFC:=hid (st_flush (HSTB.out _ HIV.out.below) HQ.out HOK.out.2.1 HFB.out HIV.out.slc (by have:=HCL.out; omega) HIV.out.slo HG.out.1 (by have:=HG.out.2; omega) (by have h1:=HGL.out; have h2:=HOK.out.2.2; omega))
    gi_wp2_with (fail)
    refine ⟨trivial,rfl,(CallsIn.inRound _ (callsIn_wide.2 HFC.out)).mono ?_⟩
    rintro e V2 ⟨⟨_,rfl⟩,ov3,HFL⟩
    have HFS:=hid (HIV.out.flush HFL.out (by have:=HSZ.out; have:=HIV2.out.size; omega))
    have HIM : Hid (ImI w (N + 5) sb pb (N + 1) N (N + 2) (N + 3) q (done ++ [cur]) [] (.slice none 0 0) ov3 1048566 V2):=hid HFS.out.1
    have HKM : Hid (Keeps (ImS (N + 1) N (N + 2) (.slice la cl lc) (.slice oa2 ol2 oc2)) A V2):=hid (((Keeps.of_below HIV2.out).mono fun _ _ e => e.elim).trans' HFS.out.2.1)
    have HSM : Hid (∀ i,ImS (N + 1) N (N + 2) (.slice none 0 0) ov3 i → i < A.heap.size → ImS (N + 1) N (N + 2) (.slice la cl lc) (.slice oa2 ol2 oc2) i):=hid fun i h1 h2 => HFS.out.2.2 i h1 (by have:=HIV2.out.size; omega)
    have HXM : Hid (CBox V2 xb ⟨k,v,false⟩):=hid (HFS.out.2.1.obj HXV.out (HIV.out.notX HXV.out HLX0.out))
    have HZM : Hid (A.heap.size ≤ V2.heap.size):=hid (by have h1:=HIV2.out.size; have h2:=HFS.out.2.1.size; omega)
    have HEM : Hid (ImE m (done ++ [cur]) ([] ++ [wrC (k,v)]) (1048566 - z) (pre.length + 1)):=hid HEF.out
    have hzr : z ≤ 1048566:=by omega
    have HLX : Hid (¬ (Value.slice none 0 0).ownBlock = some xb):=hid (by simp [Value.ownBlock])
    clear f0 HFB HFC HFL HFS HIV HIV2 HXV HEF HG HGL
    have HROOM : Hid (z ≤ 1048566 ∧ 1048566 ≤ 1048566):=hid (by omega)
    obtain ⟨va,nv,vc,V3,hap,lz,l0,hI3,hk3,hs3⟩:=HIM.out.push (wrC (k,v)) (by simp) (by have:=HSZ.out; have:=HZM.out; omega)
    simp only at hap
    have HI3:=hid hI3
    have HK3:=hid (And.intro hk3 hs3)
    have HX3 : Hid (CBox (V3.setCell ⟨N + 1,0,none⟩ (.slice va nv vc)) xb ⟨k,v,false⟩):=hid (hk3.obj HXM.out (HIM.out.notX HXM.out HLX.out))
    obtain ⟨⟨x0,x1,x2⟩,-⟩:=cbox_cells HXM.out
    have l1 : V2.cell? ⟨N + 1,0,none⟩ = some (.slice none 0 0):=blk_cell HIM.out.box.l 0
    clear hI3 hk3 hs3
    gi_wp2_with (gi_at_builtin; refine wpListIn_append_runS rfl (.tmp 38) (.tmp 40) 22 rfl _ _ rfl rfl _ _ hap ?_)
    clear x0 x1 x2 l1 l0 lz hap
    generalize V3.setCell ⟨N + 1,0,none⟩ (.slice va nv vc) = V4 at HI3 HK3 HX3 ⊢
    have hT2 : (fun X : World => X.cell? ⟨N + 2,0,none⟩ = some (.int .i64 (1048566 : Int)) ∧ X.cell? ⟨xb,0,none⟩ = some (.string k) ∧ X.cell? ⟨xb,1,none⟩ = some (.string v) ∧ X.cell? ⟨xb,2,none⟩ = some (.bool false)) V4.drew:=⟨blk_cell HI3.out.box.r 0,(cbox_cells HX3.out).1⟩
    refine wpIn_round_any (by kernel_rfl) (fun ⟨_,_,h⟩ => h) (by kernel_rfl) ?_
    refine wpAny_of_B (T:=fun X : World => X.cell? ⟨N + 2,0,none⟩ = some (.int .i64 (1048566 : Int)) ∧ X.cell? ⟨xb,0,none⟩ = some (.string k) ∧ X.cell? ⟨xb,1,none⟩ = some (.string v) ∧ X.cell? ⟨xb,2,none⟩ = some (.bool false)) (B:=fun i => i != 4) _ _ _ _ ?_
    have HV4 : Hid (Below V4.heap.size V4 V4.drew):=hid (Below.refl _ _).drew
    generalize V4.drew = V5 at hT2 HV4 ⊢
    refine wpAnyB_load (i:=0) (oi:=⟨some 42,.load 3 (.tmp 5),3,"store.go:253",#[],none⟩) (v:=?kcv0) rfl (by kernel_rfl) (by kernel_rfl) (by kernel_rfl) (by kernel_rfl) (fun _ _ _ h => h) (Or.inl ⟨by kernel_rfl,?kcy0⟩) (by assumption) ?kcs0
    case kcy0 => (intro w hSw; obtain ⟨u0,u1,u2,u3⟩:=hSw; go_simp) <;> with_reducible rfl
    try go_frame
    refine wpAnyB_load (i:=1) (oi:=⟨some 43,.load 42 (.tmp 9),42,"store.go:253",#[],none⟩) (v:=?kcv1) rfl (by kernel_rfl) (by kernel_rfl) (by kernel_rfl) (by kernel_rfl) (fun _ _ _ h => h) (Or.inl ⟨by kernel_rfl,?kcy1⟩) (by assumption) ?kcs1
    case kcy1 => (intro w hSw; obtain ⟨u0,u1,u2,u3⟩:=hSw; go_simp) <;> with_reducible rfl
    try go_frame
    clear hT2
    refine wpAnyB_ready (rs:=[2]) (by kernel_rfl) (by simp) ?_
    refine AllReadyB.cons (o:=⟨some 44,.call ⟨.value (.func 136),#[.tmp 43],#[42]⟩,3,"store.go:253",#[⟨1,.data⟩],none⟩) rfl (fun K hK => ?_) AllReadyB.nil
    go_simp
    go_at_call 136
    refine (HSZC.out V5).mono ?_
    rintro e V6 ⟨rfl,hb6⟩
    have HV6 : Hid (Below V4.heap.size V4 V6):=hid (HV4.out.trans (hb6.mono HV4.out.size))
    have HI6:=hid (HI3.out.next HV6.out)
    have HX6:=hid (cbox_below HX3.out HV6.out)
    refine hK.out _ _ (fun _ _ => ⟨blk_cell HI6.out.box.r 0,(cbox_cells HX6.out).1⟩) ?_
    clear hK K hb6
    try go_frame
    have HSUB : Hid (IntKind.i64.wrap ((1048566 : Int) - (z : Int)) = (((1048566 : Nat) - z : Nat) : Int)):=hid (by rw [wrapEq]; unfold wrap64; have:=HROOM.out; omega)
    refine wpAnyB_take (i:=3) (oi:=⟨some 45,.binOp .sub 3 (.tmp 42) (.tmp 44) 3,3,"store.go:253",#[⟨0,.data⟩,⟨2,.data⟩],none⟩) (v:=?kcv3) rfl (by kernel_rfl) (by kernel_rfl) (by kernel_rfl) (fun _ _ _ h => h) (Or.inl ⟨by kernel_rfl,?kcy3⟩) ?kcs3
    case kcy3 => (intro w; go_simp) <;> with_reducible rfl
    try go_frame
    have r0 : V6.cell? ⟨N + 2,0,none⟩ = some (.int .i64 (1048566 : Int)):=blk_cell HI6.out.box.r 0
    have rz : V6.frozen? ⟨N + 2,0,none⟩ = false:=blk_free HI6.out.box.r 0
    refine wpAnyB_ready (rs:=[4]) (by kernel_rfl) (by simp) ?_
    refine AllReadyB.cons (o:=⟨none,.store 3 (.tmp 5) (.tmp 45),0,"store.go:253",#[⟨3,.data⟩,⟨2,.chain⟩,⟨0,.phase⟩,⟨1,.phase⟩,⟨2,.phase⟩,⟨3,.phase⟩],none⟩) rfl (fun K hK => ?_) AllReadyB.nil
    go_simp
    refine hK.out _ _ (fun h => by simp at h) ?_
    clear hK K
    try go_frame
    refine wpAnyB_done (by kernel_rfl) ?_ _
    gi_wp2_with (fail)
    rw [HSUB.out]
    have hfin:=HI6.out.setRoom (1048566 - z) (by have:=HROOM.out; omega)
    have hkk : Keeps (ImS (N + 1) N (N + 2) (.slice la cl lc) (.slice oa2 ol2 oc2)) A (V6.setCell ⟨N + 2,0,none⟩ (.int .i64 (((1048566 : Nat) - z : Nat) : Int))) :=
     ((HKM.out.trans HK3.out.1 fun i hi e => HSM.out i e hi).trans' ((Keeps.of_below HV6.out).mono fun _ _ e => e.elim)).trans hfin.2 fun i hi e => HSM.out i (HK3.out.2 i e (by have:=HZM.out; omega)) hi
    have hlp:=HI.out.1.loops hkk HSZ.out
    rw [HZW.out]
    refine ⟨hlp.1,hlp.2,HI.out.1.keepW hkk,_,_,_,_,_,hid ⟨hfin.1,?_,fun _ => by have:=hkk.size; have:=HSZ.out; omega⟩⟩
    rw [HPL.out]
    exact HEM.out
   ·have t2 : decide ((room : Int) < (z : Int)) = false:=by simp; omega
    have t3 : ¬ (room : Int) < (z : Int):=by omega
    have HEF : Hid (ImE m done (cur ++ [wrC (k,v)]) (room - z) (pre.length + 1)):=hid (by rw [HZ.out]; exact HI.out.2.1.keep HX.out (by rw [← HCL.out,← HZ.out]; omega))
    refine wpAnyB_take (i:=7) (oi:=⟨some 34,.binOp .gtr 3 (.tmp 32) (.tmp 33) 3,4,"store.go:249",#[⟨5,.data⟩,⟨6,.data⟩,⟨3,.guard⟩],some (3,false)⟩) (v:=?bv7) rfl (by kernel_rfl) (by kernel_rfl) (by kernel_rfl) (fun _ _ _ h => h) (Or.inl ⟨by kernel_rfl,?by7⟩) ?bs7
    case by7 => (intro w; go_simp) <;> with_reducible rfl
    try go_frame
    refine wpAnyB_take (i:=8) (oi:=⟨some 35,.pick (.tmp 30) (.const (.bool true)) (.tmp 34),4,"store.go:249",#[⟨3,.data⟩,⟨7,.data⟩],none⟩) (v:=?bv8) rfl (by kernel_rfl) (by kernel_rfl) (by kernel_rfl) (fun _ _ _ h => h) (Or.inl ⟨by kernel_rfl,?by8⟩) ?bs8
    case by8 => (intro w; go_simp) <;> with_reducible rfl
    try go_frame
    refine wpAnyB_done (by kernel_rfl) ?_ _
    have HIM : Hid (ImI w (N + 5) sb pb (N + 1) N (N + 2) (N + 3) q done cur (.slice la cl lc) (.slice oa2 ol2 oc2) room V1):=hid HIV.out
    have HKM : Hid (Keeps (ImS (N + 1) N (N + 2) (.slice la cl lc) (.slice oa2 ol2 oc2)) A V1):=hid ((Keeps.of_below HIV2.out).mono fun _ _ e => e.elim)
    have HSM : Hid (∀ i,ImS (N + 1) N (N + 2) (.slice la cl lc) (.slice oa2 ol2 oc2) i → i < A.heap.size → ImS (N + 1) N (N + 2) (.slice la cl lc) (.slice oa2 ol2 oc2) i):=hid fun i h1 h2 => h1
    have HXM : Hid (CBox V1 xb ⟨k,v,false⟩):=hid HXV.out
    have HZM : Hid (A.heap.size ≤ V1.heap.size):=hid HIV2.out.size
    have HEM : Hid (ImE m done (cur ++ [wrC (k,v)]) (room - z) (pre.length + 1)):=hid HEF.out
    have hzr : z ≤ room:=by omega
    have HLX : Hid (¬ (Value.slice la cl lc).ownBlock = some xb):=hid fun e => by
     obtain ⟨cs,hcs⟩:=HI.out.1.slc.own _ e
     have:=lt_of_block hcs
     have:=HXN.out
     omega
    clear HIV HIV2 HXV HEF
    have HROOM : Hid (z ≤ room ∧ room ≤ 1048566):=hid ⟨hzr,HI.out.1.rm⟩
    obtain ⟨va,nv,vc,V3,hap,lz,l0,hI3,hk3,hs3⟩:=HIM.out.push (wrC (k,v)) (by have:=HCL.out; omega) (by have:=HSZ.out; have:=HZM.out; omega)
    simp only at hap
    have HI3:=hid hI3
    have HK3:=hid (And.intro hk3 hs3)
    have HX3 : Hid (CBox (V3.setCell ⟨N + 1,0,none⟩ (.slice va nv vc)) xb ⟨k,v,false⟩):=hid (hk3.obj HXM.out (HIM.out.notX HXM.out HLX.out))
    obtain ⟨⟨x0,x1,x2⟩,-⟩:=cbox_cells HXM.out
    have l1 : V1.cell? ⟨N + 1,0,none⟩ = some (.slice la cl lc):=blk_cell HIM.out.box.l 0
    clear hI3 hk3 hs3
    gi_wp2_with (gi_at_builtin; refine wpListIn_append_runS rfl (.tmp 38) (.tmp 40) 22 rfl _ _ rfl rfl _ _ hap ?_)
    clear x0 x1 x2 l1 l0 lz hap
    generalize V3.setCell ⟨N + 1,0,none⟩ (.slice va nv vc) = V4 at HI3 HK3 HX3 ⊢
    have hT2 : (fun X : World => X.cell? ⟨N + 2,0,none⟩ = some (.int .i64 (room : Int)) ∧ X.cell? ⟨xb,0,none⟩ = some (.string k) ∧ X.cell? ⟨xb,1,none⟩ = some (.string v) ∧ X.cell? ⟨xb,2,none⟩ = some (.bool false)) V4.drew:=⟨blk_cell HI3.out.box.r 0,(cbox_cells HX3.out).1⟩
    refine wpIn_round_any (by kernel_rfl) (fun ⟨_,_,h⟩ => h) (by kernel_rfl) ?_
    refine wpAny_of_B (T:=fun X : World => X.cell? ⟨N + 2,0,none⟩ = some (.int .i64 (room : Int)) ∧ X.cell? ⟨xb,0,none⟩ = some (.string k) ∧ X.cell? ⟨xb,1,none⟩ = some (.string v) ∧ X.cell? ⟨xb,2,none⟩ = some (.bool false)) (B:=fun i => i != 4) _ _ _ _ ?_
    have HV4 : Hid (Below V4.heap.size V4 V4.drew):=hid (Below.refl _ _).drew
    generalize V4.drew = V5 at hT2 HV4 ⊢
    refine wpAnyB_load (i:=0) (oi:=⟨some 42,.load 3 (.tmp 5),3,"store.go:253",#[],none⟩) (v:=?kdv0) rfl (by kernel_rfl) (by kernel_rfl) (by kernel_rfl) (by kernel_rfl) (fun _ _ _ h => h) (Or.inl ⟨by kernel_rfl,?kdy0⟩) (by assumption) ?kds0
    case kdy0 => (intro w hSw; obtain ⟨u0,u1,u2,u3⟩:=hSw; go_simp) <;> with_reducible rfl
    try go_frame
    refine wpAnyB_load (i:=1) (oi:=⟨some 43,.load 42 (.tmp 9),42,"store.go:253",#[],none⟩) (v:=?kdv1) rfl (by kernel_rfl) (by kernel_rfl) (by kernel_rfl) (by kernel_rfl) (fun _ _ _ h => h) (Or.inl ⟨by kernel_rfl,?kdy1⟩) (by assumption) ?kds1
    case kdy1 => (intro w hSw; obtain ⟨u0,u1,u2,u3⟩:=hSw; go_simp) <;> with_reducible rfl
    try go_frame
    clear hT2
    refine wpAnyB_ready (rs:=[2]) (by kernel_rfl) (by simp) ?_
    refine AllReadyB.cons (o:=⟨some 44,.call ⟨.value (.func 136),#[.tmp 43],#[42]⟩,3,"store.go:253",#[⟨1,.data⟩],none⟩) rfl (fun K hK => ?_) AllReadyB.nil
    go_simp
    go_at_call 136
    refine (HSZC.out V5).mono ?_
    rintro e V6 ⟨rfl,hb6⟩
    have HV6 : Hid (Below V4.heap.size V4 V6):=hid (HV4.out.trans (hb6.mono HV4.out.size))
    have HI6:=hid (HI3.out.next HV6.out)
    have HX6:=hid (cbox_below HX3.out HV6.out)
    refine hK.out _ _ (fun _ _ => ⟨blk_cell HI6.out.box.r 0,(cbox_cells HX6.out).1⟩) ?_
    clear hK K hb6
    try go_frame
    have HSUB : Hid (IntKind.i64.wrap ((room : Int) - (z : Int)) = (((room : Nat) - z : Nat) : Int)):=hid (by rw [wrapEq]; unfold wrap64; have:=HROOM.out; omega)
    refine wpAnyB_take (i:=3) (oi:=⟨some 45,.binOp .sub 3 (.tmp 42) (.tmp 44) 3,3,"store.go:253",#[⟨0,.data⟩,⟨2,.data⟩],none⟩) (v:=?kdv3) rfl (by kernel_rfl) (by kernel_rfl) (by kernel_rfl) (fun _ _ _ h => h) (Or.inl ⟨by kernel_rfl,?kdy3⟩) ?kds3
    case kdy3 => (intro w; go_simp) <;> with_reducible rfl
    try go_frame
    have r0 : V6.cell? ⟨N + 2,0,none⟩ = some (.int .i64 (room : Int)):=blk_cell HI6.out.box.r 0
    have rz : V6.frozen? ⟨N + 2,0,none⟩ = false:=blk_free HI6.out.box.r 0
    refine wpAnyB_ready (rs:=[4]) (by kernel_rfl) (by simp) ?_
    refine AllReadyB.cons (o:=⟨none,.store 3 (.tmp 5) (.tmp 45),0,"store.go:253",#[⟨3,.data⟩,⟨2,.chain⟩,⟨0,.phase⟩,⟨1,.phase⟩,⟨2,.phase⟩,⟨3,.phase⟩],none⟩) rfl (fun K hK => ?_) AllReadyB.nil
    go_simp
    refine hK.out _ _ (fun h => by simp at h) ?_
    clear hK K
    try go_frame
    refine wpAnyB_done (by kernel_rfl) ?_ _
    gi_wp2_with (fail)
    rw [HSUB.out]
    have hfin:=HI6.out.setRoom (room - z) (by have:=HROOM.out; omega)
    have hkk : Keeps (ImS (N + 1) N (N + 2) (.slice la cl lc) (.slice oa2 ol2 oc2)) A (V6.setCell ⟨N + 2,0,none⟩ (.int .i64 (((room : Nat) - z : Nat) : Int))) :=
     ((HKM.out.trans HK3.out.1 fun i hi e => HSM.out i e hi).trans' ((Keeps.of_below HV6.out).mono fun _ _ e => e.elim)).trans hfin.2 fun i hi e => HSM.out i (HK3.out.2 i e (by have:=HZM.out; omega)) hi
    have hlp:=HI.out.1.loops hkk HSZ.out
    rw [HZW.out]
    refine ⟨hlp.1,hlp.2,HI.out.1.keepW hkk,_,_,_,_,_,hid ⟨hfin.1,?_,fun _ => by have:=hkk.size; have:=HSZ.out; omega⟩⟩
    rw [HPL.out]
    exact HEM.out
 case done =>
  rintro A ⟨done,cur,lv,ov,room,HI⟩ hD
  obtain ⟨la,lc,rfl⟩:=HI.out.1.slc.shape
  obtain ⟨oa2,oc2,rfl⟩:=HI.out.1.slo.shape
  obtain ⟨ol2,hol2⟩ : ∃ x,x = (imOut q done).length:=⟨_,rfl⟩
  rw [← hol2] at HI
  have HOL2:=hid hol2
  obtain ⟨cl,hcl⟩ : ∃ x,x = cur.length:=⟨_,rfl⟩
  rw [← hcl] at HI
  have HCL:=hid hcl
  have hcl5 : cl ≤ 500:=by rw [hcl]; exact HI.out.1.few
  rw [HZW.out] at hD
  have HD:=hid hD
  have HLAST:=hid HI.out.2.1.last
  have l0 : A.cell? ⟨N + 1,0,none⟩ = some (.slice la cl lc):=blk_cell HI.out.1.box.l 0
  have HAZ : Hid (N + 5 < A.heap.size):=hid (by have:=(Array.getElem?_eq_some_iff.1 hD).1; exact this)
  clear hol2 hcl hD
  have HAZ6 : Hid (cl ≠ 0 → N + 6 < A.heap.size):=hid fun hne => by
   have h1:=HI.out.2.2 (fun e => by
    have h2:=HLAST.out
    rw [e,if_neg (fun e2 => hne (by rw [HCL.out,e2]; rfl))] at h2
    simp [grpB] at h2)
   omega
  by_cases h0 : cl = 0
  ·have HALL : Hid (grpB 1048566 [] (m.map wrC) = done):=hid (by
    have h1:=HLAST.out
    rw [if_pos (List.length_eq_zero_iff.1 (by rw [← HCL.out]; exact h0)),List.append_nil] at h1
    exact h1)
   have HI8:=hid HI.out.1
   have HD2:=hid HD.out
   have HAZ2:=hid HAZ.out
   subst h0
   go_wp2_with fail
   have HLN : Hid ((imOut q done).length + 8 ≤ 500000000):=hid (by have h1:=imOut_le q (gs:=[]) (HALL.out.trans (List.append_nil _).symm); have h2:=HOK.out.2.2; omega)
   go_upto_region 15 with fail
   have hT0 : A.drew.cell? ⟨N,0,none⟩ = some (.slice oa2 ol2 oc2):=blk_cell HI8.out.box.o 0
   refine wp_region_B (T:=fun X : World => X.cell? ⟨N,0,none⟩ = some (.slice oa2 ol2 oc2)) (B:=fun _ => true) (by kernel_rfl) ?_
   have HV : Hid (Below A.heap.size A A.drew):=hid (Below.refl _ _).drew
   generalize A.drew = X at hT0 HV ⊢
   have HC:=hid (w_frame (w:=X) (u:=.slice none 0 0) (ys:=[]) ⟨none,0,rfl,fun j x hx => by simp at hx⟩ (by simp))
   refine wpAnyB_ready (rs:=[0,1]) (by kernel_rfl) (by simp) ?_
   refine AllReadyB.cons (o:=⟨some 51,.load 23 (.tmp 3),23,"store.go:258",#[],none⟩) rfl (fun K hK => ?_) ?_
   ·go_simp
    refine hK.out _ _ (fun _ h => h) ?_
    clear hK K
    try go_frame
    refine wpAnyB_ready (rs:=[1]) (by kernel_rfl) (by simp) ?_
    refine AllReadyB.cons (o:=⟨some 52,.call ⟨.value (.func 85),#[.const (.slice none 0 0)],#[23]⟩,23,"store.go:258",#[],none⟩) rfl (fun K hK => ?_) AllReadyB.nil
    go_simp
    go_at_call 85
    refine HC.out.mono ?_
    rintro e X2 ⟨fv,rfl,hf2⟩
    obtain ⟨fa,fc,rfl⟩:=hf2.sl.shape
    obtain ⟨fn,hfn⟩ : ∃ x,x = (frameOf []).length:=⟨_,rfl⟩
    rw [← hfn] at hf2 ⊢
    have HB2 : Hid (Below A.heap.size A X2):=hid (HV.out.trans (hf2.below.mono HV.out.size))
    have HI9:=hid (HI8.out.next HB2.out)
    obtain ⟨v3,X3,hap,hsl3,hk3,hown3,-⟩:=append_bytes HI9.out.slo hf2.sl.rd (by have h1:=HLN.out; have h2 : (frameOf ([] : List UInt8)).length = 8:=rfl; omega) 23
    obtain ⟨va3,vc3,rfl⟩:=hsl3.shape
    obtain ⟨n3,hn3⟩ : ∃ x,x = (imOut q done ++ frameOf []).length:=⟨_,rfl⟩
    rw [← hn3] at hap hsl3 hown3
    rw [imOut_all q HALL.out] at hsl3
    have HO3 : Hid (IsBlk X3 N #[.slice oa2 ol2 oc2] 23):=hid (hk3.obj HI9.out.box.o (fun e => HI9.out.slo.ne HI9.out.box.o (by decide) _ e rfl))
    have HFIN : Hid (SlAt byteKind 5 X3 (.slice va3 n3 vc3) (imgB q m) ∧ (∀ g,(Value.slice va3 n3 vc3).ownBlock = some g → w.heap.size ≤ g ∧ g ≠ N + 5) ∧ Below w.heap.size w X3 ∧ X3.heap[N + 5]? = some (.deferred (some []))):=hid (by
     have hz2:=HB2.out.size
     have hz3:=HI9.out.below.size
     refine ⟨hsl3,fun g hg => ?_,below_keeps HI9.out.below hk3 (fun i e => (HI9.out.ownO i e).1) hz3,?_⟩
     ·rcases hown3 g hg with e | e
      ·exact ⟨(HI9.out.ownO g e).1,(HI9.out.ownO g e).2.1⟩
      ·have:=HAZ2.out; exact ⟨by omega,by omega⟩
     ·refine (hk3.block _ (by have:=HAZ2.out; omega) (fun e => (HI9.out.ownO _ e).2.1 rfl)).trans ?_
      exact (HB2.out.block _ HAZ2.out).trans HD2.out)
    have hc9 : X2.cell? ⟨N,0,none⟩ = some (.slice oa2 ol2 oc2):=blk_cell HI9.out.box.o 0
    refine hK.out _ _ (fun _ _ => hc9) ?_
    clear hK K hsl3 hk3 hown3 hn3 hf2 hfn
    try go_frame
    clear hc9
    refine wpAnyB_ready (rs:=[2]) (by kernel_rfl) (by simp) ?_
    refine AllReadyB.cons (o:=⟨some 53,.call ⟨.builtin .append,#[.tmp 51,.tmp 52],#[23,23]⟩,23,"store.go:258",#[⟨0,.data⟩,⟨1,.data⟩,⟨1,.chain⟩],none⟩) rfl (fun K hK => ?_) AllReadyB.nil
    refine step_append_run rfl (.tmp 51) (.tmp 52) 23 rfl _ _ rfl rfl _ _ hap ?_
    refine hK.out _ _ (fun _ _ => blk_cell HO3.out 0) ?_
    clear hK K hap
    try go_frame
    refine wpAnyB_ready (rs:=[3]) (by kernel_rfl) (by simp) ?_
    refine AllReadyB.cons (o:=⟨some 2,.assign (.tmp 53),23,"store.go:258",#[⟨2,.data⟩,⟨2,.chain⟩,⟨0,.phase⟩,⟨1,.phase⟩,⟨2,.phase⟩],none⟩) rfl (fun K hK => ?_) AllReadyB.nil
    go_simp
    refine hK.out _ _ (fun _ h => h) ?_
    clear hK K
    try go_frame
    refine wpAnyB_done (by kernel_rfl) ?_ _
    go_wp2_with fail
    rw [HZW.out]
    refine leaves_of_marked [N + 5] X3 ⟨HFIN.out.2.2.2,.slice va3 n3 vc3,by rw [results_tmp (t:=2) rfl]; rfl,_,rfl,hid ⟨?_,fun g hg => (HFIN.out.2.1 g hg).1,?_⟩⟩
    ·exact HFIN.out.1.keeps (keeps_putObj _ _ _) (fun g hg e => (HFIN.out.2.1 g hg).2 e)
    ·exact below_keeps HFIN.out.2.2.1 (keeps_putObj X3 (N + 5) (.deferred none)) (fun i e => by have:=HNB.out; omega) HFIN.out.2.2.1.size
   refine AllReadyB.cons (o:=⟨some 52,.call ⟨.value (.func 85),#[.const (.slice none 0 0)],#[23]⟩,23,"store.go:258",#[],none⟩) rfl (fun K hK => ?_) AllReadyB.nil
   go_simp
   go_at_call 85
   refine HC.out.mono ?_
   rintro e X2 ⟨fv,rfl,hf2⟩
   obtain ⟨fa,fc,rfl⟩:=hf2.sl.shape
   obtain ⟨fn,hfn⟩ : ∃ x,x = (frameOf []).length:=⟨_,rfl⟩
   rw [← hfn] at hf2 ⊢
   have HB2 : Hid (Below A.heap.size A X2):=hid (HV.out.trans (hf2.below.mono HV.out.size))
   have HI9:=hid (HI8.out.next HB2.out)
   obtain ⟨v3,X3,hap,hsl3,hk3,hown3,-⟩:=append_bytes HI9.out.slo hf2.sl.rd (by have h1:=HLN.out; have h2 : (frameOf ([] : List UInt8)).length = 8:=rfl; omega) 23
   obtain ⟨va3,vc3,rfl⟩:=hsl3.shape
   obtain ⟨n3,hn3⟩ : ∃ x,x = (imOut q done ++ frameOf []).length:=⟨_,rfl⟩
   rw [← hn3] at hap hsl3 hown3
   rw [imOut_all q HALL.out] at hsl3
   have HO3 : Hid (IsBlk X3 N #[.slice oa2 ol2 oc2] 23):=hid (hk3.obj HI9.out.box.o (fun e => HI9.out.slo.ne HI9.out.box.o (by decide) _ e rfl))
   have HFIN : Hid (SlAt byteKind 5 X3 (.slice va3 n3 vc3) (imgB q m) ∧ (∀ g,(Value.slice va3 n3 vc3).ownBlock = some g → w.heap.size ≤ g ∧ g ≠ N + 5) ∧ Below w.heap.size w X3 ∧ X3.heap[N + 5]? = some (.deferred (some []))):=hid (by
    have hz2:=HB2.out.size
    have hz3:=HI9.out.below.size
    refine ⟨hsl3,fun g hg => ?_,below_keeps HI9.out.below hk3 (fun i e => (HI9.out.ownO i e).1) hz3,?_⟩
    ·rcases hown3 g hg with e | e
     ·exact ⟨(HI9.out.ownO g e).1,(HI9.out.ownO g e).2.1⟩
     ·have:=HAZ2.out; exact ⟨by omega,by omega⟩
    ·refine (hk3.block _ (by have:=HAZ2.out; omega) (fun e => (HI9.out.ownO _ e).2.1 rfl)).trans ?_
     exact (HB2.out.block _ HAZ2.out).trans HD2.out)
   have hc9 : X2.cell? ⟨N,0,none⟩ = some (.slice oa2 ol2 oc2):=blk_cell HI9.out.box.o 0
   refine hK.out _ _ (fun _ _ => hc9) ?_
   clear hK K hsl3 hk3 hown3 hn3 hf2 hfn
   try go_frame
   refine wpAnyB_ready (rs:=[0]) (by kernel_rfl) (by simp) ?_
   refine AllReadyB.cons (o:=⟨some 51,.load 23 (.tmp 3),23,"store.go:258",#[],none⟩) rfl (fun K hK => ?_) AllReadyB.nil
   go_simp
   refine hK.out _ _ (fun _ h => h) ?_
   clear hK K
   try go_frame
   clear hc9
   refine wpAnyB_ready (rs:=[2]) (by kernel_rfl) (by simp) ?_
   refine AllReadyB.cons (o:=⟨some 53,.call ⟨.builtin .append,#[.tmp 51,.tmp 52],#[23,23]⟩,23,"store.go:258",#[⟨0,.data⟩,⟨1,.data⟩,⟨1,.chain⟩],none⟩) rfl (fun K hK => ?_) AllReadyB.nil
   refine step_append_run rfl (.tmp 51) (.tmp 52) 23 rfl _ _ rfl rfl _ _ hap ?_
   refine hK.out _ _ (fun _ _ => blk_cell HO3.out 0) ?_
   clear hK K hap
   try go_frame
   refine wpAnyB_ready (rs:=[3]) (by kernel_rfl) (by simp) ?_
   refine AllReadyB.cons (o:=⟨some 2,.assign (.tmp 53),23,"store.go:258",#[⟨2,.data⟩,⟨2,.chain⟩,⟨0,.phase⟩,⟨1,.phase⟩,⟨2,.phase⟩],none⟩) rfl (fun K hK => ?_) AllReadyB.nil
   go_simp
   refine hK.out _ _ (fun _ h => h) ?_
   clear hK K
   try go_frame
   refine wpAnyB_done (by kernel_rfl) ?_ _
   go_wp2_with fail
   rw [HZW.out]
   refine leaves_of_marked [N + 5] X3 ⟨HFIN.out.2.2.2,.slice va3 n3 vc3,by rw [results_tmp (t:=2) rfl]; rfl,_,rfl,hid ⟨?_,fun g hg => (HFIN.out.2.1 g hg).1,?_⟩⟩
   ·exact HFIN.out.1.keeps (keeps_putObj _ _ _) (fun g hg e => (HFIN.out.2.1 g hg).2 e)
   ·exact below_keeps HFIN.out.2.2.1 (keeps_putObj X3 (N + 5) (.deferred none)) (fun i e => by have:=HNB.out; omega) HFIN.out.2.2.1.size
  ·have t1 : (0 : Int) < (cl : Int):=by omega
   have t2 : decide ((0 : Int) < (cl : Int)) = true:=by simp; omega
   have t4 : decide (0 < cl) = true:=by simp; omega
   have hne : cur ≠ []:=fun e => h0 (by rw [HCL.out,e]; rfl)
   have HALL : Hid (grpB 1048566 [] (m.map wrC) = done ++ [cur]):=hid (by
    have h1:=HLAST.out
    rw [if_neg hne] at h1
    exact h1)
   have HG:=hid (grp_enc HOK.out.1 q HOK.out.2.1 (g:=cur) (by rw [HALL.out]; simp))
   have HGL:=hid (imOut_le q HI.out.2.1)
   have f0 : A.cell? ⟨N + 3,0,none⟩ = some (.func (.func 134) #[] #[.pointer (some ⟨pb,0,none⟩),.pointer (some ⟨N + 1,0,none⟩),.pointer (some ⟨N,0,none⟩),.pointer (some ⟨N + 2,0,none⟩)]):=blk_cell HI.out.1.fbx 0
   have HFC:=hid (st_flush (HSTB.out _ HI.out.1.below) HQ.out HOK.out.2.1 HI.out.1.box HI.out.1.slc (by have:=HCL.out; omega) HI.out.1.slo HG.out.1 (by have:=HG.out.2; omega) (by have h1:=HGL.out; have h2:=HOK.out.2.2; omega))
   have HAZ7 : Hid (N + 6 < A.heap.size):=hid (HAZ6.out h0)
   clear h0 hne
   go_wp2_with fail
   refine HFC.out.mono ?_
   rintro e V2 ⟨⟨_,rfl⟩,ov3,HFL⟩
   have hk2:=HFL.out.keeps
   have hn5 : ¬ (N + 5 = N + 1 ∨ N + 5 = N ∨ N + 5 = N + 2 ∨ (Value.slice oa2 ol2 oc2).ownBlock = some (N + 5)):=by
    rintro (e | e | e | e)
    ·omega
    ·omega
    ·omega
    ·exact (HI.out.1.ownO _ e).2.1 rfl
   have HD2 : Hid (V2.heap[N + 5]? = some (.deferred (some []))):=hid ((hk2.block _ HAZ.out hn5).trans HD.out)
   have HAZ2 : Hid (N + 5 < V2.heap.size):=hid (by have:=hk2.size; have:=HAZ.out; omega)
   have HI8 : Hid (ImI w (N + 5) sb pb (N + 1) N (N + 2) (N + 3) q (done ++ [cur]) [] (.slice none 0 0) ov3 1048566 V2):=hid (by
    have hB:=HI.out.1.below.size
    refine ⟨HFL.out.box,hk2.obj HI.out.1.fbx ?_,SlAt.nil,by rw [← imOut_snoc]; exact HFL.out.sl,HI.out.1.lo,fun g hg => by simp [Value.ownBlock] at hg,fun g hg => ?_,by simp,Nat.le_refl _,below_keeps HI.out.1.below hk2 ?_ hB⟩
    ·rintro (e | e | e | e)
     ·omega
     ·omega
     ·omega
     ·exact HI.out.1.slo.ne HI.out.1.fbx (by decide) _ e rfl
    ·rcases HFL.out.own g hg with e | e
     ·exact HI.out.1.ownO g e
     ·have:=HAZ7.out; exact ⟨by omega,by omega,by omega⟩
    ·rintro i (e | e | e | e)
     ·have:=HNB.out; omega
     ·have:=HNB.out; omega
     ·have:=HNB.out; omega
     ·exact (HI.out.1.ownO i e).1)
   clear f0 HFC hk2 hn5 l0
   obtain ⟨oa3,oc3,rfl⟩:=HI8.out.slo.shape
   obtain ⟨ol3,hol3⟩ : ∃ x,x = (imOut q (done ++ [cur])).length:=⟨_,rfl⟩
   rw [← hol3] at HI8
   clear hol3 HFL
   have HLN : Hid ((imOut q (done ++ [cur])).length + 8 ≤ 500000000):=hid (by have h1:=imOut_le q (gs:=[]) (HALL.out.trans (List.append_nil _).symm); have h2:=HOK.out.2.2; omega)
   go_upto_region 15 with fail
   have hT0 : V2.drew.cell? ⟨N,0,none⟩ = some (.slice oa3 ol3 oc3):=blk_cell HI8.out.box.o 0
   refine wp_region_B (T:=fun X : World => X.cell? ⟨N,0,none⟩ = some (.slice oa3 ol3 oc3)) (B:=fun _ => true) (by kernel_rfl) ?_
   have HV : Hid (Below V2.heap.size V2 V2.drew):=hid (Below.refl _ _).drew
   generalize V2.drew = X at hT0 HV ⊢
   have HC:=hid (w_frame (w:=X) (u:=.slice none 0 0) (ys:=[]) ⟨none,0,rfl,fun j x hx => by simp at hx⟩ (by simp))
   refine wpAnyB_ready (rs:=[0,1]) (by kernel_rfl) (by simp) ?_
   refine AllReadyB.cons (o:=⟨some 51,.load 23 (.tmp 3),23,"store.go:258",#[],none⟩) rfl (fun K hK => ?_) ?_
   ·go_simp
    refine hK.out _ _ (fun _ h => h) ?_
    clear hK K
    try go_frame
    refine wpAnyB_ready (rs:=[1]) (by kernel_rfl) (by simp) ?_
    refine AllReadyB.cons (o:=⟨some 52,.call ⟨.value (.func 85),#[.const (.slice none 0 0)],#[23]⟩,23,"store.go:258",#[],none⟩) rfl (fun K hK => ?_) AllReadyB.nil
    go_simp
    go_at_call 85
    refine HC.out.mono ?_
    rintro e X2 ⟨fv,rfl,hf2⟩
    obtain ⟨fa,fc,rfl⟩:=hf2.sl.shape
    obtain ⟨fn,hfn⟩ : ∃ x,x = (frameOf []).length:=⟨_,rfl⟩
    rw [← hfn] at hf2 ⊢
    have HB2 : Hid (Below V2.heap.size V2 X2):=hid (HV.out.trans (hf2.below.mono HV.out.size))
    have HI9:=hid (HI8.out.next HB2.out)
    obtain ⟨v3,X3,hap,hsl3,hk3,hown3,-⟩:=append_bytes HI9.out.slo hf2.sl.rd (by have h1:=HLN.out; have h2 : (frameOf ([] : List UInt8)).length = 8:=rfl; omega) 23
    obtain ⟨va3,vc3,rfl⟩:=hsl3.shape
    obtain ⟨n3,hn3⟩ : ∃ x,x = (imOut q (done ++ [cur]) ++ frameOf []).length:=⟨_,rfl⟩
    rw [← hn3] at hap hsl3 hown3
    rw [imOut_all q HALL.out] at hsl3
    have HO3 : Hid (IsBlk X3 N #[.slice oa3 ol3 oc3] 23):=hid (hk3.obj HI9.out.box.o (fun e => HI9.out.slo.ne HI9.out.box.o (by decide) _ e rfl))
    have HFIN : Hid (SlAt byteKind 5 X3 (.slice va3 n3 vc3) (imgB q m) ∧ (∀ g,(Value.slice va3 n3 vc3).ownBlock = some g → w.heap.size ≤ g ∧ g ≠ N + 5) ∧ Below w.heap.size w X3 ∧ X3.heap[N + 5]? = some (.deferred (some []))):=hid (by
     have hz2:=HB2.out.size
     have hz3:=HI9.out.below.size
     refine ⟨hsl3,fun g hg => ?_,below_keeps HI9.out.below hk3 (fun i e => (HI9.out.ownO i e).1) hz3,?_⟩
     ·rcases hown3 g hg with e | e
      ·exact ⟨(HI9.out.ownO g e).1,(HI9.out.ownO g e).2.1⟩
      ·have:=HAZ2.out; exact ⟨by omega,by omega⟩
     ·refine (hk3.block _ (by have:=HAZ2.out; omega) (fun e => (HI9.out.ownO _ e).2.1 rfl)).trans ?_
      exact (HB2.out.block _ HAZ2.out).trans HD2.out)
    have hc9 : X2.cell? ⟨N,0,none⟩ = some (.slice oa3 ol3 oc3):=blk_cell HI9.out.box.o 0
    refine hK.out _ _ (fun _ _ => hc9) ?_
    clear hK K hsl3 hk3 hown3 hn3 hf2 hfn
    try go_frame
    clear hc9
    refine wpAnyB_ready (rs:=[2]) (by kernel_rfl) (by simp) ?_
    refine AllReadyB.cons (o:=⟨some 53,.call ⟨.builtin .append,#[.tmp 51,.tmp 52],#[23,23]⟩,23,"store.go:258",#[⟨0,.data⟩,⟨1,.data⟩,⟨1,.chain⟩],none⟩) rfl (fun K hK => ?_) AllReadyB.nil
    refine step_append_run rfl (.tmp 51) (.tmp 52) 23 rfl _ _ rfl rfl _ _ hap ?_
    refine hK.out _ _ (fun _ _ => blk_cell HO3.out 0) ?_
    clear hK K hap
    try go_frame
    refine wpAnyB_ready (rs:=[3]) (by kernel_rfl) (by simp) ?_
    refine AllReadyB.cons (o:=⟨some 2,.assign (.tmp 53),23,"store.go:258",#[⟨2,.data⟩,⟨2,.chain⟩,⟨0,.phase⟩,⟨1,.phase⟩,⟨2,.phase⟩],none⟩) rfl (fun K hK => ?_) AllReadyB.nil
    go_simp
    refine hK.out _ _ (fun _ h => h) ?_
    clear hK K
    try go_frame
    refine wpAnyB_done (by kernel_rfl) ?_ _
    go_wp2_with fail
    rw [HZW.out]
    refine leaves_of_marked [N + 5] X3 ⟨HFIN.out.2.2.2,.slice va3 n3 vc3,by rw [results_tmp (t:=2) rfl]; rfl,_,rfl,hid ⟨?_,fun g hg => (HFIN.out.2.1 g hg).1,?_⟩⟩
    ·exact HFIN.out.1.keeps (keeps_putObj _ _ _) (fun g hg e => (HFIN.out.2.1 g hg).2 e)
    ·exact below_keeps HFIN.out.2.2.1 (keeps_putObj X3 (N + 5) (.deferred none)) (fun i e => by have:=HNB.out; omega) HFIN.out.2.2.1.size
   refine AllReadyB.cons (o:=⟨some 52,.call ⟨.value (.func 85),#[.const (.slice none 0 0)],#[23]⟩,23,"store.go:258",#[],none⟩) rfl (fun K hK => ?_) AllReadyB.nil
   go_simp
   go_at_call 85
   refine HC.out.mono ?_
   rintro e X2 ⟨fv,rfl,hf2⟩
   obtain ⟨fa,fc,rfl⟩:=hf2.sl.shape
   obtain ⟨fn,hfn⟩ : ∃ x,x = (frameOf []).length:=⟨_,rfl⟩
   rw [← hfn] at hf2 ⊢
   have HB2 : Hid (Below V2.heap.size V2 X2):=hid (HV.out.trans (hf2.below.mono HV.out.size))
   have HI9:=hid (HI8.out.next HB2.out)
   obtain ⟨v3,X3,hap,hsl3,hk3,hown3,-⟩:=append_bytes HI9.out.slo hf2.sl.rd (by have h1:=HLN.out; have h2 : (frameOf ([] : List UInt8)).length = 8:=rfl; omega) 23
   obtain ⟨va3,vc3,rfl⟩:=hsl3.shape
   obtain ⟨n3,hn3⟩ : ∃ x,x = (imOut q (done ++ [cur]) ++ frameOf []).length:=⟨_,rfl⟩
   rw [← hn3] at hap hsl3 hown3
   rw [imOut_all q HALL.out] at hsl3
   have HO3 : Hid (IsBlk X3 N #[.slice oa3 ol3 oc3] 23):=hid (hk3.obj HI9.out.box.o (fun e => HI9.out.slo.ne HI9.out.box.o (by decide) _ e rfl))
   have HFIN : Hid (SlAt byteKind 5 X3 (.slice va3 n3 vc3) (imgB q m) ∧ (∀ g,(Value.slice va3 n3 vc3).ownBlock = some g → w.heap.size ≤ g ∧ g ≠ N + 5) ∧ Below w.heap.size w X3 ∧ X3.heap[N + 5]? = some (.deferred (some []))):=hid (by
    have hz2:=HB2.out.size
    have hz3:=HI9.out.below.size
    refine ⟨hsl3,fun g hg => ?_,below_keeps HI9.out.below hk3 (fun i e => (HI9.out.ownO i e).1) hz3,?_⟩
    ·rcases hown3 g hg with e | e
     ·exact ⟨(HI9.out.ownO g e).1,(HI9.out.ownO g e).2.1⟩
     ·have:=HAZ2.out; exact ⟨by omega,by omega⟩
    ·refine (hk3.block _ (by have:=HAZ2.out; omega) (fun e => (HI9.out.ownO _ e).2.1 rfl)).trans ?_
     exact (HB2.out.block _ HAZ2.out).trans HD2.out)
   have hc9 : X2.cell? ⟨N,0,none⟩ = some (.slice oa3 ol3 oc3):=blk_cell HI9.out.box.o 0
   refine hK.out _ _ (fun _ _ => hc9) ?_
   clear hK K hsl3 hk3 hown3 hn3 hf2 hfn
   try go_frame
   refine wpAnyB_ready (rs:=[0]) (by kernel_rfl) (by simp) ?_
   refine AllReadyB.cons (o:=⟨some 51,.load 23 (.tmp 3),23,"store.go:258",#[],none⟩) rfl (fun K hK => ?_) AllReadyB.nil
   go_simp
   refine hK.out _ _ (fun _ h => h) ?_
   clear hK K
   try go_frame
   clear hc9
   refine wpAnyB_ready (rs:=[2]) (by kernel_rfl) (by simp) ?_
   refine AllReadyB.cons (o:=⟨some 53,.call ⟨.builtin .append,#[.tmp 51,.tmp 52],#[23,23]⟩,23,"store.go:258",#[⟨0,.data⟩,⟨1,.data⟩,⟨1,.chain⟩],none⟩) rfl (fun K hK => ?_) AllReadyB.nil
   refine step_append_run rfl (.tmp 51) (.tmp 52) 23 rfl _ _ rfl rfl _ _ hap ?_
   refine hK.out _ _ (fun _ _ => blk_cell HO3.out 0) ?_
   clear hK K hap
   try go_frame
   refine wpAnyB_ready (rs:=[3]) (by kernel_rfl) (by simp) ?_
   refine AllReadyB.cons (o:=⟨some 2,.assign (.tmp 53),23,"store.go:258",#[⟨2,.data⟩,⟨2,.chain⟩,⟨0,.phase⟩,⟨1,.phase⟩,⟨2,.phase⟩],none⟩) rfl (fun K hK => ?_) AllReadyB.nil
   go_simp
   refine hK.out _ _ (fun _ h => h) ?_
   clear hK K
   try go_frame
   refine wpAnyB_done (by kernel_rfl) ?_ _
   go_wp2_with fail
   rw [HZW.out]
   refine leaves_of_marked [N + 5] X3 ⟨HFIN.out.2.2.2,.slice va3 n3 vc3,by rw [results_tmp (t:=2) rfl]; rfl,_,rfl,hid ⟨?_,fun g hg => (HFIN.out.2.1 g hg).1,?_⟩⟩
   ·exact HFIN.out.1.keeps (keeps_putObj _ _ _) (fun g hg e => (HFIN.out.2.1 g hg).2 e)
   ·exact below_keeps HFIN.out.2.2.1 (keeps_putObj X3 (N + 5) (.deferred none)) (fun i e => by have:=HNB.out; omega) HFIN.out.2.2.1.size
end
end Go.Proofs.YtagdchgkjjpacaaGreat
