/- The walk of package store's manifest. -/
import Derived.Test.YtagdchgkjjpacaaGreatr30
import Derived.Maps.RangeWalk
set_option maxRecDepth 100000
open Go.Lib (hid)
set_option linter.unusedSimpArgs false
set_option linter.unusedVariables false
set_option linter.unusedSectionVars false
namespace Go.Proofs.YtagdchgkjjpacaaGreat
open Go.RowKit Go.Shelf
def manRow (F : FsS) (dir : ByteArray) : List (List UInt8) → Option (Nat × Nat × Nat × Prs)
 | [r] =>
   if r.length ≠ 16 then none
   else if 99999999 < numOf (r.take 8) ∨ numOf (r.drop 8) < 1 ∨ 9223372036854775808 ≤ numOf (r.drop 8) then none
   else if numOf (r.take 8) = 0 then some (0,numOf (r.drop 8),0,[])
   else match loadF F dir (numOf (r.take 8)) with
    | none => none
    | some (q,m) => some (numOf (r.take 8),numOf (r.drop 8),q,m)
 | _ => none
def manY (F : FsS) (dir : ByteArray) (Y : List UInt8) : Option (Nat × Nat × Nat × Prs) :=
 if endOf (scanOf Y) ≠ Y.length then none else manRow F dir (scanOf Y)
theorem manRow_none {F : FsS} {dir : ByteArray} {rs : List (List UInt8)} (h : rs.length ≠ 1) : manRow F dir rs = none:=by
 match rs,h with
 | [],_ => rfl
 | [r],h => exact absurd rfl h
 | r :: s :: t,_ => rfl
theorem manR_eq (F : FsS) (dir : ByteArray) : manR F dir = match F.find (nmOf dir sMan) with
 | none => some (0,0,0,[])
 | some x => manY F dir x.data:=by
 unfold manR
 cases F.find (nmOf dir sMan) with
 | none => rfl
 | some x =>
   simp only
   unfold manY
   by_cases he : endOf (scanOf x.data) ≠ x.data.length
   ·rw [if_pos he,if_pos he]
   ·rw [if_neg he,if_neg he]
    match scanOf x.data with
    | [] => rfl
    | [r] =>
      simp only [manRow,loadF]
      cases F.find (baseNm dir (numOf (r.take 8))) <;> rfl
    | _ :: _ :: _ => rfl
theorem Hd.keepsOut {w0 w w' : World} {fb k : Nat} {F : FsS} {S U : Nat → Prop} (h : Hd w0 w fb F k S) (hk : Keeps U w w') (h1 : ∀ i,U i → ¬ S i) (h3 : ∀ i,U i → w0.heap.size ≤ i) : Hd w0 w' fb F k S :=
 ⟨h.fs.keeps hk h1,h.low,below_keeps h.below hk h3 h.below.size,h.ok⟩
theorem StB.setBase {w : World} {sb : Nat} {c : StC} {m : Prs} {n : Nat} (h : StB w sb c m n) (z : Int) : StB (w.setCell ⟨sb,3,none⟩ (.int .i64 z)) sb { c with base:=z } m n ∧ Keeps (Only sb) w (w.setCell ⟨sb,3,none⟩ (.int .i64 z)):=by
 have hk : Keeps (Only sb) w (w.setCell ⟨sb,3,none⟩ (.int .i64 z)):=(Keeps.refl (Only sb) w).setCell (p:=⟨sb,3,none⟩) (fun _ => rfl) _
 obtain ⟨t,ver,h1,h2,h3⟩:=h.tab
 refine ⟨⟨blk_set h.blk 3 _,⟨t,ver,h1.keeps hk (fun e => h.ne e.symm) (fun b cs hb e => ?_),h2,h3⟩,h.rise,h.len⟩,hk⟩
 have e : b = sb:=e
 subst e
 exact blk_ne_type hb h.blk (by decide) rfl
theorem StB.keepsOut {w w' : World} {sb : Nat} {c : StC} {m : Prs} {n : Nat} {U : Nat → Prop} (h : StB w sb c m n) (hk : Keeps U w w') (h1 : ∀ i,U i → ∀ cs T,IsBlk w i cs T → T ≠ 126 ∧ T ≠ 160 ∧ T ≠ 188) : StB w' sb c m n:=by
 obtain ⟨t,ver,ht,h2,h3⟩:=h.tab
 obtain ⟨root,hb,htr⟩:=ht
 refine ⟨hk.obj h.blk (fun e => (h1 _ e _ _ h.blk).1 rfl),⟨t,ver,Ss.STab.keeps ⟨root,hb,htr⟩ hk (fun e => (h1 _ e _ _ hb).2.1 rfl) (fun b cs hbk e => (h1 _ e _ _ hbk).2.2 rfl),h2,h3⟩,h.rise,h.len⟩
def ManPost (W : World) (sb qb : Nat) (c : StC) (o : Option (Nat × Nat × Nat × Prs)) (e : Ending) (W' : World) : Prop :=
 Keeps (fun i => i = sb ∨ i = c.tb ∨ i = qb) W W' ∧ ((∃ b f q m,o = some (b,f,q,m) ∧ (∃ v,e = .returned v) ∧ StB W' sb { c with base:=((b : Nat) : Int),seq:=((q : Nat) : Int) } m 400000000 ∧ IsBlk W' qb #[.int .i64 ((f : Nat) : Int)] 3) ∨ (o = none ∧ e = spoiltE ∧ ∃ z : Int,IsBlk W' qb #[.int .i64 z] 3))
theorem rows_one {rs : List (List UInt8)} (h : rs.length = 1) : ∃ r,rs = [r]:=by
 match rs,h with
 | [r],_ => exact ⟨r,rfl⟩
section
variable {w0 W : World} {fb k : Nat} {F : FsS} {S : Nat → Prop} {sb bb pb qb : Nat} {c : StC} {ya : Option Addr} {yc : Nat} {Y : List UInt8}
set_option maxHeartbeats 8000000 in
theorem st_manifest1 (h : Hd w0 W fb F k S) (hs : StB W sb c [] 0) (hfb : c.fb = fb) (hsq : c.seq = 0) (hdir : c.dir.size ≤ 1000) (hcnt : ∀ b y,b < 100000000 → F.find (baseNm c.dir b) = some y → cntR (scanOf y.data) ≤ 400000000)
 (hbb : IsBlk W bb #[.slice ya Y.length yc] 23) (hpb : IsBlk W pb #[.pointer (some ⟨sb,0,none⟩)] 49) (hqb : IsBlk W qb #[.int .i64 0] 3) (hy : SlAt byteKind 5 W (.slice ya Y.length yc) Y) (hyl : Y.length ≤ 67108864)
 (hS : ¬ S sb ∧ ¬ S qb) (hlow : w0.heap.size ≤ sb ∧ w0.heap.size ≤ qb) (hTS : ¬ S c.tb) (hTL : w0.heap.size ≤ c.tb) :
 Calls Tryz.prog 105 #[.pointer (some ⟨bb,0,none⟩),.pointer (some ⟨pb,0,none⟩),.pointer (some ⟨qb,0,none⟩)] W (ManPost W sb qb c (manY F c.dir Y)):=by
 have b0 : W.cell? ⟨bb,0,none⟩ = some (.slice ya Y.length yc):=blk_cell hbb 0
 have HS:=hid hs
 have HH:=hid h
 have HC:=hid (And.intro hfb (And.intro hsq (And.intro hdir hcnt)))
 have HP:=hid hpb
 have HQ:=hid hqb
 have HO:=hid (And.intro hS hlow)
 have HTS:=hid hTS
 have HTL:=hid hTL
 have hrm:=hy.room
 have HFM:=hid (st_framed hy.rd (by omega) hrm.1 hrm.2.1)
 have HYL:=hid hyl
 clear h hs hfb hsq hdir hcnt hbb hpb hqb hrm hy hyl hS hlow hTS hTL
 go_enter Tryz.func105,Tryz.ntmps105
 go_wp2_with (fail)
 refine HFM.out.mono ?_
 rintro e w3 ⟨hb3,⟨hend,va,vc,rfl,hls⟩ | ⟨hend,rfl⟩⟩
 rotate_left
 ·have HNO : Hid (manY F c.dir Y = none):=hid (by unfold manY; rw [if_pos hend])
  refine st_leave rfl ?_
  exact ⟨(Keeps.of_below hb3).mono fun _ _ e => e.elim,.inr ⟨HNO.out,rfl,0,(hb3.block _ (lt_of_block HQ.out)).trans HQ.out⟩⟩
 have HB3:=hid hb3
 obtain ⟨rs,hrs⟩ : ∃ rs,rs = scanOf Y:=⟨_,rfl⟩
 rw [← hrs] at hls ⊢
 have HMY : Hid (manY F c.dir Y = manRow F c.dir rs):=hid (by unfold manY; rw [if_neg (by simpa using hend),hrs])
 have HLS:=hid hls
 clear hend hb3 hrs hls HFM b0
 by_cases h1 : rs.length = 1
 rotate_left
 ·have t1 : ((rs.length : Int) != 1) = true:=by rw [bne_iff_ne]; omega
  have HNO : Hid (manY F c.dir Y = none):=hid (by rw [HMY.out,manRow_none h1])
  clear h1
  go_wp2_with (fail)
  refine st_leave rfl ?_
  exact ⟨(Keeps.of_below HB3.out).mono fun _ _ e => e.elim,.inr ⟨HNO.out,rfl,0,(HB3.out.block _ (lt_of_block HQ.out)).trans HQ.out⟩⟩
 obtain ⟨r,rfl⟩:=rows_one h1
 simp only [manRow] at HMY
 obtain ⟨g,off,ra,rc,rfl,hc0,hsr⟩:=HLS.out.row (i:=0) (r:=r) rfl
 rw [Nat.add_zero] at hc0
 have HSR:=hid hsr
 have hln : ([r] : List (List UInt8)).length = 1:=rfl
 rw [hln]
 clear h1 hsr hln HLS
 by_cases h16 : r.length = 16
 rotate_left
 ·have t3 : ((r.length : Int) != 16) = true:=by rw [bne_iff_ne]; omega
  have HNO : Hid (manY F c.dir Y = none):=hid (by rw [HMY.out,if_pos h16])
  clear h16
  go_wp2_with (fail)
  refine st_leave rfl ?_
  exact ⟨(Keeps.of_below HB3.out).mono fun _ _ e => e.elim,.inr ⟨HNO.out,rfl,0,(HB3.out.block _ (lt_of_block HQ.out)).trans HQ.out⟩⟩
 have t3 : ((r.length : Int) != 16) = false:=by simp; omega
 have H16:=hid h16
 rw [if_neg (by simpa using h16)] at HMY
 obtain ⟨ra',hra⟩ : ∃ x : Nat × Nat,ra = some ⟨x.1,x.2,none⟩:=by
  rcases HSR.out with ⟨e,e2⟩ | ⟨g2,o2,c2,cur2,e,-⟩
  ·rw [e2] at h16; simp at h16
  ·simp only [Value.slice.injEq] at e; exact ⟨(g2,o2),e.1⟩
 obtain ⟨g2,o2⟩:=ra'
 simp only at hra
 subst hra
 have hrm:=HSR.out.room
 have hr1 : (8 : Int) ≤ (r.length : Int):=by omega
 have hr2 : (8 : Int) ≤ (rc : Int):=by omega
 have hr3 : (r.length : Int) ≤ (rc : Int):=by omega
 have hr4 : (rc : Int) ≤ 9223372036854775807:=by omega
 have hr5 : (r.length : Int) = 16:=by omega
 have HT8 : Hid ((r.take 8).length = 8 ∧ (r.drop 8).length = 8):=hid (by rw [List.length_take,List.length_drop]; omega)
 have HV1 : Hid (∀ V,Below w3.heap.size w3 V → Calls Tryz.prog 54 #[.slice (some ⟨g2,o2,none⟩) 8 rc] V fun e w' => e = .returned (.int .i64 (wrap64 (numOf (r.take 8) : Int))) ∧ V = w'):=hid fun V hV => by
  have:=(HSR.out.rd.below hV).sub (q:=0) (m:=8) (by omega) (some ⟨g2,o2,none⟩) rc (fun _ => by rw [Nat.add_zero])
  rw [List.drop_zero] at this
  exact st_value this (by rw [HT8.out.1]; decide)
 have HV2 : Hid (∀ V,Below w3.heap.size w3 V → Calls Tryz.prog 54 #[.slice (if rc = 8 then some ⟨g2,o2,none⟩ else some ⟨g2,o2 + 8,none⟩) (r.length - 8) (rc - 8)] V fun e w' => e = .returned (.int .i64 (wrap64 (numOf (r.drop 8) : Int))) ∧ V = w'):=hid fun V hV => by
  rw [if_neg (by omega)]
  exact st_value ((HSR.out.rd.below hV).tail (q:=8) (by omega) (some ⟨g2,o2 + 8,none⟩) (rc - 8) (fun _ => rfl)) (by rw [HT8.out.2]; decide)
 obtain ⟨z1,hz1⟩ : ∃ z : Int,z = wrap64 (numOf (r.take 8) : Int):=⟨_,rfl⟩
 obtain ⟨z2,hz2⟩ : ∃ z : Int,z = wrap64 (numOf (r.drop 8) : Int):=⟨_,rfl⟩
 rw [← hz1] at HV1
 rw [← hz2] at HV2
 have HZ1 : Hid ((z1 < 0 → 99999999 < numOf (r.take 8)) ∧ (99999999 < z1 → 99999999 < numOf (r.take 8)) ∧ (0 ≤ z1 → z1 ≤ 99999999 → z1 = (numOf (r.take 8) : Int))):=hid (by
  have h1:=numOf_lt (r.take 8)
  rw [HT8.out.1] at h1
  rw [hz1]; unfold wrap64; omega)
 have HZ2 : Hid ((z2 < 1 ↔ numOf (r.drop 8) < 1 ∨ 9223372036854775808 ≤ numOf (r.drop 8)) ∧ (1 ≤ z2 → z2 = (numOf (r.drop 8) : Int))):=hid (by
  have h1:=numOf_lt (r.drop 8)
  rw [HT8.out.2] at h1
  rw [hz2]; unfold wrap64; omega)
 have HDR : Hid (r.length - 8 = 8):=hid (by omega)
 have HP3 : Hid (IsBlk w3 pb #[.pointer (some ⟨sb,0,none⟩)] 49):=hid ((HB3.out.block _ (lt_of_block HP.out)).trans HP.out)
 have HQ3 : Hid (IsBlk w3 qb #[.int .i64 0] 3):=hid ((HB3.out.block _ (lt_of_block HQ.out)).trans HQ.out)
 have HS3:=hid (HS.out.below HB3.out)
 have HNE : Hid (pb ≠ sb ∧ pb ≠ qb ∧ qb ≠ sb ∧ qb ≠ c.tb ∧ sb ≠ c.tb):=hid (by
  obtain ⟨t,ver,⟨root,ht,_⟩,_⟩:=HS.out.tab
  exact ⟨blk_ne_type HP.out HS.out.blk (by decide),blk_ne_type HP.out HQ.out (by decide),blk_ne_type HQ.out HS.out.blk (by decide),blk_ne_type HQ.out ht (by decide),HS.out.ne⟩)
 clear h16 hrm hz1 hz2
 go_upto_region 3 with (fail)
 have hT0 : (fun X : World => X.cell? ⟨pb,0,none⟩ = some (.pointer (some ⟨sb,0,none⟩)) ∧ X.cell? ⟨g,off,none⟩ = some (.slice (some ⟨g2,o2,none⟩) r.length rc)) w3.drew:=⟨blk_cell HP3.out 0,hc0⟩
 refine wp_region_B (T:=fun X : World => X.cell? ⟨pb,0,none⟩ = some (.pointer (some ⟨sb,0,none⟩)) ∧ X.cell? ⟨g,off,none⟩ = some (.slice (some ⟨g2,o2,none⟩) r.length rc)) (B:=fun i => i != 13 && i != 14) (by kernel_rfl) ?_
 have HBD : Hid (Below w3.heap.size w3 w3.drew):=hid (Below.refl _ _).drew
 generalize w3.drew = V at hT0 HBD ⊢
 clear hc0
 refine wpAnyB_load (i:=0) (oi:=⟨some 18,.load 49 (.tmp 1),49,"store.go:104",#[],none⟩) (v:=?mv0) rfl (by kernel_rfl) (by kernel_rfl) (by kernel_rfl) (by kernel_rfl) (fun _ _ _ h => h) (Or.inl ⟨by kernel_rfl,?my0⟩) (by assumption) ?ms0
 case my0 => (intro w hSw; obtain ⟨u0,u1⟩:=hSw; go_simp) <;> with_reducible rfl
 try go_frame
 refine wpAnyB_take (i:=1) (oi:=⟨some 19,.move (.tmp 3),132,"store.go:104",#[],none⟩) (v:=?mv1) rfl (by kernel_rfl) (by kernel_rfl) (by kernel_rfl) (fun _ _ _ h => h) (Or.inl ⟨by kernel_rfl,?my1⟩) ?ms1
 case my1 => (intro w; go_simp) <;> with_reducible rfl
 try go_frame
 refine wpAnyB_take (i:=2) (oi:=⟨some 20,.indexAddr 132 (.tmp 19) (.const (.int .i64 0)),0,"store.go:104",#[⟨1,.data⟩],none⟩) (v:=?mv2) rfl (by kernel_rfl) (by kernel_rfl) (by kernel_rfl) (fun _ _ _ h => h) (Or.inl ⟨by kernel_rfl,?my2⟩) ?ms2
 case my2 => (intro w; go_simp) <;> with_reducible rfl
 try go_frame
 refine wpAnyB_load (i:=3) (oi:=⟨some 21,.load 23 (.tmp 20),23,"store.go:104",#[⟨2,.data⟩],none⟩) (v:=?mv3) rfl (by kernel_rfl) (by kernel_rfl) (by kernel_rfl) (by kernel_rfl) (fun _ _ _ h => h) (Or.inl ⟨by kernel_rfl,?my3⟩) (by assumption) ?ms3
 case my3 => (intro w hSw; obtain ⟨u0,u1⟩:=hSw; go_simp) <;> with_reducible rfl
 try go_frame
 refine wpAnyB_take (i:=4) (oi:=⟨some 22,.slice 23 (.tmp 21) none (some (.const (.int .i64 8))) none,23,"store.go:104",#[⟨3,.data⟩],none⟩) (v:=?mv4) rfl (by kernel_rfl) (by kernel_rfl) (by kernel_rfl) (fun _ _ _ h => h) (Or.inl ⟨by kernel_rfl,?my4⟩) ?ms4
 case my4 => (intro w; go_simp) <;> with_reducible rfl
 try go_frame
 refine wpAnyB_take (i:=6) (oi:=⟨some 24,.move (.tmp 3),132,"store.go:104",#[],none⟩) (v:=?mv6) rfl (by kernel_rfl) (by kernel_rfl) (by kernel_rfl) (fun _ _ _ h => h) (Or.inl ⟨by kernel_rfl,?my6⟩) ?ms6
 case my6 => (intro w; go_simp) <;> with_reducible rfl
 try go_frame
 refine wpAnyB_take (i:=7) (oi:=⟨some 25,.indexAddr 132 (.tmp 24) (.const (.int .i64 0)),0,"store.go:104",#[⟨6,.data⟩],none⟩) (v:=?mv7) rfl (by kernel_rfl) (by kernel_rfl) (by kernel_rfl) (fun _ _ _ h => h) (Or.inl ⟨by kernel_rfl,?my7⟩) ?ms7
 case my7 => (intro w; go_simp) <;> with_reducible rfl
 try go_frame
 refine wpAnyB_load (i:=8) (oi:=⟨some 26,.load 23 (.tmp 25),23,"store.go:104",#[⟨7,.data⟩],none⟩) (v:=?mv8) rfl (by kernel_rfl) (by kernel_rfl) (by kernel_rfl) (by kernel_rfl) (fun _ _ _ h => h) (Or.inl ⟨by kernel_rfl,?my8⟩) (by assumption) ?ms8
 case my8 => (intro w hSw; obtain ⟨u0,u1⟩:=hSw; go_simp) <;> with_reducible rfl
 try go_frame
 refine wpAnyB_take (i:=9) (oi:=⟨some 27,.slice 23 (.tmp 26) (some (.const (.int .i64 8))) none none,23,"store.go:104",#[⟨8,.data⟩],none⟩) (v:=?mv9) rfl (by kernel_rfl) (by kernel_rfl) (by kernel_rfl) (fun _ _ _ h => h) (Or.inl ⟨by kernel_rfl,?my9⟩) ?ms9
 case my9 => (intro w; go_simp) <;> with_reducible rfl
 try go_frame
 refine wpAnyB_ready (rs:=[5]) (by kernel_rfl) (by simp) ?_
 refine AllReadyB.cons (o:=⟨some 23,.call ⟨.value (.func 54),#[.tmp 22],#[23]⟩,3,"store.go:104",#[⟨4,.data⟩],none⟩) rfl (fun K hK => ?_) AllReadyB.nil
 go_simp
 go_at_call 54
 refine (HV1.out V HBD.out).mono ?_
 rintro e V2 ⟨rfl,rfl⟩
 refine hK.out _ _ (fun _ h => h) ?_
 clear hK K
 try go_frame
 refine wpAnyB_ready (rs:=[10]) (by kernel_rfl) (by simp) ?_
 refine AllReadyB.cons (o:=⟨some 28,.call ⟨.value (.func 54),#[.tmp 27],#[23]⟩,3,"store.go:104",#[⟨9,.data⟩,⟨5,.chain⟩],none⟩) rfl (fun K hK => ?_) AllReadyB.nil
 go_simp
 go_at_call 54
 refine (HV2.out V HBD.out).mono ?_
 rintro e V2 ⟨rfl,rfl⟩
 refine hK.out _ _ (fun _ h => h) ?_
 clear hK K
 try go_frame
 refine wpAnyB_take (i:=11) (oi:=⟨some 29,.nilCheck (.tmp 18),0,"store.go:104",#[⟨0,.data⟩,⟨0,.phase⟩,⟨1,.phase⟩,⟨2,.phase⟩,⟨3,.phase⟩,⟨4,.phase⟩,⟨5,.phase⟩,⟨6,.textOnly .lateStores⟩,⟨7,.textOnly .lateStoresUnsure⟩,⟨8,.phase⟩,⟨9,.textOnly .lateStoresUnsure⟩,⟨10,.phase⟩],none⟩) (v:=?mv11) rfl (by kernel_rfl) (by kernel_rfl) (by kernel_rfl) (fun _ _ _ h => h) (Or.inl ⟨by kernel_rfl,?my11⟩) ?ms11
 case my11 => (intro w; go_simp) <;> with_reducible rfl
 try go_frame
 refine wpAnyB_take (i:=12) (oi:=⟨some 30,.fieldAddr 126 (.tmp 29) 3,0,"store.go:104",#[⟨11,.data⟩,⟨0,.phase⟩,⟨1,.phase⟩,⟨2,.phase⟩,⟨3,.phase⟩,⟨4,.phase⟩,⟨5,.phase⟩,⟨6,.textOnly .lateStores⟩,⟨7,.textOnly .lateStoresUnsure⟩,⟨8,.phase⟩,⟨9,.textOnly .lateStoresUnsure⟩,⟨10,.phase⟩],none⟩) (v:=?mv12) rfl (by kernel_rfl) (by kernel_rfl) (by kernel_rfl) (fun _ _ _ h => h) (Or.inl ⟨by kernel_rfl,?my12⟩) ?ms12
 case my12 => (intro w; go_simp) <;> with_reducible rfl
 try go_frame
 have HS4:=hid (HS3.out.below HBD.out)
 have HP4 : Hid (IsBlk V pb #[.pointer (some ⟨sb,0,none⟩)] 49):=hid ((HBD.out.block _ (lt_of_block HP3.out)).trans HP3.out)
 have HQ4 : Hid (IsBlk V qb #[.int .i64 0] 3):=hid ((HBD.out.block _ (lt_of_block HQ3.out)).trans HQ3.out)
 have HKV : Hid (Below W.heap.size W V):=hid (HB3.out.trans (HBD.out.mono HB3.out.size))
 have hset:=HS4.out.setBase z1
 have HS5:=hid hset.1
 have HK5:=hid hset.2
 clear hset
 have c3 : V.cell? ⟨sb,3,none⟩ = some (.int .i64 c.base):=blk_cell HS4.out.blk 3
 have z3 : V.frozen? ⟨sb,3,none⟩ = false:=blk_free HS4.out.blk 3
 refine wpAnyB_ready (rs:=[13]) (by kernel_rfl) (by simp) ?_
 refine AllReadyB.cons (o:=⟨none,.store 3 (.tmp 30) (.tmp 23),0,"store.go:104",#[⟨12,.data⟩,⟨5,.data⟩,⟨10,.chain⟩,⟨0,.phase⟩,⟨1,.phase⟩,⟨2,.phase⟩,⟨3,.phase⟩,⟨4,.phase⟩,⟨5,.phase⟩,⟨6,.textOnly .lateStores⟩,⟨7,.textOnly .lateStoresUnsure⟩,⟨8,.phase⟩,⟨9,.textOnly .lateStoresUnsure⟩,⟨10,.phase⟩],none⟩) rfl (fun K hK => ?_) AllReadyB.nil
 go_simp
 refine hK.out _ _ (fun h => by simp at h) ?_
 clear hK K
 try go_frame
 have HQ5 : Hid (IsBlk (V.setCell ⟨sb,3,none⟩ (.int .i64 z1)) qb #[.int .i64 0] 3):=hid (HK5.out.obj HQ4.out (fun e => by have e : qb = sb:=e; have:=HNE.out; omega))
 have HP5 : Hid (IsBlk (V.setCell ⟨sb,3,none⟩ (.int .i64 z1)) pb #[.pointer (some ⟨sb,0,none⟩)] 49):=hid (HK5.out.obj HP4.out (fun e => by have e : pb = sb:=e; have:=HNE.out; omega))
 have q0 : (V.setCell ⟨sb,3,none⟩ (.int .i64 z1)).cell? ⟨qb,0,none⟩ = some (.int .i64 0):=blk_cell HQ5.out 0
 have qz : (V.setCell ⟨sb,3,none⟩ (.int .i64 z1)).frozen? ⟨qb,0,none⟩ = false:=blk_free HQ5.out 0
 refine wpAnyB_ready (rs:=[14]) (by kernel_rfl) (by simp) ?_
 refine AllReadyB.cons (o:=⟨none,.store 3 (.tmp 2) (.tmp 28),0,"store.go:104",#[⟨10,.data⟩,⟨13,.chain⟩,⟨0,.phase⟩,⟨1,.phase⟩,⟨2,.phase⟩,⟨3,.phase⟩,⟨4,.phase⟩,⟨5,.phase⟩,⟨6,.phase⟩,⟨7,.phase⟩,⟨8,.phase⟩,⟨9,.phase⟩,⟨10,.phase⟩,⟨11,.phase⟩,⟨12,.phase⟩,⟨13,.phase⟩],none⟩) rfl (fun K hK => ?_) AllReadyB.nil
 go_simp
 refine hK.out _ _ (fun h => by simp at h) ?_
 clear hK K
 try go_frame
 refine wpAnyB_done (by kernel_rfl) ?_ _
 clear c3 z3 q0 qz
 have hk6 : Keeps (Only qb) (V.setCell ⟨sb,3,none⟩ (.int .i64 z1)) ((V.setCell ⟨sb,3,none⟩ (.int .i64 z1)).setCell ⟨qb,0,none⟩ (.int .i64 z2)):=(Keeps.refl (Only qb) _).setCell (p:=⟨qb,0,none⟩) (fun _ => rfl) _
 have HS6 : Hid (StB ((V.setCell ⟨sb,3,none⟩ (.int .i64 z1)).setCell ⟨qb,0,none⟩ (.int .i64 z2)) sb { c with base:=z1 } [] 0):=hid (HS5.out.keepsOut hk6 (fun i e cs T hT => by
  have e : i = qb:=e
  subst e
  refine ⟨fun e2 => ?_,fun e2 => ?_,fun e2 => ?_⟩ <;> exact blk_ne_type hT HQ5.out (by rw [e2]; decide) rfl))
 have HP6 : Hid (IsBlk ((V.setCell ⟨sb,3,none⟩ (.int .i64 z1)).setCell ⟨qb,0,none⟩ (.int .i64 z2)) pb #[.pointer (some ⟨sb,0,none⟩)] 49):=hid (hk6.obj HP5.out (fun e => by have e : pb = qb:=e; have:=HNE.out; omega))
 have HQ6 : Hid (IsBlk ((V.setCell ⟨sb,3,none⟩ (.int .i64 z1)).setCell ⟨qb,0,none⟩ (.int .i64 z2)) qb #[.int .i64 z2] 3):=hid (blk_set HQ5.out 0 _)
 have HK6 : Hid (Keeps (fun i => i = sb ∨ i = c.tb ∨ i = qb) W ((V.setCell ⟨sb,3,none⟩ (.int .i64 z1)).setCell ⟨qb,0,none⟩ (.int .i64 z2))):=hid ((((Keeps.of_below HKV.out).mono fun _ _ e => e.elim).trans' (HK5.out.mono fun _ _ e => .inl e)).trans' (hk6.mono fun _ _ e => .inr (.inr e)))
 clear hk6
 generalize (V.setCell ⟨sb,3,none⟩ (.int .i64 z1)).setCell ⟨qb,0,none⟩ (.int .i64 z2) = V6 at HS6 HP6 HQ6 HK6 ⊢
 have p0 : V6.cell? ⟨pb,0,none⟩ = some (.pointer (some ⟨sb,0,none⟩)):=blk_cell HP6.out 0
 have s3 : V6.cell? ⟨sb,3,none⟩ = some (.int .i64 z1):=blk_cell HS6.out.blk 3
 have q0 : V6.cell? ⟨qb,0,none⟩ = some (.int .i64 z2):=blk_cell HQ6.out 0
 have HBAD : Hid ((z1 < 0 ∨ 99999999 < z1 ∨ z2 < 1) → manY F c.dir Y = none):=hid fun hh => by
  rw [HMY.out,if_pos]
  rcases hh with h | h | h
  ·exact .inl (HZ1.out.1 h)
  ·exact .inl (HZ1.out.2.1 h)
  ·exact .inr (HZ2.out.1.1 h)
 by_cases g1 : z1 < 0
 ·have t4 : decide (z1 < 0) = true:=by simp; omega
  have HNO:=hid (HBAD.out (.inl g1))
  clear g1
  go_wp2_with (fail)
  refine st_leave rfl ?_
  exact ⟨HK6.out,.inr ⟨HNO.out,rfl,z2,HQ6.out⟩⟩
 have t4 : decide (z1 < 0) = false:=by simp; omega
 by_cases g2' : 99999999 < z1
 ·have t5 : decide (99999999 < z1) = true:=by simp; omega
  have HNO:=hid (HBAD.out (.inr (.inl g2')))
  clear g1
  go_wp2_with (fail)
  refine st_leave rfl ?_
  exact ⟨HK6.out,.inr ⟨HNO.out,rfl,z2,HQ6.out⟩⟩
 have t5 : decide (99999999 < z1) = false:=by simp; omega
 by_cases g3 : z2 < 1
 ·have t6 : decide (z2 < 1) = true:=by simp; omega
  have HNO:=hid (HBAD.out (.inr (.inr g3)))
  clear g1 g2'
  go_wp2_with (fail)
  refine st_leave rfl ?_
  exact ⟨HK6.out,.inr ⟨HNO.out,rfl,z2,HQ6.out⟩⟩
 have t6 : decide (z2 < 1) = false:=by simp; omega
 have HZB : Hid (z1 = (numOf (r.take 8) : Int) ∧ z2 = (numOf (r.drop 8) : Int) ∧ numOf (r.take 8) ≤ 99999999):=hid (by
  have h1:=HZ1.out.2.2 (by omega) (by omega)
  exact ⟨h1,HZ2.out.2 (by omega),by omega⟩)
 have HMB : Hid (manY F c.dir Y = if numOf (r.take 8) = 0 then some (0,numOf (r.drop 8),0,[])
     else match loadF F c.dir (numOf (r.take 8)) with
      | none => none
      | some (q,m) => some (numOf (r.take 8),numOf (r.drop 8),q,m)):=hid (by
   rw [HMY.out,if_neg]
   have h1:=HZ2.out.1
   have h2:=HZB.out.2.2
   intro hh
   rcases hh with h | h
   ·omega
   ·exact g3 (h1.2 h))
 by_cases g0 : 0 < z1
 ·have t7 : decide (0 < z1) = true:=by simp; omega
  have HG0 : Hid (¬ numOf (r.take 8) = 0):=hid (by have:=HZB.out.1; omega)
  have HLD:=hid (st_load (w:=V6) (c:={ c with base:=z1 }) (b:=numOf (r.take 8)) (S:=S) (HH.out.keepsOut HK6.out (fun i e => by
   rcases e with rfl | rfl | rfl
   ·exact HO.out.1.1
   ·exact HTS.out
   ·exact HO.out.1.2) (fun i e => by
   rcases e with rfl | rfl | rfl
   ·exact HO.out.2.1
   ·exact HTL.out
   ·exact HO.out.2.2)) HS6.out HC.out.1 HZB.out.1 (by have:=HZB.out.2.2; omega) HC.out.2.2.1 (fun y hy => HC.out.2.2.2 _ y (by have:=HZB.out.2.2; omega) hy))
  clear g1 g2' g3 g0
  go_wp2_with (fail)
  refine HLD.out.mono ?_
  rintro e V7 ⟨hk7,⟨q,m,hlf,⟨v,rfl⟩,hst⟩ | ⟨hlf,rfl⟩⟩
  ·have HF : Hid (manY F c.dir Y = some (numOf (r.take 8),numOf (r.drop 8),q,m)):=hid (by
    rw [HMB.out,if_neg HG0.out]
    have h2 : loadF F c.dir (numOf (r.take 8)) = some (q,m):=hlf
    rw [h2])
   have HST:=hid hst
   have HK7 : Hid (Keeps (fun i => i = sb ∨ i = c.tb) V6 V7):=hid hk7
   clear hlf hst hk7
   go_wp2_with (fail)
   go_end0
   refine ⟨HK6.out.trans' (HK7.out.mono fun _ _ e => by rcases e with e | e; exact .inl e; exact .inr (.inl e)),.inl ⟨_,_,_,_,HF.out,⟨_,rfl⟩,by rw [← HZB.out.1]; exact HST.out,?_⟩⟩
   rw [← HZB.out.2.1]
   exact HK7.out.obj HQ6.out (fun e => by have:=HNE.out; rcases e with e | e <;> omega)
  ·have HNO : Hid (manY F c.dir Y = none):=hid (by
    rw [HMB.out,if_neg HG0.out]
    have h2 : loadF F c.dir (numOf (r.take 8)) = none:=hlf
    rw [h2])
   refine st_leave rfl ?_
   have hk7 : Keeps (fun i => i = sb ∨ i = c.tb) V6 V7:=hk7
   exact ⟨HK6.out.trans' (hk7.mono fun _ _ e => by rcases e with e | e; exact .inl e; exact .inr (.inl e)),.inr ⟨HNO.out,rfl,z2,hk7.obj HQ6.out (fun e => by have:=HNE.out; rcases e with e | e <;> omega)⟩⟩
 ·have t7 : decide (0 < z1) = false:=by simp; omega
  have HF : Hid (manY F c.dir Y = some (0,numOf (r.drop 8),0,[]) ∧ z1 = 0):=hid (by
   have h1:=HZB.out.1
   exact ⟨by rw [HMB.out,if_pos (by omega)],by omega⟩)
  clear g1 g2' g3 g0
  go_wp2_with (fail)
  go_end0
  refine ⟨HK6.out,.inl ⟨_,_,_,_,HF.out.1,⟨_,rfl⟩,?_,?_⟩⟩
  ·have h1:=HS6.out
   rw [HF.out.2] at h1
   have e : ({ c with base:=(((0 : Nat)) : Int),seq:=((0 : Nat) : Int) } : StC) = { c with base:=0 }:=by
    have:=HC.out.2.1
    cases c
    simp only at this
    subst this
    rfl
   rw [e]
   exact h1.mono (by omega)
  ·rw [← HZB.out.2.1]
   exact HQ6.out
end
end Go.Proofs.YtagdchgkjjpacaaGreat
