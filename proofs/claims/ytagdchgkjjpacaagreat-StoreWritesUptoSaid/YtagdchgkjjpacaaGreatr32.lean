/- The walk of package store's manifest: the outer function. -/
import Derived.Test.YtagdchgkjjpacaaGreatr31
import Derived.Maps.RangeWalk
set_option maxRecDepth 100000
open Go.Lib (hid)
set_option linter.unusedSimpArgs false
set_option linter.unusedVariables false
set_option linter.unusedSectionVars false
namespace Go.Proofs.YtagdchgkjjpacaaGreat
open Go.RowKit Go.Shelf
theorem enters_manifest1 : ∀ args w,(callFunc 105 args).run Tryz.prog w = .ok (.enter 105 args) w:=enters_of Tryz.func105 (P:=Tryz.prog) (by kernel_rfl) rfl
def MfPost (w : World) (sb : Nat) (c : StC) (o : Option (Nat × Nat × Nat × Prs)) (e : Ending) (w' : World) : Prop :=
 Keeps (fun i => i = sb ∨ i = c.tb) w w' ∧ ((∃ b f q m,o = some (b,f,q,m) ∧ e = .returned (.tuple #[.int .i64 ((f : Nat) : Int),.bool true]) ∧ StB w' sb { c with base:=((b : Nat) : Int),seq:=((q : Nat) : Int) } m 400000000) ∨ (o = none ∧ ∃ z : Int,e = .returned (.tuple #[.int .i64 z,.bool false])))
section
variable {w0 w : World} {fb k : Nat} {F : FsS} {S : Nat → Prop} {sb : Nat} {c : StC}
set_option maxHeartbeats 8000000 in
theorem st_manifest (h : Hd w0 w fb F k S) (hs : StB w sb c [] 0) (hfb : c.fb = fb) (hbs : c.base = 0) (hsq : c.seq = 0) (hdir : c.dir.size ≤ 1000) (hcnt : ∀ b y,b < 100000000 → F.find (baseNm c.dir b) = some y → cntR (scanOf y.data) ≤ 400000000)
 (hS : ¬ S sb ∧ ¬ S c.tb) (hlow : w0.heap.size ≤ sb ∧ w0.heap.size ≤ c.tb) :
 Calls Tryz.prog 67 #[.pointer (some ⟨sb,0,none⟩)] w (MfPost w sb c (manR F c.dir)):=by
 obtain ⟨w1,hw1⟩ : ∃ x,x = w.alloc (.cells #[.pointer (some ⟨sb,0,none⟩)] 49):=⟨_,rfl⟩
 have hb1 : Below w.heap.size w w1:=by rw [hw1]; exact (Below.refl _ _).alloc (Nat.le_refl _) _
 have hp1 : IsBlk w1 w.heap.size #[.pointer (some ⟨sb,0,none⟩)] 49:=by rw [hw1]; exact blk_new _ _
 have HW1 : Hid (w.alloc (.cells #[.pointer (some ⟨sb,0,none⟩)] 49) = w1):=hid hw1.symm
 obtain ⟨pb,hpb⟩ : ∃ x,x = w.heap.size:=⟨_,rfl⟩
 rw [← hpb] at hp1
 have HPB:=hid hpb
 have HB1:=hid hb1
 have HP1:=hid hp1
 have HS1:=hid (hs.below hb1)
 have HH1:=hid (h.read hb1)
 have HLT:=hid hs.lt
 have HC:=hid (And.intro hfb (And.intro hsq (And.intro hdir (And.intro hcnt hbs))))
 have HO:=hid (And.intro hS hlow)
 have HSW : Hid (∀ i,S i → i < w.heap.size):=hid h.fs.lt
 have HZ1 : Hid (w1.heap.size = w.heap.size + 1):=hid (by rw [hw1]; simp)
 have p0 : w1.cell? ⟨pb,0,none⟩ = some (.pointer (some ⟨sb,0,none⟩)):=blk_cell hp1 0
 have s0 : w1.cell? ⟨sb,0,none⟩ = some (.pointer (some ⟨fb,0,none⟩)):=by rw [← hfb]; exact blk_cell HS1.out.blk 0
 obtain ⟨nm,hnm⟩ : ∃ nm,nm = nmOf c.dir sMan:=⟨_,rfl⟩
 have HMR : Hid (manR F c.dir = match F.find nm with
  | none => some (0,0,0,[])
  | some x => manY F c.dir x.data):=hid (by rw [manR_eq,hnm]; rfl)
 have HNM : Hid (∀ W,Below w1.heap.size w1 W → Calls Tryz.prog 65 #[.pointer (some ⟨sb,0,none⟩),.string ⟨#[109,97,110,105,102,101,115,116]⟩] W fun e w' => e = .returned (.string nm) ∧ W = w'):=hid fun W hW =>
  (st_name (HS1.out.blk.below hW) (by omega) ⟨#[109,97,110,105,102,101,115,116]⟩ (by decide)).mono fun e w' ⟨he,hb⟩ => ⟨by rw [hnm]; exact he,hb⟩
 have HFR:=hid (d_readF HH1.out nm)
 have HLN : Hid (∀ y,F.find nm = some y → y.data.length ≤ 67108864):=hid fun y hy => by have:=(h.ok.len hy).1; omega
 have hb0 : Below w1.heap.size w1 w1.drew:=(Below.refl _ _).drew
 have hmf : ∀ (fn : Fn) (first cap : Array Value) (w : World),(Instr.makeFunc fn first cap).run Tryz.prog w = .ok (.func fn first cap) w:=fun _ _ _ _ => rfl
 clear h hs hfb hbs hsq hdir hcnt hS hlow hw1 hb1 hp1 hpb hnm
 cases hx : F.find nm with
 | none =>
   have HFR2 : Hid (∀ W,Below w1.heap.size w1 W → Calls Tryz.prog 30 #[.pointer (some ⟨fb,0,none⟩),.string nm] W fun e w' => e = .returned (.tuple #[.slice none 0 0,.int .i64 2]) ∧ Hid (Below W.heap.size W w' ∧ Below w1.heap.size w1 w')):=hid fun W hW => (d_read_none (HH1.out.read hW) hx).mono fun e w' ⟨he,hw⟩ => ⟨he,hid (by rw [← hw]; exact ⟨Below.refl _ _,hW⟩)⟩
   have HOK : Hid (manR F c.dir = some (0,0,0,[])):=hid (by rw [HMR.out,hx])
   clear hx
   go_enter Tryz.func67,Tryz.ntmps67
   go_upto_region 1 with (fail)
   rw [HW1.out,← HPB.out]
   go_cut [4,5] from 8 (fun _ ev wx => ev = .int .i64 2 ∧ Hid (Below w1.heap.size w1 wx))
   case first =>
    have hT0 : (fun X : World => X.cell? ⟨pb,0,none⟩ = some (.pointer (some ⟨sb,0,none⟩)) ∧ X.cell? ⟨sb,0,none⟩ = some (.pointer (some ⟨fb,0,none⟩))) w1.drew:=⟨p0,s0⟩
    refine wp_region_B (T:=fun X : World => X.cell? ⟨pb,0,none⟩ = some (.pointer (some ⟨sb,0,none⟩)) ∧ X.cell? ⟨sb,0,none⟩ = some (.pointer (some ⟨fb,0,none⟩))) (B:=fun i => i != 11) (by kernel_rfl) ?_
    have HBV : Hid (Below w1.heap.size w1 w1.drew):=hid hb0
    generalize w1.drew = V at hT0 HBV ⊢
    refine wpAnyB_load (i:=0) (oi:=⟨some 9,.load 49 (.tmp 1),49,"store.go:94",#[],none⟩) (v:=?x1_v0) rfl (by kernel_rfl) (by kernel_rfl) (by kernel_rfl) (by kernel_rfl) (fun _ _ _ h => h) (Or.inl ⟨by kernel_rfl,?x1_y0⟩) (by assumption) ?x1_s0
    case x1_y0 => (intro w hSw; obtain ⟨u0,u1⟩:=hSw; go_simp) <;> with_reducible rfl
    try go_frame
    refine wpAnyB_take (i:=1) (oi:=⟨some 10,.nilCheck (.tmp 9),0,"store.go:94",#[⟨0,.data⟩],none⟩) (v:=?x2_v1) rfl (by kernel_rfl) (by kernel_rfl) (by kernel_rfl) (fun _ _ _ h => h) (Or.inl ⟨by kernel_rfl,?x2_y1⟩) ?x2_s1
    case x2_y1 => (intro w; go_simp) <;> with_reducible rfl
    try go_frame
    refine wpAnyB_take (i:=2) (oi:=⟨some 11,.fieldAddr 126 (.tmp 10) 0,0,"store.go:94",#[⟨1,.data⟩],none⟩) (v:=?x3_v2) rfl (by kernel_rfl) (by kernel_rfl) (by kernel_rfl) (fun _ _ _ h => h) (Or.inl ⟨by kernel_rfl,?x3_y2⟩) ?x3_s2
    case x3_y2 => (intro w; go_simp) <;> with_reducible rfl
    try go_frame
    refine wpAnyB_load (i:=3) (oi:=⟨some 12,.load 45 (.tmp 11),45,"store.go:94",#[⟨2,.data⟩],none⟩) (v:=?x4_v3) rfl (by kernel_rfl) (by kernel_rfl) (by kernel_rfl) (by kernel_rfl) (fun _ _ _ h => h) (Or.inl ⟨by kernel_rfl,?x4_y3⟩) (by assumption) ?x4_s3
    case x4_y3 => (intro w hSw; obtain ⟨u0,u1⟩:=hSw; go_simp) <;> with_reducible rfl
    try go_frame
    refine wpAnyB_load (i:=4) (oi:=⟨some 13,.load 49 (.tmp 1),49,"store.go:94",#[],none⟩) (v:=?x5_v4) rfl (by kernel_rfl) (by kernel_rfl) (by kernel_rfl) (by kernel_rfl) (fun _ _ _ h => h) (Or.inl ⟨by kernel_rfl,?x5_y4⟩) (by assumption) ?x5_s4
    case x5_y4 => (intro w hSw; obtain ⟨u0,u1⟩:=hSw; go_simp) <;> with_reducible rfl
    try go_frame
    refine wpAnyB_ready (rs:=[5,10]) (by kernel_rfl) (by simp) ?_
    refine AllReadyB.cons (o:=⟨some 14,.call ⟨.value (.func 65),#[.tmp 13,.const (.string ⟨#[109,97,110,105,102,101,115,116]⟩)],#[49,9]⟩,9,"store.go:94",#[⟨4,.data⟩],none⟩) rfl (fun K hK => ?_) ?_
    ·go_simp
     go_at_call 65
     refine (HNM.out V HBV.out).mono ?_
     rintro e X' ⟨rfl,rfl⟩
     refine hK.out _ _ (fun _ h => h) ?_
     clear hK K
     try go_frame
     refine wpAnyB_ready (rs:=[6,10]) (by kernel_rfl) (by simp) ?_
     refine AllReadyB.cons (o:=⟨some 15,.call ⟨.value (.func 30),#[.tmp 12,.tmp 14],#[45,9]⟩,28,"store.go:94",#[⟨3,.data⟩,⟨5,.data⟩,⟨5,.chain⟩],none⟩) rfl (fun K hK => ?_) ?_
     ·go_simp
      go_at_call 30
      refine (HFR2.out V HBV.out).mono ?_
      rintro e X1 ⟨rfl,HD1⟩
      have HBX1 : Hid (Below w1.heap.size w1 X1):=hid HD1.out.2
      refine hK.out _ _ (fun _ _ => ⟨(HBX1.out.cell (p:=⟨pb,0,none⟩) (lt_of_block HP1.out)).trans p0,(HBX1.out.cell (p:=⟨sb,0,none⟩) HS1.out.lt.1).trans s0⟩) ?_
      clear hK K
      try go_frame
      refine wpAnyB_take (i:=7) (oi:=⟨some 8,.move (.tmp 15),28,"store.go:94",#[⟨6,.data⟩],none⟩) (v:=?x6_v7) rfl (by kernel_rfl) (by kernel_rfl) (by kernel_rfl) (fun _ _ _ h => h) (Or.inl ⟨by kernel_rfl,?x6_y7⟩) ?x6_s7
      case x6_y7 => (intro w; go_simp) <;> with_reducible rfl
      try go_frame
      refine wpAnyB_take (i:=8) (oi:=⟨some 16,.extract (.tmp 8) 0,23,"store.go:94",#[⟨7,.data⟩],none⟩) (v:=?x7_v8) rfl (by kernel_rfl) (by kernel_rfl) (by kernel_rfl) (fun _ _ _ h => h) (Or.inl ⟨by kernel_rfl,?x7_y8⟩) ?x7_s8
      case x7_y8 => (intro w; go_simp) <;> with_reducible rfl
      try go_frame
      refine wpAnyB_take (i:=9) (oi:=⟨some 17,.extract (.tmp 8) 1,27,"store.go:94",#[⟨7,.data⟩,⟨11,.gcOnly .lateStores⟩],none⟩) (v:=?x8_v9) rfl (by kernel_rfl) (by kernel_rfl) (by kernel_rfl) (fun _ _ _ h => h) (Or.inl ⟨by kernel_rfl,?x8_y9⟩) ?x8_s9
      case x8_y9 => (intro w; go_simp) <;> with_reducible rfl
      try go_frame
      refine wpAnyB_ready (rs:=[10]) (by kernel_rfl) (by simp) ?_
      refine AllReadyB.cons (o:=⟨some 4,.alloc 23,0,"store.go:94",#[],none⟩) rfl (fun K hK => ?_) AllReadyB.nil
      go_simp
      obtain ⟨X2,hX2⟩ : ∃ x,x = X1.alloc (.cells #[.slice none 0 0] 23):=⟨_,rfl⟩
      have HA2 : Hid (Below X1.heap.size X1 X2):=hid (by rw [hX2]; exact (Below.refl _ _).alloc (Nat.le_refl _) _)
      have HBX2 : Hid (Below w1.heap.size w1 X2):=hid ((HBX1.out).trans (HA2.out.mono (HBX1.out).size))
      have hbb : IsBlk X2 X1.heap.size #[.slice none 0 0] 23:=by rw [hX2]; exact blk_new _ _
      rw [← hX2]
      obtain ⟨bb,hbbe⟩ : ∃ x,x = X1.heap.size:=⟨_,rfl⟩
      rw [← hbbe] at hbb ⊢
      have HBB2:=hid hbb
      have HBL : Hid (w1.heap.size ≤ bb):=hid (by rw [hbbe]; exact (HBX1.out).size)
      clear hbb hbbe hX2
      refine hK.out _ _ (fun _ _ => ⟨(HBX2.out.cell (p:=⟨pb,0,none⟩) (lt_of_block HP1.out)).trans p0,(HBX2.out.cell (p:=⟨sb,0,none⟩) HS1.out.lt.1).trans s0⟩) ?_
      clear hK K
      try go_frame
      refine wpAnyB_ready (rs:=[11]) (by kernel_rfl) (by simp) ?_
      refine AllReadyB.cons (o:=⟨none,.store 23 (.tmp 4) (.tmp 16),0,"store.go:94",#[⟨10,.data⟩,⟨8,.data⟩,⟨6,.chain⟩,⟨0,.phase⟩,⟨1,.phase⟩,⟨2,.phase⟩,⟨3,.phase⟩,⟨4,.phase⟩,⟨5,.phase⟩,⟨6,.phase⟩,⟨7,.phase⟩,⟨8,.phase⟩,⟨9,.textOnly .lateStores⟩,⟨10,.phase⟩],none⟩) rfl (fun K hK => ?_) AllReadyB.nil
      have b0 : X2.cell? ⟨bb,0,none⟩ = some (.slice none 0 0):=blk_cell HBB2.out 0
      have bz : X2.frozen? ⟨bb,0,none⟩ = false:=blk_free HBB2.out 0
      go_simp
      refine hK.out _ _ (fun h => by simp at h) ?_
      clear b0 bz
      clear hK K
      try go_frame
      refine wpAnyB_take (i:=12) (oi:=⟨some 5,.assign (.tmp 17),27,"store.go:94",#[⟨9,.data⟩,⟨11,.chain⟩,⟨0,.phase⟩,⟨1,.phase⟩,⟨2,.phase⟩,⟨3,.phase⟩,⟨4,.phase⟩,⟨5,.phase⟩,⟨6,.phase⟩,⟨7,.phase⟩,⟨8,.phase⟩,⟨9,.phase⟩,⟨10,.phase⟩,⟨11,.phase⟩],none⟩) (v:=?x9_v12) rfl (by kernel_rfl) (by kernel_rfl) (by kernel_rfl) (fun _ _ _ h => h) (Or.inl ⟨by kernel_rfl,?x9_y12⟩) ?x9_s12
      case x9_y12 => (intro w; go_simp) <;> with_reducible rfl
      try go_frame
      refine wpAnyB_done (by kernel_rfl) ?_ _
      go_wp2_with (fail)
      go_meet
      have hks : Keeps (Only bb) X2 (X2.setCell ⟨bb,0,none⟩ (.slice none 0 0)):=(Keeps.refl (Only bb) X2).setCell (p:=⟨bb,0,none⟩) (fun _ => rfl) _
      exact ⟨rfl,hid (below_keeps (HBX2.out) hks (fun i e => by have e : i = bb:=e; have:=HBL.out; omega) (HBX2.out).size)⟩
     refine AllReadyB.cons (o:=⟨some 4,.alloc 23,0,"store.go:94",#[],none⟩) rfl (fun K hK => ?_) AllReadyB.nil
     go_simp
     obtain ⟨X1,hX1⟩ : ∃ x,x = V.alloc (.cells #[.slice none 0 0] 23):=⟨_,rfl⟩
     have HA1 : Hid (Below V.heap.size V X1):=hid (by rw [hX1]; exact (Below.refl _ _).alloc (Nat.le_refl _) _)
     have HBX1 : Hid (Below w1.heap.size w1 X1):=hid ((HBV.out).trans (HA1.out.mono (HBV.out).size))
     have hbb : IsBlk X1 V.heap.size #[.slice none 0 0] 23:=by rw [hX1]; exact blk_new _ _
     rw [← hX1]
     obtain ⟨bb,hbbe⟩ : ∃ x,x = V.heap.size:=⟨_,rfl⟩
     rw [← hbbe] at hbb ⊢
     have HBB1:=hid hbb
     have HBL : Hid (w1.heap.size ≤ bb):=hid (by rw [hbbe]; exact (HBV.out).size)
     clear hbb hbbe hX1
     refine hK.out _ _ (fun _ _ => ⟨(HBX1.out.cell (p:=⟨pb,0,none⟩) (lt_of_block HP1.out)).trans p0,(HBX1.out.cell (p:=⟨sb,0,none⟩) HS1.out.lt.1).trans s0⟩) ?_
     clear hK K
     try go_frame
     refine wpAnyB_ready (rs:=[6]) (by kernel_rfl) (by simp) ?_
     refine AllReadyB.cons (o:=⟨some 15,.call ⟨.value (.func 30),#[.tmp 12,.tmp 14],#[45,9]⟩,28,"store.go:94",#[⟨3,.data⟩,⟨5,.data⟩,⟨5,.chain⟩],none⟩) rfl (fun K hK => ?_) AllReadyB.nil
     go_simp
     go_at_call 30
     refine (HFR2.out X1 HBX1.out).mono ?_
     rintro e X2 ⟨rfl,HD2⟩
     have HBX2 : Hid (Below w1.heap.size w1 X2):=hid HD2.out.2
     have HBB2 : Hid (IsBlk X2 bb #[.slice none 0 0] 23):=hid ((HD2.out.1.block _ (lt_of_block HBB1.out)).trans HBB1.out)
     refine hK.out _ _ (fun _ _ => ⟨(HBX2.out.cell (p:=⟨pb,0,none⟩) (lt_of_block HP1.out)).trans p0,(HBX2.out.cell (p:=⟨sb,0,none⟩) HS1.out.lt.1).trans s0⟩) ?_
     clear hK K
     try go_frame
     refine wpAnyB_take (i:=7) (oi:=⟨some 8,.move (.tmp 15),28,"store.go:94",#[⟨6,.data⟩],none⟩) (v:=?x10_v7) rfl (by kernel_rfl) (by kernel_rfl) (by kernel_rfl) (fun _ _ _ h => h) (Or.inl ⟨by kernel_rfl,?x10_y7⟩) ?x10_s7
     case x10_y7 => (intro w; go_simp) <;> with_reducible rfl
     try go_frame
     refine wpAnyB_take (i:=8) (oi:=⟨some 16,.extract (.tmp 8) 0,23,"store.go:94",#[⟨7,.data⟩],none⟩) (v:=?x11_v8) rfl (by kernel_rfl) (by kernel_rfl) (by kernel_rfl) (fun _ _ _ h => h) (Or.inl ⟨by kernel_rfl,?x11_y8⟩) ?x11_s8
     case x11_y8 => (intro w; go_simp) <;> with_reducible rfl
     try go_frame
     refine wpAnyB_take (i:=9) (oi:=⟨some 17,.extract (.tmp 8) 1,27,"store.go:94",#[⟨7,.data⟩,⟨11,.gcOnly .lateStores⟩],none⟩) (v:=?x12_v9) rfl (by kernel_rfl) (by kernel_rfl) (by kernel_rfl) (fun _ _ _ h => h) (Or.inl ⟨by kernel_rfl,?x12_y9⟩) ?x12_s9
     case x12_y9 => (intro w; go_simp) <;> with_reducible rfl
     try go_frame
     refine wpAnyB_ready (rs:=[11]) (by kernel_rfl) (by simp) ?_
     refine AllReadyB.cons (o:=⟨none,.store 23 (.tmp 4) (.tmp 16),0,"store.go:94",#[⟨10,.data⟩,⟨8,.data⟩,⟨6,.chain⟩,⟨0,.phase⟩,⟨1,.phase⟩,⟨2,.phase⟩,⟨3,.phase⟩,⟨4,.phase⟩,⟨5,.phase⟩,⟨6,.phase⟩,⟨7,.phase⟩,⟨8,.phase⟩,⟨9,.textOnly .lateStores⟩,⟨10,.phase⟩],none⟩) rfl (fun K hK => ?_) AllReadyB.nil
     have b0 : X2.cell? ⟨bb,0,none⟩ = some (.slice none 0 0):=blk_cell HBB2.out 0
     have bz : X2.frozen? ⟨bb,0,none⟩ = false:=blk_free HBB2.out 0
     go_simp
     refine hK.out _ _ (fun h => by simp at h) ?_
     clear b0 bz
     clear hK K
     try go_frame
     refine wpAnyB_take (i:=12) (oi:=⟨some 5,.assign (.tmp 17),27,"store.go:94",#[⟨9,.data⟩,⟨11,.chain⟩,⟨0,.phase⟩,⟨1,.phase⟩,⟨2,.phase⟩,⟨3,.phase⟩,⟨4,.phase⟩,⟨5,.phase⟩,⟨6,.phase⟩,⟨7,.phase⟩,⟨8,.phase⟩,⟨9,.phase⟩,⟨10,.phase⟩,⟨11,.phase⟩],none⟩) (v:=?x13_v12) rfl (by kernel_rfl) (by kernel_rfl) (by kernel_rfl) (fun _ _ _ h => h) (Or.inl ⟨by kernel_rfl,?x13_y12⟩) ?x13_s12
     case x13_y12 => (intro w; go_simp) <;> with_reducible rfl
     try go_frame
     refine wpAnyB_done (by kernel_rfl) ?_ _
     go_wp2_with (fail)
     go_meet
     have hks : Keeps (Only bb) X2 (X2.setCell ⟨bb,0,none⟩ (.slice none 0 0)):=(Keeps.refl (Only bb) X2).setCell (p:=⟨bb,0,none⟩) (fun _ => rfl) _
     exact ⟨rfl,hid (below_keeps (HBX2.out) hks (fun i e => by have e : i = bb:=e; have:=HBL.out; omega) (HBX2.out).size)⟩
    refine AllReadyB.cons (o:=⟨some 4,.alloc 23,0,"store.go:94",#[],none⟩) rfl (fun K hK => ?_) AllReadyB.nil
    go_simp
    obtain ⟨X1,hX1⟩ : ∃ x,x = V.alloc (.cells #[.slice none 0 0] 23):=⟨_,rfl⟩
    have HA1 : Hid (Below V.heap.size V X1):=hid (by rw [hX1]; exact (Below.refl _ _).alloc (Nat.le_refl _) _)
    have HBX1 : Hid (Below w1.heap.size w1 X1):=hid ((HBV.out).trans (HA1.out.mono (HBV.out).size))
    have hbb : IsBlk X1 V.heap.size #[.slice none 0 0] 23:=by rw [hX1]; exact blk_new _ _
    rw [← hX1]
    obtain ⟨bb,hbbe⟩ : ∃ x,x = V.heap.size:=⟨_,rfl⟩
    rw [← hbbe] at hbb ⊢
    have HBB1:=hid hbb
    have HBL : Hid (w1.heap.size ≤ bb):=hid (by rw [hbbe]; exact (HBV.out).size)
    clear hbb hbbe hX1
    refine hK.out _ _ (fun _ _ => ⟨(HBX1.out.cell (p:=⟨pb,0,none⟩) (lt_of_block HP1.out)).trans p0,(HBX1.out.cell (p:=⟨sb,0,none⟩) HS1.out.lt.1).trans s0⟩) ?_
    clear hK K
    try go_frame
    refine wpAnyB_ready (rs:=[5]) (by kernel_rfl) (by simp) ?_
    refine AllReadyB.cons (o:=⟨some 14,.call ⟨.value (.func 65),#[.tmp 13,.const (.string ⟨#[109,97,110,105,102,101,115,116]⟩)],#[49,9]⟩,9,"store.go:94",#[⟨4,.data⟩],none⟩) rfl (fun K hK => ?_) AllReadyB.nil
    go_simp
    go_at_call 65
    refine (HNM.out X1 HBX1.out).mono ?_
    rintro e X' ⟨rfl,rfl⟩
    refine hK.out _ _ (fun _ h => h) ?_
    clear hK K
    try go_frame
    refine wpAnyB_ready (rs:=[6]) (by kernel_rfl) (by simp) ?_
    refine AllReadyB.cons (o:=⟨some 15,.call ⟨.value (.func 30),#[.tmp 12,.tmp 14],#[45,9]⟩,28,"store.go:94",#[⟨3,.data⟩,⟨5,.data⟩,⟨5,.chain⟩],none⟩) rfl (fun K hK => ?_) AllReadyB.nil
    go_simp
    go_at_call 30
    refine (HFR2.out X1 HBX1.out).mono ?_
    rintro e X2 ⟨rfl,HD2⟩
    have HBX2 : Hid (Below w1.heap.size w1 X2):=hid HD2.out.2
    have HBB2 : Hid (IsBlk X2 bb #[.slice none 0 0] 23):=hid ((HD2.out.1.block _ (lt_of_block HBB1.out)).trans HBB1.out)
    refine hK.out _ _ (fun _ _ => ⟨(HBX2.out.cell (p:=⟨pb,0,none⟩) (lt_of_block HP1.out)).trans p0,(HBX2.out.cell (p:=⟨sb,0,none⟩) HS1.out.lt.1).trans s0⟩) ?_
    clear hK K
    try go_frame
    refine wpAnyB_take (i:=7) (oi:=⟨some 8,.move (.tmp 15),28,"store.go:94",#[⟨6,.data⟩],none⟩) (v:=?x14_v7) rfl (by kernel_rfl) (by kernel_rfl) (by kernel_rfl) (fun _ _ _ h => h) (Or.inl ⟨by kernel_rfl,?x14_y7⟩) ?x14_s7
    case x14_y7 => (intro w; go_simp) <;> with_reducible rfl
    try go_frame
    refine wpAnyB_take (i:=8) (oi:=⟨some 16,.extract (.tmp 8) 0,23,"store.go:94",#[⟨7,.data⟩],none⟩) (v:=?x15_v8) rfl (by kernel_rfl) (by kernel_rfl) (by kernel_rfl) (fun _ _ _ h => h) (Or.inl ⟨by kernel_rfl,?x15_y8⟩) ?x15_s8
    case x15_y8 => (intro w; go_simp) <;> with_reducible rfl
    try go_frame
    refine wpAnyB_take (i:=9) (oi:=⟨some 17,.extract (.tmp 8) 1,27,"store.go:94",#[⟨7,.data⟩,⟨11,.gcOnly .lateStores⟩],none⟩) (v:=?x16_v9) rfl (by kernel_rfl) (by kernel_rfl) (by kernel_rfl) (fun _ _ _ h => h) (Or.inl ⟨by kernel_rfl,?x16_y9⟩) ?x16_s9
    case x16_y9 => (intro w; go_simp) <;> with_reducible rfl
    try go_frame
    refine wpAnyB_ready (rs:=[11]) (by kernel_rfl) (by simp) ?_
    refine AllReadyB.cons (o:=⟨none,.store 23 (.tmp 4) (.tmp 16),0,"store.go:94",#[⟨10,.data⟩,⟨8,.data⟩,⟨6,.chain⟩,⟨0,.phase⟩,⟨1,.phase⟩,⟨2,.phase⟩,⟨3,.phase⟩,⟨4,.phase⟩,⟨5,.phase⟩,⟨6,.phase⟩,⟨7,.phase⟩,⟨8,.phase⟩,⟨9,.textOnly .lateStores⟩,⟨10,.phase⟩],none⟩) rfl (fun K hK => ?_) AllReadyB.nil
    have b0 : X2.cell? ⟨bb,0,none⟩ = some (.slice none 0 0):=blk_cell HBB2.out 0
    have bz : X2.frozen? ⟨bb,0,none⟩ = false:=blk_free HBB2.out 0
    go_simp
    refine hK.out _ _ (fun h => by simp at h) ?_
    clear b0 bz
    clear hK K
    try go_frame
    refine wpAnyB_take (i:=12) (oi:=⟨some 5,.assign (.tmp 17),27,"store.go:94",#[⟨9,.data⟩,⟨11,.chain⟩,⟨0,.phase⟩,⟨1,.phase⟩,⟨2,.phase⟩,⟨3,.phase⟩,⟨4,.phase⟩,⟨5,.phase⟩,⟨6,.phase⟩,⟨7,.phase⟩,⟨8,.phase⟩,⟨9,.phase⟩,⟨10,.phase⟩,⟨11,.phase⟩],none⟩) (v:=?x17_v12) rfl (by kernel_rfl) (by kernel_rfl) (by kernel_rfl) (fun _ _ _ h => h) (Or.inl ⟨by kernel_rfl,?x17_y12⟩) ?x17_s12
    case x17_y12 => (intro w; go_simp) <;> with_reducible rfl
    try go_frame
    refine wpAnyB_done (by kernel_rfl) ?_ _
    go_wp2_with (fail)
    go_meet
    have hks : Keeps (Only bb) X2 (X2.setCell ⟨bb,0,none⟩ (.slice none 0 0)):=(Keeps.refl (Only bb) X2).setCell (p:=⟨bb,0,none⟩) (fun _ => rfl) _
    exact ⟨rfl,hid (below_keeps (HBX2.out) hks (fun i e => by have e : i = bb:=e; have:=HBL.out; omega) (HBX2.out).size)⟩
   case rest =>
    obtain ⟨rfl,HBC⟩:=hcut
    go_wp2_with (fail)
    refine bodyPost_ret (results_tmp2 rfl _ _ _) rfl ⟨(Keeps.of_below (HB1.out.trans (HBC.out.mono HB1.out.size))).mono fun _ _ e => e.elim,.inl ⟨_,_,_,_,HOK.out,rfl,?_⟩⟩
    have h1:=(HS1.out.below HBC.out).mono (n':=400000000) (by omega)
    have e : ({ c with base:=(((0 : Nat)) : Int),seq:=((0 : Nat) : Int) } : StC) = c:=by
     have h2:=HC.out.2.1
     have h3:=HC.out.2.2.2.2
     cases c
     simp only at h2 h3
     subst h2 h3
     rfl
    rw [e]
    exact h1
 | some y =>
   have HFR2 : Hid (∀ W,Below w1.heap.size w1 W → Calls Tryz.prog 30 #[.pointer (some ⟨fb,0,none⟩),.string nm] W fun e w' => ∃ a cap,e = .returned (.tuple #[.slice a y.data.length cap,.int .i64 0]) ∧ Hid (Below W.heap.size W w' ∧ Below w1.heap.size w1 w' ∧ SlAt byteKind 5 w' (.slice a y.data.length cap) y.data ∧ True)):=hid fun W hW => (d_read (HH1.out.read hW) hx).mono fun e w' ⟨a,cap,he,hf,_⟩ => ⟨a,cap,he,hid ⟨hf.below,hW.trans (hf.below.mono hW.size),hf.sl,trivial⟩⟩
   have HOK : Hid (manR F c.dir = manY F c.dir y.data):=hid (by rw [HMR.out,hx])
   have HYL:=hid (HLN.out y hx)
   clear hx
   go_enter Tryz.func67,Tryz.ntmps67
   go_upto_region 1 with (fail)
   rw [HW1.out,← HPB.out]
   go_cut [4,5] from 8 (fun bv ev wx => ∃ (bb : Nat) (ya : Option Addr) (yc : Nat),bv = .pointer (some ⟨bb,0,none⟩) ∧ ev = .int .i64 0 ∧ Hid (IsBlk wx bb #[.slice ya y.data.length yc] 23 ∧ Below w1.heap.size w1 wx ∧ SlAt byteKind 5 wx (.slice ya y.data.length yc) y.data))
   case first =>
    have hT0 : (fun X : World => X.cell? ⟨pb,0,none⟩ = some (.pointer (some ⟨sb,0,none⟩)) ∧ X.cell? ⟨sb,0,none⟩ = some (.pointer (some ⟨fb,0,none⟩))) w1.drew:=⟨p0,s0⟩
    refine wp_region_B (T:=fun X : World => X.cell? ⟨pb,0,none⟩ = some (.pointer (some ⟨sb,0,none⟩)) ∧ X.cell? ⟨sb,0,none⟩ = some (.pointer (some ⟨fb,0,none⟩))) (B:=fun i => i != 11) (by kernel_rfl) ?_
    have HBV : Hid (Below w1.heap.size w1 w1.drew):=hid hb0
    generalize w1.drew = V at hT0 HBV ⊢
    refine wpAnyB_load (i:=0) (oi:=⟨some 9,.load 49 (.tmp 1),49,"store.go:94",#[],none⟩) (v:=?x18_v0) rfl (by kernel_rfl) (by kernel_rfl) (by kernel_rfl) (by kernel_rfl) (fun _ _ _ h => h) (Or.inl ⟨by kernel_rfl,?x18_y0⟩) (by assumption) ?x18_s0
    case x18_y0 => (intro w hSw; obtain ⟨u0,u1⟩:=hSw; go_simp) <;> with_reducible rfl
    try go_frame
    refine wpAnyB_take (i:=1) (oi:=⟨some 10,.nilCheck (.tmp 9),0,"store.go:94",#[⟨0,.data⟩],none⟩) (v:=?x19_v1) rfl (by kernel_rfl) (by kernel_rfl) (by kernel_rfl) (fun _ _ _ h => h) (Or.inl ⟨by kernel_rfl,?x19_y1⟩) ?x19_s1
    case x19_y1 => (intro w; go_simp) <;> with_reducible rfl
    try go_frame
    refine wpAnyB_take (i:=2) (oi:=⟨some 11,.fieldAddr 126 (.tmp 10) 0,0,"store.go:94",#[⟨1,.data⟩],none⟩) (v:=?x20_v2) rfl (by kernel_rfl) (by kernel_rfl) (by kernel_rfl) (fun _ _ _ h => h) (Or.inl ⟨by kernel_rfl,?x20_y2⟩) ?x20_s2
    case x20_y2 => (intro w; go_simp) <;> with_reducible rfl
    try go_frame
    refine wpAnyB_load (i:=3) (oi:=⟨some 12,.load 45 (.tmp 11),45,"store.go:94",#[⟨2,.data⟩],none⟩) (v:=?x21_v3) rfl (by kernel_rfl) (by kernel_rfl) (by kernel_rfl) (by kernel_rfl) (fun _ _ _ h => h) (Or.inl ⟨by kernel_rfl,?x21_y3⟩) (by assumption) ?x21_s3
    case x21_y3 => (intro w hSw; obtain ⟨u0,u1⟩:=hSw; go_simp) <;> with_reducible rfl
    try go_frame
    refine wpAnyB_load (i:=4) (oi:=⟨some 13,.load 49 (.tmp 1),49,"store.go:94",#[],none⟩) (v:=?x22_v4) rfl (by kernel_rfl) (by kernel_rfl) (by kernel_rfl) (by kernel_rfl) (fun _ _ _ h => h) (Or.inl ⟨by kernel_rfl,?x22_y4⟩) (by assumption) ?x22_s4
    case x22_y4 => (intro w hSw; obtain ⟨u0,u1⟩:=hSw; go_simp) <;> with_reducible rfl
    try go_frame
    refine wpAnyB_ready (rs:=[5,10]) (by kernel_rfl) (by simp) ?_
    refine AllReadyB.cons (o:=⟨some 14,.call ⟨.value (.func 65),#[.tmp 13,.const (.string ⟨#[109,97,110,105,102,101,115,116]⟩)],#[49,9]⟩,9,"store.go:94",#[⟨4,.data⟩],none⟩) rfl (fun K hK => ?_) ?_
    ·go_simp
     go_at_call 65
     refine (HNM.out V HBV.out).mono ?_
     rintro e X' ⟨rfl,rfl⟩
     refine hK.out _ _ (fun _ h => h) ?_
     clear hK K
     try go_frame
     refine wpAnyB_ready (rs:=[6,10]) (by kernel_rfl) (by simp) ?_
     refine AllReadyB.cons (o:=⟨some 15,.call ⟨.value (.func 30),#[.tmp 12,.tmp 14],#[45,9]⟩,28,"store.go:94",#[⟨3,.data⟩,⟨5,.data⟩,⟨5,.chain⟩],none⟩) rfl (fun K hK => ?_) ?_
     ·go_simp
      go_at_call 30
      refine (HFR2.out V HBV.out).mono ?_
      rintro e X1 ⟨ya,yc,rfl,HD1⟩
      have HBX1 : Hid (Below w1.heap.size w1 X1):=hid HD1.out.2.1
      refine hK.out _ _ (fun _ _ => ⟨(HBX1.out.cell (p:=⟨pb,0,none⟩) (lt_of_block HP1.out)).trans p0,(HBX1.out.cell (p:=⟨sb,0,none⟩) HS1.out.lt.1).trans s0⟩) ?_
      clear hK K
      try go_frame
      refine wpAnyB_take (i:=7) (oi:=⟨some 8,.move (.tmp 15),28,"store.go:94",#[⟨6,.data⟩],none⟩) (v:=?x23_v7) rfl (by kernel_rfl) (by kernel_rfl) (by kernel_rfl) (fun _ _ _ h => h) (Or.inl ⟨by kernel_rfl,?x23_y7⟩) ?x23_s7
      case x23_y7 => (intro w; go_simp) <;> with_reducible rfl
      try go_frame
      refine wpAnyB_take (i:=8) (oi:=⟨some 16,.extract (.tmp 8) 0,23,"store.go:94",#[⟨7,.data⟩],none⟩) (v:=?x24_v8) rfl (by kernel_rfl) (by kernel_rfl) (by kernel_rfl) (fun _ _ _ h => h) (Or.inl ⟨by kernel_rfl,?x24_y8⟩) ?x24_s8
      case x24_y8 => (intro w; go_simp) <;> with_reducible rfl
      try go_frame
      refine wpAnyB_take (i:=9) (oi:=⟨some 17,.extract (.tmp 8) 1,27,"store.go:94",#[⟨7,.data⟩,⟨11,.gcOnly .lateStores⟩],none⟩) (v:=?x25_v9) rfl (by kernel_rfl) (by kernel_rfl) (by kernel_rfl) (fun _ _ _ h => h) (Or.inl ⟨by kernel_rfl,?x25_y9⟩) ?x25_s9
      case x25_y9 => (intro w; go_simp) <;> with_reducible rfl
      try go_frame
      refine wpAnyB_ready (rs:=[10]) (by kernel_rfl) (by simp) ?_
      refine AllReadyB.cons (o:=⟨some 4,.alloc 23,0,"store.go:94",#[],none⟩) rfl (fun K hK => ?_) AllReadyB.nil
      go_simp
      obtain ⟨X2,hX2⟩ : ∃ x,x = X1.alloc (.cells #[.slice none 0 0] 23):=⟨_,rfl⟩
      have HA2 : Hid (Below X1.heap.size X1 X2):=hid (by rw [hX2]; exact (Below.refl _ _).alloc (Nat.le_refl _) _)
      have HBX2 : Hid (Below w1.heap.size w1 X2):=hid ((HBX1.out).trans (HA2.out.mono (HBX1.out).size))
      have hbb : IsBlk X2 X1.heap.size #[.slice none 0 0] 23:=by rw [hX2]; exact blk_new _ _
      rw [← hX2]
      obtain ⟨bb,hbbe⟩ : ∃ x,x = X1.heap.size:=⟨_,rfl⟩
      rw [← hbbe] at hbb ⊢
      have HBB2:=hid hbb
      have HBL : Hid (w1.heap.size ≤ bb):=hid (by rw [hbbe]; exact (HBX1.out).size)
      clear hbb hbbe hX2
      refine hK.out _ _ (fun _ _ => ⟨(HBX2.out.cell (p:=⟨pb,0,none⟩) (lt_of_block HP1.out)).trans p0,(HBX2.out.cell (p:=⟨sb,0,none⟩) HS1.out.lt.1).trans s0⟩) ?_
      clear hK K
      try go_frame
      refine wpAnyB_ready (rs:=[11]) (by kernel_rfl) (by simp) ?_
      refine AllReadyB.cons (o:=⟨none,.store 23 (.tmp 4) (.tmp 16),0,"store.go:94",#[⟨10,.data⟩,⟨8,.data⟩,⟨6,.chain⟩,⟨0,.phase⟩,⟨1,.phase⟩,⟨2,.phase⟩,⟨3,.phase⟩,⟨4,.phase⟩,⟨5,.phase⟩,⟨6,.phase⟩,⟨7,.phase⟩,⟨8,.phase⟩,⟨9,.textOnly .lateStores⟩,⟨10,.phase⟩],none⟩) rfl (fun K hK => ?_) AllReadyB.nil
      have b0 : X2.cell? ⟨bb,0,none⟩ = some (.slice none 0 0):=blk_cell HBB2.out 0
      have bz : X2.frozen? ⟨bb,0,none⟩ = false:=blk_free HBB2.out 0
      go_simp
      refine hK.out _ _ (fun h => by simp at h) ?_
      clear b0 bz
      clear hK K
      try go_frame
      refine wpAnyB_take (i:=12) (oi:=⟨some 5,.assign (.tmp 17),27,"store.go:94",#[⟨9,.data⟩,⟨11,.chain⟩,⟨0,.phase⟩,⟨1,.phase⟩,⟨2,.phase⟩,⟨3,.phase⟩,⟨4,.phase⟩,⟨5,.phase⟩,⟨6,.phase⟩,⟨7,.phase⟩,⟨8,.phase⟩,⟨9,.phase⟩,⟨10,.phase⟩,⟨11,.phase⟩],none⟩) (v:=?x26_v12) rfl (by kernel_rfl) (by kernel_rfl) (by kernel_rfl) (fun _ _ _ h => h) (Or.inl ⟨by kernel_rfl,?x26_y12⟩) ?x26_s12
      case x26_y12 => (intro w; go_simp) <;> with_reducible rfl
      try go_frame
      refine wpAnyB_done (by kernel_rfl) ?_ _
      go_wp2_with (fail)
      go_meet
      have hks : Keeps (Only bb) X2 (X2.setCell ⟨bb,0,none⟩ (.slice ya y.data.length yc)):=(Keeps.refl (Only bb) X2).setCell (p:=⟨bb,0,none⟩) (fun _ => rfl) _
      have hsl : SlAt byteKind 5 X2 (.slice ya y.data.length yc) y.data:=(HD1.out.2.2.1.below HA2.out)
      exact ⟨bb,ya,yc,rfl,rfl,hid ⟨blk_set HBB2.out 0 _,below_keeps (HBX2.out) hks (fun i e => by have e : i = bb:=e; have:=HBL.out; omega) (HBX2.out).size,hsl.keeps hks (fun g hg e => by have e : g = bb:=e; exact hsl.ne HBB2.out (by decide) g hg e)⟩⟩
     refine AllReadyB.cons (o:=⟨some 4,.alloc 23,0,"store.go:94",#[],none⟩) rfl (fun K hK => ?_) AllReadyB.nil
     go_simp
     obtain ⟨X1,hX1⟩ : ∃ x,x = V.alloc (.cells #[.slice none 0 0] 23):=⟨_,rfl⟩
     have HA1 : Hid (Below V.heap.size V X1):=hid (by rw [hX1]; exact (Below.refl _ _).alloc (Nat.le_refl _) _)
     have HBX1 : Hid (Below w1.heap.size w1 X1):=hid ((HBV.out).trans (HA1.out.mono (HBV.out).size))
     have hbb : IsBlk X1 V.heap.size #[.slice none 0 0] 23:=by rw [hX1]; exact blk_new _ _
     rw [← hX1]
     obtain ⟨bb,hbbe⟩ : ∃ x,x = V.heap.size:=⟨_,rfl⟩
     rw [← hbbe] at hbb ⊢
     have HBB1:=hid hbb
     have HBL : Hid (w1.heap.size ≤ bb):=hid (by rw [hbbe]; exact (HBV.out).size)
     clear hbb hbbe hX1
     refine hK.out _ _ (fun _ _ => ⟨(HBX1.out.cell (p:=⟨pb,0,none⟩) (lt_of_block HP1.out)).trans p0,(HBX1.out.cell (p:=⟨sb,0,none⟩) HS1.out.lt.1).trans s0⟩) ?_
     clear hK K
     try go_frame
     refine wpAnyB_ready (rs:=[6]) (by kernel_rfl) (by simp) ?_
     refine AllReadyB.cons (o:=⟨some 15,.call ⟨.value (.func 30),#[.tmp 12,.tmp 14],#[45,9]⟩,28,"store.go:94",#[⟨3,.data⟩,⟨5,.data⟩,⟨5,.chain⟩],none⟩) rfl (fun K hK => ?_) AllReadyB.nil
     go_simp
     go_at_call 30
     refine (HFR2.out X1 HBX1.out).mono ?_
     rintro e X2 ⟨ya,yc,rfl,HD2⟩
     have HBX2 : Hid (Below w1.heap.size w1 X2):=hid HD2.out.2.1
     have HBB2 : Hid (IsBlk X2 bb #[.slice none 0 0] 23):=hid ((HD2.out.1.block _ (lt_of_block HBB1.out)).trans HBB1.out)
     refine hK.out _ _ (fun _ _ => ⟨(HBX2.out.cell (p:=⟨pb,0,none⟩) (lt_of_block HP1.out)).trans p0,(HBX2.out.cell (p:=⟨sb,0,none⟩) HS1.out.lt.1).trans s0⟩) ?_
     clear hK K
     try go_frame
     refine wpAnyB_take (i:=7) (oi:=⟨some 8,.move (.tmp 15),28,"store.go:94",#[⟨6,.data⟩],none⟩) (v:=?x27_v7) rfl (by kernel_rfl) (by kernel_rfl) (by kernel_rfl) (fun _ _ _ h => h) (Or.inl ⟨by kernel_rfl,?x27_y7⟩) ?x27_s7
     case x27_y7 => (intro w; go_simp) <;> with_reducible rfl
     try go_frame
     refine wpAnyB_take (i:=8) (oi:=⟨some 16,.extract (.tmp 8) 0,23,"store.go:94",#[⟨7,.data⟩],none⟩) (v:=?x28_v8) rfl (by kernel_rfl) (by kernel_rfl) (by kernel_rfl) (fun _ _ _ h => h) (Or.inl ⟨by kernel_rfl,?x28_y8⟩) ?x28_s8
     case x28_y8 => (intro w; go_simp) <;> with_reducible rfl
     try go_frame
     refine wpAnyB_take (i:=9) (oi:=⟨some 17,.extract (.tmp 8) 1,27,"store.go:94",#[⟨7,.data⟩,⟨11,.gcOnly .lateStores⟩],none⟩) (v:=?x29_v9) rfl (by kernel_rfl) (by kernel_rfl) (by kernel_rfl) (fun _ _ _ h => h) (Or.inl ⟨by kernel_rfl,?x29_y9⟩) ?x29_s9
     case x29_y9 => (intro w; go_simp) <;> with_reducible rfl
     try go_frame
     refine wpAnyB_ready (rs:=[11]) (by kernel_rfl) (by simp) ?_
     refine AllReadyB.cons (o:=⟨none,.store 23 (.tmp 4) (.tmp 16),0,"store.go:94",#[⟨10,.data⟩,⟨8,.data⟩,⟨6,.chain⟩,⟨0,.phase⟩,⟨1,.phase⟩,⟨2,.phase⟩,⟨3,.phase⟩,⟨4,.phase⟩,⟨5,.phase⟩,⟨6,.phase⟩,⟨7,.phase⟩,⟨8,.phase⟩,⟨9,.textOnly .lateStores⟩,⟨10,.phase⟩],none⟩) rfl (fun K hK => ?_) AllReadyB.nil
     have b0 : X2.cell? ⟨bb,0,none⟩ = some (.slice none 0 0):=blk_cell HBB2.out 0
     have bz : X2.frozen? ⟨bb,0,none⟩ = false:=blk_free HBB2.out 0
     go_simp
     refine hK.out _ _ (fun h => by simp at h) ?_
     clear b0 bz
     clear hK K
     try go_frame
     refine wpAnyB_take (i:=12) (oi:=⟨some 5,.assign (.tmp 17),27,"store.go:94",#[⟨9,.data⟩,⟨11,.chain⟩,⟨0,.phase⟩,⟨1,.phase⟩,⟨2,.phase⟩,⟨3,.phase⟩,⟨4,.phase⟩,⟨5,.phase⟩,⟨6,.phase⟩,⟨7,.phase⟩,⟨8,.phase⟩,⟨9,.phase⟩,⟨10,.phase⟩,⟨11,.phase⟩],none⟩) (v:=?x30_v12) rfl (by kernel_rfl) (by kernel_rfl) (by kernel_rfl) (fun _ _ _ h => h) (Or.inl ⟨by kernel_rfl,?x30_y12⟩) ?x30_s12
     case x30_y12 => (intro w; go_simp) <;> with_reducible rfl
     try go_frame
     refine wpAnyB_done (by kernel_rfl) ?_ _
     go_wp2_with (fail)
     go_meet
     have hks : Keeps (Only bb) X2 (X2.setCell ⟨bb,0,none⟩ (.slice ya y.data.length yc)):=(Keeps.refl (Only bb) X2).setCell (p:=⟨bb,0,none⟩) (fun _ => rfl) _
     have hsl : SlAt byteKind 5 X2 (.slice ya y.data.length yc) y.data:=HD2.out.2.2.1
     exact ⟨bb,ya,yc,rfl,rfl,hid ⟨blk_set HBB2.out 0 _,below_keeps (HBX2.out) hks (fun i e => by have e : i = bb:=e; have:=HBL.out; omega) (HBX2.out).size,hsl.keeps hks (fun g hg e => by have e : g = bb:=e; exact hsl.ne HBB2.out (by decide) g hg e)⟩⟩
    refine AllReadyB.cons (o:=⟨some 4,.alloc 23,0,"store.go:94",#[],none⟩) rfl (fun K hK => ?_) AllReadyB.nil
    go_simp
    obtain ⟨X1,hX1⟩ : ∃ x,x = V.alloc (.cells #[.slice none 0 0] 23):=⟨_,rfl⟩
    have HA1 : Hid (Below V.heap.size V X1):=hid (by rw [hX1]; exact (Below.refl _ _).alloc (Nat.le_refl _) _)
    have HBX1 : Hid (Below w1.heap.size w1 X1):=hid ((HBV.out).trans (HA1.out.mono (HBV.out).size))
    have hbb : IsBlk X1 V.heap.size #[.slice none 0 0] 23:=by rw [hX1]; exact blk_new _ _
    rw [← hX1]
    obtain ⟨bb,hbbe⟩ : ∃ x,x = V.heap.size:=⟨_,rfl⟩
    rw [← hbbe] at hbb ⊢
    have HBB1:=hid hbb
    have HBL : Hid (w1.heap.size ≤ bb):=hid (by rw [hbbe]; exact (HBV.out).size)
    clear hbb hbbe hX1
    refine hK.out _ _ (fun _ _ => ⟨(HBX1.out.cell (p:=⟨pb,0,none⟩) (lt_of_block HP1.out)).trans p0,(HBX1.out.cell (p:=⟨sb,0,none⟩) HS1.out.lt.1).trans s0⟩) ?_
    clear hK K
    try go_frame
    refine wpAnyB_ready (rs:=[5]) (by kernel_rfl) (by simp) ?_
    refine AllReadyB.cons (o:=⟨some 14,.call ⟨.value (.func 65),#[.tmp 13,.const (.string ⟨#[109,97,110,105,102,101,115,116]⟩)],#[49,9]⟩,9,"store.go:94",#[⟨4,.data⟩],none⟩) rfl (fun K hK => ?_) AllReadyB.nil
    go_simp
    go_at_call 65
    refine (HNM.out X1 HBX1.out).mono ?_
    rintro e X' ⟨rfl,rfl⟩
    refine hK.out _ _ (fun _ h => h) ?_
    clear hK K
    try go_frame
    refine wpAnyB_ready (rs:=[6]) (by kernel_rfl) (by simp) ?_
    refine AllReadyB.cons (o:=⟨some 15,.call ⟨.value (.func 30),#[.tmp 12,.tmp 14],#[45,9]⟩,28,"store.go:94",#[⟨3,.data⟩,⟨5,.data⟩,⟨5,.chain⟩],none⟩) rfl (fun K hK => ?_) AllReadyB.nil
    go_simp
    go_at_call 30
    refine (HFR2.out X1 HBX1.out).mono ?_
    rintro e X2 ⟨ya,yc,rfl,HD2⟩
    have HBX2 : Hid (Below w1.heap.size w1 X2):=hid HD2.out.2.1
    have HBB2 : Hid (IsBlk X2 bb #[.slice none 0 0] 23):=hid ((HD2.out.1.block _ (lt_of_block HBB1.out)).trans HBB1.out)
    refine hK.out _ _ (fun _ _ => ⟨(HBX2.out.cell (p:=⟨pb,0,none⟩) (lt_of_block HP1.out)).trans p0,(HBX2.out.cell (p:=⟨sb,0,none⟩) HS1.out.lt.1).trans s0⟩) ?_
    clear hK K
    try go_frame
    refine wpAnyB_take (i:=7) (oi:=⟨some 8,.move (.tmp 15),28,"store.go:94",#[⟨6,.data⟩],none⟩) (v:=?x31_v7) rfl (by kernel_rfl) (by kernel_rfl) (by kernel_rfl) (fun _ _ _ h => h) (Or.inl ⟨by kernel_rfl,?x31_y7⟩) ?x31_s7
    case x31_y7 => (intro w; go_simp) <;> with_reducible rfl
    try go_frame
    refine wpAnyB_take (i:=8) (oi:=⟨some 16,.extract (.tmp 8) 0,23,"store.go:94",#[⟨7,.data⟩],none⟩) (v:=?x32_v8) rfl (by kernel_rfl) (by kernel_rfl) (by kernel_rfl) (fun _ _ _ h => h) (Or.inl ⟨by kernel_rfl,?x32_y8⟩) ?x32_s8
    case x32_y8 => (intro w; go_simp) <;> with_reducible rfl
    try go_frame
    refine wpAnyB_take (i:=9) (oi:=⟨some 17,.extract (.tmp 8) 1,27,"store.go:94",#[⟨7,.data⟩,⟨11,.gcOnly .lateStores⟩],none⟩) (v:=?x33_v9) rfl (by kernel_rfl) (by kernel_rfl) (by kernel_rfl) (fun _ _ _ h => h) (Or.inl ⟨by kernel_rfl,?x33_y9⟩) ?x33_s9
    case x33_y9 => (intro w; go_simp) <;> with_reducible rfl
    try go_frame
    refine wpAnyB_ready (rs:=[11]) (by kernel_rfl) (by simp) ?_
    refine AllReadyB.cons (o:=⟨none,.store 23 (.tmp 4) (.tmp 16),0,"store.go:94",#[⟨10,.data⟩,⟨8,.data⟩,⟨6,.chain⟩,⟨0,.phase⟩,⟨1,.phase⟩,⟨2,.phase⟩,⟨3,.phase⟩,⟨4,.phase⟩,⟨5,.phase⟩,⟨6,.phase⟩,⟨7,.phase⟩,⟨8,.phase⟩,⟨9,.textOnly .lateStores⟩,⟨10,.phase⟩],none⟩) rfl (fun K hK => ?_) AllReadyB.nil
    have b0 : X2.cell? ⟨bb,0,none⟩ = some (.slice none 0 0):=blk_cell HBB2.out 0
    have bz : X2.frozen? ⟨bb,0,none⟩ = false:=blk_free HBB2.out 0
    go_simp
    refine hK.out _ _ (fun h => by simp at h) ?_
    clear b0 bz
    clear hK K
    try go_frame
    refine wpAnyB_take (i:=12) (oi:=⟨some 5,.assign (.tmp 17),27,"store.go:94",#[⟨9,.data⟩,⟨11,.chain⟩,⟨0,.phase⟩,⟨1,.phase⟩,⟨2,.phase⟩,⟨3,.phase⟩,⟨4,.phase⟩,⟨5,.phase⟩,⟨6,.phase⟩,⟨7,.phase⟩,⟨8,.phase⟩,⟨9,.phase⟩,⟨10,.phase⟩,⟨11,.phase⟩],none⟩) (v:=?x34_v12) rfl (by kernel_rfl) (by kernel_rfl) (by kernel_rfl) (fun _ _ _ h => h) (Or.inl ⟨by kernel_rfl,?x34_y12⟩) ?x34_s12
    case x34_y12 => (intro w; go_simp) <;> with_reducible rfl
    try go_frame
    refine wpAnyB_done (by kernel_rfl) ?_ _
    go_wp2_with (fail)
    go_meet
    have hks : Keeps (Only bb) X2 (X2.setCell ⟨bb,0,none⟩ (.slice ya y.data.length yc)):=(Keeps.refl (Only bb) X2).setCell (p:=⟨bb,0,none⟩) (fun _ => rfl) _
    have hsl : SlAt byteKind 5 X2 (.slice ya y.data.length yc) y.data:=HD2.out.2.2.1
    exact ⟨bb,ya,yc,rfl,rfl,hid ⟨blk_set HBB2.out 0 _,below_keeps (HBX2.out) hks (fun i e => by have e : i = bb:=e; have:=HBL.out; omega) (HBX2.out).size,hsl.keeps hks (fun g hg e => by have e : g = bb:=e; exact hsl.ne HBB2.out (by decide) g hg e)⟩⟩
   case rest =>
    obtain ⟨bb,ya,yc,rfl,rfl,HBC⟩:=hcut
    obtain ⟨W2,hW2⟩ : ∃ x,x = wc.alloc (.cells #[.int .i64 0] 3):=⟨_,rfl⟩
    have hb2 : Below wc.heap.size wc W2:=by rw [hW2]; exact (Below.refl _ _).alloc (Nat.le_refl _) _
    have hq2 : IsBlk W2 wc.heap.size #[.int .i64 0] 3:=by rw [hW2]; exact blk_new _ _
    have hz2 : W2.heap.size = wc.heap.size + 1:=by rw [hW2]; simp
    obtain ⟨V,hV⟩ : ∃ x,x = W2.alloc (.cells #[.bool false] 4):=⟨_,rfl⟩
    have hbv : Below W2.heap.size W2 V:=by rw [hV]; exact (Below.refl _ _).alloc (Nat.le_refl _) _
    have hbx : IsBlk V W2.heap.size #[.bool false] 4:=by rw [hV]; exact blk_new _ _
    have hzv : V.heap.size = W2.heap.size + 1:=by rw [hV]; simp
    obtain ⟨qb,hqb⟩ : ∃ x,x = wc.heap.size:=⟨_,rfl⟩
    rw [← hqb] at hq2
    have hcv : Below wc.heap.size wc V:=hb2.trans (hbv.mono hb2.size)
    have h1v : Below w1.heap.size w1 V:=HBC.out.2.1.trans (hcv.mono HBC.out.2.1.size)
    have hqv : IsBlk V qb #[.int .i64 0] 3:=(hbv.block _ (lt_of_block hq2)).trans hq2
    have hlt:=HLT.out
    have hzw:=HZ1.out
    have hzc:=HBC.out.2.1.size
    have hMF:=st_manifest1 (W:=V) (HH1.out.read h1v) (HS1.out.below h1v) HC.out.1 HC.out.2.1 HC.out.2.2.1 HC.out.2.2.2.1 ((hcv.block _ (lt_of_block HBC.out.1)).trans HBC.out.1) ((h1v.block _ (lt_of_block HP1.out)).trans HP1.out) hqv (HBC.out.2.2.below hcv) HYL.out ⟨HO.out.1.1,fun e => by have:=HSW.out _ e; omega⟩ ⟨HO.out.2.1,by have:=HH1.out.below.size; omega⟩ HO.out.1.2 HO.out.2.2
    rw [hV] at hMF
    have HRD:=hid (st_reads 105 enters_manifest1 #[.pointer (some ⟨bb,0,none⟩),.pointer (some ⟨pb,0,none⟩),.pointer (some ⟨qb,0,none⟩)] W2 (fun i => i = sb ∨ i = c.tb ∨ i = qb) (by omega)
      (fun e w' => ManPost V sb qb c (manY F c.dir y.data) e w') (hMF.mono fun e w' h => ⟨h.1,by rw [hV]; exact h,by
        rcases h.2 with ⟨_,_,_,_,_,h,_⟩ | ⟨_,h,_⟩
        ·exact .inl h
        ·exact .inr h⟩))
    have HW2 : Hid (wc.alloc (.cells #[.int .i64 0] 3) = W2):=hid hW2.symm
    have HQB:=hid hqb
    have HBX:=hid (And.intro hbx (And.intro hzv (And.intro hz2 (And.intro hlt (And.intro hzw (And.intro hzc h1v))))))
    clear hW2 hb2 hq2 hz2 hV hbv hbx hzv hqb hcv h1v hqv hlt hzw hzc hMF
    go_upto_region 5 with (fail)
    rw [HW2.out,← HQB.out]
    go_wp2_with (fail)
    refine HRD.out.mono ?_
    rintro e w4 ⟨w3,hk,hz,⟨v,hr,rfl⟩ | ⟨hr,rfl⟩⟩
    ·obtain ⟨hk3,⟨b,f,q,m,ho,-,hst,hqf⟩ | ⟨-,hh,-⟩⟩:=hr
     rotate_left
     ·cases hh
     have hx3 : IsBlk w3 W2.heap.size #[.bool false] 4:=hk3.obj HBX.out.1 (by have:=HBX.out; have:=HQB.out; rintro (e | e | e) <;> omega)
     have HST : Hid (StB w4 sb { c with base:=((b : Nat) : Int),seq:=((q : Nat) : Int) } m 400000000):=hid (hst.keepsOut hk (fun i e cs T hT => by
      have e : i = W2.heap.size:=e
      subst e
      refine ⟨fun e2 => ?_,fun e2 => ?_,fun e2 => ?_⟩ <;> exact blk_ne_type hT hx3 (by rw [e2]; decide) rfl))
     have hq4 : IsBlk w4 qb #[.int .i64 ((f : Nat) : Int)] 3:=hk.obj hqf (fun e => by have e : qb = W2.heap.size:=e; have:=HBX.out; have:=HQB.out; omega)
     have HKK : Hid (Keeps (fun i => i = sb ∨ i = c.tb) w w4):=hid (by
      have h0 : Below w.heap.size w V:=HB1.out.trans (HBX.out.2.2.2.2.2.2.mono HB1.out.size)
      have h1 : Keeps (fun i => i = sb ∨ i = c.tb) w w3:=((Keeps.of_below h0).mono fun _ _ e => e.elim).trans hk3 (fun i hi e => by
       rcases e with e | e | e
       ·exact .inl e
       ·exact .inr e
       ·have:=HBX.out; have:=HQB.out; omega)
      exact h1.trans hk (fun i hi e => by have e : i = W2.heap.size:=e; have:=HBX.out; have:=HQB.out; omega))
     have HOS : Hid (manR F c.dir = some (b,f,q,m)):=hid (by rw [HOK.out,ho])
     have q0 : w4.cell? ⟨qb,0,none⟩ = some (.int .i64 ((f : Nat) : Int)):=blk_cell hq4 0
     clear hk hz hk3 ho hst hqf hx3 hq4 HRD
     go_wp2_with (fail)
     exact bodyPost_ret (results_tmp2 rfl _ _ _) rfl ⟨HKK.out,.inl ⟨_,_,_,_,HOS.out,rfl,HST.out⟩⟩
    ·obtain ⟨hk3,⟨_,_,_,_,_,⟨v,hh⟩,_⟩ | ⟨ho,-,z,hq3⟩⟩:=hr
     ·cases hh
     have hq4 : IsBlk w4 qb #[.int .i64 z] 3:=hk.obj hq3 (fun e => by have e : qb = W2.heap.size:=e; have:=HBX.out; have:=HQB.out; omega)
     have HKK : Hid (Keeps (fun i => i = sb ∨ i = c.tb) w w4):=hid (by
      have h0 : Below w.heap.size w V:=HB1.out.trans (HBX.out.2.2.2.2.2.2.mono HB1.out.size)
      have h1 : Keeps (fun i => i = sb ∨ i = c.tb) w w3:=((Keeps.of_below h0).mono fun _ _ e => e.elim).trans hk3 (fun i hi e => by
       rcases e with e | e | e
       ·exact .inl e
       ·exact .inr e
       ·have:=HBX.out; have:=HQB.out; omega)
      exact h1.trans hk (fun i hi e => by have e : i = W2.heap.size:=e; have:=HBX.out; have:=HQB.out; omega))
     have HOS : Hid (manR F c.dir = none):=hid (by rw [HOK.out,ho])
     have q0 : w4.cell? ⟨qb,0,none⟩ = some (.int .i64 z):=blk_cell hq4 0
     clear hk hz hk3 ho hq3 hq4 HRD
     go_wp2_with (fail)
     exact bodyPost_ret (results_tmp2 rfl _ _ _) rfl ⟨HKK.out,.inr ⟨HOS.out,z,rfl⟩⟩
end
end Go.Proofs.YtagdchgkjjpacaaGreat
