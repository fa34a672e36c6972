/- The walk of package store's DecodeBatch. -/
import Derived.Test.YtagdchgkjjpacaaGreatr15
import Derived.Test.YtagdchgkjjpacaaGreatProg
import Derived.Conc.RwLib
import Derived.KernelRfl
set_option maxRecDepth 100000
open Go.Lib (hid)
set_option linter.unusedSimpArgs false
set_option linter.unusedVariables false
set_option linter.unusedSectionVars false
namespace Go.Proofs.YtagdchgkjjpacaaGreat
open Go.RowKit Go.Shelf
theorem decB_decT (b : List UInt8) : decB b = match decT b with
 | none => none
 | some (l,q) => if q ≠ [] ∨ 1048576 < b.length ∨ numOf (b.take 8) < 1 ∨ 9223372036854775808 ≤ numOf (b.take 8) ∨ chkB l ≠ 0 then none else some (numOf (b.take 8),l):=by
 unfold decB decT
 by_cases h : b.length < 10
 ·rw [if_pos h,if_pos h]
 ·rw [if_neg h,if_neg h]
  cases takeChgs (numOf ((b.drop 8).take 2)) ((b.drop 8).drop 2) <;> rfl
def decR (b : List UInt8) : Int × List Chg × Int:=match decB b with
 | none => (0,[],10)
 | some (s,l) => ((s : Int),l,0)
theorem wrap_pos {n : Nat} (h : n < 18446744073709551616) : wrap64 (n : Int) < 1 ↔ n < 1 ∨ 9223372036854775808 ≤ n:=by unfold wrap64; omega
theorem enters_decode1 : ∀ args w,(callFunc 53 args).run Tryz.prog w = .ok (.enter 53 args) w:=enters_of Tryz.func53 (P:=Tryz.prog) (by kernel_rfl) rfl
def wDec (w : World) (v : Value) : World:=(((w.alloc (.cells #[.slice none 0 0] 22)).alloc (.cells #[.int .i64 0] 3)).alloc (.cells #[v] 95)).alloc (.cells #[.pointer (some ⟨w.heap.size + 2,0,none⟩)] 93)
theorem wDec_boxes (w : World) (v : Value) : IsBlk (wDec w v) w.heap.size #[.slice none 0 0] 22 ∧ IsBlk (wDec w v) (w.heap.size + 1) #[.int .i64 0] 3 ∧ IsBlk (wDec w v) (w.heap.size + 2) #[v] 95 ∧ IsBlk (wDec w v) (w.heap.size + 3) #[.pointer (some ⟨w.heap.size + 2,0,none⟩)] 93 ∧ Below w.heap.size w (wDec w v) ∧ (wDec w v).heap.size = w.heap.size + 4:=by
 obtain ⟨w1,h1⟩ : ∃ x,x = w.alloc (.cells #[.slice none 0 0] 22):=⟨_,rfl⟩
 obtain ⟨w2,h2⟩ : ∃ x,x = w1.alloc (.cells #[.int .i64 0] 3):=⟨_,rfl⟩
 obtain ⟨w3,h3⟩ : ∃ x,x = w2.alloc (.cells #[v] 95):=⟨_,rfl⟩
 obtain ⟨w4,h4⟩ : ∃ x,x = w3.alloc (.cells #[.pointer (some ⟨w.heap.size + 2,0,none⟩)] 93):=⟨_,rfl⟩
 have e : wDec w v = w4:=by rw [h4,h3,h2,h1]; rfl
 rw [e]
 have z1 : w1.heap.size = w.heap.size + 1:=by rw [h1]; simp
 have z2 : w2.heap.size = w.heap.size + 2:=by rw [h2,World.size_alloc,z1]
 have z3 : w3.heap.size = w.heap.size + 3:=by rw [h3,World.size_alloc,z2]
 have z4 : w4.heap.size = w.heap.size + 4:=by rw [h4,World.size_alloc,z3]
 have b1 : Below w.heap.size w w1:=by rw [h1]; exact (Below.refl _ _).alloc (Nat.le_refl _) _
 have b2 : Below w1.heap.size w1 w2:=by rw [h2]; exact (Below.refl _ _).alloc (Nat.le_refl _) _
 have b3 : Below w2.heap.size w2 w3:=by rw [h3]; exact (Below.refl _ _).alloc (Nat.le_refl _) _
 have b4 : Below w3.heap.size w3 w4:=by rw [h4]; exact (Below.refl _ _).alloc (Nat.le_refl _) _
 have k1 : IsBlk w1 w.heap.size #[.slice none 0 0] 22:=by rw [h1]; exact blk_new _ _
 have k2 : IsBlk w2 (w.heap.size + 1) #[.int .i64 0] 3:=by rw [h2,← z1]; exact blk_new _ _
 have k3 : IsBlk w3 (w.heap.size + 2) #[v] 95:=by rw [h3,← z2]; exact blk_new _ _
 have k4 : IsBlk w4 (w.heap.size + 3) #[.pointer (some ⟨w.heap.size + 2,0,none⟩)] 93:=by rw [h4,← z3]; exact blk_new _ _
 have b34 : Below w2.heap.size w2 w4:=b3.trans (b4.mono b3.size)
 have b24 : Below w1.heap.size w1 w4:=b2.trans (b34.mono b2.size)
 exact ⟨(b24.block _ (lt_of_block k1)).trans k1,(b34.block _ (lt_of_block k2)).trans k2,(b4.block _ (lt_of_block k3)).trans k3,k4,b1.trans (b24.mono b1.size),z4⟩
theorem results_tmp3 {fn : Func} {t u v : Tmp} (h : fn.results = #[.tmp t,.tmp u,.tmp v]) (tmps : Array Value) (P : Program) (w : World) :
 (results fn tmps).run P w = .ok (.tuple #[tmps.getD t undef,tmps.getD u undef,tmps.getD v undef]) w:=by
 simp [results,h]
section
variable {w : World} {a : Option Addr} {cap : Nat} {ys : List UInt8}
set_option maxHeartbeats 8000000 in
theorem st_decode (hu : RdAt byteKind w (.slice a ys.length cap) ys) (hn : ys.length ≤ 1000000000) (hcap : ys.length ≤ cap ∧ cap ≤ 9223372036854775807) (hpl : ∀ b,a = some b → b.spot = none ∧ b.block < w.heap.size) :
 Calls Tryz.prog 16 #[.slice a ys.length cap] w fun e w' => ∃ lv,e = .returned (.tuple #[.int .i64 (decR ys).1,lv,.int .i64 (decR ys).2.2]) ∧ Hid (SlAt chgKind 42 w' lv (decR ys).2.1 ∧ (∀ g,lv.ownBlock = some g → w.heap.size ≤ g) ∧ Below w.heap.size w w'):=by
 obtain ⟨k1,k2,k3,k4,hbw,hzw⟩:=wDec_boxes w (.slice a ys.length cap)
 obtain ⟨W,hW⟩ : ∃ x,x = wDec w (.slice a ys.length cap):=⟨_,rfl⟩
 rw [← hW] at k1 k2 k3 k4 hbw hzw
 have HWE : Hid ((((w.alloc (.cells #[.slice none 0 0] 22)).alloc (.cells #[.int .i64 0] 3)).alloc (.cells #[.slice a ys.length cap] 95)).alloc (.cells #[.pointer (some ⟨w.heap.size + 2,0,none⟩)] 93) = W):=hid hW.symm
 obtain ⟨V,hV⟩ : ∃ x,x = W.alloc (.cells #[.bool false] 4):=⟨_,rfl⟩
 have hbv : Below W.heap.size W V:=by rw [hV]; exact (Below.refl _ _).alloc (Nat.le_refl _) _
 have hD:=st_decode1 (W:=V) (B:=w.heap.size) (rb:=w.heap.size + 2) (pb:=w.heap.size + 3) (qb:=w.heap.size + 1) (lb:=w.heap.size) (a:=a) (cap:=cap) (ys:=ys)
   ⟨(hbv.block _ (lt_of_block k3)).trans k3,(hu.below hbw).below hbv,fun b hb => ⟨(hpl b hb).1,by have:=(hpl b hb).2; omega⟩,hcap,hn,fun _ b hb => (hpl b hb).2⟩ (by have:=hbv.size; omega)
   ((hbv.block _ (lt_of_block k4)).trans k4) ((hbv.block _ (lt_of_block k2)).trans k2) ((hbv.block _ (lt_of_block k1)).trans k1) (by omega)
 rw [hV] at hD
 have HRD:=hid (st_reads 53 enters_decode1 #[.pointer (some ⟨w.heap.size + 3,0,none⟩),.pointer (some ⟨w.heap.size + 1,0,none⟩),.pointer (some ⟨w.heap.size,0,none⟩)] W (fun k => k = w.heap.size + 2 ∨ k = w.heap.size + 1 ∨ k = w.heap.size) (by omega)
   (fun e w' => DecPost V w.heap.size (w.heap.size + 2) (w.heap.size + 3) (w.heap.size + 1) w.heap.size ys e w') (hD.mono fun e w' h => ⟨h.1,by rw [hV]; exact h,by
     rcases h.2 with ⟨h,-⟩ | ⟨-,h⟩
     ·exact .inl h
     ·exact .inr h⟩))
 have HWV:=hid (And.intro hbw (And.intro hzw hbv))
 have hn1 : (ys.length : Int) ≤ 1000000000:=by omega
 obtain ⟨n0,hn0⟩ : ∃ x,x = w.heap.size:=⟨_,rfl⟩
 have HN0:=hid hn0
 have hmf : ∀ (fn : Fn) (first cap : Array Value) (w : World),(Instr.makeFunc fn first cap).run Tryz.prog w = .ok (.func fn first cap) w:=fun _ _ _ _ => rfl
 have HVZ : Hid (V.heap.size = w.heap.size + 5):=hid (by rw [hV,World.size_alloc,hzw])
 clear k1 k2 k3 k4 hbw hzw hW hV hbv hD hu hn hcap hpl
 go_enter Tryz.func16,Tryz.ntmps16
 go_upto_region 4 with (fail)
 rw [show w.heap.size + 1 + 1 + 1 = w.heap.size + 3 from rfl,show w.heap.size + 1 + 1 = w.heap.size + 2 from rfl,HWE.out]
 rw [← hn0] at HRD ⊢
 clear HWE hn0
 go_wp2_with (fail)
 refine HRD.out.mono ?_
 rintro e w2 ⟨w1,hk,hz,⟨v,hd,rfl⟩ | ⟨hd,rfl⟩⟩
 ·obtain ⟨hkd,⟨-,l,q,ra,rc,lv,hdt,hsr,hpb,hqb,hlb,hsl,hown,hll⟩ | ⟨-,hf⟩⟩:=hd
  rotate_left
  ·cases hf
  have HZW : Hid (W.heap.size = n0 + 4):=hid (by rw [HWV.out.2.1,HN0.out])
  have hB2 : Below w.heap.size w w2:=by
   have h0:=HWV.out.1.trans (HWV.out.2.2.mono HWV.out.1.size)
   have h1:=below_keeps h0 hkd (fun i e => by have:=HN0.out; omega) h0.size
   exact below_keeps h1 hk (fun i e => by have:=HWV.out.2.1; omega) h1.size
  have hne : ∀ k,k < n0 + 4 → ¬ k = W.heap.size:=fun k hk e => by have:=HZW.out; omega
  have hpb2:=hk.obj hpb (hne _ (by omega))
  have hqb2:=hk.obj hqb (hne _ (by omega))
  have hlb2:=hk.obj hlb (hne _ (by omega))
  have hrb2:=hk.obj hsr.blk (hne _ (by omega))
  have hsl2:=hsl.keeps hk (fun g hg e => by have h1:=hown g hg; have h2:=HVZ.out; have h3:=HWV.out.2.1; omega)
  obtain ⟨la,lc,hlv⟩:=hsl.shape
  subst hlv
  obtain ⟨sq,hsq⟩ : ∃ x : Int,x = wrap64 (numOf (ys.take 8) : Int):=⟨_,rfl⟩
  rw [← hsq] at hqb2
  have p0 : w2.cell? ⟨n0 + 3,0,none⟩ = some (.pointer (some ⟨n0 + 2,0,none⟩)):=blk_cell hpb2 0
  have r0 : w2.cell? ⟨n0 + 2,0,none⟩ = some (.slice ra q.length rc):=blk_cell hrb2 0
  have q0 : w2.cell? ⟨n0 + 1,0,none⟩ = some (.int .i64 sq):=blk_cell hqb2 0
  have l0 : w2.cell? ⟨n0,0,none⟩ = some (.slice la l.length lc):=blk_cell hlb2 0
  have HSL:=hid (And.intro hsl2 (And.intro (show ∀ g,(Value.slice la l.length lc).ownBlock = some g → w.heap.size ≤ g from fun g hg => by have h1:=hown g hg; have h2:=HVZ.out; omega) hB2))
  have HCK:=hid (fun X (hX : Below w2.heap.size w2 X) => st_check (w:=X) (hsl2.rd.below hX) (by omega))
  have h64 : numOf (ys.take 8) < 18446744073709551616:=by
   have h1:=numOf_lt (ys.take 8)
   have h2 : 256 ^ (ys.take 8).length ≤ 256 ^ 8:=Nat.pow_le_pow_right (by omega) (by rw [List.length_take]; omega)
   omega
  have HSQ : Hid (sq < 1 ↔ numOf (ys.take 8) < 1 ∨ 9223372036854775808 ≤ numOf (ys.take 8)):=hid (by rw [hsq]; exact wrap_pos h64)
  have HSV : Hid (1 ≤ sq → sq = (numOf (ys.take 8) : Int)):=hid fun h => by rw [hsq] at h ⊢; unfold wrap64 at h ⊢; omega
  have HDB : Hid (decB ys = if q ≠ [] ∨ 1048576 < ys.length ∨ numOf (ys.take 8) < 1 ∨ 9223372036854775808 ≤ numOf (ys.take 8) ∨ chkB l ≠ 0 then none else some (numOf (ys.take 8),l)):=hid (by rw [decB_decT,hdt])
  have hql : (q.length : Int) ≤ 1000000000:=by have:=hsr.sm; omega
  have HNL : Hid ((∃ c,c = decR ys ∧ c = (0,[],10)) → SlAt chgKind 42 w2 (.slice none 0 0) (decR ys).2.1 ∧ (∀ g,(Value.slice none 0 0).ownBlock = some g → w.heap.size ≤ g) ∧ Below w.heap.size w w2):=hid fun ⟨c,h1,h2⟩ => by
   rw [← h1,h2]
   exact ⟨SlAt.nil,fun g hg => by simp [Value.ownBlock] at hg,hB2⟩
  clear hkd hdt hsr hpb hqb hlb hsl hown hll hk hz hB2 hne hpb2 hqb2 hlb2 hrb2 hsl2 hsq h64 HRD
  by_cases hq : q ≠ []
  ·have t1 : (0 : Int) < (q.length : Int):=by have:=List.length_pos_iff.2 hq; omega
   have t2 : decide ((0 : Int) < (q.length : Int)) = true:=by simp; exact List.length_pos_iff.2 hq
   have HE : Hid (decR ys = (0,[],10)):=hid (by unfold decR; rw [HDB.out,if_pos (.inl hq)])
   clear hq
   obtain ⟨m,hm⟩ : ∃ x,x = q.length:=⟨_,rfl⟩
   rw [← hm] at t1 t2 r0 hql
   have t3 : m ≠ 0:=by omega
   have t4 : decide (0 < m) = true:=by simp; omega
   clear hm
   go_wp2_with (fail)
   exact bodyPost_ret (results_tmp3 rfl _ _ _) rfl ⟨_,by rw [HE.out]; rfl,hid (HNL.out ⟨_,rfl,HE.out⟩)⟩
  have hq0 : q = []:=by
   by_cases h : q = []
   ·exact h
   ·exact absurd h hq
  subst hq0
  replace r0 : w2.cell? ⟨n0 + 2,0,none⟩ = some (.slice ra 0 rc):=r0
  clear hql
  by_cases hb : 1048576 < ys.length
  ·have t1 : (1048576 : Int) < (ys.length : Int):=by omega
   have t2 : decide ((1048576 : Int) < (ys.length : Int)) = true:=by simp; omega
   have HE : Hid (decR ys = (0,[],10)):=hid (by unfold decR; rw [HDB.out,if_pos (.inr (.inl hb))])
   clear hb hq
   go_wp2_with (fail)
   exact bodyPost_ret (results_tmp3 rfl _ _ _) rfl ⟨_,by rw [HE.out]; rfl,hid (HNL.out ⟨_,rfl,HE.out⟩)⟩
  have t1 : ¬ (1048576 : Int) < (ys.length : Int):=by omega
  have t2 : decide ((1048576 : Int) < (ys.length : Int)) = false:=by simp; omega
  by_cases hs : sq < 1
  ·have t3 : decide (sq < 1) = true:=by simp [hs]
   have HE : Hid (decR ys = (0,[],10)):=hid (by
    unfold decR; rw [HDB.out,if_pos]
    rcases HSQ.out.1 hs with h | h
    ·exact .inr (.inr (.inl h))
    ·exact .inr (.inr (.inr (.inl h))))
   clear hb hq
   go_wp2_with (fail)
   exact bodyPost_ret (results_tmp3 rfl _ _ _) rfl ⟨_,by rw [HE.out]; rfl,hid (HNL.out ⟨_,rfl,HE.out⟩)⟩
  have t3 : decide (sq < 1) = false:=by simp; omega
  obtain ⟨er,her⟩ : ∃ x : Int,x = (chkB l : Int):=⟨_,rfl⟩
  have HC2:=hid (HCK.out w2 (Below.refl _ _))
  rw [← her] at HC2
  have HER:=hid her
  have HSN:=hid hs
  have HBN:=hid hb
  clear her hb hq
  go_wp2_with (fail)
  refine HC2.out.mono ?_
  rintro e w3 ⟨rfl,hb3⟩
  have HB3:=hid hb3
  clear hb3
  by_cases hc : er ≠ 0
  ·have t4 : (er != 0) = true:=by simp [hc]
   have HE : Hid (decR ys = (0,[],10)):=hid (by unfold decR; rw [HDB.out,if_pos (.inr (.inr (.inr (.inr (by have:=HER.out; omega)))))])
   have HN3 : Hid (SlAt chgKind 42 w3 (.slice none 0 0) (decR ys).2.1 ∧ (∀ g,(Value.slice none 0 0).ownBlock = some g → w.heap.size ≤ g) ∧ Below w.heap.size w w3):=hid (by
    obtain ⟨h1,h2,h3⟩:=HNL.out ⟨_,rfl,HE.out⟩
    exact ⟨h1.below HB3.out,h2,h3.trans (HB3.out.mono h3.size)⟩)
   clear hc
   go_wp2_with (fail)
   exact bodyPost_ret (results_tmp3 rfl _ _ _) rfl ⟨_,by rw [HE.out]; rfl,HN3⟩
  obtain rfl : er = 0:=by omega
  have HE : Hid (decR ys = (sq,l,0)):=hid (by
   unfold decR
   rw [HDB.out,if_neg]
   ·simp only; rw [HSV.out (by have:=HSN.out; omega)]
   ·have h1:=HBN.out
    have h2:=HSQ.out
    have h3:=HSN.out
    have h4:=HER.out
    simp only [ne_eq,not_true_eq_false,false_or]
    omega)
  have q1 : w3.cell? ⟨n0 + 1,0,none⟩ = some (.int .i64 sq):=(HB3.out.cell (p:=⟨n0 + 1,0,none⟩) (World.block_lt_of_cell? _ _ q0)).trans q0
  have l1 : w3.cell? ⟨n0,0,none⟩ = some (.slice la l.length lc):=(HB3.out.cell (p:=⟨n0,0,none⟩) (World.block_lt_of_cell? _ _ l0)).trans l0
  clear p0 r0 q0 l0
  go_wp2_with (fail)
  go_quiet (fail)
  go_wp2_with (fail)
  refine bodyPost_ret (results_tmp3 rfl _ _ _) rfl ⟨.slice la l.length lc,by rw [HE.out]; rfl,hid ?_⟩
  rw [HE.out]
  obtain ⟨h1,h2,h3⟩:=HSL.out
  have hb4 : Below w3.heap.size w3 (w3.drewN nq):=below_drewN _ _ _
  exact ⟨(h1.below HB3.out).below hb4,h2,(h3.trans (HB3.out.mono h3.size)).trans (hb4.mono (by have:=h3.size; have:=HB3.out.size; omega))⟩
 ·obtain ⟨hkd,⟨⟨v,hv⟩,-⟩ | ⟨hdt,-⟩⟩:=hd
  ·cases hv
  have HE : Hid (decR ys = (0,[],10)):=hid (by unfold decR; rw [decB_decT,hdt])
  have HB2 : Hid (Below w.heap.size w w2):=hid (by
   have h0:=HWV.out.1.trans (HWV.out.2.2.mono HWV.out.1.size)
   have h1:=below_keeps h0 hkd (fun i e => by have:=HN0.out; omega) h0.size
   exact below_keeps h1 hk (fun i e => by have:=HWV.out.2.1; omega) h1.size)
  clear hkd hk hz hdt HRD
  go_wp2_with (fail)
  exact bodyPost_ret (results_tmp3 rfl _ _ _) rfl ⟨_,by rw [HE.out]; rfl,hid (by rw [HE.out]; exact ⟨SlAt.nil,fun g hg => by simp [Value.ownBlock] at hg,HB2.out⟩)⟩
end
abbrev Tryz.muLink : Go.Conc.Locks.MuLink:={ lock:=118,unlock:=127,ilock:=159,iunlock:=161,lockSlow:=185,unlockSlow:=186,disable:=117,enable:=121,acquire:=122,relMerge:=124,cas32:=184,add32:=160,tMutex:=119,tIMutex:=117,tPMutex:=173,tPIMutex:=217,tPI32:=196,tUP:=172,tNoCopy:=114,tU32:=115 }
theorem Tryz.muLib : Go.Conc.Locks.MuLib Tryz.prog Tryz.muLink :=
 ⟨Tryz.func118,Tryz.func127,Tryz.func159,Tryz.func161,Tryz.func117,Tryz.func121,Tryz.func122,Tryz.func124,Tryz.func184,Tryz.func160,Tryz.underlying117,Tryz.runUnderlying117,Tryz.sizeOf117,Tryz.isAgg117,Tryz.zeroValue117,Tryz.underlying119,Tryz.runUnderlying119,Tryz.sizeOf119,Tryz.isAgg119,Tryz.zeroValue119,Tryz.underlying173,Tryz.runUnderlying173,Tryz.sizeOf173,Tryz.isAgg173,Tryz.zeroValue173,Tryz.underlying217,Tryz.runUnderlying217,Tryz.sizeOf217,Tryz.isAgg217,Tryz.zeroValue217,Tryz.underlying196,Tryz.runUnderlying196,Tryz.sizeOf196,Tryz.isAgg196,Tryz.zeroValue196,Tryz.underlying172,Tryz.runUnderlying172,Tryz.sizeOf172,Tryz.isAgg172,Tryz.zeroValue172,Tryz.underlying114,Tryz.runUnderlying114,Tryz.sizeOf114,Tryz.isAgg114,Tryz.zeroValue114,Tryz.underlying21,Tryz.runUnderlying21,Tryz.sizeOf21,Tryz.isAgg21,Tryz.zeroValue21,(by kernel_rfl)⟩
abbrev Tryz.rwLink : Go.Conc.Locks.RwLink:={ lock:=118,unlock:=127,ilock:=159,iunlock:=161,lockSlow:=185,unlockSlow:=186,disable:=117,enable:=121,acquire:=122,relMerge:=124,cas32:=184,add32:=160,tMutex:=119,tIMutex:=117,tPMutex:=173,tPIMutex:=217,tPI32:=196,tUP:=172,tNoCopy:=114,tU32:=115,rlock:=92,runlock:=93,wlock:=76,wunlock:=77,i32add:=119,raceRead:=116,release:=123,rUnlockSlow:=145,semacqR:=144,semacqW:=120,semrel:=126,sfatal:=125,tRW:=124,tPRW:=170,tAI32:=122,tPAI32:=194,tPU32:=176,tANoCopy:=120 }
theorem Tryz.rwCore : Go.Conc.Locks.RwCore Tryz.prog Tryz.rwLink :=
 ⟨Tryz.func119,Tryz.func116,Tryz.func117,Tryz.func121,Tryz.func122,Tryz.func124,Tryz.func160,Tryz.underlying124,Tryz.runUnderlying124,Tryz.sizeOf124,Tryz.isAgg124,Tryz.zeroValue124,Tryz.underlying122,Tryz.runUnderlying122,Tryz.sizeOf122,Tryz.isAgg122,Tryz.zeroValue122,Tryz.underlying170,Tryz.runUnderlying170,Tryz.sizeOf170,Tryz.isAgg170,Tryz.zeroValue170,Tryz.underlying194,Tryz.runUnderlying194,Tryz.sizeOf194,Tryz.isAgg194,Tryz.zeroValue194,Tryz.underlying176,Tryz.runUnderlying176,Tryz.sizeOf176,Tryz.isAgg176,Tryz.zeroValue176,Tryz.underlying120,Tryz.runUnderlying120,Tryz.sizeOf120,Tryz.isAgg120,Tryz.zeroValue120,Tryz.underlying115,Tryz.runUnderlying115,Tryz.sizeOf115,Tryz.isAgg115,Tryz.zeroValue115,Tryz.underlying119,Tryz.runUnderlying119,Tryz.sizeOf119,Tryz.isAgg119,Tryz.zeroValue119,Tryz.underlying173,Tryz.runUnderlying173,Tryz.sizeOf173,Tryz.isAgg173,Tryz.zeroValue173,Tryz.underlying196,Tryz.runUnderlying196,Tryz.sizeOf196,Tryz.isAgg196,Tryz.zeroValue196,Tryz.underlying172,Tryz.runUnderlying172,Tryz.sizeOf172,Tryz.isAgg172,Tryz.zeroValue172,Tryz.underlying21,Tryz.runUnderlying21,Tryz.sizeOf21,Tryz.isAgg21,Tryz.zeroValue21,(by kernel_rfl),(by kernel_rfl)⟩
theorem Tryz.rwRLib : Go.Conc.Locks.RwRLib Tryz.prog Tryz.rwLink:=⟨Tryz.rwCore,Tryz.func92,Tryz.func93⟩
theorem Tryz.rwWLib : Go.Conc.Locks.RwWLib Tryz.prog Tryz.rwLink:=⟨Tryz.rwCore,Tryz.muLib,Tryz.func76,Tryz.func77,Tryz.func123,Tryz.underlying3,Tryz.runUnderlying3,Tryz.sizeOf3,Tryz.isAgg3,Tryz.zeroValue3⟩
end Go.Proofs.YtagdchgkjjpacaaGreat
