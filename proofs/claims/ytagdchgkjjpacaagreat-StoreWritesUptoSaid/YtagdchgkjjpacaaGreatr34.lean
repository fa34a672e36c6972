/- The walk of package store's Open. -/
import Derived.Test.YtagdchgkjjpacaaGreatr33
set_option maxRecDepth 100000
open Go.Lib (hid)
set_option linter.unusedSimpArgs false
set_option linter.unusedVariables false
set_option linter.unusedSectionVars false
namespace Go.Proofs.YtagdchgkjjpacaaGreat
open Go.RowKit Go.Shelf
structure Db (w0 w : World) (fb : Nat) (F : FsS) (k : Nat) (S : Nat → Prop) (lb sb tb : Nat) (s : StS) (n : Nat) : Prop where
 lg : Lg w0 w fb F k S lb s.log
 pure : PureS S w
 st : StB w sb ⟨fb,s.dir,some ⟨lb,0,none⟩,(s.base : Int),s.stuck,tb,(s.seq : Int)⟩ s.all n
 low : w0.heap.size ≤ sb ∧ w0.heap.size ≤ tb
def OpnPost (w0 w : World) (fb : Nat) (S : Nat → Prop) (k : Nat) (R : FsS × Option StS × Int) (e : Ending) (w' : World) : Prop :=
 Keeps S w w' ∧ ((∃ s lb sb tb T,R.2.1 = some s ∧ R.2.2 = 0 ∧ e = .returned (.tuple #[.pointer (some ⟨sb,0,none⟩),.int .i64 0]) ∧ Db w0 w' fb R.1 k T lb sb tb s 600000000 ∧ (∀ i,T i → S i ∨ w.heap.size ≤ i) ∧ w.heap.size ≤ lb ∧ w.heap.size ≤ sb ∧ w.heap.size ≤ tb) ∨
   (R.2.1 = none ∧ R.2.2 ≠ 0 ∧ e = .returned (.tuple #[.pointer none,.int .i64 R.2.2]) ∧ ∃ T,PureS T w' ∧ Hd w0 w' fb R.1 k T ∧ ∀ i,T i → S i ∨ w.heap.size ≤ i))
theorem StB.setLog {w : World} {sb : Nat} {c : StC} {m : Prs} {n : Nat} (h : StB w sb c m n) (l : Option Addr) : StB (w.setCell ⟨sb,2,none⟩ (.pointer l)) sb { c with lv:=l } m n ∧ Keeps (Only sb) w (w.setCell ⟨sb,2,none⟩ (.pointer l)):=by
 have hk : Keeps (Only sb) w (w.setCell ⟨sb,2,none⟩ (.pointer l)):=(Keeps.refl (Only sb) w).setCell (p:=⟨sb,2,none⟩) (fun _ => rfl) _
 obtain ⟨t,ver,h1,h2,h3⟩:=h.tab
 refine ⟨⟨blk_set h.blk 2 _,⟨t,ver,h1.keeps hk (fun e => h.ne e.symm) (fun b cs hb e => ?_),h2,h3⟩,h.rise,h.len⟩,hk⟩
 have e : b = sb:=e
 subst e
 exact blk_ne_type hb h.blk (by decide) rfl
theorem LsX.shape2 {S : Nat → Prop} {w : World} {v : Value} {rs : List (List UInt8)} (h : LsX S w v rs) : ∃ a cap,v = .slice a rs.length cap:=h.rd.shape
theorem nm_size (dir what : ByteArray) : (nmOf dir what).size = dir.size + 1 + what.size:=by
 unfold nmOf; rw [st_size,List.length_append]
 simp only [List.length_cons]
 have e1 : (tx dir).length = dir.size:=rfl
 have e2 : (tx what).length = what.size:=rfl
 omega
section
variable {w0 w w' : World} {fb k : Nat} {F G : FsS} {S T : Nat → Prop}
theorem OpnPost.bad {k1 : Nat} {R : FsS × Option StS × Int} {r : Int} (h : Hd w0 w' fb G k1 T) (hT : ∀ i,T i → S i ∨ w.heap.size ≤ i) (hk : Keeps S w w') (hR : R = (G,none,r)) (hr : r ≠ 0) (hkk : k1 ≤ k) : OpnPost w0 w fb S k R (.returned (.tuple #[.pointer none,.int .i64 r])) w':=by
 subst hR
 have h1:=h.ps
 exact ⟨hk,.inr ⟨rfl,hr,rfl,_,PS.pure _ _,⟨h1.fs,h1.low,h1.below,h1.ok.mono hkk⟩,fun i hi => hT i hi.1⟩⟩
theorem OpnPost.last {w11 : World} {T2 : Nat → Prop} {lb sb tb b q k1 : Nat} {L : LogS} {dir : ByteArray} {m : Prs} {R : FsS × Option StS × Int} {D : FsS × Int} (hl : Lg w0 w11 fb G k1 T2 lb L) (hT : ∀ i,T2 i → S i ∨ w.heap.size ≤ i) (hkw : Keeps S w w11) (hlb : w.heap.size ≤ lb) (hsb : w.heap.size ≤ sb ∧ w.heap.size ≤ tb) (hw : w0.heap.size ≤ w.heap.size)
 (hR : R = openC dir b q m L D) (hc : ClPost w0 w11 fb T2 sb ⟨fb,dir,some ⟨lb,0,none⟩,(b : Int),false,tb,(q : Int)⟩ m 600000000 (k1 + 400) D.1 w') (hkk : k1 + 400 ≤ k) :
 (D.2 ≠ 0 → OpnPost w0 w fb S k R (.returned (.tuple #[.pointer none,.int .i64 D.2])) w') ∧ (D.2 = 0 → OpnPost w0 w fb S k R (.returned (.tuple #[.pointer (some ⟨sb,0,none⟩),.int .i64 0])) w'):=by
 obtain ⟨T3,h1,h2,h3⟩:=hc.ex
 have hT3 : ∀ i,T3 i → S i ∨ w.heap.size ≤ i:=fun i hi => by
  rcases h3 i hi with e | e
  ·exact hT i e
  ·exact .inr (Nat.le_trans hkw.size e)
 have hk2 : Keeps S w w':=hkw.trans hc.keeps fun i hi e => by rcases hT i e with e | e; exact e; omega
 refine ⟨fun hr => OpnPost.bad h1 hT3 hk2 (by rw [hR]; unfold openC; rw [if_pos hr]) hr hkk,fun hr => ?_⟩
 refine ⟨hk2,.inl ⟨⟨dir,L,b,false,m,q⟩,lb,sb,tb,T3,by rw [hR]; unfold openC; rw [if_neg (by omega)],by rw [hR]; unfold openC; rw [if_neg (by omega)],rfl,?_,hT3,hlb,hsb.1,hsb.2⟩⟩
 have hR1 : R.1 = D.1:=by rw [hR]; unfold openC; rw [if_neg (by omega)]
 refine ⟨⟨by rw [hR1]; exact ⟨h1.fs,h1.low,h1.below,h1.ok.mono hkk⟩,⟨hc.keeps.obj hl.log.blk hl.log.out,fun e => ?_,hl.log.low⟩⟩,h2,hc.st,by omega⟩
 rcases h3 _ e with e | e
 ·exact hl.log.out e
 ·have:=hl.lt; omega
theorem loadB_small {b : List UInt8} {q : Nat} {m : Prs} (h : loadB b = some (q,m)) : q < 9223372036854775808:=by
 unfold loadB at h
 split at h
 ·cases h
 split at h
 ·cases h
 rename_i r rs _
 split at h
 ·cases h
 rename_i hn
 split at h
 ·cases h
 split at h
 ·simp only [Option.some.injEq,Prod.mk.injEq] at h; omega
 ·cases h
theorem manR_small {F : FsS} {dir : ByteArray} {b f q : Nat} {m : Prs} (h : manR F dir = some (b,f,q,m)) : q < 9223372036854775808:=by
 unfold manR at h
 split at h
 ·simp only [Option.some.injEq,Prod.mk.injEq] at h; omega
 split at h
 ·cases h
 split at h
 ·split at h
  ·cases h
  split at h
  ·cases h
  split at h
  ·simp only [Option.some.injEq,Prod.mk.injEq] at h; omega
  split at h
  ·cases h
  split at h
  ·cases h
  ·rename_i hl
   simp only [Option.some.injEq,Prod.mk.injEq] at h
   have:=loadB_small hl
   omega
 ·cases h
set_option maxHeartbeats 16000000 in
theorem st_open (h : Hd w0 w fb F k S) (hp : PureS S w) (hk : k < 700000) (dir : ByteArray) (hdir : dir.size ≤ 900) (size : Int) (hcnt : ∀ b y,b < 100000000 → F.find (baseNm dir b) = some y → cntR (scanOf y.data) ≤ 400000000)
 (hrec : (openL F (nmOf dir sLog) size).2.2.2 = 0 → (openL F (nmOf dir sLog) size).2.2.1.length ≤ 10000000 ∧ (∀ p ∈ (openL F (nmOf dir sLog) size).2.2.1,p.length ≤ 1000000000) ∧ cntR (openL F (nmOf dir sLog) size).2.2.1 ≤ 200000000 ∧ (openL F (nmOf dir sLog) size).2.1.last ≤ 1000 ∧ (openL F (nmOf dir sLog) size).2.1.dir.size ≤ 1000) :
 Calls Tryz.prog 24 #[.pointer (some ⟨fb,0,none⟩),.string dir,.agg #[.int .i64 size]] w (OpnPost w0 w fb S (k + 1500) (openS F dir size)):=by
 have HH:=hid h
 have HP:=hid hp
 have HREC:=hid hrec
 have HC:=hid (And.intro hk (And.intro hdir hcnt))
 obtain ⟨w1,hw1⟩ : ∃ x,x = w.alloc (.cells #[.int .i64 size] 53):=⟨_,rfl⟩
 have hb1 : Below w.heap.size w w1:=by rw [hw1]; exact (Below.refl _ _).alloc (Nat.le_refl _) _
 have ho1 : IsBlk w1 w.heap.size #[.int .i64 size] 53:=by rw [hw1]; exact blk_new _ _
 have HW1 : Hid (w.alloc (.cells #[.int .i64 size] 53) = w1):=hid hw1.symm
 obtain ⟨ob,hob⟩ : ∃ x,x = w.heap.size:=⟨_,rfl⟩
 rw [← hob] at ho1
 have HOB:=hid hob
 have HB1:=hid (And.intro hb1 ho1)
 clear h hp hrec hk hdir hcnt hw1 hb1 ho1 hob
 go_enter Tryz.func24,Tryz.ntmps24
 go_upto_region 1 with (fail)
 rw [HW1.out,← HOB.out]
 go_wp2_with (fail)
 refine (Ss.t_new w1).mono ?_
 rintro e w2 ⟨tb,rfl,htab,htl,hts,hb2⟩
 have HT2:=hid (And.intro htab (And.intro htl (And.intro hts hb2)))
 clear htab htl hts hb2 HW1
 go_upto_region 2 with (fail)
 obtain ⟨w3,hw3⟩ : ∃ x,x = w2.alloc (.cells (stCells ⟨fb,dir,none,0,false,tb,0⟩ 0 0) 126):=⟨_,rfl⟩
 have hb3 : Below w2.heap.size w2 w3:=by rw [hw3]; exact (Below.refl _ _).alloc (Nat.le_refl _) _
 have hs3 : StIn w3 w2.heap.size ⟨fb,dir,none,0,false,tb,0⟩:=by rw [hw3]; exact blk_new _ _
 obtain ⟨sb,hsb⟩ : ∃ x,x = w2.heap.size:=⟨_,rfl⟩
 rw [← hw3,← hsb]
 rw [← hsb] at hs3
 have HW : Hid (w0.heap.size ≤ w.heap.size):=hid HH.out.below.size
 have HB3 : Hid (Below w.heap.size w w3):=hid (HB1.out.1.trans ((HT2.out.2.2.2.mono HB1.out.1.size).trans (hb3.mono (Nat.le_trans HB1.out.1.size HT2.out.2.2.2.size))))
 have HLO : Hid (w.heap.size ≤ tb ∧ tb < sb ∧ w.heap.size ≤ sb):=hid ⟨Nat.le_trans HB1.out.1.size HT2.out.2.1,by rw [hsb]; exact HT2.out.2.2.1,by rw [hsb]; exact Nat.le_trans HB1.out.1.size HT2.out.2.2.2.size⟩
 have HS3 : Hid (StB w3 sb ⟨fb,dir,none,0,false,tb,0⟩ [] 0):=hid ⟨hs3,⟨.leaf,0,HT2.out.1.below hb3,rfl,by decide,by decide⟩,by simp [Rise],Nat.le_refl _⟩
 have HO3 : Hid (IsBlk w3 ob #[.int .i64 size] 53):=hid (by
  have h2 : IsBlk w2 ob #[.int .i64 size] 53:=(HT2.out.2.2.2.block _ (lt_of_block HB1.out.2)).trans HB1.out.2
  exact (hb3.block _ (lt_of_block h2)).trans h2)
 have HH3 : Hid (Hd w0 w3 fb F k S):=hid (HH.out.read HB3.out)
 have HP3 : Hid (PureS S w3):=hid (HP.out.below HH.out.fs.lt HB3.out)
 have HOBL : Hid (w.heap.size ≤ ob):=hid (by rw [HOB.out]; exact Nat.le_refl _)
 clear hw3 hsb hs3 hb3 HT2 HB1
 have hnl : (nmOf dir sLog).size ≤ 1000:=by rw [nm_size]; have:=HC.out.2.1; have e : sLog.size = 3:=rfl; omega
 have HWN : Hid (∀ W,Calls Tryz.prog 64 #[.string (nmOf dir sLog),.int .i64 1] W fun e w' => e = .returned (.string (segName (nmOf dir sLog) 1)) ∧ Below W.heap.size W w'):=hid fun W => w_name W (nmOf dir sLog) (by omega) 1 (by decide)
 have HNL:=hid hnl
 clear hnl
 go_wp2_with (fail)
 refine (st_name (c:=⟨fb,dir,none,0,false,tb,0⟩) HS3.out.blk (by have:=HC.out.2.1; show dir.size ≤ _; omega) sLog (by decide)).mono ?_
 rintro e wx ⟨rfl,rfl⟩
 obtain ⟨lg,hlg⟩ : ∃ x,x = nmOf dir sLog:=⟨_,rfl⟩
 go_wp2_with (fail)
 refine (HWN.out _).mono ?_
 rintro e w4 ⟨rfl,hb4⟩
 go_wp2_with (fail)
 refine (f_valid w4 _).mono ?_
 rintro e w5 ⟨rfl,hb5⟩
 obtain ⟨c1,hc1⟩ : ∃ b,b = okName (segName (nmOf dir sLog) 1):=⟨_,rfl⟩
 rw [← hc1]
 have HB5 : Hid (Below w3.heap.size w3 w5):=hid (hb4.trans (hb5.mono hb4.size))
 have HC1:=hid hc1
 clear hb4 hb5 hc1
 cases c1
 ·go_wp2_with (fail)
  refine bodyPost_ret (results_tmp2 rfl _ _ _) rfl ?_
  exact OpnPost.bad (HH3.out.read HB5.out) (fun i e => .inl e) ((Keeps.of_below (HB3.out.trans (HB5.out.mono HB3.out.size))).mono (fun _ _ e => e.elim)) (by unfold openS; rw [if_pos (.inl HC1.out.symm)]) (by decide) (by omega)
 have hs5:=HS3.out.below HB5.out
 go_wp2_with (fail)
 refine (st_baseName hs5.blk (by have:=HC.out.2.1; show dir.size ≤ _; omega) 1 (by decide) 1 rfl).mono ?_
 rintro e w6 ⟨rfl,hb6⟩
 clear hs5
 go_wp2_with (fail)
 refine (f_valid w6 _).mono ?_
 rintro e w7 ⟨rfl,hb7⟩
 have HB7 : Hid (Below w3.heap.size w3 w7):=hid (HB5.out.trans (((hb6.trans (hb7.mono hb6.size))).mono HB5.out.size))
 obtain ⟨c2,hc2⟩ : ∃ b,b = okName (baseNm dir 1):=⟨_,rfl⟩
 have hc2' : okName (baseNm (StC.dir ⟨fb,dir,none,0,false,tb,0⟩) 1) = c2:=hc2.symm
 rw [hc2']
 have HC2:=hid hc2
 clear hb6 hb7 hc2 hc2'
 have HS7:=hid (HS3.out.below HB7.out)
 have HH7:=hid (HH3.out.read HB7.out)
 have HP7:=hid (HP3.out.below HH3.out.fs.lt HB7.out)
 have HO7 : Hid (IsBlk w7 ob #[.int .i64 size] 53):=hid ((HB7.out.block _ (lt_of_block HO3.out)).trans HO3.out)
 have HBW : Hid (Below w.heap.size w w7):=hid (HB3.out.trans (HB7.out.mono HB3.out.size))
 have HKW : Hid (Keeps S w w7):=hid ((Keeps.of_below HBW.out).mono (fun _ _ e => e.elim))
 clear HB5 HB3 HB7 HS3 HH3 HP3 HO3 HWN
 cases c2
 ·go_wp2_with (fail)
  refine bodyPost_ret (results_tmp2 rfl _ _ _) rfl ?_
  exact OpnPost.bad HH7.out (fun i e => .inl e) HKW.out (by unfold openS; rw [if_pos (.inr HC2.out.symm)]) (by decide) (by omega)
 have o0 : w7.cell? ⟨ob,0,none⟩ = some (.int .i64 size):=blk_cell HO7.out 0
 by_cases h16 : size < 16
 ·go_wp2_with (fail)
  refine bodyPost_ret (results_tmp2 rfl _ _ _) rfl ?_
  exact OpnPost.bad HH7.out (fun i e => .inl e) HKW.out (by unfold openS; rw [if_neg (by rw [← HC1.out,← HC2.out]; simp),if_pos (.inl h16)]) (by decide) (by omega)
 by_cases h20 : 1048576 < size
 ·go_wp2_with (fail)
  refine bodyPost_ret (results_tmp2 rfl _ _ _) rfl ?_
  exact OpnPost.bad HH7.out (fun i e => .inl e) HKW.out (by unfold openS; rw [if_neg (by rw [← HC1.out,← HC2.out]; simp),if_pos (.inr h20)]) (by decide) (by omega)
 go_wp2_with (fail)
 refine (d_down HH7.out).mono ?_
 rintro e wx ⟨rfl,rfl⟩
 obtain ⟨dn,hdn⟩ : ∃ b,b = F.down:=⟨_,rfl⟩
 rw [← hdn]
 have HDN:=hid hdn
 have HSZ : Hid (¬ (size < 16 ∨ 1048576 < size)):=hid (by omega)
 clear hdn h16 h20
 rcases Bool.eq_false_or_eq_true dn with e | e <;> subst e
 ·go_wp2_with (fail)
  refine bodyPost_ret (results_tmp2 rfl _ _ _) rfl ?_
  exact OpnPost.bad HH7.out (fun i e => .inl e) HKW.out (by unfold openS; rw [if_neg (by rw [← HC1.out,← HC2.out]; simp),if_neg HSZ.out,if_pos HDN.out.symm]) (by decide) (by omega)
 have HEQ : Hid (openS F dir size = openM F dir size (manR F dir)):=hid (by unfold openS; rw [if_neg (by rw [← HC1.out,← HC2.out]; simp),if_neg HSZ.out,if_neg (by rw [← HDN.out]; decide)])
 clear HC1 HC2 HSZ HDN
 go_upto_region 8 with (fail)
 clear o0
 go_wp2_with (fail)
 have hns : ¬ S sb:=HP7.out.not HS7.out.blk (by decide) (by decide) (by decide)
 have hnt : ¬ S tb:=by
  obtain ⟨t,ver,⟨root,h1,_⟩,_⟩:=HS7.out.tab
  exact HP7.out.not h1 (by decide) (by decide) (by decide)
 have HN:=hid (And.intro hns hnt)
 clear hns hnt
 refine (st_manifest HH7.out HS7.out rfl rfl rfl (by have:=HC.out.2.1; show dir.size ≤ _; omega) HC.out.2.2 HN.out (by have:=HLO.out; have:=HW.out; show w0.heap.size ≤ sb ∧ w0.heap.size ≤ tb; omega)).mono ?_
 rintro e w8 ⟨hk8,h8⟩
 have hk8' : Keeps (fun i => i = sb ∨ i = tb) w7 w8:=hk8
 have HK8:=hid hk8'
 clear hk8 hk8'
 have HM : Hid (manR F (StC.dir ⟨fb,dir,none,0,false,tb,0⟩) = manR F dir):=hid rfl
 rw [HM.out] at h8
 clear HM
 have HKW8 : Hid (Keeps S w w8):=hid (HKW.out.trans HK8.out fun i hi e => by have:=HLO.out; omega)
 have HH8 : Hid (Hd w0 w8 fb F k S):=hid (HH7.out.keepsOut HK8.out (fun i e => by rcases e with e | e <;> (rw [e]; first | exact HN.out.1 | exact HN.out.2)) (fun i e => by have:=HLO.out; have:=HW.out; omega))
 have HP8 : Hid (PureS S w8):=hid (HP7.out.keeps HH7.out.fs.lt HK8.out (fun i e => by rcases e with e | e <;> (rw [e]; first | exact HN.out.1 | exact HN.out.2)))
 have hobl : ob < w7.heap.size:=lt_of_block HO7.out
 have HO8 : Hid (IsBlk w8 ob #[.int .i64 size] 53):=hid (HK8.out.obj HO7.out (fun e => by
  rcases e with e | e
  ·subst e; exact blk_ne_type HO7.out HS7.out.blk (by decide) rfl
  ·obtain ⟨t,ver,⟨root,h1,_⟩,_⟩:=HS7.out.tab
   subst e; exact blk_ne_type HO7.out h1 (by decide) rfl))
 clear hobl
 rcases h8 with ⟨b,f,q,m,h81,rfl,h83⟩ | ⟨h81,z,rfl⟩
 rotate_left
 ·go_wp2_with (fail)
  refine bodyPost_ret (results_tmp2 rfl _ _ _) rfl ?_
  exact OpnPost.bad HH8.out (fun i e => .inl e) HKW8.out (by rw [HEQ.out,h81]; rfl) (by decide) (by omega)
 have HQ:=hid (manR_small h81)
 have HEQ2 : Hid (openS F dir size = openW dir b f q m (openL F (nmOf dir sLog) size)):=hid (by rw [HEQ.out,h81]; rfl)
 have HS8 : Hid (StB w8 sb ⟨fb,dir,none,((b : Nat) : Int),false,tb,((q : Nat) : Int)⟩ m 400000000):=hid h83
 clear h81 h83 HEQ HS7 HH7 HP7 HO7
 have o0 : w8.cell? ⟨ob,0,none⟩ = some (.int .i64 size):=blk_cell HO8.out 0
 go_upto_region 11 with (fail)
 have HNM : Hid (∀ W,Below w8.heap.size w8 W → Calls Tryz.prog 65 #[.pointer (some ⟨sb,0,none⟩),.string sLog] W fun e w' => e = .returned (.string (nmOf dir sLog)) ∧ W = w'):=hid fun W hW =>
  st_name (c:=⟨fb,dir,none,((b : Nat) : Int),false,tb,((q : Nat) : Int)⟩) (HS8.out.below hW).blk (by have:=HC.out.2.1; show dir.size ≤ _; omega) sLog (by decide)
 obtain ⟨R,hR⟩ : ∃ R,R = openL F (nmOf dir sLog) size:=⟨_,rfl⟩
 have HR:=hid hR
 have HSN : Hid (¬ S ob ∧ ob < w8.heap.size):=hid ⟨fun e => by have:=HH.out.fs.lt _ e; have:=HOBL.out; omega,lt_of_block HO8.out⟩
 have HWO : Hid (∀ W,Below w8.heap.size w8 W → Calls Tryz.prog 68 #[.pointer (some ⟨fb,0,none⟩),.string (nmOf dir sLog),.int .i64 size] W fun e w' => (∃ lv v,e = .returned (.tuple #[lv,v,.int .i64 R.2.2.2]) ∧ w'.cell? ⟨ob,0,none⟩ = some (.int .i64 size) ∧ Hid (OpenAt w0 w8 fb S (k + 3) R lv v w'))):=hid fun W hW => by
  refine (w_openN (HH8.out.read hW) (by have:=HC.out.1; omega) (nmOf dir sLog) (by have:=HNL.out; omega) size).mono ?_
  rintro e w' ⟨lv,v,he,ha⟩
  rw [← HR.out] at he ha
  have hsz:=hW.size
  refine ⟨lv,v,he,?_,hid ⟨?_,fun g hg => by have:=ha.new g hg; omega,fun hr => ?_,fun hr => ?_⟩⟩
  ·have h1 : IsBlk W ob #[.int .i64 size] 53:=(hW.block _ HSN.out.2).trans HO8.out
   exact blk_cell (ha.keeps.obj h1 HSN.out.1) 0
  ·exact ((Keeps.of_below hW).mono (fun _ _ e => e.elim)).trans' ha.keeps
  ·obtain ⟨e1,e2,T,hT,h1⟩:=ha.bad hr
   exact ⟨e1,e2,T,fun i hi => by rcases hT i hi with e | e; exact .inl e; exact .inr (by omega),h1⟩
  ·obtain ⟨lb,e1,e2,T,hT,h1,h2⟩:=ha.good hr
   exact ⟨lb,e1,by omega,T,fun i hi => by rcases hT i hi with e | e; exact .inl e; exact .inr (by omega),h1,h2⟩
 rw [← hR] at HREC HEQ2
 clear hR
 have hb0 : Below w8.heap.size w8 w8.drew:=(Below.refl _ _).drew
 go_region_held3 (fun w' => w'.cell? ⟨ob,0,none⟩ = some (.int .i64 size))
   (first
     | go_keep
     | exact ho)
   (first
     | (go_at_call 65; (with_reducible refine (HNM.out _ ?_).mono ?_); exact hb0; rintro e w2 ⟨rfl,rfl⟩)
     | (go_at_call 68; (with_reducible refine (HWO.out _ ?_).mono ?_); exact hb0; rintro e w9 ⟨lv,v,rfl,ho,HOA⟩))
 clear hb0 ho o0 HWO HNM HR HSN HO8 HOB HOBL
 obtain ⟨G,L,rs,r⟩:=R
 by_cases hr : r = 0
 rotate_left
 ·have hr1 : (r != 0) = true:=by simpa using hr
  obtain ⟨rfl,rfl,T,hT,h9⟩:=HOA.out.bad hr
  have HT:=hid hT
  have H9:=hid h9
  clear hT h9
  go_wp2_with (fail)
  refine bodyPost_ret (results_tmp2 rfl _ _ _) rfl ?_
  exact OpnPost.bad H9.out (fun i e => by rcases HT.out i e with e | e; exact .inl e; exact .inr (Nat.le_trans HKW8.out.size e)) (HKW8.out.trans' HOA.out.keeps) (by rw [HEQ2.out]; unfold openW; rw [if_pos hr]) hr (by omega)
 subst hr
 obtain ⟨lb,rfl,hlb,T,hT,hl9,hx9⟩:=HOA.out.good rfl
 obtain ⟨a,cap,rfl⟩:=hx9.shape2
 have HKW9 : Hid (Keeps S w w9):=hid (HKW8.out.trans' HOA.out.keeps)
 have HS9 : Hid (StB w9 sb ⟨fb,dir,none,((b : Nat) : Int),false,tb,((q : Nat) : Int)⟩ m 400000000):=hid (HS8.out.pure HP8.out HOA.out.keeps)
 have hlt8 : sb < w8.heap.size ∧ tb < w8.heap.size:=HS8.out.lt
 have HTN : Hid (¬ T sb ∧ ¬ T tb ∧ sb < lb ∧ tb < lb ∧ w.heap.size ≤ lb):=hid ⟨fun e => by rcases hT _ e with e | e; exact HN.out.1 e; omega,fun e => by rcases hT _ e with e | e; exact HN.out.2 e; omega,by omega,by omega,by have:=HKW8.out.size; omega⟩
 have HT : Hid (∀ i,T i → S i ∨ w.heap.size ≤ i):=hid fun i hi => by rcases hT i hi with e | e; exact .inl e; exact .inr (by have:=HKW8.out.size; omega)
 have HL9:=hid hl9
 have HX9:=hid hx9
 have hrec : rs.length ≤ 10000000 ∧ (∀ p ∈ rs,p.length ≤ 1000000000) ∧ cntR rs ≤ 200000000 ∧ L.last ≤ 1000 ∧ L.dir.size ≤ 1000:=HREC.out rfl
 have HRC:=hid hrec
 have HEQ3 : Hid (openS F dir size = openP dir b f L G (replayR rs q m)):=hid (by rw [HEQ2.out]; rfl)
 clear hlt8 hlb hT hl9 hx9 HOA HREC hrec HEQ2 HS8 HH8 HP8 HN
 have z2 : w9.frozen? ⟨sb,2,none⟩ = false:=blk_free HS9.out.blk 2
 have s2 : w9.cell? ⟨sb,2,none⟩ = some (.pointer none):=blk_cell HS9.out.blk 2
 go_wp2_with (fail)
 have hset:=HS9.out.setLog (some ⟨lb,0,none⟩)
 obtain ⟨w10,hw10⟩ : ∃ x,x = w9.setCell ⟨sb,2,none⟩ (.pointer (some ⟨lb,0,none⟩)):=⟨_,rfl⟩
 rw [← hw10] at hset ⊢
 have HS10 : Hid (StB w10 sb ⟨fb,dir,some ⟨lb,0,none⟩,((b : Nat) : Int),false,tb,((q : Nat) : Int)⟩ m 400000000):=hid hset.1
 have HK10:=hid hset.2
 have HKW10 : Hid (Keeps S w w10):=hid (HKW9.out.trans hset.2 fun i hi (e : i = sb) => by have:=HLO.out; omega)
 have HL10 : Hid (Lg w0 w10 fb G (k + 3) T lb L):=hid (HL9.out.keepsOut hset.2 (fun i (e : i = sb) => by rw [e]; exact HTN.out.1) (fun i (e : i = sb) => by rw [e]; have:=HTN.out; omega) (fun i (e : i = sb) => by rw [e]; have:=HLO.out; have:=HW.out; omega))
 have HX10 : Hid (LsX T w10 (.slice a rs.length cap) rs):=hid (HX9.out.keeps hset.2 fun i (e : i = sb) => by subst e; exact .inr ⟨_,_,HS9.out.blk,by decide,by decide⟩)
 clear hset hw10 z2 s2 HS9 HL9 HX9 HKW9 HK10
 refine (st_replays HS10.out rfl HQ.out HX10.out (by have:=HRC.out.1; omega) HRC.out.2.1 (by have:=HRC.out.2.2.1; omega)).mono ?_
 rintro e w11 ⟨hk11,h11⟩
 have HK11 : Hid (Keeps (fun i => i = sb ∨ i = tb) w10 w11):=hid hk11
 have HKW11 : Hid (Keeps S w w11):=hid (HKW10.out.trans HK11.out fun i hi e => by have:=HLO.out; omega)
 have HL11 : Hid (Lg w0 w11 fb G (k + 3) T lb L):=hid (HL10.out.keepsOut HK11.out (fun i e => by rcases e with e | e <;> (rw [e]; first | exact HTN.out.1 | exact HTN.out.2.1)) (fun i e => by have:=HTN.out; omega) (fun i e => by have:=HLO.out; have:=HW.out; omega))
 have HLBW : Hid (w.heap.size ≤ lb):=hid HTN.out.2.2.2.2
 clear hk11 HK11 HKW10 HL10 HX10 HS10
 rcases h11 with ⟨q2,m2,h111,rfl,h113⟩ | ⟨h111,rfl⟩
 rotate_left
 ·go_wp2_with (fail)
  refine bodyPost_ret (results_tmp2 rfl _ _ _) rfl ?_
  exact OpnPost.bad HL11.out.hd HT.out HKW11.out (by rw [HEQ3.out,h111]; rfl) (by decide) (by omega)
 have HEQ4 : Hid (openS F dir size = openD dir b q2 m2 (if L.first < f then dropLg L G ((min f L.last : Nat) : Int) else (L,G,0))):=hid (by rw [HEQ3.out,h111]; rfl)
 have HS11 : Hid (StB w11 sb ⟨fb,dir,some ⟨lb,0,none⟩,((b : Nat) : Int),false,tb,((q2 : Nat) : Int)⟩ m2 600000000):=hid (h113.mono (by have:=HRC.out.2.2.1; omega))
 clear h111 h113 HEQ3
 have HPST : Hid (∃ T2,Lg w0 w11 fb G (k + 3) T2 lb L ∧ PureS T2 w11 ∧ ∀ i,T2 i → S i ∨ w.heap.size ≤ i):=hid ⟨_,HL11.out.ps,PS.pure _ _,fun i hi => HT.out i hi.1⟩
 obtain ⟨T2,h12a,h12b,h12c⟩:=HPST.out
 have HL12:=hid h12a
 have HP12:=hid h12b
 have HT2:=hid h12c
 clear h12a h12b h12c HPST HL11 HT HTN
 obtain ⟨zz,hzz⟩ : ∃ z : Int,z = (L.first : Int):=⟨_,rfl⟩
 go_wp2_with (fail)
 refine (w_first HL12.out).mono ?_
 rintro e wx ⟨rfl,rfl⟩
 clear hzz zz
 by_cases hf : L.first < f
 ·have hf1 : decide ((L.first : Int) < (f : Int)) = true:=decide_eq_true (by omega)
  have hf2 : (L.first : Int) < (f : Int):=by omega
  have HEQ5 : Hid (openS F dir size = openD dir b q2 m2 (dropLg L G (min (f : Int) (L.last : Int)))):=hid (by rw [HEQ4.out,if_pos hf,show ((min f L.last : Nat) : Int) = min (f : Int) (L.last : Int) by omega])
  clear hf HEQ4
  go_wp2_with (fail)
  refine (w_segment HL12.out).mono ?_
  rintro e wx ⟨rfl,rfl⟩
  go_wp2_with (fail)
  refine (w_drop HL12.out (by have:=HC.out.1; omega) (by have:=HRC.out.2.2.2.2; omega) HRC.out.2.2.2.1 _).mono ?_
  rintro e w12 ⟨rfl,hp12⟩
  obtain ⟨DD,hDD⟩ : ∃ D,D = dropLg L G (min (f : Int) (L.last : Int)):=⟨_,rfl⟩
  rw [← hDD] at hp12 HEQ5 ⊢
  have HLG:=hid hp12.lg
  have hkl:=hp12.keeps
  have HKW12 : Hid (Keeps S w w12):=hid (HKW11.out.trans hkl fun i hi e => by
   rcases e with e | e
   ·rcases HT2.out i e with e | e; exact e; omega
   ·have:=HLBW.out; omega)
  have HT3 : Hid (∀ i,New w11 w12 T2 i → S i ∨ w.heap.size ≤ i):=hid fun i hi => by
   rcases hi with e | e
   ·exact HT2.out i e
   ·exact .inr (Nat.le_trans HKW11.out.size e.1)
  have HS12 : Hid (StB w12 sb ⟨fb,dir,some ⟨lb,0,none⟩,((b : Nat) : Int),false,tb,((q2 : Nat) : Int)⟩ m2 600000000):=hid (HS11.out.keepsOut hkl fun i hi cs T hT => by
   rcases hi with e | e
   ·rcases HP12.out i e cs T hT with rfl | rfl | rfl <;> decide
   ·subst e
    have h1:=blk_type hT HL12.out.log.blk
    subst h1; decide)
  clear hp12 hkl hDD HL12 HP12 HT2 HS11
  by_cases hr : DD.2.2 = 0
  rotate_left
  ·have hr1 : (DD.2.2 != 0) = true:=by simp [hr]
   go_wp2_with (fail)
   refine bodyPost_ret (results_tmp2 rfl _ _ _) rfl ?_
   exact OpnPost.bad HLG.out.hd HT3.out HKW12.out (by rw [HEQ5.out]; unfold openD; rw [if_pos hr]) hr (by omega)
  have hr1 : (DD.2.2 != 0) = false:=by simp [hr]
  have hps:=HLG.out.ps
  have HL13:=hid hps
  have HP13:=hid (PS.pure (New w11 w12 T2) w12)
  have HT4 : Hid (∀ i,PS (New w11 w12 T2) w12 i → S i ∨ w.heap.size ≤ i):=hid fun i hi => HT3.out i hi.1
  have HEQ6 : Hid (openS F dir size = openC dir b q2 m2 DD.1 (cleanR dir b (namesL (dirOf dir) DD.2.1.files) DD.2.1)):=hid (by rw [HEQ5.out]; unfold openD; rw [if_neg (by omega)])
  clear hps HLG HT3 HEQ5
  go_wp2_with (fail)
  refine (st_clean HL13.out.hd HP13.out HS12.out rfl rfl (by have:=HC.out.2.1; show dir.size ≤ _; omega) (by have:=HC.out.1; omega)).mono ?_
  rintro e w13 ⟨rfl,hc12⟩
  clear hr hr1
  obtain ⟨D,hD⟩ : ∃ D,D = cleanR dir b (namesL (dirOf dir) DD.2.1.files) DD.2.1:=⟨_,rfl⟩
  have hD2 : cleanR (StC.dir ⟨fb,dir,some ⟨lb,0,none⟩,((b : Nat) : Int),false,tb,((q2 : Nat) : Int)⟩) b (namesL (dirOf (StC.dir ⟨fb,dir,some ⟨lb,0,none⟩,((b : Nat) : Int),false,tb,((q2 : Nat) : Int)⟩)) DD.2.1.files) DD.2.1 = D:=hD.symm
  rw [hD2] at hc12 ⊢
  rw [← hD] at HEQ6
  have HFIN:=hid (OpnPost.last (k:=k + 1500) HL13.out HT4.out HKW12.out HLBW.out ⟨HLO.out.2.2,HLO.out.1⟩ HW.out HEQ6.out hc12 (by omega))
  clear hD hD2 hc12
  by_cases hr : D.2 = 0
  ·have hr1 : (D.2 != 0) = false:=by simp [hr]
   go_wp2_with (fail)
   refine bodyPost_ret (results_tmp2 rfl _ _ _) rfl ?_
   exact HFIN.out.2 hr
  ·have hr1 : (D.2 != 0) = true:=by simp [hr]
   go_wp2_with (fail)
   refine bodyPost_ret (results_tmp2 rfl _ _ _) rfl ?_
   exact HFIN.out.1 hr
 ·have hf1 : decide ((L.first : Int) < (f : Int)) = false:=decide_eq_false (by omega)
  have hf2 : ¬ (L.first : Int) < (f : Int):=by omega
  have HEQ5 : Hid (openS F dir size = openC dir b q2 m2 L (cleanR dir b (namesL (dirOf dir) G.files) G)):=hid (by rw [HEQ4.out,if_neg hf]; rfl)
  clear hf HEQ4
  go_wp2_with (fail)
  refine (st_clean HL12.out.hd HP12.out HS11.out rfl rfl (by have:=HC.out.2.1; show dir.size ≤ _; omega) (by have:=HC.out.1; omega)).mono ?_
  rintro e w12 ⟨rfl,hc12⟩
  obtain ⟨D,hD⟩ : ∃ D,D = cleanR dir b (namesL (dirOf dir) G.files) G:=⟨_,rfl⟩
  have hD2 : cleanR (StC.dir ⟨fb,dir,some ⟨lb,0,none⟩,((b : Nat) : Int),false,tb,((q2 : Nat) : Int)⟩) b (namesL (dirOf (StC.dir ⟨fb,dir,some ⟨lb,0,none⟩,((b : Nat) : Int),false,tb,((q2 : Nat) : Int)⟩)) G.files) G = D:=hD.symm
  rw [hD2] at hc12 ⊢
  rw [← hD] at HEQ5
  have HFIN:=hid (OpnPost.last (k:=k + 1500) HL12.out HT2.out HKW11.out HLBW.out ⟨HLO.out.2.2,HLO.out.1⟩ HW.out HEQ5.out hc12 (by omega))
  clear hD hD2 hc12
  by_cases hr : D.2 = 0
  ·have hr1 : (D.2 != 0) = false:=by simp [hr]
   go_wp2_with (fail)
   refine bodyPost_ret (results_tmp2 rfl _ _ _) rfl ?_
   exact HFIN.out.2 hr
  ·have hr1 : (D.2 != 0) = true:=by simp [hr]
   go_wp2_with (fail)
   refine bodyPost_ret (results_tmp2 rfl _ _ _) rfl ?_
   exact HFIN.out.1 hr
end
end Go.Proofs.YtagdchgkjjpacaaGreat
