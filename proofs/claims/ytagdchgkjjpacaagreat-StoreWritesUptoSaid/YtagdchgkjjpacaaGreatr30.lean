/- A checkpoint read, plain; records in memory. -/
import Derived.Test.YtagdchgkjjpacaaGreatr29
set_option maxRecDepth 100000
open Go.Lib (hid)
set_option linter.unusedSimpArgs false
set_option linter.unusedVariables false
set_option linter.unusedSectionVars false
namespace Go.Proofs.YtagdchgkjjpacaaGreat
open Go.RowKit Go.Shelf
theorem doAll_append : ∀ (a b : List (List UInt8)) (m : Prs),doAll (a ++ b) m = match doAll a m with | none => none | some m' => doAll b m'
 | [],b,m => rfl
 | p :: a,b,m => by
   simp only [List.cons_append,doAll]
   cases decB p with
   | none => rfl
   | some x => obtain ⟨s,l⟩:=x; exact doAll_append a b _
theorem doAll_fit : ∀ (rs : List (List UInt8)) (m m' : Prs),doAll rs m = some m' → PrsOk m → PrsOk m' ∧ m'.length ≤ m.length + cntR rs ∧ wgt m' ≤ wgt m + endOf rs
 | [],m,m',h,hm => by
   simp only [doAll,Option.some.injEq] at h
   subst h
   exact ⟨hm,by omega,by omega⟩
 | p :: rs,m,m',h,hm => by
   unfold doAll at h
   cases hd : decB p with
   | none => rw [hd] at h; cases h
   | some x =>
     obtain ⟨s,l⟩:=x
     rw [hd] at h
     simp only at h
     obtain ⟨h1,-,-,h4,h5,-⟩:=decB_some hd
     have h7:=chkB_ok h4
     have h8:=applyB_fit l m
     obtain ⟨i1,i2,i3⟩:=doAll_fit rs _ m' h (PrsOk.applyB l hm h7.2)
     rw [cntR_cons,endOf_cons,hd]
     simp only
     have h9 : (l.flatMap chgB).length ≤ p.length:=by rw [h1,batB_len]; omega
     exact ⟨i1,by omega,by omega⟩
def loadF (F : FsS) (dir : ByteArray) (b : Nat) : Option (Nat × Prs):=match F.find (baseNm dir b) with
 | none => none
 | some y => loadB y.data
theorem loadB_cases {b : List UInt8} {r : List UInt8} {rs : List (List UInt8)} (h : scanOf b = r :: rs) (he : endOf (scanOf b) = b.length) (h2 : 1 ≤ rs.length) (hr : r.length = 8) (hq : numOf r < 9223372036854775808) :
 loadB b = match doAll rs.dropLast [] with
  | none => none
  | some m => if b = imgB (numOf r) m then some (numOf r,m) else none:=by
 unfold loadB
 rw [if_neg (by rw [h] at he ⊢; simp only [List.length_cons]; omega),h]
 simp only
 rw [if_neg (by omega)]
 cases doAll rs.dropLast [] <;> rfl
section
variable {w w' : World} {B : Nat} {v : Value} {rs : List (List UInt8)}
theorem LsAt.row {a : Option Addr} {n cap : Nat} (h : LsAt B w (.slice a n cap) rs) {i : Nat} {r : List UInt8} (hr : rs[i]? = some r) :
 ∃ (g off : Nat) (ra : Option Addr) (rc : Nat),a = some ⟨g,off,none⟩ ∧ w.cell? ⟨g,off + i,none⟩ = some (.slice ra r.length rc) ∧ SlAt byteKind 5 w (.slice ra r.length rc) r:=by
 obtain ⟨ss,h1,h2,-⟩:=h.ex
 obtain ⟨hl,hh⟩:=h2
 have hi : i < ss.length:=by have:=(List.getElem?_eq_some_iff.1 hr).1; omega
 obtain ⟨s,hs⟩ : ∃ s,ss[i]? = some s:=⟨_,List.getElem?_eq_getElem hi⟩
 have h3:=hh i s r hs hr
 obtain ⟨ra,rc,e⟩:=h3.shape
 obtain ⟨g,off,ea,hc⟩:=sl_cell h1.rd hs
 exact ⟨g,off,ra,rc,ea,by rw [hc]; exact congrArg some e,by rw [← e]; exact h3⟩
end
def LoadPost (w : World) (sb : Nat) (c : StC) (o : Option (Nat × Prs)) (e : Ending) (w' : World) : Prop :=
 Keeps (fun i => i = sb ∨ i = c.tb) w w' ∧ ((∃ q m,o = some (q,m) ∧ (∃ v,e = .returned v) ∧ StB w' sb { c with seq:=(q : Int) } m 400000000) ∨ (o = none ∧ e = spoiltE))
structure LdI (w1 : World) (sb : Nat) (c : StC) (B : Nat) (lv : Value) (rs : List (List UInt8)) (i : Nat) (wr : World) : Prop where
 ex : ∃ m,doAll ((rs.drop 1).take i) [] = some m ∧ StB wr sb c m (cntR ((rs.drop 1).take i))
 keeps : Keeps (Only c.tb) w1 wr
 ls : LsAt B wr lv rs
theorem cntR_take (rs : List (List UInt8)) (i : Nat) : cntR ((rs.drop 1).take i) ≤ cntR rs:=by
 have h1 : cntR rs = cntR (rs.take 1) + cntR (rs.drop 1):=by rw [← cntR_append,List.take_append_drop]
 have h2 : cntR (rs.drop 1) = cntR ((rs.drop 1).take i) + cntR ((rs.drop 1).drop i):=by rw [← cntR_append,List.take_append_drop]
 omega
theorem doAll_next {rs : List (List UInt8)} {i : Nat} {p : List UInt8} (hp : rs[i]? = some p) (m : Prs) : doAll (rs.take (i + 1)) m = match doAll (rs.take i) m with
 | none => none
 | some m' => match decB p with
   | none => none
   | some (_,l) => some (applyB m' l):=by
 rw [List.take_add_one,hp]
 simp only [Option.toList_some]
 rw [doAll_append]
 cases doAll (rs.take i) m with
 | none => rfl
 | some m' =>
   simp only [doAll]
   cases decB p <;> rfl
theorem doAll_none {rs : List (List UInt8)} {i : Nat} {m : Prs} (h : doAll (rs.take i) m = none) : doAll rs m = none:=by
 have e:=List.take_append_drop i rs
 rw [← e,doAll_append,h]
theorem drop1_dropLast (rs : List (List UInt8)) (i : Nat) {p : List UInt8} (hi : i + 2 < rs.length) (hp : rs[i + 1]? = some p) : (rs.drop 1).dropLast[i]? = some p ∧ (rs.drop 1).dropLast.take i = (rs.drop 1).take i ∧ (rs.drop 1).dropLast.take (i + 1) = (rs.drop 1).take (i + 1):=by
 have h1 : (rs.drop 1).dropLast = (rs.drop 1).take (rs.length - 2):=by rw [List.dropLast_eq_take,List.length_drop]; congr 1
 rw [h1]
 refine ⟨?_,?_,?_⟩
 ·rw [List.getElem?_take_of_lt (by omega),List.getElem?_drop,Nat.add_comm]; exact hp
 ·rw [List.take_take]; congr 1; omega
 ·rw [List.take_take]; congr 1; omega
theorem StB.setSeq {w : World} {sb : Nat} {c : StC} {m : Prs} {n : Nat} (h : StB w sb c m n) (z : Int) : StB (w.setCell ⟨sb,12,none⟩ (.int .i64 z)) sb { c with seq:=z } m n ∧ Keeps (Only sb) w (w.setCell ⟨sb,12,none⟩ (.int .i64 z)):=by
 have hk : Keeps (Only sb) w (w.setCell ⟨sb,12,none⟩ (.int .i64 z)):=(Keeps.refl (Only sb) w).setCell (p:=⟨sb,12,none⟩) (fun _ => rfl) _
 obtain ⟨t,ver,h1,h2,h3⟩:=h.tab
 refine ⟨⟨blk_set h.blk 12 _,⟨t,ver,h1.keeps hk (fun e => h.ne e.symm) (fun b cs hb e => ?_),h2,h3⟩,h.rise,h.len⟩,hk⟩
 have e : b = sb:=e
 subst e
 exact blk_ne_type hb h.blk (by decide) rfl
section
variable {w0 w : World} {fb k : Nat} {F : FsS} {S : Nat → Prop} {sb : Nat} {c : StC}
theorem d_readF (h : Hd w0 w fb F k S) (n : ByteArray) : ∀ W,Below w.heap.size w W → Calls Tryz.prog 30 #[.pointer (some ⟨fb,0,none⟩),.string n] W fun e w' => Below w.heap.size w w' ∧
 ((∃ x a cap,F.find n = some x ∧ e = .returned (.tuple #[.slice a x.data.length cap,.int .i64 0]) ∧ FreshAt W w' (.slice a x.data.length cap) x.data) ∨ (F.find n = none ∧ e = .returned (.tuple #[.slice none 0 0,.int .i64 2]))):=fun W hW => by
 have h1:=h.read hW
 cases hx : F.find n with
 | none => exact (d_read_none h1 hx).mono fun e w' ⟨he,hw⟩ => ⟨by rw [← hw]; exact hW,.inr ⟨rfl,he⟩⟩
 | some x => exact (d_read h1 hx).mono fun e w' ⟨a,cap,he,hf,_⟩ => ⟨hW.trans (hf.below.mono hW.size),.inl ⟨x,a,cap,rfl,he,hf⟩⟩
set_option maxHeartbeats 8000000 in
theorem st_load (h : Hd w0 w fb F k S) (hs : StB w sb c [] 0) (hfb : c.fb = fb) {b : Nat} (hb : c.base = (b : Int)) (hb8 : b < 100000000) (hdir : c.dir.size ≤ 1000) (hcnt : ∀ y,F.find (baseNm c.dir b) = some y → cntR (scanOf y.data) ≤ 400000000) :
 Calls Tryz.prog 107 #[.pointer (some ⟨sb,0,none⟩)] w (LoadPost w sb c (loadF F c.dir b)):=by
 have s0 : w.cell? ⟨sb,0,none⟩ = some (.pointer (some ⟨fb,0,none⟩)):=by rw [← hfb]; exact blk_cell hs.blk 0
 have s3 : w.cell? ⟨sb,3,none⟩ = some (.int .i64 (b : Int)):=by rw [← hb]; exact blk_cell hs.blk 3
 have HS:=hid hs
 have HH:=hid h
 have HCN:=hid hcnt
 have HBN : Hid (∀ W,Below w.heap.size w W → Calls Tryz.prog 66 #[.pointer (some ⟨sb,0,none⟩),.int .i64 (b : Int)] W fun e w' => e = .returned (.string (baseNm c.dir b)) ∧ Hid (Below w.heap.size w w')):=hid fun W hW =>
  (st_baseName (hs.blk.below hW) (by omega) b hb8 _ rfl).mono fun e w' ⟨he,hb⟩ => ⟨he,hid (hW.trans (hb.mono hW.size))⟩
 obtain ⟨nm,hnm⟩ : ∃ nm,nm = baseNm c.dir b:=⟨_,rfl⟩
 have HNM:=hid hnm
 have HLF : Hid (loadF F c.dir b = match F.find nm with
  | none => none
  | some y => loadB y.data):=hid (by rw [hnm]; rfl)
 have HLN : Hid (∀ y,F.find nm = some y → y.data.length ≤ 67108864):=hid fun y hy => by have:=(h.ok.len hy).1; omega
 rw [← hnm] at HBN HCN
 have HFR:=hid (d_readF h nm)
 clear h hs hfb hb hcnt hnm
 cases hx : F.find nm with
 | none =>
   have HFR2 : Hid (∀ W,Below w.heap.size w W → Calls Tryz.prog 30 #[.pointer (some ⟨fb,0,none⟩),.string nm] W fun e w' => e = .returned (.tuple #[.slice none 0 0,.int .i64 2]) ∧ Hid (Below w.heap.size w w')):=hid fun W hW => (HFR.out W hW).mono fun e w' ⟨hb,hh⟩ => by
    rcases hh with ⟨x,_,_,e1,_⟩ | ⟨_,e1⟩
    ·rw [hx] at e1; cases e1
    ·exact ⟨e1,hid hb⟩
   have HNO : Hid (loadF F c.dir b = none):=hid (by rw [HLF.out,hx])
   have hb0 : Below w.heap.size w w.drew:=(Below.refl _ _).drew
   clear hx
   go_enter Tryz.func107,Tryz.ntmps107
   go_upto_region 0 with (fail)
   go_region_held3 (fun w' => w'.cell? ⟨sb,0,none⟩ = some (.pointer (some ⟨fb,0,none⟩)) ∧ w'.cell? ⟨sb,3,none⟩ = some (.int .i64 (b : Int)))
     (first
       | go_keep
       | exact ⟨(HB2.out.cell (p:=⟨sb,0,none⟩) HS.out.lt.1).trans s0,(HB2.out.cell (p:=⟨sb,3,none⟩) HS.out.lt.1).trans s3⟩
       | exact ⟨(HB1.out.cell (p:=⟨sb,0,none⟩) HS.out.lt.1).trans s0,(HB1.out.cell (p:=⟨sb,3,none⟩) HS.out.lt.1).trans s3⟩)
     (first
       | (go_at_call 66; (with_reducible refine (HBN.out _ ?_).mono ?_); exact hb0; rintro e w1 ⟨rfl,HB1⟩)
       | (go_at_call 30; (with_reducible refine (HFR2.out _ HB1.out).mono ?_); rintro e w2 ⟨rfl,HB2⟩))
   go_wp2_with (fail)
   refine st_leave rfl ?_
   exact ⟨(Keeps.of_below HB2.out).mono fun _ _ e => e.elim,.inr ⟨HNO.out,rfl⟩⟩
 | some y =>
   have HFR2 : Hid (∀ W,Below w.heap.size w W → Calls Tryz.prog 30 #[.pointer (some ⟨fb,0,none⟩),.string nm] W fun e w' => ∃ a cap,e = .returned (.tuple #[.slice a y.data.length cap,.int .i64 0]) ∧ Hid (Below w.heap.size w w' ∧ SlAt byteKind 5 w' (.slice a y.data.length cap) y.data ∧ ∀ g,(Value.slice a y.data.length cap).ownBlock = some g → w.heap.size ≤ g)):=hid fun W hW => (HFR.out W hW).mono fun e w' ⟨hb,hh⟩ => by
    rcases hh with ⟨x,a,cap,e1,e2,hf⟩ | ⟨e1,_⟩
    ·rw [hx] at e1
     obtain rfl:=Option.some.inj e1
     exact ⟨a,cap,e2,hid ⟨hb,hf.sl,fun g hg => Nat.le_trans hW.size (hf.new g hg)⟩⟩
    ·rw [hx] at e1; cases e1
   have hl:=HLN.out y hx
   have hcn:=HCN.out y hx
   have HLB : Hid (loadF F c.dir b = loadB y.data):=hid (by rw [HLF.out,hx])
   have hb0 : Below w.heap.size w w.drew:=(Below.refl _ _).drew
   obtain ⟨Y,hY⟩ : ∃ Y,Y = y.data:=⟨_,rfl⟩
   rw [← hY] at HFR2 hl hcn HLB
   have HL:=hid hl
   have HCNT:=hid hcn
   clear hx hY hl hcn HLF HCN HLN HFR
   go_enter Tryz.func107,Tryz.ntmps107
   go_upto_region 0 with (fail)
   go_region_held3 (fun w' => w'.cell? ⟨sb,0,none⟩ = some (.pointer (some ⟨fb,0,none⟩)) ∧ w'.cell? ⟨sb,3,none⟩ = some (.int .i64 (b : Int)))
     (first
       | go_keep
       | exact ⟨(HB2.out.1.cell (p:=⟨sb,0,none⟩) HS.out.lt.1).trans s0,(HB2.out.1.cell (p:=⟨sb,3,none⟩) HS.out.lt.1).trans s3⟩
       | exact ⟨(HB1.out.cell (p:=⟨sb,0,none⟩) HS.out.lt.1).trans s0,(HB1.out.cell (p:=⟨sb,3,none⟩) HS.out.lt.1).trans s3⟩)
     (first
       | (go_at_call 66; (with_reducible refine (HBN.out _ ?_).mono ?_); exact hb0; rintro e w1 ⟨rfl,HB1⟩)
       | (go_at_call 30; (with_reducible refine (HFR2.out _ HB1.out).mono ?_); rintro e w2 ⟨ya,yc,rfl,HB2⟩))
   have hrm:=HB2.out.2.1.room
   have HFM:=hid (st_framed HB2.out.2.1.rd (by have:=HL.out; omega) hrm.1 hrm.2.1)
   clear hrm s0 s3
   go_wp2_with (fail)
   refine HFM.out.mono ?_
   rintro e w3 ⟨hb3,⟨hend,va,vc,rfl,hls⟩ | ⟨hend,rfl⟩⟩
   rotate_left
   ·have HNO : Hid (loadF F c.dir b = none):=hid (by rw [HLB.out]; unfold loadB; rw [if_pos (.inl hend)])
    refine st_leave rfl ?_
    exact ⟨((Keeps.of_below (HB2.out.1.trans (hb3.mono HB2.out.1.size))).mono fun _ _ e => e.elim),.inr ⟨HNO.out,rfl⟩⟩
   have HB3 : Hid (Below w.heap.size w w3):=hid (HB2.out.1.trans (hb3.mono HB2.out.1.size))
   have HY3 : Hid (SlAt byteKind 5 w3 (.slice ya Y.length yc) Y):=hid (HB2.out.2.1.below hb3)
   have HYN : Hid (∀ g,(Value.slice ya Y.length yc).ownBlock = some g → w.heap.size ≤ g ∧ g < w3.heap.size):=hid fun g hg => by
    obtain ⟨cs,hc⟩:=HY3.out.own g hg
    exact ⟨HB2.out.2.2 g hg,lt_of_block hc⟩
   have HEND:=hid hend
   obtain ⟨rs,hrs⟩ : ∃ rs,rs = scanOf Y:=⟨_,rfl⟩
   rw [← hrs] at hls HCNT
   have HRS:=hid hrs
   have HLS : Hid (LsAt w.heap.size w3 (.slice va rs.length vc) rs):=hid (hls.mono HB2.out.1.size)
   have HRN : Hid (rs.length ≤ 10000000):=hid (by
    have h1:=scan_end Y
    have h2:=endOf_len rs
    have h3:=HL.out
    rw [← hrs] at h1
    omega)
   have hrnI : (rs.length : Int) ≤ 10000000:=by have:=HRN.out; omega
   have HSM : Hid (∀ p ∈ rs,p.length ≤ 1048576):=hid (by rw [hrs]; exact scan_small Y)
   rw [← hrs]
   clear hend hls hrs hb3 HFM HB2 HB1
   by_cases hl2 : rs.length < 2
   ·have t1 : (rs.length : Int) < 2:=by omega
    have t2 : decide ((rs.length : Int) < 2) = true:=by simp; omega
    have HNO : Hid (loadF F c.dir b = none):=hid (by rw [HLB.out]; unfold loadB; rw [if_pos (.inr (by rw [← HRS.out]; exact hl2))])
    clear hl2
    go_wp2_with (fail)
    refine st_leave rfl ?_
    exact ⟨(Keeps.of_below HB3.out).mono fun _ _ e => e.elim,.inr ⟨HNO.out,rfl⟩⟩
   have t1 : ¬ (rs.length : Int) < 2:=by omega
   have t2 : decide ((rs.length : Int) < 2) = false:=by simp; omega
   have HL2 : Hid (2 ≤ rs.length):=hid (by omega)
   obtain ⟨r,hr⟩ : ∃ r,rs[0]? = some r:=⟨_,List.getElem?_eq_getElem (by omega)⟩
   have HR0:=hid hr
   obtain ⟨g,off,ra,rc,rfl,hc0,hsr⟩:=HLS.out.row hr
   rw [Nat.add_zero] at hc0
   have HSR:=hid hsr
   have hi0 : (0 : Int) < (rs.length : Int):=by omega
   have HSC : Hid (∃ rr,scanOf Y = r :: rr ∧ rr = rs.drop 1):=hid ⟨rs.drop 1,by
    rw [← HRS.out]
    cases rs with
    | nil => cases hr
    | cons x xs => simp at hr; rw [hr]; rfl,rfl⟩
   clear hl2 hr hsr
   by_cases h8 : r.length = 8
   rotate_left
   ·have t3 : ((r.length : Int) != 8) = true:=by rw [bne_iff_ne]; omega
    have HNO : Hid (loadF F c.dir b = none):=hid (by
     obtain ⟨rr,h1,-⟩:=HSC.out
     rw [HLB.out]; unfold loadB
     split
     ·rfl
     ·rw [h1]
      simp only
      rw [if_pos (.inl h8)])
    clear h8
    go_wp2_with (fail)
    refine st_leave rfl ?_
    exact ⟨(Keeps.of_below HB3.out).mono fun _ _ e => e.elim,.inr ⟨HNO.out,rfl⟩⟩
   have t3 : ((r.length : Int) != 8) = false:=by simp; omega
   have HR8:=hid h8
   have HSV:=hid (fun W (hW : Below w3.heap.size w3 W) => st_value (w:=W) (HSR.out.rd.below hW) (by omega))
   have h64 : numOf r < 18446744073709551616:=by
    have h1:=numOf_lt r
    rw [h8] at h1
    omega
   obtain ⟨z,hz⟩ : ∃ z : Int,z = wrap64 (numOf r : Int):=⟨_,rfl⟩
   rw [← hz] at HSV
   have HZ : Hid ((z < 0 ↔ 9223372036854775808 ≤ numOf r) ∧ (0 ≤ z → z = (numOf r : Int))):=hid (by rw [hz]; unfold wrap64; omega)
   clear h8 h64 hz
   go_wp2_with (fail)
   refine (HSV.out w3 (Below.refl _ _)).mono ?_
   rintro e w4 ⟨rfl,rfl⟩
   by_cases hz0 : z < 0
   ·have t4 : decide (z < 0) = true:=by simp; omega
    have HNO : Hid (loadF F c.dir b = none):=hid (by
     obtain ⟨rr,h1,-⟩:=HSC.out
     rw [HLB.out]; unfold loadB
     split
     ·rfl
     ·rw [h1]
      simp only
      rw [if_pos (.inr (HZ.out.1.1 hz0))])
    clear hz0
    go_wp2_with (fail)
    refine st_leave rfl ?_
    exact ⟨(Keeps.of_below HB3.out).mono fun _ _ e => e.elim,.inr ⟨HNO.out,rfl⟩⟩
   have t4 : decide (z < 0) = false:=by simp; omega
   have HQZ : Hid (z = (numOf r : Int) ∧ numOf r < 9223372036854775808):=hid ⟨HZ.out.2 (by omega),by have:=HZ.out.1; omega⟩
   clear hz0
   go_wp2_with (fail)
   refine (HSV.out w3 (Below.refl _ _)).mono ?_
   rintro e w4 ⟨rfl,rfl⟩
   have hst3:=HS.out.below HB3.out
   have c12 : w3.cell? ⟨sb,12,none⟩ = some (.int .i64 c.seq):=blk_cell hst3.blk 12
   have z12 : w3.frozen? ⟨sb,12,none⟩ = false:=blk_free hst3.blk 12
   have hset:=hst3.setSeq z
   have HS4:=hid hset.1
   have HK4:=hid hset.2
   have HTB : Hid (c.tb < w.heap.size ∧ sb < w.heap.size):=hid ⟨HS.out.lt.2,HS.out.lt.1⟩
   have HLS4 : Hid (LsAt w.heap.size (w3.setCell ⟨sb,12,none⟩ (.int .i64 z)) (.slice (some ⟨g,off,none⟩) rs.length vc) rs):=hid (HLS.out.keeps hset.2 (fun i e => by have e : i = sb:=e; have:=HTB.out; omega))
   have HKW : Hid (Keeps (fun i => i = sb ∨ i = c.tb) w (w3.setCell ⟨sb,12,none⟩ (.int .i64 z))):=hid (((Keeps.of_below HB3.out).mono fun _ _ e => e.elim).trans' (hset.2.mono fun _ _ e => .inl e))
   have HYK : Hid (SlAt byteKind 5 (w3.setCell ⟨sb,12,none⟩ (.int .i64 z)) (.slice ya Y.length yc) Y):=hid (HY3.out.keeps hset.2 (fun g hg e => by have e : g = sb:=e; have:=HYN.out g hg; have:=HTB.out; omega))
   clear hst3 hset
   go_upto_region 7 with (fail)
   clear c12 z12 hc0
   generalize w3.setCell ⟨sb,12,none⟩ (.int .i64 z) = w4 at HS4 HK4 HLS4 HKW HYK ⊢
   have hv1 : (1 : Int) ≤ (rs.length : Int) - 1:=by omega
   have hcv : rs.length ≤ vc ∧ vc ≤ 9223372036854775807:=by
    obtain ⟨ss,h1,h2,-⟩:=HLS4.out.ex
    rcases h1 with ⟨e1,-⟩ | ⟨g',off',cap',cur,e1,hbb,hcc,hmx,-⟩
    ·cases e1
    ·simp only [Value.slice.injEq] at e1
     obtain ⟨-,e2,e3⟩:=e1
     unfold maxLen at hmx
     omega
   have hv2 : (rs.length : Int) - 1 ≤ (vc : Int):=by omega
   have hv3 : (rs.length : Int) ≤ (vc : Int):=by omega
   have hv4 : (vc : Int) ≤ 9223372036854775807:=by omega
   clear hcv
   go_wp2_with (fail)
   clear hv1 hv2 hv3 hv4
   have HI0 : Hid (LdI w4 sb { c with seq:=z } w.heap.size (.slice (some ⟨g,off,none⟩) rs.length vc) rs 0 w4):=hid ⟨⟨[],rfl,HS4.out⟩,Keeps.refl _ _,HLS4.out⟩
   go_loopw [62] (fun iv wr => ∃ i : Nat,i ≤ rs.length - 1 - 1 ∧ iv = .int .i64 (i : Int) ∧ Hid (LdI w4 sb { c with seq:=z } w.heap.size (.slice (some ⟨g,off,none⟩) rs.length vc) rs i wr)) (fun iv _ => (rs.length - 1 - 1) - (intOf iv).toNat)
   case atStart => exact ⟨0,Nat.zero_le _,rfl,HI0⟩
   case round =>
    obtain ⟨i,hi,rfl,HI⟩:=hrel
    obtain ⟨m,hdo,hstm⟩:=HI.out.ex
    have HDO:=hid hdo
    have HSTM:=hid hstm
    have HKR : Hid (Keeps (fun i => i = sb ∨ i = c.tb) w wr):=hid (HKW.out.trans' (HI.out.keeps.mono fun _ _ e => .inr e))
    have HZW : Hid (w.heap.size ≤ wr.heap.size):=hid HKR.out.size
    clear hdo hstm
    by_cases hlt : i < rs.length - 1 - 1
    ·have q1 : (0 : Int) ≤ (i : Int):=by omega
     have q2 : (i : Int) < ((rs.length - 1 - 1 : Nat) : Int):=by omega
     obtain ⟨p,hp⟩ : ∃ p,rs[i + 1]? = some p:=⟨_,List.getElem?_eq_getElem (by omega)⟩
     obtain ⟨g',off',pa,pc,eg,hcell,hsl⟩:=HI.out.ls.row hp
     simp only [Option.some.injEq,Addr.mk.injEq] at eg
     obtain ⟨rfl,rfl,-⟩:=eg
     have d0 : wr.cell? ⟨g,off + 1 + i,none⟩ = some (.slice pa p.length pc):=by rw [show off + 1 + i = off + (i + 1) by omega]; exact hcell
     have HPL : Hid (p.length ≤ 1048576):=hid (HSM.out p (List.mem_of_getElem? hp))
     have hrm:=hsl.room
     have HDC:=hid (st_decode (w:=wr) hsl.rd (by have:=HPL.out; omega) ⟨hrm.1,hrm.2.1⟩ (fun b hb => by
      rcases hsl with ⟨e,-⟩ | ⟨g2,o2,c2,cur2,e,hbk,-⟩
      ·simp only [Value.slice.injEq] at e; rw [e.1] at hb; cases hb
      ·simp only [Value.slice.injEq] at e; rw [e.1] at hb; cases hb
       exact ⟨rfl,lt_of_block hbk⟩))
     obtain ⟨x1,x2,x3⟩:=drop1_dropLast rs i (by omega) hp
     have HX : Hid ((rs.drop 1)[i]? = some p):=hid (by rw [List.getElem?_drop,Nat.add_comm]; exact hp)
     have HX2:=hid (And.intro x1 (And.intro x2 x3))
     have HLT:=hid hlt
     clear hp hcell hrm hsl x1 x2 x3 hlt hi
     cases hd : decB p with
     | none =>
       have HE : Hid (decR p = (0,[],10)):=hid (by unfold decR; rw [hd])
       have HNO : Hid (loadF F c.dir b = none):=hid (by
        obtain ⟨rr,h1,h2⟩:=HSC.out
        rw [HLB.out,loadB_cases h1 HEND.out (by rw [h2,List.length_drop]; have:=HL2.out; omega) HR8.out HQZ.out.2,h2]
        have h3:=doAll_next HX2.out.1 []
        rw [HX2.out.2.1,HDO.out,hd] at h3
        rw [doAll_none h3])
       rw [HE.out] at HDC
       clear hd
       go_wp2_with (fail)
       refine HDC.out.mono ?_
       rintro e w5 ⟨lv,rfl,HD⟩
       obtain ⟨la,lc,rfl⟩:=HD.out.1.shape
       go_wp2_with (fail)
       refine st_leave rfl ?_
       exact ⟨HKR.out.trans' ((Keeps.of_below HD.out.2.2).mono fun _ _ e => e.elim),.inr ⟨HNO.out,rfl⟩⟩
     | some sl =>
       obtain ⟨s,l⟩:=sl
       have HE : Hid (decR p = ((s : Int),l,0)):=hid (by unfold decR; rw [hd])
       have HLL : Hid (l.length ≤ 500):=hid (chkB_ok (decB_some hd).2.2.2.1).1
       have HNX : Hid (doAll ((rs.drop 1).take (i + 1)) [] = some (applyB m l) ∧ cntR ((rs.drop 1).take (i + 1)) = cntR ((rs.drop 1).take i) + l.length):=hid (by
        have h3:=doAll_next HX.out []
        rw [HDO.out,hd] at h3
        refine ⟨h3,?_⟩
        rw [List.take_add_one,HX.out,cntR_append]
        congr 1
        simp only [Option.toList_some]
        rw [cntR_cons,hd]
        simp [cntR])
       rw [HE.out] at HDC
       clear hd
       go_wp2_with (fail)
       refine HDC.out.mono ?_
       rintro e w5 ⟨lv,rfl,HD⟩
       obtain ⟨la,lc,rfl⟩:=HD.out.1.shape
       have hcn:=cntR_take rs i
       have HDW:=hid (st_do (HSTM.out.below HD.out.2.2) HD.out.1.rd (fun g hg e => by have h1:=HD.out.2.1 g hg; have h2:=HTB.out; have h3:=HZW.out; have e : g = c.tb:=e; omega) (by have:=HCNT.out; have:=HLL.out; omega))
       clear hcn d0 HDC
       go_wp2_with (fail)
       refine HDW.out.mono ?_
       rintro e w6 ⟨rfl,hst6,hk6⟩
       have HI2 : Hid (LdI w4 sb { c with seq:=z } w.heap.size (.slice (some ⟨g,off,none⟩) rs.length vc) rs (i + 1) w6):=hid ⟨⟨_,HNX.out.1,by rw [HNX.out.2]; exact hst6⟩,(HI.out.keeps.trans' ((Keeps.of_below HD.out.2.2).mono fun _ _ e => e.elim)).trans' hk6,(HI.out.ls.below HD.out.2.2).keeps hk6 (fun i e => by have e : i = c.tb:=e; have:=HTB.out; omega)⟩
       clear hst6 hk6 HDW
       go_wp2_with (fail)
       go_roundw
       case rel => exact ⟨i + 1,HLT.out,by go_num,HI2⟩
       case measure => have:=HLT.out; simp [intOf]; omega
    ·have q2 : ¬ (i : Int) < ((rs.length - 1 - 1 : Nat) : Int):=by omega
     obtain rfl : i = rs.length - 1 - 1:=by omega
     have hfd : (rs.drop 1).take (rs.length - 1 - 1) = (rs.drop 1).dropLast:=by rw [List.dropLast_eq_take,List.length_drop]
     have hda:=HDO.out
     rw [hfd] at hda
     have HFIN : Hid (loadF F c.dir b = if Y = imgB (numOf r) m then some (numOf r,m) else none):=hid (by
      obtain ⟨rr,h1,h2⟩:=HSC.out
      rw [HLB.out,loadB_cases h1 HEND.out (by rw [h2,List.length_drop]; have:=HL2.out; omega) HR8.out HQZ.out.2,h2,hda])
     obtain ⟨k1,k2,k3⟩:=doAll_fit _ _ _ hda PrsOk.nil
     have hend : endOf rs = Y.length:=by have:=HEND.out; rw [← HRS.out] at this; exact this
     have hsub : endOf (rs.drop 1).dropLast ≤ endOf rs:=by
      have e1 : endOf rs = endOf (rs.take 1) + endOf (rs.drop 1):=by rw [← endOf_append,List.take_append_drop]
      have hne : rs.drop 1 ≠ []:=by intro e; have:=congrArg List.length e; rw [List.length_drop] at this; have h2:=HL2.out; simp at this; omega
      have e2 : endOf (rs.drop 1) = endOf (rs.drop 1).dropLast + endOf [(rs.drop 1).getLast hne]:=by rw [← endOf_append,List.dropLast_concat_getLast hne]
      omega
     have himg:=img_len (numOf r) k1
     have HIM:=hid (st_image (w:=wr) (q:=numOf r) HSTM.out HQZ.out.1 HQZ.out.2 k1 (by have:=cntR_take rs (rs.length - 1 - 1); have:=HCNT.out; omega) (by have h1 : wgt [] = 0:=rfl; have:=HL.out; omega))
     have HNN : Hid (cntR ((rs.drop 1).take (rs.length - 1 - 1)) ≤ 400000000):=hid (by have:=cntR_take rs (rs.length - 1 - 1); have:=HCNT.out; omega)
     have HYR : Hid (SlAt byteKind 5 wr (.slice ya Y.length yc) Y):=hid (HYK.out.keeps HI.out.keeps (fun g hg e => by have e : g = c.tb:=e; have:=HYN.out g hg; have:=HTB.out; omega))
     clear hfd hda k1 k2 k3 hend hsub himg hlt hi
     go_wp2_with (fail)
     refine HIM.out.mono ?_
     rintro e w5 ⟨iv,rfl,hf⟩
     obtain ⟨ia,ic,rfl⟩:=hf.out.sl.shape
     obtain ⟨Z,hZ⟩ : ∃ Z,Z = imgB (numOf r) m:=⟨_,rfl⟩
     rw [← hZ] at hf HFIN ⊢
     have HEQ:=hid (Tryz.bytes_Equal_strs _ _ _ _ w5 (run_text (HYR.out.below hf.out.below).rd) (run_text hf.out.sl.rd))
     have HB5 : Hid (Below wr.heap.size wr w5):=hid hf.out.below
     have hbe : ((⟨Y.toArray⟩ : ByteArray).toList == (⟨Z.toArray⟩ : ByteArray).toList) = decide (Y = Z):=by
      rw [Lib.toList_data,Lib.toList_data]
      by_cases e : Y = Z
      ·simp [e]
      ·simp [e]
     rw [hbe] at HEQ
     clear hbe hZ hf
     by_cases heq : Y = Z
     ·have t5 : decide (Y = Z) = true:=by simp [heq]
      have HOK : Hid (loadF F c.dir b = some (numOf r,m)):=hid (by rw [HFIN.out,if_pos heq])
      rw [t5] at HEQ
      clear heq t5
      go_wp2_with (fail)
      refine HEQ.out.mono ?_
      rintro e w6 ⟨rfl,rfl⟩
      go_wp2_with (fail)
      go_end0
      refine ⟨HKR.out.trans' ((Keeps.of_below HB5.out).mono fun _ _ e => e.elim),.inl ⟨_,_,HOK.out,⟨_,rfl⟩,?_⟩⟩
      rw [← HQZ.out.1]
      exact (HSTM.out.below HB5.out).mono HNN.out
     ·have t5 : decide (Y = Z) = false:=by simp [heq]
      have HNO : Hid (loadF F c.dir b = none):=hid (by rw [HFIN.out,if_neg heq])
      rw [t5] at HEQ
      clear heq t5
      go_wp2_with (fail)
      refine HEQ.out.mono ?_
      rintro e w6 ⟨rfl,rfl⟩
      go_wp2_with (fail)
      refine st_leave rfl ?_
      exact ⟨HKR.out.trans' ((Keeps.of_below HB5.out).mono fun _ _ e => e.elim),.inr ⟨HNO.out,rfl⟩⟩
end
end Go.Proofs.YtagdchgkjjpacaaGreat
