/- The walk of package store's replays. -/
import Derived.Test.YtagdchgkjjpacaaGreatr32
set_option maxRecDepth 100000
open Go.Lib (hid)
set_option linter.unusedSimpArgs false
set_option linter.unusedVariables false
set_option linter.unusedSectionVars false
namespace Go.Proofs.YtagdchgkjjpacaaGreat
open Go.RowKit Go.Shelf
theorem LsX.row {S : Nat → Prop} {w : World} {a : Option Addr} {n cap : Nat} {rs : List (List UInt8)} (h : LsX S w (.slice a n cap) rs) {i : Nat} {r : List UInt8} (hr : rs[i]? = some r) :
 ∃ (g off : Nat) (ra : Option Addr) (rc : Nat),a = some ⟨g,off,none⟩ ∧ w.cell? ⟨g,off + i,none⟩ = some (.slice ra r.length rc) ∧ SlAt byteKind 5 w (.slice ra r.length rc) r:=by
 obtain ⟨ss,h1,h2,-⟩:=h.ex
 obtain ⟨hl,hh⟩:=h2
 have hi : i < ss.length:=by have:=(List.getElem?_eq_some_iff.1 hr).1; omega
 obtain ⟨s,hs⟩ : ∃ s,ss[i]? = some s:=⟨_,List.getElem?_eq_getElem hi⟩
 have h3:=hh i s r hs hr
 obtain ⟨ra,rc,e⟩:=h3.shape
 obtain ⟨g,off,ea,hc⟩:=sl_cell h1.rd hs
 exact ⟨g,off,ra,rc,ea,by rw [hc]; exact congrArg some e,by rw [← e]; exact h3⟩
def RpPost (w : World) (sb : Nat) (c : StC) (n : Nat) (o : Option (Nat × Prs)) (e : Ending) (w' : World) : Prop :=
 Keeps (fun i => i = sb ∨ i = c.tb) w w' ∧ ((∃ q m,o = some (q,m) ∧ e = .returned (.bool true) ∧ StB w' sb { c with seq:=((q : Nat) : Int) } m n) ∨ (o = none ∧ e = .returned (.bool false)))
structure RpI (w : World) (sb : Nat) (c : StC) (n : Nat) (S : Nat → Prop) (v : Value) (rs : List (List UInt8)) (o : Option (Nat × Prs)) (i : Nat) (wr : World) : Prop where
 ex : ∃ q m,replayR (rs.drop i) q m = o ∧ q < 9223372036854775808 ∧ StB wr sb { c with seq:=((q : Nat) : Int) } m (n + cntR (rs.take i))
 ls : LsX S wr v rs
 keeps : Keeps (fun i => i = sb ∨ i = c.tb) w wr
section
variable {w : World} {sb : Nat} {c : StC} {m : Prs} {n q : Nat} {S : Nat → Prop} {rs : List (List UInt8)} {a : Option Addr} {cap : Nat}
set_option maxHeartbeats 8000000 in
theorem st_replays (hs : StB w sb c m n) (hq : c.seq = (q : Int)) (hq2 : q < 9223372036854775808) (hls : LsX S w (.slice a rs.length cap) rs) (hl : rs.length ≤ 100000000) (hsm : ∀ p ∈ rs,p.length ≤ 1000000000) (hn : n + cntR rs < 700000000) :
 Calls Tryz.prog 69 #[.pointer (some ⟨sb,0,none⟩),.slice a rs.length cap] w (RpPost w sb c (n + cntR rs) (replayR rs q m)):=by
 have hc : ({ c with seq:=((q : Nat) : Int) } : StC) = c:=by cases c; simp only at hq; rw [hq]
 have HI0 : Hid (RpI w sb c n S (.slice a rs.length cap) rs (replayR rs q m) 0 w):=hid ⟨⟨q,m,rfl,hq2,by rw [hc]; simpa [cntR] using hs⟩,hls,Keeps.refl _ _⟩
 have HSM:=hid hsm
 have HN:=hid hn
 have HLT:=hid hs.lt
 have hlI : (rs.length : Int) ≤ 100000000:=by omega
 obtain ⟨o,ho⟩ : ∃ o,o = replayR rs q m:=⟨_,rfl⟩
 rw [← ho] at HI0 ⊢
 clear hs hq hq2 hls hl hsm hn hc ho
 go_enter Tryz.func69,Tryz.ntmps69
 go_wp2_with (fail)
 go_loopw [12] (fun iv wr => ∃ i : Nat,i ≤ rs.length ∧ iv = .int .i64 (i : Int) ∧ Hid (RpI w sb c n S (.slice a rs.length cap) rs o i wr)) (fun iv _ => rs.length - (intOf iv).toNat)
 case atStart => exact ⟨0,Nat.zero_le _,rfl,HI0⟩
 case round =>
  obtain ⟨i,hi,rfl,HI⟩:=hrel
  obtain ⟨qi,mi,hrep,hqi,hst⟩:=HI.out.ex
  have HREP:=hid hrep
  have HQI:=hid hqi
  have HST:=hid hst
  clear hrep hst
  by_cases hlt : i < rs.length
  ·have q1 : (0 : Int) ≤ (i : Int):=by omega
   have q2 : (i : Int) < (rs.length : Int):=by omega
   obtain ⟨p,hp⟩ : ∃ p,rs[i]? = some p:=⟨_,List.getElem?_eq_getElem hlt⟩
   obtain ⟨g,off,pa,pc,rfl,d0,hsl⟩:=HI.out.ls.row hp
   have hrm:=hsl.room
   have HDC:=hid (st_decode (w:=wr) hsl.rd (HSM.out p (List.mem_of_getElem? hp)) ⟨hrm.1,hrm.2.1⟩ (fun b hb => by
    rcases hsl with ⟨e,-⟩ | ⟨g2,o2,c2,cur2,e,hbk,-⟩
    ·simp only [Value.slice.injEq] at e; rw [e.1] at hb; cases hb
    ·simp only [Value.slice.injEq] at e; rw [e.1] at hb; cases hb
     exact ⟨rfl,lt_of_block hbk⟩))
   have HDR : Hid (rs.drop i = p :: rs.drop (i + 1)):=hid (by rw [List.drop_eq_getElem_cons hlt]; rw [List.getElem?_eq_getElem hlt] at hp; rw [Option.some.inj hp])
   have HP:=hid hp
   have HLTI:=hid hlt
   have HZW : Hid (w.heap.size ≤ wr.heap.size):=hid HI.out.keeps.size
   have HCT : Hid (cntR (rs.take (i + 1)) = cntR (rs.take i) + (match decB p with | none => 0 | some (_,l) => l.length) ∧ cntR (rs.take (i + 1)) ≤ cntR rs):=hid (by
    refine ⟨?_,?_⟩
    ·rw [List.take_add_one,hp,cntR_append]
     congr 1
     try simp only [Option.toList_some]
     try (rw [cntR_cons]; simp [cntR])
    ·have e:=List.take_append_drop (i + 1) rs
     have : cntR rs = cntR (rs.take (i + 1)) + cntR (rs.drop (i + 1)):=by rw [← cntR_append,e]
     omega)
   clear hp hsl hrm hlt hi
   cases hd : decB p with
   | none =>
     have HE : Hid (decR p = (0,[],10)):=hid (by unfold decR; rw [hd])
     have HNO : Hid (o = none):=hid (by rw [← HREP.out,HDR.out]; unfold replayR; rw [hd])
     rw [HE.out] at HDC
     clear hd
     go_wp2_with (fail)
     refine HDC.out.mono ?_
     rintro e w5 ⟨lv,rfl,HD⟩
     obtain ⟨la,lc,rfl⟩:=HD.out.1.shape
     go_wp2_with (fail)
     go_ret
     exact ⟨HI.out.keeps.trans' ((Keeps.of_below HD.out.2.2).mono fun _ _ e => e.elim),.inr ⟨HNO.out,rfl⟩⟩
   | some sl =>
     obtain ⟨s,l⟩:=sl
     have HE : Hid (decR p = ((s : Int),l,0)):=hid (by unfold decR; rw [hd])
     have hb:=decB_some hd
     have HLL : Hid (l.length ≤ 500):=hid (chkB_ok hb.2.2.2.1).1
     have hs1 : (1 : Int) ≤ (s : Int):=by have:=hb.2.1; omega
     have hs2 : (s : Int) ≤ 9223372036854775807:=by have:=hb.2.2.1; omega
     have HRR : Hid (o = if 9223372036854775808 ≤ qi + 1 ∨ qi + 1 < s then none else if s ≤ qi then replayR (rs.drop (i + 1)) qi mi else replayR (rs.drop (i + 1)) s (applyB mi l)):=hid (by
      rw [← HREP.out,HDR.out]
      conv => lhs; unfold replayR
      rw [hd])
     have HCT2 : Hid (cntR (rs.take (i + 1)) = cntR (rs.take i) + l.length ∧ cntR (rs.take (i + 1)) ≤ cntR rs):=hid (by have:=HCT.out; rw [hd] at this; exact this)
     have HSS : Hid (s < 9223372036854775808):=hid hb.2.2.1
     rw [HE.out] at HDC
     clear hd hb HCT
     go_upto_region 4 with (fail)
     go_wp2_with (fail)
     refine HDC.out.mono ?_
     rintro e w5 ⟨lv,rfl,HD⟩
     obtain ⟨la,lc,rfl⟩:=HD.out.1.shape
     have HST5:=hid (HST.out.below HD.out.2.2)
     have HK5 : Hid (Keeps (fun i => i = sb ∨ i = c.tb) w w5):=hid (HI.out.keeps.trans' ((Keeps.of_below HD.out.2.2).mono fun _ _ e => e.elim))
     have HLS5:=hid (HI.out.ls.below HD.out.2.2)
     have s12 : w5.cell? ⟨sb,12,none⟩ = some (.int .i64 (qi : Int)):=blk_cell HST5.out.blk 12
     have z12 : w5.frozen? ⟨sb,12,none⟩ = false:=blk_free HST5.out.blk 12
     by_cases hov : 9223372036854775808 ≤ qi + 1
     ·obtain rfl : qi = 9223372036854775807:=by omega
      have HNO : Hid (o = none):=hid (by rw [HRR.out,if_pos (.inl (by omega))])
      have t1 : decide ((-9223372036854775808 : Int) < (s : Int)) = true:=by simp; omega
      have t2 : (-9223372036854775808 : Int) < (s : Int):=by omega
      have hw : wrap64 9223372036854775808 = -9223372036854775808:=by unfold wrap64; rfl
      clear hov hqi
      go_wp2_with (fail)
      go_ret
      exact ⟨HK5.out,.inr ⟨HNO.out,rfl⟩⟩
     have ho1 : (qi : Int) + 1 ≤ 9223372036854775807:=by omega
     by_cases hgt : qi + 1 < s
     ·have HNO : Hid (o = none):=hid (by rw [HRR.out,if_pos (.inr hgt)])
      have t1 : decide ((qi : Int) + 1 < (s : Int)) = true:=by simp; omega
      have t2 : (qi : Int) + 1 < (s : Int):=by omega
      clear hov hqi hgt
      go_wp2_with (fail)
      go_ret
      exact ⟨HK5.out,.inr ⟨HNO.out,rfl⟩⟩
     have t1 : decide ((qi : Int) + 1 < (s : Int)) = false:=by simp; omega
     have t2 : ¬ (qi : Int) + 1 < (s : Int):=by omega
     have HGT:=hid hgt
     have HOV:=hid hov
     clear hov hgt hqi
     go_upto_region 7 with (fail)
     clear t1 t2 ho1
     by_cases hle : s ≤ qi
     ·have HOO : Hid (replayR (rs.drop (i + 1)) qi mi = o):=hid (by rw [HRR.out,if_neg (by have:=HGT.out; have:=HOV.out; omega),if_pos hle])
      have t3 : decide ((s : Int) ≤ (qi : Int)) = true:=by simp; omega
      have t4 : (s : Int) ≤ (qi : Int):=by omega
      have HI2 : Hid (RpI w sb c n S (.slice (some ⟨g,off,none⟩) rs.length cap) rs o (i + 1) w5):=hid ⟨⟨qi,mi,HOO.out,HQI.out,HST5.out.mono (by have:=HCT2.out; omega)⟩,HLS5.out,HK5.out⟩
      clear hle
      go_wp2_with (fail)
      go_roundw
      case rel => exact ⟨i + 1,HLTI.out,by go_num,HI2⟩
      case measure => have:=HLTI.out; simp [intOf]; omega
     have t3 : decide ((s : Int) ≤ (qi : Int)) = false:=by simp; omega
     have t4 : ¬ (s : Int) ≤ (qi : Int):=by omega
     have HOO : Hid (replayR (rs.drop (i + 1)) s (applyB mi l) = o):=hid (by rw [HRR.out,if_neg (by have:=HGT.out; have:=HOV.out; omega),if_neg hle])
     have HDW:=hid (st_do HST5.out HD.out.1.rd (fun g hg e => by have h1:=HD.out.2.1 g hg; have h2:=HLT.out; have h3:=HZW.out; have e : g = c.tb:=e; omega) (by have:=HN.out; have:=HCT2.out; have:=HLL.out; omega))
     clear hle
     go_wp2_with (fail)
     refine HDW.out.mono ?_
     rintro e w6 ⟨rfl,hst6,hk6⟩
     have s12 : w6.cell? ⟨sb,12,none⟩ = some (.int .i64 (qi : Int)):=blk_cell hst6.blk 12
     have z12 : w6.frozen? ⟨sb,12,none⟩ = false:=blk_free hst6.blk 12
     have hset:=hst6.setSeq (s : Int)
     have HI2 : Hid (RpI w sb c n S (.slice (some ⟨g,off,none⟩) rs.length cap) rs o (i + 1) (w6.setCell ⟨sb,12,none⟩ (.int .i64 (s : Int)))):=hid (by
      obtain ⟨t,ver,⟨root,htb,_⟩,_⟩:=HST5.out.tab
      refine ⟨⟨s,applyB mi l,HOO.out,HSS.out,by have h1:=hset.1; rw [show n + cntR (rs.take (i + 1)) = n + cntR (rs.take i) + l.length by have:=HCT2.out; omega]; exact h1⟩,?_,(HK5.out.trans' (hk6.mono fun _ _ e => .inr e)).trans' (hset.2.mono fun _ _ e => .inl e)⟩
      refine LsX.keeps (T:=Only sb) (LsX.keeps HLS5.out hk6 fun i e => .inr ?_) hset.2 fun i e => .inr ?_
      ·have e : i = c.tb:=e
       subst e
       exact ⟨_,_,htb,by decide,by decide⟩
      ·have e : i = sb:=e
       subst e
       exact ⟨_,_,hst6.blk,by decide,by decide⟩)
     clear hst6 hk6 hset HDW
     go_wp2_with (fail)
     go_roundw
     case rel => exact ⟨i + 1,HLTI.out,by go_num,HI2⟩
     case measure => have:=HLTI.out; simp [intOf]; omega
  ·have q2 : ¬ (i : Int) < (rs.length : Int):=by omega
   obtain rfl : i = rs.length:=by omega
   have HOO : Hid (o = some (qi,mi)):=hid (by rw [← HREP.out,List.drop_length]; rfl)
   have HEND:=hid (show StB wr sb { c with seq:=((qi : Nat) : Int) } mi (n + cntR rs) from by have:=HST.out; rwa [List.take_length] at this)
   clear hlt hi hqi
   go_wp2_with (fail)
   go_ret
   exact ⟨HI.out.keeps,.inl ⟨_,_,HOO.out,rfl,HEND.out⟩⟩
end
def PureS (S : Nat → Prop) (w : World) : Prop:=∀ i,S i → ∀ cs T,IsBlk w i cs T → T = 102 ∨ T = 107 ∨ T = 5
def PS (S : Nat → Prop) (w : World) (i : Nat) : Prop:=S i ∧ ∀ cs T,IsBlk w i cs T → T = 102 ∨ T = 107 ∨ T = 5
theorem PS.pure (S : Nat → Prop) (w : World) : PureS (PS S w) w:=fun i h cs T hb => h.2 cs T hb
theorem blk_type {w : World} {b : Nat} {cs ds : Array Value} {T U : TypeId} (h : IsBlk w b cs T) (k : IsBlk w b ds U) : T = U:=by
 by_cases e : T = U
 ·exact e
 ·exact absurd rfl (blk_ne_type h k e)
theorem FsAt.ps {w : World} {fb mb : Nat} {F : FsS} {S : Nat → Prop} {rs : List (ByteArray × Pl)} (h : FsAt w fb F S mb rs) : FsAt w fb F (PS S w) mb rs :=
 ⟨h.blk,h.map,h.files,h.pl,h.apart,⟨h.sfb,fun cs T hb => .inl (blk_type hb h.blk)⟩,⟨h.smb,fun cs T hb => absurd rfl (h.map.not_blk hb)⟩,fun x hx k hk => ⟨h.sp x hx k hk,fun cs T hb => by
  rcases hk with rfl | hk
  ·exact .inr (.inl (blk_type hb (h.pl x hx).blk))
  ·obtain ⟨cur,hc⟩:=(h.pl x hx).bytes.own _ hk
   exact .inr (.inr (blk_type hb hc))⟩,fun k hs => h.lt k hs.1⟩
theorem Hd.ps {w0 w : World} {fb k : Nat} {F : FsS} {S : Nat → Prop} (h : Hd w0 w fb F k S) : Hd w0 w fb F k (PS S w):=by
 obtain ⟨mb,rs,h1⟩:=h.fs
 exact ⟨⟨mb,rs,h1.ps⟩,fun i hi => h.low i hi.1,h.below,h.ok⟩
theorem Lg.ps {w0 w : World} {fb k lb : Nat} {F : FsS} {S : Nat → Prop} {L : LogS} (h : Lg w0 w fb F k S lb L) : Lg w0 w fb F k (PS S w) lb L :=
 ⟨h.hd.ps,⟨h.log.blk,fun e => h.log.out e.1,h.log.low⟩⟩
theorem StB.pure {w w' : World} {sb : Nat} {c : StC} {m : Prs} {n : Nat} {S : Nat → Prop} (h : StB w sb c m n) (hp : PureS S w) (hk : Keeps S w w') : StB w' sb c m n :=
 h.keepsOut hk (fun i hi cs T hT => by rcases hp i hi cs T hT with rfl | rfl | rfl <;> decide)
theorem PureS.not {S : Nat → Prop} {w : World} (hp : PureS S w) {b : Nat} {cs : Array Value} {T : TypeId} (hb : IsBlk w b cs T) (h1 : T ≠ 102) (h2 : T ≠ 107) (h3 : T ≠ 5) : ¬ S b:=fun e => by
 rcases hp b e cs T hb with e | e | e
 ·exact h1 e
 ·exact h2 e
 ·exact h3 e
theorem PureS.below {S : Nat → Prop} {w w' : World} (hp : PureS S w) (hl : ∀ i,S i → i < w.heap.size) (k : Below w.heap.size w w') : PureS S w':=fun i hi cs T hb => hp i hi cs T ((k.block i (hl i hi)).symm.trans hb)
theorem PureS.keeps {S U : Nat → Prop} {w w' : World} (hp : PureS S w) (hl : ∀ i,S i → i < w.heap.size) (k : Keeps U w w') (hU : ∀ i,U i → ¬ S i) : PureS S w':=fun i hi cs T hb => hp i hi cs T ((k.block i (hl i hi) (fun e => hU i e hi)).symm.trans hb)
structure ClI (w0 w : World) (fb : Nat) (S : Nat → Prop) (sb : Nat) (c : StC) (m : Prs) (n k : Nat) (R : FsS × Int) (b : Nat) (names : List ByteArray) (v : Value) (i : Nat) (wr : World) : Prop where
 ex : ∃ F S',Hd w0 wr fb F (k + i) S' ∧ PureS S' wr ∧ (∀ j,S' j → S j ∨ w.heap.size ≤ j) ∧ cleanR c.dir b (names.drop i) F = R ∧ ∀ g,v.ownBlock = some g → ¬ S' g
 st : StB wr sb c m n
 sl : SlAt textKind 9 wr v names
 keeps : Keeps S w wr
structure ClPost (w0 w : World) (fb : Nat) (S : Nat → Prop) (sb : Nat) (c : StC) (m : Prs) (n k : Nat) (G : FsS) (w' : World) : Prop where
 ex : ∃ S',Hd w0 w' fb G k S' ∧ PureS S' w' ∧ ∀ j,S' j → S j ∨ w.heap.size ≤ j
 st : StB w' sb c m n
 keeps : Keeps S w w'
section
variable {w0 w : World} {fb k : Nat} {F : FsS} {S : Nat → Prop} {sb : Nat} {c : StC} {m : Prs} {n b : Nat}
set_option maxHeartbeats 8000000 in
theorem st_clean (h : Hd w0 w fb F k S) (hp : PureS S w) (hs : StB w sb c m n) (hfb : c.fb = fb) (hb : c.base = (b : Int)) (hdir : c.dir.size ≤ 1000) (hk : k < 900000) :
 Calls Tryz.prog 73 #[.pointer (some ⟨sb,0,none⟩)] w fun e w' => e = .returned (.int .i64 (cleanR c.dir b (namesL (dirOf c.dir) F.files) F).2) ∧ ClPost w0 w fb S sb c m n (k + 400) (cleanR c.dir b (namesL (dirOf c.dir) F.files) F).1 w':=by
 have s0 : w.cell? ⟨sb,0,none⟩ = some (.pointer (some ⟨fb,0,none⟩)):=by rw [← hfb]; exact blk_cell hs.blk 0
 have s1 : w.cell? ⟨sb,1,none⟩ = some (.string c.dir):=blk_cell hs.blk 1
 have HS:=hid hs
 have HH:=hid h
 have HP:=hid hp
 have HC:=hid (And.intro hfb (And.intro hb (And.intro hdir hk)))
 have he:=dirOf_add c.dir
 have HNF : Hid ((namesL (dirOf c.dir) F.files).length ≤ 400):=hid (by unfold namesL; rw [List.length_map]; have:=List.length_filter_le (fun x : ByteArray × FileS => Lib.hasPrefix x.1.data.toList (dirOf c.dir).data.toList) F.files; have:=h.ok.few; omega)
 have hdI : (c.dir.size : Int) ≤ 1000:=by omega
 have hng : ¬ 9223372036854775807 < c.dir.size + 1:=by omega
 have HNL : Hid (∀ W,Below w.heap.size w W → Calls Tryz.prog 27 #[.pointer (some ⟨fb,0,none⟩),.string (dirOf c.dir)] W fun e w' => ∃ na nc,e = .returned (.slice na (namesL (dirOf c.dir) F.files).length nc) ∧ Hid (TextsAt W w' (.slice na (namesL (dirOf c.dir) F.files).length nc) (namesL (dirOf c.dir) F.files) ∧ Below w.heap.size w w')):=hid fun W hW =>
  (s_names (h.fs.below hW) h.ok (dirOf c.dir)).mono fun e w' ⟨a,cap,he,ht⟩ => ⟨a,cap,he,hid ⟨ht,hW.trans (ht.below.mono hW.size)⟩⟩
 obtain ⟨names,hnm⟩ : ∃ x,x = namesL (dirOf c.dir) F.files:=⟨_,rfl⟩
 rw [← hnm] at HNF HNL ⊢
 obtain ⟨R,hR⟩ : ∃ R,R = cleanR c.dir b names F:=⟨_,rfl⟩
 rw [← hR]
 have HR:=hid hR
 have hb0 : Below w.heap.size w w.drew:=(Below.refl _ _).drew
 clear h hp hs hfb hb hdir hk hnm hR
 go_enter Tryz.func73,Tryz.ntmps73
 go_upto_region 1 with (fail)
 go_region_held3 (fun w' => w'.cell? ⟨sb,0,none⟩ = some (.pointer (some ⟨fb,0,none⟩)) ∧ w'.cell? ⟨sb,1,none⟩ = some (.string c.dir))
   (first
     | go_keep
     | exact ⟨(HB1.out.2.cell (p:=⟨sb,0,none⟩) HS.out.lt.1).trans s0,(HB1.out.2.cell (p:=⟨sb,1,none⟩) HS.out.lt.1).trans s1⟩)
   (first
     | (go_at_call 27; (with_reducible refine (HNL.out _ ?_).mono ?_); exact hb0; rintro e w1 ⟨na,nc,rfl,HB1⟩))
 have HI0 : Hid (ClI w0 w fb S sb c m n k R b names (.slice na names.length nc) 0 w1):=hid ⟨⟨F,S,(HH.out.read HB1.out.2),HP.out.below HH.out.fs.lt HB1.out.2,fun j hj => .inl hj,HR.out.symm,fun g hg e => by
  have h1:=HB1.out.1.new g hg
  have h2:=HH.out.fs.lt g e
  have h3 : w.heap.size ≤ w.drew.heap.size:=hb0.size
  omega⟩,HS.out.below HB1.out.2,HB1.out.1.sl,(Keeps.of_below HB1.out.2).mono fun _ _ e => e.elim⟩
 have hnI : (names.length : Int) ≤ 400:=by have:=HNF.out; omega
 clear s0 s1 HNL
 go_wp2_with (fail)
 go_loopw [18] (fun iv wr => ∃ i : Nat,i ≤ names.length ∧ iv = .int .i64 (i : Int) ∧ Hid (ClI w0 w fb S sb c m n k R b names (.slice na names.length nc) i wr)) (fun iv _ => names.length - (intOf iv).toNat)
 case atStart => exact ⟨0,Nat.zero_le _,rfl,HI0⟩
 case round =>
  obtain ⟨i,hi,rfl,HI⟩:=hrel
  obtain ⟨Fi,Si,hH,hPi,hSi,hcl,hown⟩:=HI.out.ex
  have HHI:=hid hH
  have HPI:=hid (And.intro hPi (And.intro hSi hown))
  have HCL:=hid hcl
  clear hH hPi hSi hcl hown
  by_cases hlt : i < names.length
  ·have q1 : (0 : Int) ≤ (i : Int):=by omega
   have q2 : (i : Int) < (names.length : Int):=by omega
   obtain ⟨nm,hnm⟩ : ∃ nm,names[i]? = some nm:=⟨_,List.getElem?_eq_getElem hlt⟩
   obtain ⟨g,off,rfl,d0⟩:=text_cell HI.out.sl.rd rfl hnm
   have HD : Hid (names.drop i = nm :: names.drop (i + 1)):=hid (by rw [List.drop_eq_getElem_cons hlt]; rw [List.getElem?_eq_getElem hlt] at hnm; rw [Option.some.inj hnm])
   have HBN:=hid (st_baseNumber (w:=wr) HI.out.st.blk (by have:=HC.out.2.2.1; omega) nm)
   have HNX:=hid (st_name (w:=wr) HI.out.st.blk (by have:=HC.out.2.2.1; omega) ⟨#[110,101,120,116]⟩ (by decide))
   obtain ⟨nx,hnx⟩ : ∃ nx,nx = nmOf c.dir ⟨#[110,101,120,116]⟩:=⟨_,rfl⟩
   rw [← hnx] at HNX
   obtain ⟨z,hz⟩ : ∃ z,z = baseNum c.dir nm:=⟨_,rfl⟩
   rw [← hz] at HBN
   have HLT:=hid hlt
   have HCC : Hid (R = if nm ≠ nx ∧ (z = 0 ∨ z = b) then cleanR c.dir b (names.drop (i + 1)) Fi else if (Fi.remove nm).2 = 0 then cleanR c.dir b (names.drop (i + 1)) (Fi.remove nm).1 else Fi.remove nm):=hid (by
    rw [← HCL.out,HD.out,hz,hnx]
    rfl)
   have r0 : wr.cell? ⟨sb,0,none⟩ = some (.pointer (some ⟨fb,0,none⟩)):=by rw [← HC.out.1]; exact blk_cell HI.out.st.blk 0
   have r3 : wr.cell? ⟨sb,3,none⟩ = some (.int .i64 (b : Int)):=by rw [← HC.out.2.1]; exact blk_cell HI.out.st.blk 3
   have HRM:=hid (d_remove HHI.out (by have:=HC.out.2.2.2; have:=HNF.out; omega) nm)
   have HOKI : Hid (i < 400):=hid (by have:=HNF.out; omega)
   clear hnm hnx hz hlt hi
   go_wp2_with (fail)
   refine HBN.out.mono ?_
   rintro e w2 ⟨rfl,rfl⟩
   go_wp2_with (fail)
   refine HNX.out.mono ?_
   rintro e w2 ⟨rfl,rfl⟩
   clear HBN HNX
   have DO : Hid (∀ (hne : ¬ (nm ≠ nx ∧ (z = 0 ∨ z = b))),(∀ W',Hd w0 W' fb (Fi.remove nm).1 (k + i + 1) (New wr W' Si) → Keeps Si wr W' → (Fi.remove nm).2 ≠ 0 → R = Fi.remove nm ∧ ClPost w0 w fb S sb c m n (k + 400) R.1 W') ∧
       (∀ W',Hd w0 W' fb (Fi.remove nm).1 (k + i + 1) (New wr W' Si) → Keeps Si wr W' → (Fi.remove nm).2 = 0 → ClI w0 w fb S sb c m n k R b names (.slice (some ⟨g,off,none⟩) names.length nc) (i + 1) W')):=hid fun hne => by
     have hsub : ∀ W',Keeps Si wr W' → ∀ j,PS (New wr W' Si) W' j → S j ∨ w.heap.size ≤ j:=fun W' hk j hj => by
      rcases hj.1 with e | e
      ·exact HPI.out.2.1 j e
      ·have:=HI.out.keeps.size; exact .inr (by omega)
     have hkp : ∀ W',Keeps Si wr W' → Keeps S w W':=fun W' hk => HI.out.keeps.trans hk fun j hj e => by
      rcases HPI.out.2.1 j e with e | e
      ·exact e
      ·omega
     refine ⟨fun W' hH hk hr => ?_,fun W' hH hk hr => ?_⟩
     ·have e:=HCC.out
      rw [if_neg hne,if_neg hr] at e
      refine ⟨e,⟨⟨_,?_,PS.pure _ _,hsub W' hk⟩,HI.out.st.pure HPI.out.1 hk,hkp W' hk⟩⟩
      rw [e]
      have h1:=hH.ps
      exact ⟨h1.fs,h1.low,h1.below,h1.ok.mono (by have:=HOKI.out; omega)⟩
     ·have e:=HCC.out
      rw [if_neg hne,if_pos hr] at e
      refine ⟨⟨_,_,hH.ps,PS.pure _ _,hsub W' hk,e.symm,fun g' hg' e' => ?_⟩,HI.out.st.pure HPI.out.1 hk,HI.out.sl.keeps hk (fun g' hg' => HPI.out.2.2 g' hg'),hkp W' hk⟩
      rcases e'.1 with e1 | e1
      ·exact HPI.out.2.2 g' hg' e1
      ·obtain ⟨cs,hc⟩:=HI.out.sl.own g' hg'
       have:=lt_of_block hc
       omega
   have REM : Hid (R.2 = (Fi.remove nm).2 ∨ True):=hid (.inr trivial)
   by_cases hn : nm = nx
   ·subst hn
    have t1 : ¬ ¬ nm.toList = nm.toList:=fun h => h rfl
    have t2 : (nm.toList == nm.toList) = true:=by simp
    have t3 : (nm.toList != nm.toList) = false:=by simp
    have DX:=hid (DO.out (by simp))
    obtain ⟨er,her⟩ : ∃ er,er = (Fi.remove nm).2:=⟨_,rfl⟩
    rw [← her] at HRM
    have HER:=hid her
    clear her
    go_wp2_with (fail)
    refine HRM.out.mono ?_
    rintro e w2 ⟨rfl,hH2,hk2⟩
    have HW2:=hid (And.intro hH2 hk2)
    clear hH2 hk2
    by_cases he0 : er = 0
    ·have HI2:=hid (DX.out.2 _ HW2.out.1 HW2.out.2 (by rw [← HER.out]; exact he0))
     subst he0
     go_wp2_with (fail)
     go_roundw
     case rel => exact ⟨i + 1,HLT.out,by go_num,HI2⟩
     case measure => have:=HLT.out; simp [intOf]; omega
    ·have HI2:=hid (DX.out.1 _ HW2.out.1 HW2.out.2 (by rw [← HER.out]; exact he0))
     have t5 : (er != 0) = true:=by rw [bne_iff_ne]; exact he0
     clear he0
     go_wp2_with (fail)
     go_ret
     exact ⟨by rw [HER.out,HI2.out.1]; rfl,HI2.out.2⟩
   ·have hnl : ¬ nm.toList = nx.toList:=fun e => hn (str_inj e)
    have t2 : (nm.toList == nx.toList) = false:=by simpa using hnl
    have t3 : (nm.toList != nx.toList) = true:=by simpa using hnl
    by_cases hz0 : z = 0
    ·have HNXT : Hid (ClI w0 w fb S sb c m n k R b names (.slice (some ⟨g,off,none⟩) names.length nc) (i + 1) wr):=hid ⟨⟨Fi,Si,⟨HHI.out.fs,HHI.out.low,HHI.out.below,HHI.out.ok.mono (by omega)⟩,HPI.out.1,HPI.out.2.1,by have e:=HCC.out; rw [if_pos ⟨hn,.inl hz0⟩] at e; exact e.symm,HPI.out.2.2⟩,HI.out.st,HI.out.sl,HI.out.keeps⟩
     subst hz0
     clear hn
     go_wp2_with (fail)
     go_roundw
     case rel => exact ⟨i + 1,HLT.out,by go_num,HNXT⟩
     case measure => have:=HLT.out; simp [intOf]; omega
    have t4 : ((z : Int) == 0) = false:=by simp; omega
    by_cases hzb : z = b
    ·have HNXT : Hid (ClI w0 w fb S sb c m n k R b names (.slice (some ⟨g,off,none⟩) names.length nc) (i + 1) wr):=hid ⟨⟨Fi,Si,⟨HHI.out.fs,HHI.out.low,HHI.out.below,HHI.out.ok.mono (by omega)⟩,HPI.out.1,HPI.out.2.1,by have e:=HCC.out; rw [if_pos ⟨hn,.inr hzb⟩] at e; exact e.symm,HPI.out.2.2⟩,HI.out.st,HI.out.sl,HI.out.keeps⟩
     have t5 : ((z : Int) == (b : Int)) = true:=by simp; omega
     clear hn hz0 hzb
     go_wp2_with (fail)
     go_roundw
     case rel => exact ⟨i + 1,HLT.out,by go_num,HNXT⟩
     case measure => have:=HLT.out; simp [intOf]; omega
    have t5 : ((z : Int) == (b : Int)) = false:=by simp; omega
    have DX:=hid (DO.out (by rintro ⟨-,h | h⟩; exact hz0 h; exact hzb h))
    obtain ⟨er,her⟩ : ∃ er,er = (Fi.remove nm).2:=⟨_,rfl⟩
    rw [← her] at HRM
    have HER:=hid her
    clear her hn hz0 hzb
    go_wp2_with (fail)
    refine HRM.out.mono ?_
    rintro e w2 ⟨rfl,hH2,hk2⟩
    have HW2:=hid (And.intro hH2 hk2)
    clear hH2 hk2
    by_cases he0 : er = 0
    ·have HI2:=hid (DX.out.2 _ HW2.out.1 HW2.out.2 (by rw [← HER.out]; exact he0))
     subst he0
     go_wp2_with (fail)
     go_roundw
     case rel => exact ⟨i + 1,HLT.out,by go_num,HI2⟩
     case measure => have:=HLT.out; simp [intOf]; omega
    ·have HI2:=hid (DX.out.1 _ HW2.out.1 HW2.out.2 (by rw [← HER.out]; exact he0))
     have t6 : (er != 0) = true:=by rw [bne_iff_ne]; exact he0
     clear he0
     go_wp2_with (fail)
     go_ret
     exact ⟨by rw [HER.out,HI2.out.1]; rfl,HI2.out.2⟩
  ·have q2 : ¬ (i : Int) < (names.length : Int):=by omega
   obtain rfl : i = names.length:=by omega
   have HE : Hid (R = (Fi,0)):=hid (by rw [← HCL.out,List.drop_length]; rfl)
   have HFIN : Hid (ClPost w0 w fb S sb c m n (k + 400) R.1 wr):=hid ⟨⟨Si,by rw [HE.out]; exact ⟨HHI.out.fs,HHI.out.low,HHI.out.below,HHI.out.ok.mono (by have:=HNF.out; omega)⟩,HPI.out.1,HPI.out.2.1⟩,HI.out.st,HI.out.keeps⟩
   clear hlt hi
   go_wp2_with (fail)
   go_ret
   exact ⟨by rw [HE.out]; rfl,HFIN.out⟩
end
end Go.Proofs.YtagdchgkjjpacaaGreat
