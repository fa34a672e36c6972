/- The walks of the file system's small functions: of, write, Size, what is read off it; New. -/
import Derived.Test.YtagdchgkjjpacaaGreatr02
import Derived.Test.YtagdchgkjjpacaaGreatRows
import Derived.WalkSpells
import Derived.WalkLawsBesides
import Derived.Lib.MinMax
import Derived.Lib.Hide
import Derived.BigQuiet
import Derived.StillTailTactics
import Derived.Deep.RegionHeld3
import Derived.Shelf.Abstract
import Derived.RangeFuncCalls
import Derived.Deep.RegionLaw
set_option maxRecDepth 100000
open Go.Lib (hid)
namespace Go.Proofs.YtagdchgkjjpacaaGreat
open Go.RowKit Go.Shelf
abbrev Only (b : Nat) : Nat → Prop:=fun k => k = b
theorem keeps_set (w : World) (b i : Nat) (u : Value) : Keeps (Only b) w (w.setCell ⟨b,i,none⟩ u):=(Keeps.refl (Only b) w).setCell (p:=⟨b,i,none⟩) (fun _ => rfl) u
theorem below_drewN (B : Nat) (W : World) (n : Nat) : Below B W (W.drewN n):=⟨rfl,rfl,rfl,Nat.le_refl _,fun _ _ => rfl⟩
abbrev ptrOf (o : Option Pl) : Value:=.pointer (o.map fun p => ⟨p.g,0,none⟩)
theorem zeroPF (w : World) : (zeroValue 104).run Tryz.prog w = .ok (.pointer none) w:=by kernel_rfl
section
variable {w : World} {fb mb : Nat} {F : FsS} {S : Nat → Prop} {rs : List (ByteArray × Pl)}
theorem fs_look (h : FsAt w fb F S mb rs) (n : ByteArray) : (Instr.lookup 100 (.map (some mb)) (.string n) false).run Tryz.prog w = .ok (ptrOf (findL slt rs n)) w:=by
 have:=h.map.lookup (P:=Tryz.prog) (t:=100) Tryz.underlying100 Tryz.underlying9 (zeroPF w) n false
 rw [if_neg (by simp)] at this
 refine this.trans ?_
 show Result.ok (((findL slt rs n).map evP).getD (.pointer none)) w = _
 cases findL slt rs n <;> rfl
def ofRes (d : Bool) (o : Option Pl) : Value:=if d then .tuple #[.pointer none,.int .i64 5] else match o with | none => .tuple #[.pointer none,.int .i64 2] | some p => .tuple #[.pointer (some ⟨p.g,0,none⟩),.int .i64 0]
set_option maxHeartbeats 400000 in
theorem f_of (h : FsAt w fb F S mb rs) (n : ByteArray) : Calls Tryz.prog 61 #[.pointer (some ⟨fb,0,none⟩),.string n] w fun e w' => e = .returned (ofRes F.down (findL slt rs n)) ∧ w = w':=by
 have hl:=fs_look h n
 have c2 : w.cell? ⟨fb,2,none⟩ = some (.map (some mb)):=blk_cell h.blk 2
 have c5 : w.cell? ⟨fb,5,none⟩ = some (.bool F.down):=blk_cell h.blk 5
 clear h
 cases hd : F.down with
 | true =>
   rw [hd] at c5
   go_enter Tryz.func61,Tryz.ntmps61
   go_wp2
   go_ret2
   exact ⟨rfl,rfl⟩
 | false =>
   rw [hd] at c5
   cases hf : findL slt rs n with
   | none =>
     rw [hf] at hl
     replace hl : (Instr.lookup 100 (.map (some mb)) (.string n) false).run Tryz.prog w = .ok (.pointer none) w:=hl
     clear hd hf
     go_enter Tryz.func61,Tryz.ntmps61
     go_wp2
     go_ret2
     exact ⟨rfl,rfl⟩
   | some p =>
     rw [hf] at hl
     replace hl : (Instr.lookup 100 (.map (some mb)) (.string n) false).run Tryz.prog w = .ok (.pointer (some ⟨p.g,0,none⟩)) w:=hl
     clear hd hf
     go_enter Tryz.func61,Tryz.ntmps61
     go_wp2
     go_ret2
     exact ⟨rfl,rfl⟩
def sizeRes (o : Option FileS) : Value:=match o with | none => .tuple #[.int .i64 0,.int .i64 2] | some x => .tuple #[.int .i64 (x.data.length : Int),.int .i64 0]
theorem findL_mem {K V : Type} {lt : K → K → Bool} (H : KeyOrd lt) {m : List (K × V)} {k : K} {v : V} (h : findL lt m k = some v) : (k,v) ∈ m:=by
 obtain ⟨a,b,e⟩:=findL_split H h
 rw [e]; simp
set_option maxHeartbeats 400000 in
theorem f_size (h : FsAt w fb F S mb rs) (n : ByteArray) : Calls Tryz.prog 28 #[.pointer (some ⟨fb,0,none⟩),.string n] w fun e w' => e = .returned (sizeRes (F.find n)) ∧ w = w':=by
 have hl:=fs_look h n
 have c2 : w.cell? ⟨fb,2,none⟩ = some (.map (some mb)):=blk_cell h.blk 2
 rw [h.find]
 cases hf : findL slt rs n with
 | none =>
   rw [hf] at hl
   replace hl : (Instr.lookup 100 (.map (some mb)) (.string n) false).run Tryz.prog w = .ok (.pointer none) w:=hl
   clear hf h
   go_enter Tryz.func28,Tryz.ntmps28
   go_wp2
   go_ret2
   exact ⟨rfl,rfl⟩
 | some p =>
   rw [hf] at hl
   replace hl : (Instr.lookup 100 (.map (some mb)) (.string n) false).run Tryz.prog w = .ok (.pointer (some ⟨p.g,0,none⟩)) w:=hl
   have hp:=h.pl _ (findL_mem slt_ord hf)
   obtain ⟨a,cap,hv⟩:=hp.bytes.shape
   have d0 : w.cell? ⟨p.g,0,none⟩ = some (.slice a p.fl.data.length cap):=by rw [← hv]; exact blk_cell hp.blk 0
   clear hf h hp hv
   go_enter Tryz.func28,Tryz.ntmps28
   go_wp2
   go_ret2
   exact ⟨rfl,rfl⟩
theorem f_down (h : FsAt w fb F S mb rs) : Calls Tryz.prog 37 #[.pointer (some ⟨fb,0,none⟩)] w fun e w' => e = .returned (.bool F.down) ∧ w = w':=by
 have c : w.cell? ⟨fb,5,none⟩ = some (.bool F.down):=blk_cell h.blk 5
 clear h
 go_enter Tryz.func37,Tryz.ntmps37
 go_wp2
 go_ret
 exact ⟨rfl,rfl⟩
theorem FsAt.post (h : FsAt w fb F S mb rs) {w' : World} {F' : FsS} {mb' : Nat} {rs' : List (ByteArray × Pl)} (h' : FsAt w' fb F' S mb' rs') (hk : Keeps (Only fb) w w') : FsPost w fb F' S w' :=
 ⟨⟨mb',rs',h'.mono (fun _ e => .inl e) (new_lt h.lt hk.size)⟩,hk.mono (fun k _ e => by have : k = fb:=e; rw [this]; exact h.sfb)⟩
end
set_option maxHeartbeats 1000000 in
theorem f_write {w : World} {fb mb : Nat} {F : FsS} {S : Nat → Prop} {rs : List (ByteArray × Pl)} (h : FsAt w fb F S mb rs) (g : Nat) (lb : Array Value) (eg : ∀ args w,(callFunc g args).run Tryz.prog w = .ok (.enter g args) w) (eff : FsS → FsS) (ha : F.armed ≤ 9223372036854775807)
 (hdo : ∀ w1 a,FsAt w1 fb { F with armed:=a } S mb rs → Keeps (Only fb) w w1 → w1.heap.size = w.heap.size → Calls Tryz.prog g lb w1 fun e w2 => e = .returned (.tuple #[]) ∧ FsPost w1 fb (eff { F with armed:=a }) S w2)
 (hs : ∀ a,0 ≤ (eff { F with armed:=a }).steps ∧ (eff { F with armed:=a }).steps < 1000000000) :
 Calls Tryz.prog 59 #[.pointer (some ⟨fb,0,none⟩),.func (.func g) #[] lb] w fun e w' => e = .returned (.int .i64 (F.write eff).2) ∧ FsPost w fb (F.write eff).1 S w':=by
 have c4 : w.cell? ⟨fb,4,none⟩ = some (.int .i64 F.armed):=blk_cell h.blk 4
 have z4 : w.frozen? ⟨fb,4,none⟩ = false:=blk_free h.blk 4
 have HDO:=hid hdo
 have HS:=hid hs
 have H:=hid h
 clear hdo hs
 have fin : ∀ (w1 : World) (a : Int) (w2 : World),FsAt w1 fb { F with armed:=a } S mb rs → Keeps (Only fb) w w1 → w1.heap.size = w.heap.size → FsPost w1 fb (eff { F with armed:=a }) S w2 →
     w2.cell? ⟨fb,3,none⟩ = some (.int .i64 (eff { F with armed:=a }).steps) ∧ w2.frozen? ⟨fb,3,none⟩ = false ∧
     FsPost w fb { eff { F with armed:=a } with steps:=(eff { F with armed:=a }).steps + 1 } S (w2.setCell ⟨fb,3,none⟩ (.int .i64 ((eff { F with armed:=a }).steps + 1))):=by
   intro w1 a w2 h1 hk1 hz1 hp
   obtain ⟨⟨mb2,rs2,h2⟩,hk2⟩:=hp
   refine ⟨blk_cell h2.blk 3,blk_free h2.blk 3,⟨mb2,rs2,?_⟩,?_⟩
   ·refine ((h2.setCell (F':={ eff { F with armed:=a } with steps:=(eff { F with armed:=a }).steps + 1 }) rfl rfl).mono (T:=New w (w2.setCell ⟨fb,3,none⟩ (.int .i64 ((eff { F with armed:=a }).steps + 1))) S) ?_ ?_)
    ·rintro k (e | e)
     ·exact .inl e
     ·exact .inr ⟨by omega,by simpa using e.2⟩
    ·exact new_lt h.lt (by have:=hk2.size; simp; omega)
   ·exact ((hk1.mono (fun k _ e => by have : k = fb:=e; rw [this]; exact h.sfb)).trans' hk2).trans' ((keeps_set _ _ _ _).mono (fun k _ e => by have : k = fb:=e; rw [this]; exact h.sfb))
 have FIN:=hid fin
 clear fin
 by_cases h0 : 0 < F.armed
 ·by_cases h1 : F.armed = 1
  ·have hw : Hid (F.write eff = ({ F with armed:=0,down:=true },5)):=hid (by unfold FsS.write; rw [if_pos h0,if_pos h1])
   have z5 : (w.setCell ⟨fb,4,none⟩ (.int .i64 0)).frozen? ⟨fb,5,none⟩ = false:=blk_free (blk_set h.blk 4 _) 5
   have c5 : (w.setCell ⟨fb,4,none⟩ (.int .i64 0)).cell? ⟨fb,5,none⟩ = some (.bool F.down):=blk_cell (blk_set h.blk 4 _) 5
   clear h
   rw [h1] at c4
   clear h1 h0 ha
   go_enter Tryz.func59,Tryz.ntmps59
   go_wp2
   go_ret
   rw [hw.out]
   refine ⟨rfl,H.out.post (F':={ F with armed:=0,down:=true }) (mb':=mb) (rs':=rs) ?_ ((keeps_set w fb 4 _).trans' (keeps_set _ fb 5 _))⟩
   exact (H.out.setCell (F':={ F with armed:=0 }) (i:=4) (u:=.int .i64 0) rfl rfl).setCell (F':={ F with armed:=0,down:=true }) (i:=5) (u:=.bool true) rfl rfl
  ·have hw : Hid (F.write eff = ({ eff { F with armed:=F.armed - 1 } with steps:=(eff { F with armed:=F.armed - 1 }).steps + 1 },0)):=hid (by unfold FsS.write; rw [if_pos h0,if_neg h1])
   have H1:=hid (h.setCell (F':={ F with armed:=F.armed - 1 }) (i:=4) (u:=.int .i64 (F.armed - 1)) rfl rfl)
   have c4b : (w.setCell ⟨fb,4,none⟩ (.int .i64 (F.armed - 1))).cell? ⟨fb,4,none⟩ = some (.int .i64 (F.armed - 1)):=blk_cell (blk_set h.blk 4 _) 4
   have hne : ((F.armed - 1) == 0) = false:=beq_eq_false_iff_ne.2 (by omega)
   have hb:=HS.out (F.armed - 1)
   clear h h1
   go_enter Tryz.func59,Tryz.ntmps59
   go_wp2_with (fail)
   refine (HDO.out _ (F.armed - 1) H1.out (keeps_set _ _ _ _) (by simp)).mono ?_
   rintro e w2 ⟨rfl,hp⟩
   obtain ⟨c3,z3,hp2⟩:=FIN.out _ _ w2 H1.out (keeps_set _ _ _ _) (by simp) hp
   have HP2:=hid hp2
   clear hp hp2
   obtain ⟨hb0,hb1⟩:=hb
   go_wp2_with (fail)
   go_ret
   rw [hw.out]
   exact ⟨rfl,HP2.out⟩
 ·have hw : Hid (F.write eff = ({ eff F with steps:=(eff F).steps + 1 },0)):=hid (by unfold FsS.write; rw [if_neg h0])
  have hb:=HS.out F.armed
  clear h
  go_enter Tryz.func59,Tryz.ntmps59
  go_wp2_with (fail)
  refine (HDO.out w F.armed H.out (Keeps.refl _ _) rfl).mono ?_
  rintro e w2 ⟨rfl,hp⟩
  obtain ⟨c3,z3,hp2⟩:=FIN.out w F.armed w2 H.out (Keeps.refl _ _) rfl hp
  have HP2:=hid hp2
  clear hp hp2
  obtain ⟨hb0,hb1⟩:=hb
  go_wp2_with (fail)
  go_ret
  rw [hw.out]
  exact ⟨rfl,HP2.out⟩
section
variable {w : World} {fb mb : Nat} {F : FsS} {S : Nat → Prop} {rs : List (ByteArray × Pl)}
theorem FsAt.at_file (h : FsAt w fb F S mb rs) {n : ByteArray} {p : Pl} (hf : findL slt rs n = some p) : PlAt w p ∧ F.find n = some p.fl:=⟨h.pl _ (findL_mem slt_ord hf),by rw [h.find,hf]; rfl⟩
set_option maxHeartbeats 400000 in
theorem f_sync1 (h : FsAt w fb F S mb rs) {n : ByteArray} {p : Pl} (hf : findL slt rs n = some p) {bx : Nat} (hb : IsBlk w bx #[.pointer (some ⟨p.g,0,none⟩)] 104) (_ : (p.fl.data.length : Int) ≤ 1000000000) :
 Calls Tryz.prog 158 #[.pointer (some ⟨bx,0,none⟩)] w fun e w' => e = .returned (.tuple #[]) ∧ FsPost w fb (F.set n ⟨p.fl.data,p.fl.data.length⟩) S w':=by
 have hp:=(h.at_file hf).1
 obtain ⟨a,cap,hv⟩:=hp.bytes.shape
 have c0 : w.cell? ⟨bx,0,none⟩ = some (.pointer (some ⟨p.g,0,none⟩)):=blk_cell hb 0
 have d0 : w.cell? ⟨p.g,0,none⟩ = some (.slice a p.fl.data.length cap):=by rw [← hv]; exact blk_cell hp.blk 0
 have d1 : w.cell? ⟨p.g,1,none⟩ = some (.int .i64 (p.fl.synced : Int)):=blk_cell hp.blk 1
 have z1 : w.frozen? ⟨p.g,1,none⟩ = false:=blk_free hp.blk 1
 have hfin : FsPost w fb (F.set n ⟨p.fl.data,p.fl.data.length⟩) S (w.drew.setCell ⟨p.g,1,none⟩ (.int .i64 (p.fl.data.length : Int))):=by
  have hk : Keeps (blocksOf p) w (w.drew.setCell ⟨p.g,1,none⟩ (.int .i64 (p.fl.data.length : Int))):=((Keeps.refl (blocksOf p) w).drew).setCell (p:=⟨p.g,1,none⟩) (fun _ => .inl rfl) _
  have hq : PlAt (w.drew.setCell ⟨p.g,1,none⟩ (.int .i64 (p.fl.data.length : Int))) { p with fl:=⟨p.fl.data,p.fl.data.length⟩ } :=
   ⟨blk_set (w:=w.drew) hp.blk 1 _,hp.bytes.keeps (((Keeps.refl (Only p.g) w).drew).setCell (p:=⟨p.g,1,none⟩) (fun _ => rfl) _) (fun g hg e => by
    obtain ⟨cur,hc⟩:=hp.bytes.own g hg
    exact blk_ne_type hc hp.blk (by decide) e)⟩
  have:=h.setFile hf (q:={ p with fl:=⟨p.fl.data,p.fl.data.length⟩ }) rfl hk hq (fun k hk => .inl hk)
  exact ⟨⟨_,_,this.1⟩,this.2⟩
 have HF:=hid hfin
 clear hfin h hf hb hp hv
 go_enter Tryz.func158,Tryz.ntmps158
 refine wp_region_still_tail 8 (by kernel_rfl) (by kernel_rfl) ?_
 simp only [List.take_succ_cons,List.take_zero,List.drop_succ_cons,List.drop_zero]
 repeat still_step
 refine wpStill_nil ?_
 go_wp2
 go_end0
 exact ⟨rfl,HF.out⟩
set_option maxHeartbeats 1000000 in
theorem f_sync (h : FsAt w fb F S mb rs) {k : Nat} (ho : FsOk F k) (hk : k < 1000000) (n : ByteArray) :
 Calls Tryz.prog 115 #[.pointer (some ⟨fb,0,none⟩),.string n] w fun e w' => e = .returned (.int .i64 (F.sync n).2) ∧ FsPost w fb (F.sync n).1 S w':=by
 have HOF:=hid (f_of h n)
 have H:=hid h
 have HO:=hid ho
 have eg:=enters_of Tryz.func158 (P:=Tryz.prog) (by kernel_rfl) rfl
 cases hd : F.down with
 | true =>
   have hr : Hid (F.sync n = (F,5)):=hid (by unfold FsS.sync FsS.on; rw [if_pos hd])
   rw [hd] at HOF
   clear h ho hd
   go_enter Tryz.func115,Tryz.ntmps115
   go_wp2_with fail
   refine HOF.out.mono ?_
   rintro e w' ⟨rfl,rfl⟩
   simp only [ofRes,if_true]
   go_wp2_with fail
   go_ret
   rw [hr.out]
   exact ⟨rfl,FsIs.post ⟨mb,rs,H.out⟩ ((Below.refl _ _).alloc (Nat.le_refl _) _)⟩
 | false =>
   rw [hd] at HOF
   cases hf : findL slt rs n with
   | none =>
     have hr : Hid (F.sync n = (F,2)):=hid (by unfold FsS.sync FsS.on; rw [if_neg (by simp [hd]),h.find,hf]; rfl)
     rw [hf] at HOF
     clear h ho hd hf
     go_enter Tryz.func115,Tryz.ntmps115
     go_wp2_with fail
     refine HOF.out.mono ?_
     rintro e w' ⟨rfl,rfl⟩
     simp only [ofRes,Bool.false_eq_true,if_false]
     go_wp2_with fail
     go_ret
     rw [hr.out]
     exact ⟨rfl,FsIs.post ⟨mb,rs,H.out⟩ ((Below.refl _ _).alloc (Nat.le_refl _) _)⟩
   | some p =>
     have hx:=(h.at_file hf).2
     have hr : Hid (F.sync n = F.write fun G => G.set n ⟨p.fl.data,p.fl.data.length⟩):=hid (by unfold FsS.sync FsS.on; rw [if_neg (by simp [hd]),hx])
     have HF:=hid hf
     have HLEN:=hid (ho.len hx)
     rw [hf] at HOF
     clear hx h ho hd hf
     go_enter Tryz.func115,Tryz.ntmps115
     go_wp2_with fail
     refine HOF.out.mono ?_
     rintro e w' ⟨rfl,rfl⟩
     simp only [ofRes,Bool.false_eq_true,if_false]
     go_wp2_with fail
     have hbx:=blk_new w (.cells #[.pointer (some ⟨p.g,0,none⟩)] 104)
     have hkx : Below w.heap.size w (w.alloc (.cells #[.pointer (some ⟨p.g,0,none⟩)] 104)):=(Below.refl _ _).alloc (Nat.le_refl _) _
     generalize w.alloc (.cells #[.pointer (some ⟨p.g,0,none⟩)] 104) = W1 at hbx hkx ⊢
     refine (f_write (H.out.below hkx) 158 #[.pointer (some ⟨w.heap.size,0,none⟩)] eg (fun G => G.set n ⟨p.fl.data,p.fl.data.length⟩) HO.out.armed1 ?_ ?_).mono ?_
     ·intro w1 a h1 hk1 _
      have hb1 : IsBlk w1 w.heap.size #[.pointer (some ⟨p.g,0,none⟩)] 104:=hk1.obj hbx (fun e => by have : w.heap.size = fb:=e; have:=lt_of_block H.out.blk; omega)
      exact f_sync1 h1 HF.out hb1 (by have:=HLEN.out; omega)
     ·intro a
      have:=HO.out.steps0
      have:=HO.out.steps1
      show 0 ≤ F.steps ∧ F.steps < 1000000000
      omega
     ·rintro e w2 ⟨rfl,hp⟩
      have HP:=hid (FsPost.trans_keeps hkx H.out.lt hp)
      clear hp hbx hkx
      go_wp2_with fail
      go_ret
      rw [hr.out]
      exact ⟨rfl,HP.out⟩
end
theorem infoU8 : (Tryz.prog.info? 5).map (fun i => (i.zero,i.size,i.bytes)) = some (some (.int .u8 0),1,1):=by kernel_rfl
theorem append_bytes {w : World} {v u : Value} {xs ys : List UInt8} (hv : SlAt byteKind 5 w v xs) (hu : RdAt byteKind w u ys) (hn : xs.length + ys.length ≤ 140737488355328) (ty : TypeId) :
 ∃ v' w',(Builtin.append_ #[23,23] ty #[v,u]).run Tryz.prog w = .ok v' w' ∧ SlAt byteKind 5 w' v' (xs ++ ys) ∧ Keeps (fun k => v.ownBlock = some k) w w' ∧
   (∀ k,v'.ownBlock = some k → v.ownBlock = some k ∨ w.heap.size ≤ k) ∧ (v' = .slice none 0 0 ↔ v = .slice none 0 0 ∧ ys = []):=by
 obtain ⟨i0,hi,hz0,hz1,hz2⟩:=info_parts infoU8
 exact run_append_sl (ek:=byteKind) 23 ty i0 _ 1 Tryz.underlying23 hi hz0 hz1 hz2 rfl hv hu (by unfold maxLen; omega) (by omega)
section
variable {w : World} {fb mb : Nat} {F : FsS} {S : Nat → Prop} {rs : List (ByteArray × Pl)}
set_option maxHeartbeats 1000000 in
theorem f_append1 (h : FsAt w fb F S mb rs) {n : ByteArray} {p : Pl} (hf : findL slt rs n = some p) {bx bb bf : Nat} {u : Value} {ys : List UInt8} (hb : IsBlk w bx #[.pointer (some ⟨p.g,0,none⟩)] 104) (hbb : IsBlk w bb #[u] 23) (hbf : IsBlk w bf #[.pointer (some ⟨fb,0,none⟩)] 45)
 (hu : RdAt byteKind w u ys) (hn : (p.fl.data.length : Int) + ys.length ≤ 1000000000) (hF0 : 0 ≤ F.used) (hF1 : F.used ≤ 1000000000) :
 Calls Tryz.prog 62 #[.pointer (some ⟨bx,0,none⟩),.pointer (some ⟨bb,0,none⟩),.pointer (some ⟨bf,0,none⟩)] w fun e w' => e = .returned (.tuple #[]) ∧ FsPost w fb { F.set n ⟨p.fl.data ++ ys,p.fl.synced⟩ with used:=F.used + ys.length } S w':=by
 have hp:=(h.at_file hf).1
 obtain ⟨a,cap,hv⟩:=hp.bytes.shape
 have hu0:=hu
 obtain ⟨ua,ucap,rfl,_⟩:=hu0
 obtain ⟨v',w2,hrun,hs2,hk2,ho2,_⟩:=append_bytes (w:=w.drew) (v:=p.v) (u:=.slice ua ys.length ucap) (hp.bytes.below (Below.refl _ _).drew) (hu.below (Below.refl _ _).drew) (by omega) 23
 rw [hv] at hrun
 have c0 : w.cell? ⟨bx,0,none⟩ = some (.pointer (some ⟨p.g,0,none⟩)):=blk_cell hb 0
 have c1 : w.cell? ⟨bb,0,none⟩ = some (.slice ua ys.length ucap):=blk_cell hbb 0
 have d0 : w.cell? ⟨p.g,0,none⟩ = some (.slice a p.fl.data.length cap):=by rw [← hv]; exact blk_cell hp.blk 0
 have ne : ∀ {b : Nat} {cs : Array Value} {T : TypeId},IsBlk w b cs T → T ≠ 5 → ¬ (p.v.ownBlock = some b):=fun hb hT e => by
  obtain ⟨cur,hc⟩:=hp.bytes.own _ e
  exact blk_ne_type hb hc hT rfl
 have e0 : IsBlk w2 bx #[.pointer (some ⟨p.g,0,none⟩)] 104:=hk2.obj (w:=w.drew) hb (ne hb (by decide))
 have e1 : IsBlk w2 bb #[.slice ua ys.length ucap] 23:=hk2.obj (w:=w.drew) hbb (ne hbb (by decide))
 have e2 : IsBlk w2 bf #[.pointer (some ⟨fb,0,none⟩)] 45:=hk2.obj (w:=w.drew) hbf (ne hbf (by decide))
 have e3 : IsBlk w2 p.g #[p.v,.int .i64 (p.fl.synced : Int)] 107:=hk2.obj (w:=w.drew) hp.blk (ne hp.blk (by decide))
 have f0 : w2.cell? ⟨bx,0,none⟩ = some (.pointer (some ⟨p.g,0,none⟩)):=blk_cell e0 0
 have f1 : w2.cell? ⟨bb,0,none⟩ = some (.slice ua ys.length ucap):=blk_cell e1 0
 have g0 : w2.cell? ⟨p.g,0,none⟩ = some (.slice a p.fl.data.length cap):=by rw [← hv]; exact blk_cell e3 0
 have z0 : w2.frozen? ⟨p.g,0,none⟩ = false:=blk_free e3 0
 obtain ⟨va,vcap,hv'⟩:=hs2.shape
 rw [List.length_append] at hv'
 rw [hv'] at hrun
 have H3 : FsAt (w2.setCell ⟨p.g,0,none⟩ (.slice va (p.fl.data.length + ys.length) vcap)) fb (F.set n ⟨p.fl.data ++ ys,p.fl.synced⟩) (New w (w2.setCell ⟨p.g,0,none⟩ (.slice va (p.fl.data.length + ys.length) vcap)) S) mb (putL slt rs n { p with v:=v',fl:=⟨p.fl.data ++ ys,p.fl.synced⟩ }) ∧ Keeps S w (w2.setCell ⟨p.g,0,none⟩ (.slice va (p.fl.data.length + ys.length) vcap)):=by
  have hk : Keeps (blocksOf p) w (w2.setCell ⟨p.g,0,none⟩ (.slice va (p.fl.data.length + ys.length) vcap)) :=
   (((Keeps.refl (blocksOf p) w).drew).trans' (hk2.mono (fun k _ e => .inr e))).setCell (p:=⟨p.g,0,none⟩) (fun _ => .inl rfl) _
  have hb2 : ∀ k,v'.ownBlock = some k → k ≠ p.g:=fun k e e2 => by
   obtain ⟨cur,hc⟩:=hs2.own k e
   exact blk_ne_type hc e3 (by decide) e2
  have hq : PlAt (w2.setCell ⟨p.g,0,none⟩ (.slice va (p.fl.data.length + ys.length) vcap)) { p with v:=v',fl:=⟨p.fl.data ++ ys,p.fl.synced⟩ } :=
   ⟨by have:=blk_set e3 0 v'; rw [hv'] at this ⊢; exact this,hs2.keeps (keeps_set w2 p.g 0 _) (fun g hg e => hb2 g hg e)⟩
  exact h.setFile hf (q:={ p with v:=v',fl:=⟨p.fl.data ++ ys,p.fl.synced⟩ }) rfl hk hq ho2
 have k3 : Keeps (Only p.g) w2 (w2.setCell ⟨p.g,0,none⟩ (.slice va (p.fl.data.length + ys.length) vcap)):=keeps_set _ _ _ _
 have m1:=k3.obj e1 (fun e => blk_ne_type e1 e3 (by decide) e)
 have m2:=k3.obj e2 (fun e => blk_ne_type e2 e3 (by decide) e)
 have HH:=hid h
 have H3:=hid H3
 have M1:=hid m1
 have M2:=hid m2
 clear h hp hv hv' hs2 hk2 ho2 hu ne e0 e1 e2 e3 hb hbb hbf k3 m1 m2
 go_enter Tryz.func62,Tryz.ntmps62
 go_wp2_with (fail)
 have b0 : (w2.setCell ⟨p.g,0,none⟩ (.slice va (p.fl.data.length + ys.length) vcap)).cell? ⟨fb,1,none⟩ = some (.int .i64 F.used):=blk_cell H3.out.1.blk 1
 have b1 : (w2.setCell ⟨p.g,0,none⟩ (.slice va (p.fl.data.length + ys.length) vcap)).frozen? ⟨fb,1,none⟩ = false:=blk_free H3.out.1.blk 1
 have b2 : (w2.setCell ⟨p.g,0,none⟩ (.slice va (p.fl.data.length + ys.length) vcap)).cell? ⟨bb,0,none⟩ = some (.slice ua ys.length ucap):=blk_cell M1.out 0
 have b3 : (w2.setCell ⟨p.g,0,none⟩ (.slice va (p.fl.data.length + ys.length) vcap)).cell? ⟨bf,0,none⟩ = some (.pointer (some ⟨fb,0,none⟩)):=blk_cell M2.out 0
 have hsz : w.heap.size ≤ (w2.setCell ⟨p.g,0,none⟩ (.slice va (p.fl.data.length + ys.length) vcap)).heap.size:=H3.out.2.size
 have HFIN : Hid (FsPost w fb { F.set n ⟨p.fl.data ++ ys,p.fl.synced⟩ with used:=F.used + ys.length } S ((w2.setCell ⟨p.g,0,none⟩ (.slice va (p.fl.data.length + ys.length) vcap)).drew.setCell ⟨fb,1,none⟩ (.int .i64 (F.used + ys.length)))):=hid (by
  have h4:=(H3.out.1.below (Below.refl _ _).drew).setCell (F':={ F.set n ⟨p.fl.data ++ ys,p.fl.synced⟩ with used:=F.used + ys.length }) (i:=1) (u:=.int .i64 (F.used + ys.length)) rfl rfl
  refine ⟨⟨_,_,h4.mono (T:=New w _ S) ?_ ?_⟩,?_⟩
  ·rintro k (e | e)
   ·exact .inl e
   ·exact .inr ⟨e.1,by simpa using e.2⟩
  ·exact new_lt HH.out.lt (by simpa using hsz)
  ·exact (H3.out.2.drew).setCell (p:=⟨fb,1,none⟩) (fun _ => HH.out.sfb) _)
 have HW:=hid (show True from trivial)
 generalize hW3 : w2.setCell ⟨p.g,0,none⟩ (.slice va (p.fl.data.length + ys.length) vcap) = W3 at b0 b1 b2 b3 HFIN
 have HW3:=hid hW3
 clear hW3 H3 M1 M2 HH hsz HW
 go_region_law ((refine step_append_run (by rfl) (.tmp 7) (.tmp 8) 23 (by rfl) _ _ (by rfl) (by rfl) _ _ hrun ?_))
 all_goals
  rw [HW3.out]
  clear HW3 hrun c0 c1 d0 f0 f1 g0 z0
  go_wp2_with (fail)
  refine wp_region_still_tail 9 (by kernel_rfl) (by kernel_rfl) ?_
  simp only [List.take_succ_cons,List.take_zero,List.drop_succ_cons,List.drop_zero]
  repeat still_step
  refine wpStill_nil ?_
  go_wp2
  go_end0
  exact ⟨rfl,HFIN.out⟩
end
theorem alloc2 (w : World) (o1 o2 : Obj) : Below w.heap.size w ((w.alloc o1).alloc o2) ∧ ((w.alloc o1).alloc o2).heap[w.heap.size]? = some o1 ∧ ((w.alloc o1).alloc o2).heap[w.heap.size + 1]? = some o2 ∧ ((w.alloc o1).alloc o2).heap.size = w.heap.size + 2:=by
 have q:=blk_new (w.alloc o1) o2
 rw [World.size_alloc] at q
 exact ⟨((Below.refl _ _).alloc (Nat.le_refl _) _).alloc (by simp) _,blk_alloc (blk_new w o1),q,by simp⟩
theorem alloc3 (w : World) (o1 o2 o3 : Obj) : Below w.heap.size w (((w.alloc o1).alloc o2).alloc o3) ∧ (((w.alloc o1).alloc o2).alloc o3).heap[w.heap.size]? = some o1 ∧ (((w.alloc o1).alloc o2).alloc o3).heap[w.heap.size + 1]? = some o2 ∧
 (((w.alloc o1).alloc o2).alloc o3).heap[w.heap.size + 2]? = some o3 ∧ (((w.alloc o1).alloc o2).alloc o3).heap.size = w.heap.size + 3:=by
 obtain ⟨h1,h2,h3,h4⟩:=alloc2 w o1 o2
 have q:=blk_new ((w.alloc o1).alloc o2) o3
 rw [h4] at q
 exact ⟨h1.alloc (by omega) _,blk_alloc h2,blk_alloc h3,q,by rw [World.size_alloc,h4]⟩
theorem alloc4 (w : World) (o1 o2 o3 o4 : Obj) : Below w.heap.size w ((((w.alloc o1).alloc o2).alloc o3).alloc o4) ∧ ((((w.alloc o1).alloc o2).alloc o3).alloc o4).heap[w.heap.size]? = some o1 ∧ ((((w.alloc o1).alloc o2).alloc o3).alloc o4).heap[w.heap.size + 1]? = some o2 ∧
 ((((w.alloc o1).alloc o2).alloc o3).alloc o4).heap[w.heap.size + 2]? = some o3 ∧ ((((w.alloc o1).alloc o2).alloc o3).alloc o4).heap[w.heap.size + 3]? = some o4 ∧ ((((w.alloc o1).alloc o2).alloc o3).alloc o4).heap.size = w.heap.size + 4:=by
 obtain ⟨h1,h2,h3,h4,h5⟩:=alloc3 w o1 o2 o3
 have q:=blk_new (((w.alloc o1).alloc o2).alloc o3) o4
 rw [h5] at q
 exact ⟨h1.alloc (by omega) _,blk_alloc h2,blk_alloc h3,blk_alloc h4,q,by rw [World.size_alloc,h5]⟩
section
variable {w : World} {fb mb : Nat} {F : FsS} {S : Nat → Prop} {rs : List (ByteArray × Pl)}
theorem f_ofH (h : FsAt w fb F S mb rs) (n : ByteArray) : Hid (∀ W,Below w.heap.size w W → Calls Tryz.prog 61 #[.pointer (some ⟨fb,0,none⟩),.string n] W fun e w' => e = .returned (ofRes F.down (findL slt rs n)) ∧ W = w') :=
 hid fun _ hW => f_of (h.below hW) n
theorem fs_on (h : FsAt w fb F S mb rs) (n : ByteArray) (k : FileS → FsS × Int) : F.on n k = if F.down then (F,5) else match findL slt rs n with | none => (F,2) | some p => k p.fl:=by
 unfold FsS.on
 rw [h.find]
 cases F.down with
 | true => rfl
 | false => cases findL slt rs n <;> rfl
theorem FsAt.unkept {W w1 : World} (hk : Keeps (Only fb) W w1) (h : FsAt W fb F S mb rs) {b : Nat} {cs : Array Value} {T : TypeId} (hb : IsBlk W b cs T) (hT : T ≠ 102) : IsBlk w1 b cs T :=
 hk.obj hb fun e => blk_ne_type hb h.blk hT e
theorem bytes_not_fs {u : Value} {ys : List UInt8} (hu : RdAt byteKind w u ys) (h : FsAt w fb F S mb rs) : ∀ g,u.ownBlock = some g → ys ≠ [] → ¬ Only fb g:=by
 rintro g hg hy rfl
 obtain ⟨off,x,hc⟩:=hu.first hy hg
 rw [blk_cell h.blk] at hc
 have hc : (fsCells F mb)[off]? = some (.int .u8 (x.toNat : Int)):=hc
 match off with
 | 0 | 1 | 2 | 3 | 4 | 5 => simp [fsCells] at hc
 | n + 6 => simp [fsCells] at hc
set_option maxHeartbeats 2000000 in
theorem f_append (h : FsAt w fb F S mb rs) {k : Nat} (ho : FsOk F k) (hk : k < 1000000) (n : ByteArray) {u : Value} {ys : List UInt8} (hu : RdAt byteKind w u ys) (hy : ys.length ≤ 9223372036854775807) :
 Calls Tryz.prog 23 #[.pointer (some ⟨fb,0,none⟩),.string n,u] w fun e w' => e = .returned (.int .i64 (F.append n ys).2) ∧ FsPost w fb (F.append n ys).1 S w':=by
 have HOF:=f_ofH h n
 have H:=hid h
 have HO:=hid ho
 have HU:=hid hu
 have eg:=enters_of Tryz.func62 (P:=Tryz.prog) (by kernel_rfl) rfl
 obtain ⟨ua,ucap,rfl,_⟩:=hu
 have hr0 : F.append n ys = _:=fs_on h n fun x => if F.room - F.used < ys.length then (F,4) else F.write fun G => { G.set n ⟨x.data ++ ys,x.synced⟩ with used:=G.used + ys.length }
 cases hd : F.down with
 | true =>
   have hr : Hid (F.append n ys = (F,5)):=hid (by rw [hd,if_pos rfl] at hr0; exact hr0)
   rw [hd] at HOF
   clear h ho hd hr0
   go_enter Tryz.func23,Tryz.ntmps23
   go_wp2_with fail
   refine (HOF.out _ (alloc2 _ _ _).1).mono ?_
   rintro e w' ⟨rfl,rfl⟩
   simp only [ofRes,if_true]
   go_wp2_with fail
   go_ret
   rw [hr.out]
   exact ⟨rfl,FsIs.post ⟨mb,rs,H.out⟩ (alloc3 _ _ _ _).1⟩
 | false =>
   rw [hd] at HOF hr0
   rw [if_neg (by simp)] at hr0
   cases hf : findL slt rs n with
   | none =>
     rw [hf] at HOF hr0
     have hr : Hid (F.append n ys = (F,2)):=hid hr0
     clear h ho hd hf hr0
     go_enter Tryz.func23,Tryz.ntmps23
     go_wp2_with fail
     refine (HOF.out _ (alloc2 _ _ _).1).mono ?_
     rintro e w' ⟨rfl,rfl⟩
     simp only [ofRes,Bool.false_eq_true,if_false]
     go_wp2_with fail
     go_ret
     rw [hr.out]
     exact ⟨rfl,FsIs.post ⟨mb,rs,H.out⟩ (alloc3 _ _ _ _).1⟩
   | some p =>
     rw [hf] at HOF hr0
     have HF:=hid hf
     have HLEN:=hid (ho.len (h.at_file hf).2)
     have y0:=ho.room0
     have y1:=ho.room1
     have y2:=ho.used0
     have y3:=ho.fits
     have y4 : (ys.length : Int) ≤ 9223372036854775807:=by omega
     have hr : Hid (F.append n ys = if F.room - F.used < (ys.length : Int) then (F,4) else F.write fun G => { G.set n ⟨p.fl.data ++ ys,p.fl.synced⟩ with used:=G.used + ys.length }):=hid hr0
     clear h ho hd hf hr0
     go_enter Tryz.func23,Tryz.ntmps23
     go_wp2_with fail
     refine (HOF.out _ (alloc2 _ _ _).1).mono ?_
     rintro e w' ⟨rfl,rfl⟩
     simp only [ofRes,Bool.false_eq_true,if_false]
     go_wp2_with fail
     obtain ⟨hkx,hbf,hbb,hbx,hsz⟩:=alloc3 w (.cells #[.pointer (some ⟨fb,0,none⟩)] 45) (.cells #[.slice ua ys.length ucap] 23) (.cells #[.pointer (some ⟨p.g,0,none⟩)] 104)
     generalize ((w.alloc (.cells #[.pointer (some ⟨fb,0,none⟩)] 45)).alloc (.cells #[.slice ua ys.length ucap] 23)).alloc (.cells #[.pointer (some ⟨p.g,0,none⟩)] 104) = W1 at hkx hbf hbb hbx hsz ⊢
     have c0 : W1.cell? ⟨w.heap.size,0,none⟩ = some (.pointer (some ⟨fb,0,none⟩)):=blk_cell hbf 0
     have c1 : W1.cell? ⟨w.heap.size + 1,0,none⟩ = some (.slice ua ys.length ucap):=blk_cell hbb 0
     have H1:=hid (H.out.below hkx)
     have d0 : W1.cell? ⟨fb,0,none⟩ = some (.int .i64 F.room):=blk_cell H1.out.blk 0
     have d1 : W1.cell? ⟨fb,1,none⟩ = some (.int .i64 F.used):=blk_cell H1.out.blk 1
     have HB:=hid (And.intro hkx (And.intro hbf (And.intro hbb hbx)))
     clear hkx hbf hbb hbx hsz
     by_cases hle : F.room - F.used < (ys.length : Int)
     ·go_quiet (fail)
      go_wp2_with fail
      go_ret
      rw [hr.out,if_pos hle]
      exact ⟨rfl,FsIs.post ⟨mb,rs,H.out⟩ (HB.out.1.trans (below_drewN _ _ _))⟩
     ·go_quiet (fail)
      have hW : Below W1.heap.size W1 (W1.drewN nq):=below_drewN _ _ _
      have c0 : (W1.drewN nq).cell? ⟨w.heap.size,0,none⟩ = some (.pointer (some ⟨fb,0,none⟩)):=c0
      have hbx : IsBlk (W1.drewN nq) (w.heap.size + 1 + 1) #[.pointer (some ⟨p.g,0,none⟩)] 104:=HB.out.2.2.2
      have hbb : IsBlk (W1.drewN nq) (w.heap.size + 1) #[.slice ua ys.length ucap] 23:=HB.out.2.2.1
      have hbf : IsBlk (W1.drewN nq) w.heap.size #[.pointer (some ⟨fb,0,none⟩)] 45:=HB.out.2.1
      generalize W1.drewN nq = W2 at hW c0 hbx hbb hbf ⊢
      have HB2:=hid (And.intro hbf (And.intro hbb hbx))
      have H2:=hid (H1.out.below hW)
      have HW:=hid (HB.out.1.trans (hW.mono HB.out.1.size))
      clear hbx hbb hbf hW c1 d0 d1
      go_wp2_with fail
      refine (f_write H2.out 62 #[.pointer (some ⟨w.heap.size + 1 + 1,0,none⟩),.pointer (some ⟨w.heap.size + 1,0,none⟩),.pointer (some ⟨w.heap.size,0,none⟩)] eg (fun G => { G.set n ⟨p.fl.data ++ ys,p.fl.synced⟩ with used:=G.used + ys.length }) HO.out.armed1 ?_ ?_).mono ?_
      ·intro w1 a h1 hk1 hz1
       exact f_append1 h1 HF.out (H2.out.unkept hk1 HB2.out.2.2 (by decide)) (H2.out.unkept hk1 HB2.out.2.1 (by decide)) (H2.out.unkept hk1 HB2.out.1 (by decide))
         ((HU.out.below HW.out).keeps' hk1 (bytes_not_fs (HU.out.below HW.out) H2.out)) (by have:=HLEN.out; omega) y2 (by show F.used ≤ _; omega)
      ·intro a
       have:=HO.out.steps0
       have:=HO.out.steps1
       show 0 ≤ F.steps ∧ F.steps < 1000000000
       omega
      ·rintro e w2 ⟨rfl,hp⟩
       have HP:=hid (FsPost.trans_keeps HW.out H.out.lt hp)
       clear hp
       go_wp2_with fail
       go_ret
       rw [hr.out,if_neg (by omega)]
       exact ⟨rfl,HP.out⟩
theorem SlAt.cut {α : Type} {ek : ElKind α} {e : TypeId} {g off cap : Nat} {xs : List α} (h : SlAt ek e w (.slice (some ⟨g,off,none⟩) xs.length cap) xs) {k : Nat} (hk : k ≤ xs.length) : SlAt ek e w (.slice (some ⟨g,off,none⟩) k k) (xs.take k):=by
 have hl : (xs.take k).length = k:=by rw [List.length_take]; omega
 rcases h with ⟨e1,_⟩ | ⟨g',off',cap',cur,e1,hb,hc,hm,hs,hr⟩
 ·simp at e1
 ·injection e1 with e2 _ e3
  injection e2 with e2
  injection e2 with e4 e5 _
  subst e3 e4 e5
  have h1 : k * ek.size ≤ xs.length * ek.size:=Nat.mul_le_mul_right _ hk
  have h2 : k * ek.size ≤ cap * ek.size:=Nat.mul_le_mul_right _ (by omega)
  refine .inr ⟨g,off,k,cur,by rw [hl],hb,by omega,by omega,by omega,fun i hi => ?_⟩
  rw [hl] at hi
  rw [hr i (by omega)]
  conv => lhs; rw [← List.take_append_drop k xs]
  rw [List.flatMap_append,List.getElem?_append_left (by rw [flat_len ek.len,hl]; exact hi)]
set_option maxHeartbeats 2000000 in
theorem f_cut (h : FsAt w fb F S mb rs) {n : ByteArray} {p : Pl} (hf : findL slt rs n = some p) {k : Nat} (hk : k ≤ p.fl.data.length) (hm : p.fl.data.length ≤ 1000000000) (hsy : p.fl.synced ≤ p.fl.data.length) (hF0 : 0 ≤ F.used) (hF1 : F.used ≤ 1000000000) :
 Calls Tryz.prog 90 #[.pointer (some ⟨fb,0,none⟩),.pointer (some ⟨p.g,0,none⟩),.int .i64 (k : Int)] w fun e w' => e = .returned (.tuple #[]) ∧ ∃ q,q.g = p.g ∧ q.fl = ⟨p.fl.data.take k,min p.fl.synced k⟩ ∧ FsAt w' fb (F.cut n p.fl k) (New w w' S) mb (putL slt rs n q) ∧ Keeps S w w':=by
 have hp:=(h.at_file hf).1
 obtain ⟨v2,a,a2,cap,cap2,hv,hv2,hsl,how,hcase⟩ : ∃ (v2 : Value) (a a2 : Option Addr) (cap cap2 : Nat),p.v = .slice a p.fl.data.length cap ∧ v2 = .slice a2 k cap2 ∧ SlAt byteKind 5 w v2 (p.fl.data.take k) ∧ v2.ownBlock = p.v.ownBlock ∧
     ((a = none ∧ a2 = none ∧ cap = 0 ∧ cap2 = 0 ∧ k = 0 ∧ p.fl.data.length = 0) ∨ ∃ g off,a = some ⟨g,off,none⟩ ∧ a2 = a ∧ cap2 = k ∧ p.fl.data.length ≤ cap ∧ cap ≤ maxLen):=by
   rcases hp.bytes with ⟨e1,e2⟩ | ⟨g,off,cap,cur,e1,hb,hc,hmx,hs,hr⟩
   ·have hk0 : k = 0:=by rw [e2] at hk; simpa using hk
    subst hk0
    exact ⟨.slice none 0 0,none,none,0,0,by rw [e1,e2]; rfl,rfl,by simp; exact SlAt.nil,by rw [e1],.inl ⟨rfl,rfl,rfl,rfl,rfl,by rw [e2]; rfl⟩⟩
   ·have hb2:=hp.bytes
    rw [e1] at hb2
    exact ⟨.slice (some ⟨g,off,none⟩) k k,_,_,cap,k,e1,rfl,hb2.cut hk,by rw [e1]; rfl,.inr ⟨g,off,rfl,rfl,rfl,hc,hmx⟩⟩
 have d0 : w.cell? ⟨p.g,0,none⟩ = some (.slice a p.fl.data.length cap):=by rw [← hv]; exact blk_cell hp.blk 0
 have u1 : w.cell? ⟨fb,1,none⟩ = some (.int .i64 F.used):=blk_cell h.blk 1
 have uz : w.frozen? ⟨fb,1,none⟩ = false:=blk_free h.blk 1
 have h1:=h.setCell (F':={ F with used:=F.used - (p.fl.data.length - k) }) (i:=1) (u:=.int .i64 (F.used - (p.fl.data.length - k))) rfl rfl
 have k1 : Keeps (Only fb) w (w.setCell ⟨fb,1,none⟩ (.int .i64 (F.used - (p.fl.data.length - k)))):=keeps_set _ _ _ _
 have HW1 : Hid (∃ W1,W1 = w.setCell ⟨fb,1,none⟩ (.int .i64 (F.used - (p.fl.data.length - k)))):=hid ⟨_,rfl⟩
 obtain ⟨W1,hW1⟩:=HW1.out
 rw [← hW1] at h1 k1
 have hp1:=(h1.at_file hf).1
 have e0 : W1.cell? ⟨p.g,0,none⟩ = some (.slice a p.fl.data.length cap):=by rw [← hv]; exact blk_cell hp1.blk 0
 have z0 : W1.frozen? ⟨p.g,0,none⟩ = false:=blk_free hp1.blk 0
 have b2 : IsBlk (W1.setCell ⟨p.g,0,none⟩ v2) p.g #[v2,.int .i64 (p.fl.synced : Int)] 107:=blk_set hp1.blk 0 v2
 have e1 : (W1.setCell ⟨p.g,0,none⟩ v2).cell? ⟨p.g,1,none⟩ = some (.int .i64 (p.fl.synced : Int)):=blk_cell b2 1
 have z1 : (W1.setCell ⟨p.g,0,none⟩ v2).frozen? ⟨p.g,1,none⟩ = false:=blk_free b2 1
 have hmin : (min (p.fl.synced : Int) (k : Int)) = ((min p.fl.synced k : Nat) : Int):=by omega
 have HFIN : Hid (∃ q,q.g = p.g ∧ q.fl = ⟨p.fl.data.take k,min p.fl.synced k⟩ ∧ FsAt ((W1.setCell ⟨p.g,0,none⟩ v2).setCell ⟨p.g,1,none⟩ (.int .i64 ((min p.fl.synced k : Nat) : Int))) fb (F.cut n p.fl k) (New w ((W1.setCell ⟨p.g,0,none⟩ v2).setCell ⟨p.g,1,none⟩ (.int .i64 ((min p.fl.synced k : Nat) : Int))) S) mb (putL slt rs n q) ∧
     Keeps S w ((W1.setCell ⟨p.g,0,none⟩ v2).setCell ⟨p.g,1,none⟩ (.int .i64 ((min p.fl.synced k : Nat) : Int)))):=hid (by
   have hkp : Keeps (Only p.g) W1 ((W1.setCell ⟨p.g,0,none⟩ v2).setCell ⟨p.g,1,none⟩ (.int .i64 ((min p.fl.synced k : Nat) : Int))):=(keeps_set _ _ _ _).trans' (keeps_set _ _ _ _)
   have hq : PlAt ((W1.setCell ⟨p.g,0,none⟩ v2).setCell ⟨p.g,1,none⟩ (.int .i64 ((min p.fl.synced k : Nat) : Int))) ⟨p.g,v2,⟨p.fl.data.take k,min p.fl.synced k⟩⟩:=by
    refine ⟨blk_set b2 1 _,?_⟩
    have s1 : SlAt byteKind 5 W1 v2 (p.fl.data.take k):=hsl.keeps k1 (fun g hg e => by
     rw [how] at hg
     obtain ⟨cur,hc⟩:=hp.bytes.own g hg
     exact blk_ne_type hc h.blk (by decide) e)
    exact s1.keeps hkp (fun g hg e => by
     rw [how] at hg
     obtain ⟨cur,hc⟩:=hp1.bytes.own g hg
     exact blk_ne_type hc hp1.blk (by decide) e)
   have:=h1.setFile hf (q:=⟨p.g,v2,⟨p.fl.data.take k,min p.fl.synced k⟩⟩) rfl (hkp.mono (fun _ _ e => .inl e)) hq (fun k hk => .inl (by rw [← how]; exact hk))
   refine ⟨⟨p.g,v2,⟨p.fl.data.take k,min p.fl.synced k⟩⟩,rfl,rfl,this.1.mono ?_ ?_,?_⟩
   ·rintro i (e | e)
    ·exact .inl e
    ·exact .inr ⟨by have:=k1.size; omega,e.2⟩
   ·exact new_lt h.lt (Nat.le_trans k1.size this.2.size)
   ·exact (k1.mono (fun i _ e => by have : i = fb:=e; rw [this]; exact h.sfb)).trans' this.2)
 have hk' : (k : Int) ≤ (p.fl.data.length : Int):=by omega
 have hm' : (p.fl.data.length : Int) ≤ 1000000000:=by omega
 clear h h1 k1 hp hp1 hv hsl how b2
 rw [hv2] at e1 z1 HFIN
 clear hv2
 have HMIN:=hid hmin
 clear hmin HW1
 subst hW1
 have fin : ∀ X : World,Below ((((w.setCell ⟨fb,1,none⟩ (.int .i64 (F.used - (p.fl.data.length - k)))).setCell ⟨p.g,0,none⟩ (.slice a2 k cap2)).setCell ⟨p.g,1,none⟩ (.int .i64 ((min p.fl.synced k : Nat) : Int)))).heap.size
     ((((w.setCell ⟨fb,1,none⟩ (.int .i64 (F.used - (p.fl.data.length - k)))).setCell ⟨p.g,0,none⟩ (.slice a2 k cap2)).setCell ⟨p.g,1,none⟩ (.int .i64 ((min p.fl.synced k : Nat) : Int)))) X →
     ∃ q,q.g = p.g ∧ q.fl = ⟨p.fl.data.take k,min p.fl.synced k⟩ ∧ FsAt X fb (F.cut n p.fl k) (New w X S) mb (putL slt rs n q) ∧ Keeps S w X:=by
   intro X hX
   obtain ⟨q,h1,h2,h3,h4⟩:=HFIN.out
   refine ⟨q,h1,h2,(h3.below hX).mono ?_ ?_,h4.trans' ((Keeps.of_below hX).mono fun _ _ e => e.elim)⟩
   ·rintro i (e | e)
    ·exact .inl e
    ·exact .inr ⟨e.1,Nat.lt_of_lt_of_le e.2 hX.size⟩
   ·rintro i (e | e)
    ·exact Nat.lt_of_lt_of_le (h3.lt i (.inl e)) hX.size
    ·exact e.2
 have FIN:=hid fin
 clear fin HFIN
 rcases hcase with ⟨rfl,rfl,rfl,rfl,rfl,hz⟩ | ⟨g,off,rfl,rfl,rfl,hc1,hc2⟩
 ·have fin:=FIN.out
  have hmn:=HMIN.out
  clear FIN HMIN
  simp only [Int.natCast_zero,Int.sub_zero] at fin hmn u1 uz e0 z0 e1 z1 hk'
  have FIN:=hid fin
  have HMIN:=hid hmn
  have HZ:=hid hz
  have hl0 : (0 : Int) ≤ (p.fl.data.length : Int):=by omega
  clear fin hmn hz hk
  go_enter Tryz.func90,Tryz.ntmps90
  go_wp2_with (fail)
  refine wp_region_still_tail 14 (by kernel_rfl) (by kernel_rfl) ?_
  simp only [List.take_succ_cons,List.take_zero,List.drop_succ_cons,List.drop_zero]
  repeat still_step
  refine wpStill_nil ?_
  go_wp2_with (fail)
  go_end0
  rw [HMIN.out]
  exact ⟨rfl,FIN.out _ (Below.refl _ _).drew⟩
 ·have hc1' : (p.fl.data.length : Int) ≤ (cap : Int):=by omega
  unfold maxLen at hc2
  have hc2' : (cap : Int) ≤ 9223372036854775807:=by omega
  clear hc2 hc1
  go_enter Tryz.func90,Tryz.ntmps90
  go_wp2_with (fail)
  refine wp_region_still_tail 14 (by kernel_rfl) (by kernel_rfl) ?_
  simp only [List.take_succ_cons,List.take_zero,List.drop_succ_cons,List.drop_zero]
  repeat still_step
  refine wpStill_nil ?_
  go_wp2_with (fail)
  go_end0
  rw [HMIN.out]
  exact ⟨rfl,FIN.out _ (Below.refl _ _).drew⟩
end
section
variable {w : World} {fb mb : Nat} {F : FsS} {S : Nat → Prop} {rs : List (ByteArray × Pl)}
set_option maxHeartbeats 1000000 in
theorem f_truncate1 (h : FsAt w fb F S mb rs) {n : ByteArray} {p : Pl} (hf : findL slt rs n = some p) {bf bx bn k : Nat} (hbf : IsBlk w bf #[.pointer (some ⟨fb,0,none⟩)] 45) (hbx : IsBlk w bx #[.pointer (some ⟨p.g,0,none⟩)] 104) (hbn : IsBlk w bn #[.int .i64 (k : Int)] 3)
 (hk : k ≤ p.fl.data.length) (hm : p.fl.data.length ≤ 1000000000) (hsy : p.fl.synced ≤ p.fl.data.length) (hF0 : 0 ≤ F.used) (hF1 : F.used ≤ 1000000000) :
 Calls Tryz.prog 89 #[.pointer (some ⟨bf,0,none⟩),.pointer (some ⟨bx,0,none⟩),.pointer (some ⟨bn,0,none⟩)] w fun e w' => e = .returned (.tuple #[]) ∧ FsPost w fb (F.cut n p.fl k) S w':=by
 have HC:=hid (f_cut h hf hk hm hsy hF0 hF1)
 have c0 : w.cell? ⟨bf,0,none⟩ = some (.pointer (some ⟨fb,0,none⟩)):=blk_cell hbf 0
 have c1 : w.cell? ⟨bx,0,none⟩ = some (.pointer (some ⟨p.g,0,none⟩)):=blk_cell hbx 0
 have c2 : w.cell? ⟨bn,0,none⟩ = some (.int .i64 (k : Int)):=blk_cell hbn 0
 clear h hf hbf hbx hbn hk hm hsy hF0 hF1
 go_enter Tryz.func89,Tryz.ntmps89
 go_wp2_with fail
 refine HC.out.mono ?_
 rintro e w' ⟨rfl,q,_,_,h3,h4⟩
 have H3:=hid h3
 have H4:=hid h4
 clear h3 h4
 go_wp2_with fail
 go_end0
 exact ⟨rfl,⟨_,_,H3.out⟩,H4.out⟩
set_option maxHeartbeats 2000000 in
theorem f_truncate (h : FsAt w fb F S mb rs) {k : Nat} (ho : FsOk F k) (hk : k < 1000000) (n : ByteArray) (m : Int) :
 Calls Tryz.prog 29 #[.pointer (some ⟨fb,0,none⟩),.string n,.int .i64 m] w fun e w' => e = .returned (.int .i64 (F.truncate n m).2) ∧ FsPost w fb (F.truncate n m).1 S w':=by
 have HOF:=f_ofH h n
 have H:=hid h
 have HO:=hid ho
 have eg:=enters_of Tryz.func89 (P:=Tryz.prog) (by kernel_rfl) rfl
 have hr0 : F.truncate n m = _:=fs_on h n fun x => if m < 0 ∨ (x.data.length : Int) < m then (F,6) else F.write fun G => G.cut n x m.toNat
 cases hd : F.down with
 | true =>
   have hr : Hid (F.truncate n m = (F,5)):=hid (by rw [hd,if_pos rfl] at hr0; exact hr0)
   rw [hd] at HOF
   clear h ho hd hr0
   go_enter Tryz.func29,Tryz.ntmps29
   go_wp2_with fail
   refine (HOF.out _ (alloc2 _ _ _).1).mono ?_
   rintro e w' ⟨rfl,rfl⟩
   simp only [ofRes,if_true]
   go_wp2_with fail
   go_ret
   rw [hr.out]
   exact ⟨rfl,FsIs.post ⟨mb,rs,H.out⟩ (alloc3 _ _ _ _).1⟩
 | false =>
   rw [hd] at HOF hr0
   rw [if_neg (by simp)] at hr0
   cases hf : findL slt rs n with
   | none =>
     rw [hf] at HOF hr0
     have hr : Hid (F.truncate n m = (F,2)):=hid hr0
     clear h ho hd hf hr0
     go_enter Tryz.func29,Tryz.ntmps29
     go_wp2_with fail
     refine (HOF.out _ (alloc2 _ _ _).1).mono ?_
     rintro e w' ⟨rfl,rfl⟩
     simp only [ofRes,Bool.false_eq_true,if_false]
     go_wp2_with fail
     go_ret
     rw [hr.out]
     exact ⟨rfl,FsIs.post ⟨mb,rs,H.out⟩ (alloc3 _ _ _ _).1⟩
   | some p =>
     rw [hf] at HOF hr0
     have HF:=hid hf
     have HLEN:=hid (ho.len (h.at_file hf).2)
     have hr : Hid (F.truncate n m = if m < 0 ∨ (p.fl.data.length : Int) < m then (F,6) else F.write fun G => G.cut n p.fl m.toNat):=hid hr0
     obtain ⟨a,cap,hv⟩:=(h.at_file hf).1.bytes.shape
     have HV:=hid hv
     have HU : Hid (0 ≤ F.used ∧ F.used ≤ 1000000000):=hid (by have:=ho.used0; have:=ho.fits; have:=ho.room1; omega)
     clear h ho hd hf hr0 hv
     go_enter Tryz.func29,Tryz.ntmps29
     go_wp2_with fail
     refine (HOF.out _ (alloc2 _ _ _).1).mono ?_
     rintro e w' ⟨rfl,rfl⟩
     simp only [ofRes,Bool.false_eq_true,if_false]
     go_wp2_with fail
     obtain ⟨hkx,hbf,hbn,hbx,hsz⟩:=alloc3 w (.cells #[.pointer (some ⟨fb,0,none⟩)] 45) (.cells #[.int .i64 m] 3) (.cells #[.pointer (some ⟨p.g,0,none⟩)] 104)
     generalize ((w.alloc (.cells #[.pointer (some ⟨fb,0,none⟩)] 45)).alloc (.cells #[.int .i64 m] 3)).alloc (.cells #[.pointer (some ⟨p.g,0,none⟩)] 104) = W1 at hkx hbf hbn hbx hsz ⊢
     have c0 : W1.cell? ⟨w.heap.size,0,none⟩ = some (.pointer (some ⟨fb,0,none⟩)):=blk_cell hbf 0
     have c1 : W1.cell? ⟨w.heap.size + 1,0,none⟩ = some (.int .i64 m):=blk_cell hbn 0
     have c2 : W1.cell? ⟨w.heap.size + 1 + 1,0,none⟩ = some (.pointer (some ⟨p.g,0,none⟩)):=blk_cell hbx 0
     have H1:=hid (H.out.below hkx)
     have d0 : W1.cell? ⟨p.g,0,none⟩ = some (.slice a p.fl.data.length cap):=by rw [← HV.out]; exact blk_cell (H1.out.at_file HF.out).1.blk 0
     have HB:=hid (And.intro hkx (And.intro hbf (And.intro hbn hbx)))
     clear hkx hbf hbn hbx hsz
     by_cases hneg : m < 0
     ·go_quiet (fail)
      go_wp2_with fail
      go_ret
      rw [hr.out,if_pos (.inl hneg)]
      exact ⟨rfl,FsIs.post ⟨mb,rs,H.out⟩ (HB.out.1.trans (below_drewN _ _ _))⟩
     ·have hneg2 : decide (m < 0) = false:=by simpa using hneg
      by_cases hgt : (p.fl.data.length : Int) < m
      ·go_quiet (fail)
       go_wp2_with fail
       go_ret
       rw [hr.out,if_pos (.inr (by omega))]
       exact ⟨rfl,FsIs.post ⟨mb,rs,H.out⟩ (HB.out.1.trans (below_drewN _ _ _))⟩
      ·go_quiet (fail)
       have hW : Below W1.heap.size W1 (W1.drewN nq):=below_drewN _ _ _
       have c0 : (W1.drewN nq).cell? ⟨w.heap.size,0,none⟩ = some (.pointer (some ⟨fb,0,none⟩)):=c0
       have hbx : IsBlk (W1.drewN nq) (w.heap.size + 1 + 1) #[.pointer (some ⟨p.g,0,none⟩)] 104:=HB.out.2.2.2
       have hbn : IsBlk (W1.drewN nq) (w.heap.size + 1) #[.int .i64 m] 3:=HB.out.2.2.1
       have hbf : IsBlk (W1.drewN nq) w.heap.size #[.pointer (some ⟨fb,0,none⟩)] 45:=HB.out.2.1
       generalize W1.drewN nq = W2 at hW c0 hbx hbn hbf ⊢
       have HB2:=hid (And.intro hbf (And.intro hbn hbx))
       have H2:=hid (H1.out.below hW)
       have HW:=hid (HB.out.1.trans (hW.mono HB.out.1.size))
       have HM : Hid (m = (m.toNat : Int) ∧ m.toNat ≤ p.fl.data.length):=hid (by omega)
       have HCOND : Hid (¬ (m < 0 ∨ (p.fl.data.length : Int) < m)):=hid (by omega)
       clear hbx hbn hbf hW c1 c2 d0 hneg hneg2 hgt
       go_wp2_with fail
       refine (f_write H2.out 89 #[.pointer (some ⟨w.heap.size,0,none⟩),.pointer (some ⟨w.heap.size + 1 + 1,0,none⟩),.pointer (some ⟨w.heap.size + 1,0,none⟩)] eg (fun G => G.cut n p.fl m.toNat) HO.out.armed1 ?_ ?_).mono ?_
       ·intro w1 a h1 hk1 hz1
        refine f_truncate1 h1 HF.out (H2.out.unkept hk1 HB2.out.1 (by decide)) (H2.out.unkept hk1 HB2.out.2.2 (by decide)) (by rw [← HM.out.1]; exact H2.out.unkept hk1 HB2.out.2.1 (by decide)) HM.out.2 (by have:=HLEN.out; omega) HLEN.out.2.1 HU.out.1 HU.out.2
       ·intro a
        have:=HO.out.steps0
        have:=HO.out.steps1
        show 0 ≤ F.steps ∧ F.steps < 1000000000
        omega
       ·rintro e w2 ⟨rfl,hp⟩
        have HP:=hid (FsPost.trans_keeps HW.out H.out.lt hp)
        clear hp
        go_wp2_with fail
        go_ret
        rw [hr.out,if_neg HCOND.out]
        exact ⟨rfl,HP.out⟩
theorem dropL_sub {K V : Type} {lt : K → K → Bool} (m : List (K × V)) (k : K) : (dropL lt m k).Sublist m:=List.filter_sublist
theorem FsAt.dropFile (h : FsAt w fb F S mb rs) {w' : World} {n : ByteArray} (hm : MapAt strKind evP w' mb (dropL slt rs n)) (hk : Keeps (fun i => i = mb) w w') : FsAt w' fb { F with files:=dropL slt F.files n } S mb (dropL slt rs n):=by
 have hs:=dropL_sub (lt:=slt) rs n
 refine ⟨hk.obj h.blk (fun e => h.map.not_blk h.blk e),hm,?_,fun x hx => (h.pl x (hs.subset hx)).keeps hk ?_,h.apart.sublist hs,h.sfb,h.smb,fun x hx => h.sp x (hs.subset hx),fun k hk1 => Nat.lt_of_lt_of_le (h.lt k hk1) hk.size⟩
 ·show dropL slt F.files n = _
  rw [h.files]; exact (dropL_map (fun q : Pl => q.fl) rs n).symm
 ·rintro k (rfl | e) rfl
  ·exact h.map.not_blk (h.pl x (hs.subset hx)).blk rfl
  ·obtain ⟨cur,hc⟩:=(h.pl x (hs.subset hx)).bytes.own _ e
   exact h.map.not_blk hc rfl
set_option maxHeartbeats 1000000 in
theorem f_remove1 (h : FsAt w fb F S mb rs) {n : ByteArray} {p : Pl} (hf : findL slt rs n = some p) {bf bx bn : Nat} (hbf : IsBlk w bf #[.pointer (some ⟨fb,0,none⟩)] 45) (hbx : IsBlk w bx #[.pointer (some ⟨p.g,0,none⟩)] 104) (hbn : IsBlk w bn #[.string n] 9)
 (hm : p.fl.data.length ≤ 1000000000) (hF0 : 0 ≤ F.used) (hF1 : F.used ≤ 1000000000) :
 Calls Tryz.prog 157 #[.pointer (some ⟨bf,0,none⟩),.pointer (some ⟨bx,0,none⟩),.pointer (some ⟨bn,0,none⟩)] w fun e w' => e = .returned (.tuple #[]) ∧ FsPost w fb { F with used:=F.used - p.fl.data.length,files:=dropL slt F.files n } S w':=by
 have hp:=(h.at_file hf).1
 obtain ⟨a,cap,hv⟩:=hp.bytes.shape
 have c0 : w.cell? ⟨bf,0,none⟩ = some (.pointer (some ⟨fb,0,none⟩)):=blk_cell hbf 0
 have c1 : w.cell? ⟨bx,0,none⟩ = some (.pointer (some ⟨p.g,0,none⟩)):=blk_cell hbx 0
 have d0 : w.cell? ⟨p.g,0,none⟩ = some (.slice a p.fl.data.length cap):=by rw [← hv]; exact blk_cell hp.blk 0
 have u1 : w.cell? ⟨fb,1,none⟩ = some (.int .i64 F.used):=blk_cell h.blk 1
 have uz : w.frozen? ⟨fb,1,none⟩ = false:=blk_free h.blk 1
 have k1 : Keeps (Only fb) w (w.setCell ⟨fb,1,none⟩ (.int .i64 (F.used - p.fl.data.length))):=keeps_set _ _ _ _
 have h1:=h.setCell (F':={ F with used:=F.used - p.fl.data.length }) (i:=1) (u:=.int .i64 (F.used - p.fl.data.length)) rfl rfl
 have e0 : (w.setCell ⟨fb,1,none⟩ (.int .i64 (F.used - p.fl.data.length))).cell? ⟨bf,0,none⟩ = some (.pointer (some ⟨fb,0,none⟩)):=blk_cell (h.unkept k1 hbf (by decide)) 0
 have e1 : (w.setCell ⟨fb,1,none⟩ (.int .i64 (F.used - p.fl.data.length))).cell? ⟨bn,0,none⟩ = some (.string n):=blk_cell (h.unkept k1 hbn (by decide)) 0
 have e2 : (w.setCell ⟨fb,1,none⟩ (.int .i64 (F.used - p.fl.data.length))).cell? ⟨fb,2,none⟩ = some (.map (some mb)):=blk_cell h1.blk 2
 have hm' : (p.fl.data.length : Int) ≤ 1000000000:=by omega
 have HW1 : ∃ W1,W1 = (w.setCell ⟨fb,1,none⟩ (.int .i64 (F.used - p.fl.data.length))).drew:=⟨_,rfl⟩
 obtain ⟨W1,hW1⟩:=HW1
 have h2 : FsAt W1 fb { F with used:=F.used - p.fl.data.length } S mb rs:=by rw [hW1]; exact h1.below (Below.refl _ _).drew
 have k2 : Keeps S w W1:=by rw [hW1]; exact (k1.mono (fun i _ e => by have : i = fb:=e; rw [this]; exact h.sfb)).drew
 have hdrop : ∀ W2,FsAt W2 fb { F with used:=F.used - p.fl.data.length } S mb rs → Keeps S w W2 → ∃ w',(Builtin.delete_ #[100,9] 0 #[.map (some mb),.string n]).run Tryz.prog W2 = .ok (.tuple #[]) w' ∧ FsPost w fb { F with used:=F.used - p.fl.data.length,files:=dropL slt F.files n } S w':=by
  intro W2 hW2 hkW
  obtain ⟨w',hrun,hm2,hk2,hz2⟩:=hW2.map.drop (P:=Tryz.prog) (t:=100) Tryz.underlying100 Tryz.underlying9 n 0
  have h3:=hW2.dropFile hm2 hk2
  refine ⟨w',hrun,⟨mb,_,h3.mono (fun _ e => .inl e) (new_lt h.lt (by have:=hkW.size; omega))⟩,hkW.trans' (hk2.mono (fun i _ e => by rw [e]; exact hW2.smb))⟩
 have HD:=hid hdrop
 have H2:=hid h2
 have K2:=hid k2
 have HW1:=hid hW1
 clear hW1 hdrop h hf hbf hbx hbn hp hv h1 k1 h2 k2 hm
 go_enter Tryz.func157,Tryz.ntmps157
 go_wp2_with (fail)
 refine wp_region_still_tail 12 (by kernel_rfl) (by kernel_rfl) ?_
 simp only [List.take_succ_cons,List.take_zero,List.drop_succ_cons,List.drop_zero]
 repeat still_step
 refine wpStill_nil ?_
 go_wp2_with (fail)
 have a0 : W1.cell? ⟨bf,0,none⟩ = some (.pointer (some ⟨fb,0,none⟩)):=by rw [HW1.out]; exact e0
 have a1 : W1.cell? ⟨bn,0,none⟩ = some (.string n):=by rw [HW1.out]; exact e1
 have a2 : W1.cell? ⟨fb,2,none⟩ = some (.map (some mb)):=by rw [HW1.out]; exact e2
 rw [← HW1.out]
 clear HW1 c0 c1 d0 u1 uz e0 e1 e2
 refine wp_region_still_tail 5 (by kernel_rfl) (by kernel_rfl) ?_
 simp only [List.take_succ_cons,List.take_zero,List.drop_succ_cons,List.drop_zero]
 repeat still_step
 refine wpStill_nil ?_
 obtain ⟨w',hrun,hp⟩:=HD.out W1.drew (H2.out.below (Below.refl _ _).drew) K2.out.drew
 have HP:=hid hp
 clear hp
 refine wpList_delete_run rfl (.tmp 18) (.tmp 19) 100 9 rfl _ _ rfl rfl _ _ hrun ?_
 clear hrun
 go_wp2
 go_end0
 exact ⟨rfl,HP.out⟩
set_option maxHeartbeats 2000000 in
theorem f_remove (h : FsAt w fb F S mb rs) {k : Nat} (ho : FsOk F k) (hk : k < 1000000) (n : ByteArray) :
 Calls Tryz.prog 112 #[.pointer (some ⟨fb,0,none⟩),.string n] w fun e w' => e = .returned (.int .i64 (F.remove n).2) ∧ FsPost w fb (F.remove n).1 S w':=by
 have HOF:=f_ofH h n
 have H:=hid h
 have HO:=hid ho
 have eg:=enters_of Tryz.func157 (P:=Tryz.prog) (by kernel_rfl) rfl
 have hr0 : F.remove n = _:=fs_on h n fun x => F.write fun G => { G with used:=G.used - x.data.length,files:=dropL slt G.files n }
 cases hd : F.down with
 | true =>
   have hr : Hid (F.remove n = (F,5)):=hid (by rw [hd,if_pos rfl] at hr0; exact hr0)
   rw [hd] at HOF
   clear h ho hd hr0
   go_enter Tryz.func112,Tryz.ntmps112
   go_wp2_with fail
   refine (HOF.out _ (alloc2 _ _ _).1).mono ?_
   rintro e w' ⟨rfl,rfl⟩
   simp only [ofRes,if_true]
   go_wp2_with fail
   go_ret
   rw [hr.out]
   exact ⟨rfl,FsIs.post ⟨mb,rs,H.out⟩ (alloc3 _ _ _ _).1⟩
 | false =>
   rw [hd] at HOF hr0
   rw [if_neg (by simp)] at hr0
   cases hf : findL slt rs n with
   | none =>
     rw [hf] at HOF hr0
     have hr : Hid (F.remove n = (F,2)):=hid hr0
     clear h ho hd hf hr0
     go_enter Tryz.func112,Tryz.ntmps112
     go_wp2_with fail
     refine (HOF.out _ (alloc2 _ _ _).1).mono ?_
     rintro e w' ⟨rfl,rfl⟩
     simp only [ofRes,Bool.false_eq_true,if_false]
     go_wp2_with fail
     go_ret
     rw [hr.out]
     exact ⟨rfl,FsIs.post ⟨mb,rs,H.out⟩ (alloc3 _ _ _ _).1⟩
   | some p =>
     rw [hf] at HOF hr0
     have HF:=hid hf
     have HLEN:=hid (ho.len (h.at_file hf).2)
     have hr : Hid (F.remove n = F.write fun G => { G with used:=G.used - p.fl.data.length,files:=dropL slt G.files n }):=hid hr0
     have HU : Hid (0 ≤ F.used ∧ F.used ≤ 1000000000):=hid (by have:=ho.used0; have:=ho.fits; have:=ho.room1; omega)
     clear h ho hd hf hr0
     go_enter Tryz.func112,Tryz.ntmps112
     go_wp2_with fail
     refine (HOF.out _ (alloc2 _ _ _).1).mono ?_
     rintro e w' ⟨rfl,rfl⟩
     simp only [ofRes,Bool.false_eq_true,if_false]
     go_wp2_with fail
     obtain ⟨hkx,hbf,hbn,hbx,hsz⟩:=alloc3 w (.cells #[.pointer (some ⟨fb,0,none⟩)] 45) (.cells #[.string n] 9) (.cells #[.pointer (some ⟨p.g,0,none⟩)] 104)
     generalize ((w.alloc (.cells #[.pointer (some ⟨fb,0,none⟩)] 45)).alloc (.cells #[.string n] 9)).alloc (.cells #[.pointer (some ⟨p.g,0,none⟩)] 104) = W2 at hkx hbf hbn hbx hsz ⊢
     have H2:=hid (H.out.below hkx)
     have HB2:=hid (And.intro hbf (And.intro hbn hbx))
     have HW:=hid hkx
     clear hkx hbf hbn hbx hsz
     refine (f_write H2.out 157 #[.pointer (some ⟨w.heap.size,0,none⟩),.pointer (some ⟨w.heap.size + 1 + 1,0,none⟩),.pointer (some ⟨w.heap.size + 1,0,none⟩)] eg (fun G => { G with used:=G.used - p.fl.data.length,files:=dropL slt G.files n }) HO.out.armed1 ?_ ?_).mono ?_
     ·intro w1 a h1 hk1 hz1
      exact f_remove1 h1 HF.out (H2.out.unkept hk1 HB2.out.1 (by decide)) (H2.out.unkept hk1 HB2.out.2.2 (by decide)) (H2.out.unkept hk1 HB2.out.2.1 (by decide)) (by have:=HLEN.out; omega) HU.out.1 HU.out.2
     ·intro a
      have:=HO.out.steps0
      have:=HO.out.steps1
      show 0 ≤ F.steps ∧ F.steps < 1000000000
      omega
     ·rintro e w2 ⟨rfl,hp⟩
      have HP:=hid (FsPost.trans_keeps HW.out H.out.lt hp)
      clear hp
      go_wp2_with fail
      go_ret
      rw [hr.out]
      exact ⟨rfl,HP.out⟩
end
end Go.Proofs.YtagdchgkjjpacaaGreat
