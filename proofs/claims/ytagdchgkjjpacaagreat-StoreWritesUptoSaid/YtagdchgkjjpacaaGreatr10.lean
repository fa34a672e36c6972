/- A crash, as plain data. No program. -/
import Derived.Test.YtagdchgkjjpacaaGreatr09
set_option maxRecDepth 100000
open Go.Lib (hid)
namespace Go.Proofs.YtagdchgkjjpacaaGreat
def leftOfFile (x : FileS) (kept : Int) : Nat:=x.synced + (min (max kept 0) ((x.data.length : Int) - x.synced)).toNat
def crashFile (kf : ByteArray → Int → Int) (n : ByteArray) (x : FileS) : FileS :=
 if (x.data.length : Int) - x.synced ≤ 0 then ⟨x.data.take x.synced,(x.data.take x.synced).length⟩
 else ⟨x.data.take (leftOfFile x (kf n ((x.data.length : Int) - x.synced))),(x.data.take (leftOfFile x (kf n ((x.data.length : Int) - x.synced)))).length⟩
def crashTo (kf : ByteArray → Int → Int) (l : List (ByteArray × FileS)) (i : Nat) : List (ByteArray × FileS):=(l.take i).map (fun x => (x.1,crashFile kf x.1 x.2)) ++ l.drop i
namespace FsS
def crashAt (F : FsS) (kf : ByteArray → Int → Int) (i : Nat) : FsS:={ F with files:=crashTo kf F.files i,used:=sumLen (crashTo kf F.files i) }
def crash (F : FsS) (kf : ByteArray → Int → Int) : FsS:={ F.crashAt kf F.files.length with armed:=0,down:=false }
end FsS
section
variable {kf : ByteArray → Int → Int} {l : List (ByteArray × FileS)} {i : Nat} {n : ByteArray} {x : FileS}
theorem crashTo_zero : crashTo kf l 0 = l:=by simp [crashTo]
theorem crashTo_split (h : l[i]? = some (n,x)) : crashTo kf l i = (l.take i).map (fun x => (x.1,crashFile kf x.1 x.2)) ++ (n,x) :: l.drop (i + 1) ∧
 crashTo kf l (i + 1) = (l.take i).map (fun x => (x.1,crashFile kf x.1 x.2)) ++ (n,crashFile kf n x) :: l.drop (i + 1):=by
 obtain ⟨hi,he⟩:=List.getElem?_eq_some_iff.1 h
 constructor
 ·unfold crashTo
  rw [List.drop_eq_getElem_cons hi,he]
 ·unfold crashTo
  rw [List.take_succ_eq_append_getElem hi,List.map_append,he]
  simp
theorem crashFile_le (hs : x.synced ≤ x.data.length) : (crashFile kf n x).data.length ≤ x.data.length ∧ (crashFile kf n x).synced = (crashFile kf n x).data.length ∧ x.synced ≤ (crashFile kf n x).data.length:=by
 unfold crashFile
 split
 ·refine ⟨?_,rfl,?_⟩ <;> simp only [List.length_take] <;> omega
 ·generalize hq : leftOfFile x _ = q
  have hq2 : x.synced ≤ q:=by rw [← hq]; unfold leftOfFile; omega
  refine ⟨?_,rfl,?_⟩ <;> simp only [List.length_take] <;> omega
theorem rise_crashTo (h : Rise slt l) : Rise slt (crashTo kf l i):=by
 have e : (crashTo kf l i).map (·.1) = l.map (·.1):=by
  unfold crashTo
  rw [List.map_append,List.map_map]
  conv => rhs; rw [← List.take_append_drop i l,List.map_append]
  rfl
 unfold Rise at *
 have h1 : (l.map (·.1)).Pairwise (fun a b => slt a b = true):=by rw [List.pairwise_map]; exact h
 rw [← e,List.pairwise_map] at h1
 exact h1
theorem crashAt_step {F : FsS} (hr : Rise slt F.files) (h : F.files[i]? = some (n,x)) (_ : x.synced ≤ x.data.length) (k : Nat) (hk : k ≤ x.data.length) (hc : crashFile kf n x = ⟨x.data.take k,k⟩) :
 (((F.crashAt kf i).cut n x k).set n ⟨x.data.take k,k⟩) = F.crashAt kf (i + 1):=by
 obtain ⟨e1,e2⟩:=crashTo_split (kf:=kf) h
 have hr1:=rise_crashTo (kf:=kf) (i:=i) hr
 rw [e1] at hr1
 unfold FsS.crashAt FsS.cut FsS.set
 simp only
 have ef : putL slt (putL slt (crashTo kf F.files i) n ⟨x.data.take k,min x.synced k⟩) n ⟨x.data.take k,k⟩ = crashTo kf F.files (i + 1):=by
  rw [e1,putL_eq slt_ord hr1]
  have hr2 : Rise slt ((F.files.take i).map (fun x => (x.1,crashFile kf x.1 x.2)) ++ (n,(⟨x.data.take k,min x.synced k⟩ : FileS)) :: F.files.drop (i + 1)):=by
   have:=rise_putL slt_ord hr1 n (⟨x.data.take k,min x.synced k⟩ : FileS)
   rwa [putL_eq slt_ord hr1] at this
  rw [putL_eq slt_ord hr2,e2,hc]
 rw [ef]
 congr 1
 rw [e1,e2,hc,sumLen_append,sumLen_append,sumLen_cons,sumLen_cons]
 simp only [List.length_take]
 omega
theorem crashAt_find {F : FsS} (hr : Rise slt F.files) (h : F.files[i]? = some (n,x)) : (F.crashAt kf i).find n = some x:=by
 obtain ⟨e1,_⟩:=crashTo_split (kf:=kf) h
 have hr1:=rise_crashTo (kf:=kf) (i:=i) hr
 unfold FsS.find FsS.crashAt
 simp only
 rw [e1] at hr1 ⊢
 exact findL_eq slt_ord hr1
theorem crashAt_len (hs : ∀ x ∈ l,x.2.synced ≤ x.2.data.length) : ∀ i,sumLen (crashTo kf l i) ≤ sumLen l:=by
 intro i
 have h1 : ∀ m : List (ByteArray × FileS),(∀ x ∈ m,x.2.synced ≤ x.2.data.length) → sumLen (m.map (fun x => (x.1,crashFile kf x.1 x.2))) ≤ sumLen m:=by
  intro m
  induction m with
  | nil => intro _; exact Int.le_refl _
  | cons y m ih =>
    intro hm
    rw [List.map_cons,sumLen_cons,sumLen_cons]
    have:=ih (fun x hx => hm x (by simp [hx]))
    have:=(crashFile_le (kf:=kf) (n:=y.1) (hm y (by simp))).1
    simp only
    omega
 unfold crashTo
 rw [sumLen_append]
 have e : sumLen l = sumLen (l.take i) + sumLen (l.drop i):=by rw [← sumLen_append,List.take_append_drop]
 have:=h1 (l.take i) (fun x hx => hs x (List.mem_of_mem_take hx))
 omega
end
open Go.RowKit Go.Shelf
theorem fn_neq_nil (g : Nat) (lb : Array Value) (W : World) : (binOp .neq 75 (.func (.func g) #[] lb) .nilFunc).run Tryz.prog W = .ok (.bool true) W:=by kernel_rfl
theorem nil_neq_nil (W : World) : (binOp .neq 75 .nilFunc .nilFunc).run Tryz.prog W = .ok (.bool false) W:=by kernel_rfl
section
variable {w : World} {fb mb : Nat} {F : FsS} {S : Nat → Prop} {rs : List (ByteArray × Pl)}
theorem namesL_all (m : List (ByteArray × FileS)) : namesL ⟨#[]⟩ m = m.map (·.1):=by
 unfold namesL
 rw [List.filter_eq_self.2]
 intro x _
 rfl
theorem FsAt.setSynced (h : FsAt w fb F S mb rs) {n : ByteArray} {q : Pl} (hf : findL slt rs n = some q) (c : Nat) :
 FsAt (w.setCell ⟨q.g,1,none⟩ (.int .i64 (c : Int))) fb (F.set n ⟨q.fl.data,c⟩) (New w (w.setCell ⟨q.g,1,none⟩ (.int .i64 (c : Int))) S) mb (putL slt rs n { q with fl:=⟨q.fl.data,c⟩ }) ∧ Keeps S w (w.setCell ⟨q.g,1,none⟩ (.int .i64 (c : Int))):=by
 have hp:=(h.at_file hf).1
 have hk : Keeps (blocksOf q) w (w.setCell ⟨q.g,1,none⟩ (.int .i64 (c : Int))):=(Keeps.refl (blocksOf q) w).setCell (p:=⟨q.g,1,none⟩) (fun _ => .inl rfl) _
 have hq : PlAt (w.setCell ⟨q.g,1,none⟩ (.int .i64 (c : Int))) { q with fl:=⟨q.fl.data,c⟩ } :=
  ⟨blk_set hp.blk 1 _,hp.bytes.keeps ((Keeps.refl (Only q.g) w).setCell (p:=⟨q.g,1,none⟩) (fun _ => rfl) _) (fun g hg e => by
   obtain ⟨cur,hc⟩:=hp.bytes.own g hg
   exact blk_ne_type hc hp.blk (by decide) e)⟩
 exact h.setFile hf (q:={ q with fl:=⟨q.fl.data,c⟩ }) rfl hk hq (fun k hk => .inl hk)
theorem putL_find {m : List (ByteArray × Pl)} (hr : Rise slt m) {n : ByteArray} {p : Pl} (hf : findL slt m n = some p) (q : Pl) : findL slt (putL slt m n q) n = some q:=by
 obtain ⟨a,b,rfl⟩:=findL_split slt_ord hf
 rw [putL_eq slt_ord hr]
 have hr2 : Rise slt (a ++ (n,q) :: b):=by
  have:=rise_putL slt_ord hr n q
  rwa [putL_eq slt_ord hr] at this
 exact findL_eq slt_ord hr2
structure CrI (w1 : World) (fb mb : Nat) (F : FsS) (S T : Nat → Prop) (kf : ByteArray → Int → Int) (I : Nat → World → Prop) (i : Nat) (wr : World) : Prop where
 inv : I i wr
 fs : ∃ rs,FsAt wr fb (F.crashAt kf i) (New w1 wr S) mb rs
 kept : Keeps (fun k => S k ∨ T k) w1 wr
theorem new_trans {a b c : World} (hk : a.heap.size ≤ b.heap.size) (hc : b.heap.size ≤ c.heap.size) : ∀ k,New b c (New a b S) k → New a c S k:=by
 rintro k ((e | e) | e)
 ·exact .inl e
 ·exact .inr ⟨e.1,by omega⟩
 ·exact .inr ⟨by omega,e.2⟩
theorem CrI.step {w1 w2 w3 : World} {T : Nat → Prop} {kf : ByteArray → Int → Int} {I : Nat → World → Prop} {i : Nat} {n : ByteArray} {x : FileS} {rs2 : List (ByteArray × Pl)} {p : Pl} {c : Nat}
 (hr : Rise slt F.files) (hx : F.files[i]? = some (n,x)) (hs : x.synced ≤ x.data.length) (hc : c ≤ x.data.length) (hcf : crashFile kf n x = ⟨x.data.take c,c⟩)
 (h1 : Keeps (fun k => S k ∨ T k) w1 w2) (h2 : FsAt w2 fb (F.crashAt kf i) (New w1 w2 S) mb rs2) (hf : findL slt rs2 n = some p) (hpx : p.fl = x)
 (h3 : ∃ q,q.g = p.g ∧ q.fl = ⟨p.fl.data.take c,min p.fl.synced c⟩ ∧ FsAt w3 fb ((F.crashAt kf i).cut n p.fl c) (New w2 w3 (New w1 w2 S)) mb (putL slt rs2 n q) ∧ Keeps (New w1 w2 S) w2 w3)
 (hI : I (i + 1) w2) (hIk : ∀ j W W' (U : Nat → Prop),I j W → Keeps U W W' → (∀ k,U k → S k ∨ w1.heap.size ≤ k) → I j W') :
 ∃ a2 cap2 sy,w3.cell? ⟨p.g,0,none⟩ = some (.slice a2 (c : Nat) cap2) ∧ w3.cell? ⟨p.g,1,none⟩ = some (.int .i64 sy) ∧ w3.frozen? ⟨p.g,1,none⟩ = false ∧ CrI w1 fb mb F S T kf I (i + 1) (w3.setCell ⟨p.g,1,none⟩ (.int .i64 (c : Int))):=by
 obtain ⟨q,hqg,hqf,h4,h5⟩:=h3
 have hfq : findL slt (putL slt rs2 n q) n = some q:=putL_find h2.map.rise hf q
 have hp:=(h4.at_file hfq).1
 obtain ⟨a2,cap2,hv⟩:=hp.bytes.shape
 have hlen : q.fl.data.length = c:=by rw [hqf,hpx]; simp only [List.length_take]; omega
 have h6:=h4.setSynced hfq c
 rw [hqg] at h6
 have hcell : w3.cell? ⟨p.g,0,none⟩ = some q.v:=by rw [← hqg]; exact blk_cell hp.blk 0
 refine ⟨a2,cap2,(q.fl.synced : Int),by rw [hcell,hv,hlen],by rw [← hqg]; exact blk_cell hp.blk 1,by rw [← hqg]; exact blk_free hp.blk 1,?_,?_,?_⟩
 ·refine hIk (i + 1) w2 _ (New w2 w3 (New w1 w2 S)) hI ((h5.mono (fun _ _ e => .inl e)).trans' h6.2) ?_
  intro k e
  rcases new_trans h1.size h5.size k e with e | e
  ·exact .inl e
  ·exact .inr e.1
 ·refine ⟨putL slt (putL slt rs2 n q) n { g:=p.g,v:=q.v,fl:=⟨q.fl.data,c⟩ },?_⟩
  have hd : q.fl.data = x.data.take c:=by rw [hqf,hpx]
  have e : ((F.crashAt kf i).cut n p.fl c).set n ⟨q.fl.data,c⟩ = F.crashAt kf (i + 1):=by
   rw [hd,hpx]; exact crashAt_step hr hx hs c hc hcf
  rw [← e]
  refine h6.1.mono ?_ ?_
  ·intro k e
   rcases e with e | e
   ·rcases new_trans h1.size h5.size k e with e | e
    ·exact .inl e
    ·exact .inr ⟨e.1,by have:=h6.2.size; omega⟩
   ·exact .inr ⟨by have:=h1.size; have:=h5.size; omega,e.2⟩
  ·rintro k (e | e)
   ·have:=h4.lt k (.inl (.inl e)); have:=h6.2.size; omega
   ·exact e.2
 ·refine (h1.trans h5 ?_).trans h6.2 ?_
  ·rintro i hi (e | e)
   ·exact .inl e
   ·exact absurd e.1 (by omega)
  ·rintro i hi (e | e)
   ·rcases e with e | e
    ·exact .inl e
    ·exact absurd e.1 (by omega)
   ·exact absurd e.1 (by have:=h1.size; omega)
set_option maxHeartbeats 1000000 in
theorem f_crash (h : FsAt w fb F S mb rs) {k : Nat} (ho : FsOk F k) (g : Nat) (lb : Array Value) (eg : ∀ args w,(callFunc g args).run Tryz.prog w = .ok (.enter g args) w) (kf : ByteArray → Int → Int) (T : Nat → Prop) (hT : ∀ k,T k → k < w.heap.size ∧ ¬ S k) (I : Nat → World → Prop)
 (hI0 : ∀ W,Below w.heap.size w W → I 0 W) (hIk : ∀ j W W' (U : Nat → Prop),I j W → Keeps U W W' → (∀ k,U k → S k ∨ w.heap.size ≤ k) → I j W')
 (hcall : ∀ i n x W,F.files[i]? = some (n,x) → 0 < (x.data.length : Int) - x.synced → I i W → Calls Tryz.prog g (#[.string n,.int .i64 ((x.data.length : Int) - x.synced)] ++ lb) W fun e W' => e = .returned (.int .i64 (kf n ((x.data.length : Int) - x.synced))) ∧ I (i + 1) W' ∧ Keeps T W W')
 (hskip : ∀ i n x W,F.files[i]? = some (n,x) → (x.data.length : Int) - x.synced ≤ 0 → I i W → I (i + 1) W) :
 Calls Tryz.prog 35 #[.pointer (some ⟨fb,0,none⟩),.func (.func g) #[] lb] w fun e w' => e = .returned (.tuple #[]) ∧ I F.files.length w' ∧ FsIs w' fb (F.crash kf) (New w w' S) ∧ Keeps (fun k => S k ∨ T k) w w':=by
 have hfl : F.files.length = rs.length:=by rw [h.files]; simp
 have hfew : F.files.length ≤ 400:=ho.few
 have HNM:=hid (f_names h (by omega) ⟨#[]⟩)
 have H:=hid h
 have HO:=hid ho
 have HI0:=hid hI0
 have HIk:=hid hIk
 have HC:=hid hcall
 have HS:=hid hskip
 have HT:=hid hT
 have HU : Hid (∀ j,0 ≤ (F.crashAt kf j).used ∧ (F.crashAt kf j).used ≤ 1000000000):=hid (fun j => ⟨sumLen_nonneg _,by
  have:=crashAt_len (kf:=kf) ho.synced j
  have:=ho.used; have:=ho.fits; have:=ho.room1
  show sumLen (crashTo kf F.files j) ≤ _
  omega⟩)
 have HFL:=hid hfl
 have qF:=fn_neq_nil g lb
 clear h ho hI0 hIk hcall hskip hT
 go_enter Tryz.func35,Tryz.ntmps35
 go_wp2_with (fail)
 refine HNM.out.mono ?_
 rintro e w1 ⟨v,rfl,hv⟩
 rw [namesL_all] at hv
 have hv2:=hv.sl
 obtain ⟨va,vc,hvs⟩:=hv.sl.shape
 rw [List.length_map,hfl] at hvs
 subst hvs
 have HV:=hid hv
 have h400 : (rs.length : Int) ≤ 400:=by omega
 have HST : Hid (CrI w1 fb mb F S T kf I 0 w1):=hid (by
  refine ⟨HI0.out _ hv.below,⟨rs,?_⟩,Keeps.refl _ _⟩
  have:=H.out.below hv.below
  have e : F.crashAt kf 0 = F:=by unfold FsS.crashAt; rw [crashTo_zero,← HO.out.used]
  rw [e]
  exact this.mono (fun _ e => .inl e) (new_lt this.lt (Nat.le_refl _)))
 clear hv hv2 hfl hfew
 go_wp2_with (fail)
 go_loopw [12] (fun i wr => ∃ j : Nat,j ≤ rs.length ∧ i = .int .i64 j ∧ Hid (CrI w1 fb mb F S T kf I j wr)) (fun i _ => rs.length - (intOf i).toNat)
 case atStart => exact ⟨0,Nat.zero_le _,rfl,HST⟩
 case round =>
  obtain ⟨j,hj,rfl,HR⟩:=hrel
  by_cases hlt : j < rs.length
  ·obtain ⟨⟨n,x⟩,hx⟩ : ∃ y,F.files[j]? = some y:=⟨_,List.getElem?_eq_getElem (by rw [HFL.out]; exact hlt)⟩
   obtain ⟨rs2,hA⟩:=HR.out.fs
   have hsy : x.synced ≤ x.data.length:=HO.out.synced _ (List.mem_of_getElem? hx)
   have hxl : (x.data.length : Int) ≤ 67108864:=by
    have:=sumLen_mem (List.mem_of_getElem? hx)
    have:=HO.out.used; have:=HO.out.fits; have:=HO.out.room1
    simp only at *
    omega
   have hfi:=crashAt_find (kf:=kf) HO.out.rise hx
   rw [hA.find] at hfi
   obtain ⟨p,hf,hpx⟩:=Option.map_eq_some_iff.1 hfi
   have hp:=(hA.at_file hf).1
   obtain ⟨a,cap,hpv⟩:=hp.bytes.shape
   have hlo:=fs_look hA n
   rw [hf] at hlo
   replace hlo : (Instr.lookup 100 (.map (some mb)) (.string n) false).run Tryz.prog wr = .ok (.pointer (some ⟨p.g,0,none⟩)) wr:=hlo
   have c2 : wr.cell? ⟨fb,2,none⟩ = some (.map (some mb)):=blk_cell hA.blk 2
   have d0 : wr.cell? ⟨p.g,0,none⟩ = some (.slice a x.data.length cap):=by rw [← hpx,← hpv]; exact blk_cell hp.blk 0
   have d1 : wr.cell? ⟨p.g,1,none⟩ = some (.int .i64 (x.synced : Int)):=by rw [← hpx]; exact blk_cell hp.blk 1
   have hsl : SlAt textKind 9 wr (.slice va rs.length vc) (F.files.map (·.1)):=HV.out.sl.keeps HR.out.kept (fun g hg e => by
    have hg1:=HV.out.new g hg
    rcases e with e | e
    ·have:=H.out.lt g e; omega
    ·have:=(HT.out g e).1; omega)
   obtain ⟨a',cap',he,hrd⟩:=hsl.rd
   have hxn : (F.files.map (·.1))[j]? = some n:=by rw [List.getElem?_map,hx]; rfl
   obtain ⟨gb,off,hva,hcell⟩:=hrd j n hxn
   injection he with he1 he2 he3
   clear he2 he3
   rw [hva] at he1
   subst he1
   have hc0:=hcell 0 (by decide)
   replace hc0 : wr.cell? ⟨gb,off + j,none⟩ = some (.string n):=by simpa [textKind] using hc0
   have hlt2 : (j : Int) < (rs.length : Int):=by omega
   have hj0 : (0 : Int) ≤ (j : Int):=by omega
   have hsy2 : (x.synced : Int) ≤ (x.data.length : Int):=by omega
   have hx0 : (0 : Int) ≤ (x.synced : Int):=by omega
   have HX:=hid hx
   have HF:=hid (And.intro hf hpx)
   have HA:=hid hA
   clear hx hA hfi hf hpx hp hpv hsl hrd hxn hcell hsy
   by_cases hu : (x.data.length : Int) - x.synced ≤ 0
   ·have hu2 : decide (0 < (x.data.length : Int) - x.synced) = false:=by simp only [decide_eq_false_iff_not]; omega
    go_wp2_with (fail)
    go_quiet (fail)
    go_wp2_with (fail)
    have hA2 : FsAt (wr.drewN nq) fb (F.crashAt kf j) (New w1 (wr.drewN nq) S) mb rs2:=HA.out.below (below_drewN _ _ _)
    have hk2 : Keeps (fun k => S k ∨ T k) w1 (wr.drewN nq):=HR.out.kept.drewN _
    have hI2 : I (j + 1) (wr.drewN nq):=HS.out j n x _ HX.out hu (HIk.out j wr _ (fun _ => False) HR.out.inv (Keeps.of_below (below_drewN _ _ _)) (fun _ e => e.elim))
    generalize wr.drewN nq = W2 at hA2 hk2 hI2 ⊢
    have HSS : Hid (FsAt W2 fb (F.crashAt kf j) (New w1 W2 S) mb rs2 ∧ Keeps (fun k => S k ∨ T k) w1 W2 ∧ I (j + 1) W2):=hid ⟨hA2,hk2,hI2⟩
    have hcf : Hid (crashFile kf n x = ⟨x.data.take x.synced,x.synced⟩):=hid (by
     unfold crashFile
     rw [if_pos hu]
     congr 1
     rw [List.length_take]; omega)
    clear hA2 hk2 hI2 hlo c2 d0 d1 hc0
    refine (f_cut HSS.out.1 HF.out.1 (k:=x.synced) (by rw [HF.out.2]; omega) (by rw [HF.out.2]; omega) (by rw [HF.out.2]; omega) (HU.out j).1 (HU.out j).2).mono ?_
    rintro e W3 ⟨rfl,hq⟩
    obtain ⟨a2,cap2,sy,e0,e1,z1,hst⟩:=CrI.step (I:=I) (kf:=kf) HO.out.rise HX.out (by omega) (by omega) hcf.out HSS.out.2.1 HSS.out.1 HF.out.1 HF.out.2 hq HSS.out.2.2 (fun j W W' U h1 h2 h3 => HIk.out j W W' U h1 h2 (fun k hk => (h3 k hk).imp id (fun h => Nat.le_trans HV.out.below.size h)))
    have HST2:=hid hst
    clear hq hst
    go_wp2_with (fail)
    go_roundw
    case rel => exact ⟨j + 1,by omega,by go_num,HST2⟩
    case measure => simp [intOf]; omega
   ·have hu2 : (0 : Int) < (x.data.length : Int) - x.synced:=by omega
    have hu3 : (0 : Int) ≤ (x.data.length : Int) - x.synced:=by omega
    obtain ⟨c,hc⟩ : ∃ c : Nat,min (max (kf n ((x.data.length : Int) - x.synced)) 0) ((x.data.length : Int) - x.synced) = (c : Int):=⟨(min (max (kf n ((x.data.length : Int) - x.synced)) 0) ((x.data.length : Int) - x.synced)).toNat,by omega⟩
    have hc1 : (x.synced : Int) + (c : Int) ≤ (x.data.length : Int):=by omega
    have hc0' : (0 : Int) ≤ (c : Int):=by omega
    have hcf : Hid (crashFile kf n x = ⟨x.data.take (x.synced + c),x.synced + c⟩):=hid (by
     unfold crashFile leftOfFile
     rw [if_neg hu,hc,Int.toNat_natCast]
     congr 1
     rw [List.length_take]; omega)
    go_wp2_with (fail)
    go_quiet (fail)
    go_wp2_with (fail)
    have hI1 : I j (wr.drewN nq):=HIk.out j wr _ (fun _ => False) HR.out.inv (Keeps.of_below (below_drewN _ _ _)) (fun _ e => e.elim)
    refine (HC.out j n x _ HX.out hu2 hI1).mono ?_
    rintro e W2 ⟨rfl,hI2,hkT⟩
    have hA2 : FsAt W2 fb (F.crashAt kf j) (New w1 W2 S) mb rs2:=by
     have h1 : FsAt (wr.drewN nq) fb (F.crashAt kf j) (New w1 wr S) mb rs2:=HA.out.below (below_drewN _ _ _)
     have h2:=h1.keeps hkT (fun k hk e => by
      rcases e with e | e
      ·exact (HT.out k hk).2 e
      ·have:=(HT.out k hk).1; have:=HV.out.below.size; omega)
     refine h2.mono (fun k e => ?_) (fun k e => ?_)
     ·rcases e with e | e
      ·exact .inl e
      ·exact .inr ⟨e.1,Nat.lt_of_lt_of_le e.2 hkT.size⟩
     ·rcases e with e | e
      ·exact h2.lt k (.inl e)
      ·exact e.2
    have hk2 : Keeps (fun k => S k ∨ T k) w1 W2:=(HR.out.kept.drewN nq).trans' (hkT.mono (fun k _ e => .inr e))
    have HSS : Hid (FsAt W2 fb (F.crashAt kf j) (New w1 W2 S) mb rs2 ∧ Keeps (fun k => S k ∨ T k) w1 W2 ∧ I (j + 1) W2):=hid ⟨hA2,hk2,hI2⟩
    have d1 : W2.cell? ⟨p.g,1,none⟩ = some (.int .i64 (x.synced : Int)):=by rw [← HF.out.2]; exact blk_cell (hA2.at_file HF.out.1).1.blk 1
    clear hA2 hk2 hI2 hlo c2 d0 hc0 hkT hI1
    go_wp2_with (fail)
    obtain ⟨K,hK⟩ : ∃ K : Nat,x.synced + c = K:=⟨_,rfl⟩
    have hKi : (x.synced : Int) + (c : Int) = (K : Int):=by omega
    rw [hK] at hcf
    rw [hKi]
    have hKl : Hid (K ≤ x.data.length):=hid (by omega)
    clear d1 hc hc1 hc0' hK hKi
    refine (f_cut HSS.out.1 HF.out.1 (k:=K) (by rw [HF.out.2]; exact hKl.out) (by rw [HF.out.2]; omega) (by rw [HF.out.2]; omega) (HU.out j).1 (HU.out j).2).mono ?_
    rintro e W3 ⟨rfl,hq⟩
    obtain ⟨a2,cap2,sy,e0,e1,z1,hst⟩:=CrI.step (I:=I) (kf:=kf) HO.out.rise HX.out (by omega) hKl.out hcf.out HSS.out.2.1 HSS.out.1 HF.out.1 HF.out.2 hq HSS.out.2.2 (fun j W W' U h1 h2 h3 => HIk.out j W W' U h1 h2 (fun k hk => (h3 k hk).imp id (fun h => Nat.le_trans HV.out.below.size h)))
    have HST2:=hid hst
    clear hq hst
    go_wp2_with (fail)
    go_roundw
    case rel => exact ⟨j + 1,by omega,by go_num,HST2⟩
    case measure => simp [intOf]; omega
  ·have hlt2 : ¬ (j : Int) < (rs.length : Int):=by omega
   have hjl : j = F.files.length:=by rw [HFL.out]; omega
   obtain ⟨rs2,hA⟩:=HR.out.fs
   have z4 : wr.frozen? ⟨fb,4,none⟩ = false:=blk_free hA.blk 4
   have c4 : wr.cell? ⟨fb,4,none⟩ = some (.int .i64 (F.crashAt kf j).armed):=blk_cell hA.blk 4
   have z5 : (wr.setCell ⟨fb,4,none⟩ (.int .i64 0)).frozen? ⟨fb,5,none⟩ = false:=blk_free (blk_set hA.blk 4 _) 5
   have c5 : (wr.setCell ⟨fb,4,none⟩ (.int .i64 0)).cell? ⟨fb,5,none⟩ = some (.bool F.down):=blk_cell (blk_set hA.blk 4 _) 5
   have HA:=hid hA
   clear hA
   go_wp2_with (fail)
   go_end0
   refine ⟨rfl,?_,⟨mb,rs2,?_⟩,?_⟩
   ·rw [← hjl]
    exact HIk.out j wr _ (Only fb) HR.out.inv ((keeps_set wr fb 4 _).trans' (keeps_set _ fb 5 _)) (fun k e => by have : k = fb:=e; rw [this]; exact .inl H.out.sfb)
   ·have h5:=(HA.out.setCell (F':={ F.crashAt kf j with armed:=0 }) (i:=4) (u:=.int .i64 0) rfl rfl).setCell (F':={ F.crashAt kf j with armed:=0,down:=false }) (i:=5) (u:=.bool false) rfl rfl
    rw [hjl] at h5
    refine h5.mono ?_ ?_
    ·rintro k (e | e)
     ·exact .inl e
     ·exact .inr ⟨Nat.le_trans HV.out.below.size e.1,by simpa using e.2⟩
    ·exact new_lt H.out.lt (by have:=HV.out.below.size; have:=HR.out.kept.size; simp; omega)
   ·have h6 : Keeps (fun k => S k ∨ T k) w w1:=(Keeps.of_below HV.out.below).mono (fun _ _ e => e.elim)
    exact (h6.trans' HR.out.kept).trans' (((keeps_set wr fb 4 _).trans' (keeps_set _ fb 5 _)).mono (fun k _ e => by have : k = fb:=e; rw [this]; exact .inl H.out.sfb))
set_option maxHeartbeats 1000000 in
theorem f_crash_nil (h : FsAt w fb F S mb rs) {k : Nat} (ho : FsOk F k) :
 Calls Tryz.prog 35 #[.pointer (some ⟨fb,0,none⟩),.nilFunc] w fun e w' => e = .returned (.tuple #[]) ∧ FsPost w fb (F.crash fun _ _ => 0) S w':=by
 obtain ⟨kf,hkf⟩ : ∃ kf : ByteArray → Int → Int,kf = fun _ _ => 0:=⟨_,rfl⟩
 obtain ⟨T,hTe⟩ : ∃ T : Nat → Prop,T = fun _ => False:=⟨_,rfl⟩
 obtain ⟨I,hIe⟩ : ∃ I : Nat → World → Prop,I = fun _ _ => True:=⟨_,rfl⟩
 have hT : ∀ k,T k → k < w.heap.size ∧ ¬ S k:=by rw [hTe]; exact fun _ e => e.elim
 have hI0 : ∀ W,Below w.heap.size w W → I 0 W:=by rw [hIe]; exact fun _ _ => trivial
 have hIk : ∀ j W W' (U : Nat → Prop),I j W → Keeps U W W' → (∀ k,U k → S k ∨ w.heap.size ≤ k) → I j W':=by rw [hIe]; exact fun _ _ _ _ _ _ _ => trivial
 have hskip : ∀ i n x W,F.files[i]? = some (n,x) → I i W → I (i + 1) W:=by rw [hIe]; exact fun _ _ _ _ _ _ => trivial
 have HKF:=hid hkf
 have HTE:=hid hTe
 clear hkf hTe hIe
 have hfl : F.files.length = rs.length:=by rw [h.files]; simp
 have hfew : F.files.length ≤ 400:=ho.few
 have HNM:=hid (f_names h (by omega) ⟨#[]⟩)
 have H:=hid h
 have HO:=hid ho
 have HI0:=hid hI0
 have HIk:=hid hIk
 have HS:=hid hskip
 have HT:=hid hT
 have HU : Hid (∀ j,0 ≤ (F.crashAt kf j).used ∧ (F.crashAt kf j).used ≤ 1000000000):=hid (fun j => ⟨sumLen_nonneg _,by
  have:=crashAt_len (kf:=kf) ho.synced j
  have:=ho.used; have:=ho.fits; have:=ho.room1
  show sumLen (crashTo kf F.files j) ≤ _
  omega⟩)
 have HFL:=hid hfl
 have qF:=nil_neq_nil
 clear h ho hI0 hIk hskip hT
 go_enter Tryz.func35,Tryz.ntmps35
 go_wp2_with (fail)
 refine HNM.out.mono ?_
 rintro e w1 ⟨v,rfl,hv⟩
 rw [namesL_all] at hv
 have hv2:=hv.sl
 obtain ⟨va,vc,hvs⟩:=hv.sl.shape
 rw [List.length_map,hfl] at hvs
 subst hvs
 have HV:=hid hv
 have h400 : (rs.length : Int) ≤ 400:=by omega
 have HST : Hid (CrI w1 fb mb F S T kf I 0 w1):=hid (by
  refine ⟨HI0.out _ hv.below,⟨rs,?_⟩,Keeps.refl _ _⟩
  have:=H.out.below hv.below
  have e : F.crashAt kf 0 = F:=by unfold FsS.crashAt; rw [crashTo_zero,← HO.out.used]
  rw [e]
  exact this.mono (fun _ e => .inl e) (new_lt this.lt (Nat.le_refl _)))
 clear hv hv2 hfl hfew
 go_wp2_with (fail)
 go_loopw [12] (fun i wr => ∃ j : Nat,j ≤ rs.length ∧ i = .int .i64 j ∧ Hid (CrI w1 fb mb F S T kf I j wr)) (fun i _ => rs.length - (intOf i).toNat)
 case atStart => exact ⟨0,Nat.zero_le _,rfl,HST⟩
 case round =>
  obtain ⟨j,hj,rfl,HR⟩:=hrel
  by_cases hlt : j < rs.length
  ·obtain ⟨⟨n,x⟩,hx⟩ : ∃ y,F.files[j]? = some y:=⟨_,List.getElem?_eq_getElem (by rw [HFL.out]; exact hlt)⟩
   obtain ⟨rs2,hA⟩:=HR.out.fs
   have hsy : x.synced ≤ x.data.length:=HO.out.synced _ (List.mem_of_getElem? hx)
   have hxl : (x.data.length : Int) ≤ 67108864:=by
    have:=sumLen_mem (List.mem_of_getElem? hx)
    have:=HO.out.used; have:=HO.out.fits; have:=HO.out.room1
    simp only at *
    omega
   have hfi:=crashAt_find (kf:=kf) HO.out.rise hx
   rw [hA.find] at hfi
   obtain ⟨p,hf,hpx⟩:=Option.map_eq_some_iff.1 hfi
   have hp:=(hA.at_file hf).1
   obtain ⟨a,cap,hpv⟩:=hp.bytes.shape
   have hlo:=fs_look hA n
   rw [hf] at hlo
   replace hlo : (Instr.lookup 100 (.map (some mb)) (.string n) false).run Tryz.prog wr = .ok (.pointer (some ⟨p.g,0,none⟩)) wr:=hlo
   have c2 : wr.cell? ⟨fb,2,none⟩ = some (.map (some mb)):=blk_cell hA.blk 2
   have d0 : wr.cell? ⟨p.g,0,none⟩ = some (.slice a x.data.length cap):=by rw [← hpx,← hpv]; exact blk_cell hp.blk 0
   have d1 : wr.cell? ⟨p.g,1,none⟩ = some (.int .i64 (x.synced : Int)):=by rw [← hpx]; exact blk_cell hp.blk 1
   have hsl : SlAt textKind 9 wr (.slice va rs.length vc) (F.files.map (·.1)):=HV.out.sl.keeps HR.out.kept (fun g hg e => by
    have hg1:=HV.out.new g hg
    rcases e with e | e
    ·have:=H.out.lt g e; omega
    ·have:=(HT.out g e).1; omega)
   obtain ⟨a',cap',he,hrd⟩:=hsl.rd
   have hxn : (F.files.map (·.1))[j]? = some n:=by rw [List.getElem?_map,hx]; rfl
   obtain ⟨gb,off,hva,hcell⟩:=hrd j n hxn
   injection he with he1 he2 he3
   clear he2 he3
   rw [hva] at he1
   subst he1
   have hc0:=hcell 0 (by decide)
   replace hc0 : wr.cell? ⟨gb,off + j,none⟩ = some (.string n):=by simpa [textKind] using hc0
   have hlt2 : (j : Int) < (rs.length : Int):=by omega
   have hj0 : (0 : Int) ≤ (j : Int):=by omega
   have hsy2 : (x.synced : Int) ≤ (x.data.length : Int):=by omega
   have hx0 : (0 : Int) ≤ (x.synced : Int):=by omega
   have HX:=hid hx
   have HF:=hid (And.intro hf hpx)
   have HA:=hid hA
   clear hx hA hfi hf hpx hp hpv hsl hrd hxn hcell hsy
   by_cases hu : (x.data.length : Int) - x.synced ≤ 0
   ·have hu2 : decide (0 < (x.data.length : Int) - x.synced) = false:=by simp only [decide_eq_false_iff_not]; omega
    go_wp2_with (fail)
    go_quiet (fail)
    go_wp2_with (fail)
    have hA2 : FsAt (wr.drewN nq) fb (F.crashAt kf j) (New w1 (wr.drewN nq) S) mb rs2:=HA.out.below (below_drewN _ _ _)
    have hk2 : Keeps (fun k => S k ∨ T k) w1 (wr.drewN nq):=HR.out.kept.drewN _
    have hI2 : I (j + 1) (wr.drewN nq):=HS.out j n x _ HX.out (HIk.out j wr _ (fun _ => False) HR.out.inv (Keeps.of_below (below_drewN _ _ _)) (fun _ e => e.elim))
    generalize wr.drewN nq = W2 at hA2 hk2 hI2 ⊢
    have HSS : Hid (FsAt W2 fb (F.crashAt kf j) (New w1 W2 S) mb rs2 ∧ Keeps (fun k => S k ∨ T k) w1 W2 ∧ I (j + 1) W2):=hid ⟨hA2,hk2,hI2⟩
    have hcf : Hid (crashFile kf n x = ⟨x.data.take x.synced,x.synced⟩):=hid (by
     unfold crashFile
     rw [if_pos hu]
     congr 1
     rw [List.length_take]; omega)
    clear hA2 hk2 hI2 hlo c2 d0 d1 hc0
    refine (f_cut HSS.out.1 HF.out.1 (k:=x.synced) (by rw [HF.out.2]; omega) (by rw [HF.out.2]; omega) (by rw [HF.out.2]; omega) (HU.out j).1 (HU.out j).2).mono ?_
    rintro e W3 ⟨rfl,hq⟩
    obtain ⟨a2,cap2,sy,e0,e1,z1,hst⟩:=CrI.step (I:=I) (kf:=kf) HO.out.rise HX.out (by omega) (by omega) hcf.out HSS.out.2.1 HSS.out.1 HF.out.1 HF.out.2 hq HSS.out.2.2 (fun j W W' U h1 h2 h3 => HIk.out j W W' U h1 h2 (fun k hk => (h3 k hk).imp id (fun h => Nat.le_trans HV.out.below.size h)))
    have HST2:=hid hst
    clear hq hst
    go_wp2_with (fail)
    go_roundw
    case rel => exact ⟨j + 1,by omega,by go_num,HST2⟩
    case measure => simp [intOf]; omega
   ·have hu2 : (0 : Int) < (x.data.length : Int) - x.synced:=by omega
    have hu3 : (0 : Int) ≤ (x.data.length : Int) - x.synced:=by omega
    go_wp2_with (fail)
    go_quiet (fail)
    go_wp2_with (fail)
    have hA2 : FsAt (wr.drewN nq) fb (F.crashAt kf j) (New w1 (wr.drewN nq) S) mb rs2:=HA.out.below (below_drewN _ _ _)
    have hk2 : Keeps (fun k => S k ∨ T k) w1 (wr.drewN nq):=HR.out.kept.drewN _
    have hI2 : I (j + 1) (wr.drewN nq):=HS.out j n x _ HX.out (HIk.out j wr _ (fun _ => False) HR.out.inv (Keeps.of_below (below_drewN _ _ _)) (fun _ e => e.elim))
    generalize wr.drewN nq = W2 at hA2 hk2 hI2 ⊢
    have HSS : Hid (FsAt W2 fb (F.crashAt kf j) (New w1 W2 S) mb rs2 ∧ Keeps (fun k => S k ∨ T k) w1 W2 ∧ I (j + 1) W2):=hid ⟨hA2,hk2,hI2⟩
    have hcf : Hid (crashFile kf n x = ⟨x.data.take x.synced,x.synced⟩):=hid (by
     unfold crashFile leftOfFile
     rw [if_neg (by omega : ¬ ((x.data.length : Int) - x.synced ≤ 0)),HKF.out]
     have e : x.synced + (min (max (0 : Int) 0) ((x.data.length : Int) - x.synced)).toNat = x.synced:=by omega
     rw [e]
     congr 1
     rw [List.length_take]; omega)
    clear hA2 hk2 hI2 hlo c2 d0 d1 hc0
    refine (f_cut HSS.out.1 HF.out.1 (k:=x.synced) (by rw [HF.out.2]; omega) (by rw [HF.out.2]; omega) (by rw [HF.out.2]; omega) (HU.out j).1 (HU.out j).2).mono ?_
    rintro e W3 ⟨rfl,hq⟩
    obtain ⟨a2,cap2,sy,e0,e1,z1,hst⟩:=CrI.step (I:=I) (kf:=kf) HO.out.rise HX.out (by omega) (by omega) hcf.out HSS.out.2.1 HSS.out.1 HF.out.1 HF.out.2 hq HSS.out.2.2 (fun j W W' U h1 h2 h3 => HIk.out j W W' U h1 h2 (fun k hk => (h3 k hk).imp id (fun h => Nat.le_trans HV.out.below.size h)))
    have HST2:=hid hst
    clear hq hst
    go_wp2_with (fail)
    go_roundw
    case rel => exact ⟨j + 1,by omega,by go_num,HST2⟩
    case measure => simp [intOf]; omega
  ·have hlt2 : ¬ (j : Int) < (rs.length : Int):=by omega
   have hjl : j = F.files.length:=by rw [HFL.out]; omega
   obtain ⟨rs2,hA⟩:=HR.out.fs
   have z4 : wr.frozen? ⟨fb,4,none⟩ = false:=blk_free hA.blk 4
   have c4 : wr.cell? ⟨fb,4,none⟩ = some (.int .i64 (F.crashAt kf j).armed):=blk_cell hA.blk 4
   have z5 : (wr.setCell ⟨fb,4,none⟩ (.int .i64 0)).frozen? ⟨fb,5,none⟩ = false:=blk_free (blk_set hA.blk 4 _) 5
   have c5 : (wr.setCell ⟨fb,4,none⟩ (.int .i64 0)).cell? ⟨fb,5,none⟩ = some (.bool F.down):=blk_cell (blk_set hA.blk 4 _) 5
   have HA:=hid hA
   clear hA
   go_wp2_with (fail)
   go_end0
   refine ⟨rfl,⟨mb,rs2,?_⟩,?_⟩
   ·have h5:=(HA.out.setCell (F':={ F.crashAt kf j with armed:=0 }) (i:=4) (u:=.int .i64 0) rfl rfl).setCell (F':={ F.crashAt kf j with armed:=0,down:=false }) (i:=5) (u:=.bool false) rfl rfl
    rw [hjl,HKF.out] at h5
    refine h5.mono ?_ ?_
    ·rintro k (e | e)
     ·exact .inl e
     ·exact .inr ⟨Nat.le_trans HV.out.below.size e.1,by simpa using e.2⟩
    ·exact new_lt H.out.lt (by have:=HV.out.below.size; have:=HR.out.kept.size; simp; omega)
   ·have h6 : Keeps (fun k => S k ∨ T k) w w1:=(Keeps.of_below HV.out.below).mono (fun _ _ e => e.elim)
    refine Keeps.mono (S:=fun k => S k ∨ T k) ?_ (fun k _ e => by rcases e with e | e; exact e; rw [HTE.out] at e; exact e.elim)
    exact (h6.trans' HR.out.kept).trans' (((keeps_set wr fb 4 _).trans' (keeps_set _ fb 5 _)).mono (fun k _ e => by have : k = fb:=e; rw [this]; exact .inl H.out.sfb))
end
theorem sumLen_perm {l l' : List (ByteArray × FileS)} (h : l.Perm l') : sumLen l = sumLen l':=by
 induction h with
 | nil => rfl
 | cons x _ ih => rw [sumLen_cons,sumLen_cons,ih]
 | swap x y l => rw [sumLen_cons,sumLen_cons,sumLen_cons,sumLen_cons]; omega
 | trans _ _ h1 h2 => exact h1.trans h2
abbrev FileOk (x : ByteArray × FileS) : Prop:=x.2.synced ≤ x.2.data.length ∧ okName x.1 = true
section
variable {F : FsS} {k : Nat} {n : ByteArray} {x y : FileS}
theorem FsOk.all (h : FsOk F k) : ∀ x ∈ F.files,FileOk x:=fun x hx => ⟨h.synced x hx,h.valid x hx⟩
theorem FsOk.mono (h : FsOk F k) {k' : Nat} (hk : k ≤ k') : FsOk F k':={ h with steps1:=by have:=h.steps1; omega }
theorem FsOk.re (h : FsOk F k) {l : List (ByteArray × FileS)} {u : Int} (hr : Rise slt l) (hu : u = sumLen l) (hf : u ≤ F.room) (ha : ∀ x ∈ l,FileOk x) (hl : l.length ≤ 400) : FsOk { F with files:=l,used:=u } k :=
 { rise:=hr,room0:=h.room0,room1:=h.room1,used:=hu,fits:=hf,synced:=fun x hx => (ha x hx).1,armed0:=h.armed0,armed1:=h.armed1,steps0:=h.steps0,steps1:=h.steps1,few:=hl,valid:=fun x hx => (ha x hx).2 }
theorem FsOk.arm (h : FsOk F k) {a : Int} (h0 : 0 ≤ a) (h1 : a ≤ 9223372036854775807) : FsOk { F with armed:=a } k:={ h with armed0:=h0,armed1:=h1 }
theorem FsOk.write (h : FsOk F k) {eff : FsS → FsS} (he : ∀ a,0 ≤ a → a ≤ 9223372036854775807 → FsOk (eff { F with armed:=a }) k) : FsOk (F.write eff).1 (k + 1):=by
 have fin : ∀ a,0 ≤ a → a ≤ 9223372036854775807 → FsOk { eff { F with armed:=a } with steps:=(eff { F with armed:=a }).steps + 1 } (k + 1):=fun a h0 h1 =>
  { he a h0 h1 with steps0:=by have:=(he a h0 h1).steps0; show 0 ≤ _ + 1; omega,steps1:=by have:=(he a h0 h1).steps1; show _ + 1 ≤ _; omega }
 unfold FsS.write
 have h0:=h.armed0
 have h1:=h.armed1
 split
 ·split
  ·exact { (h.arm (a:=0) (by omega) (by omega)).mono (Nat.le_succ k) with }
  ·exact fin _ (by omega) (by omega)
 ·exact fin _ h0 h1
theorem FsOk.put (h : FsOk F k) (hx : F.find n = some x) (hy : y.synced ≤ y.data.length) (hfit : F.used - x.data.length + y.data.length ≤ F.room) : FsOk { F with files:=putL slt F.files n y,used:=F.used - x.data.length + y.data.length } k:=by
 have h1:=putL_perm slt_ord F.files n y
 have h2:=putL_self slt_ord h.rise hx
 have e1:=sumLen_perm h1
 have e2:=sumLen_perm h2
 rw [sumLen_cons] at e1 e2
 have hu:=h.used
 have hv : okName n = true:=h.valid _ (FsOk.find_mem hx)
 refine h.re (rise_putL slt_ord h.rise n y) (by simp only at e1 e2; omega) hfit (fun z hz => ?_) ?_
 ·rcases List.mem_cons.1 (h1.mem_iff.1 hz) with rfl | hz
  ·exact ⟨hy,hv⟩
  ·exact h.all z ((dropL_sub _ _).subset hz)
 ·have e3:=h1.length_eq
  have e4:=h2.length_eq
  have:=h.few
  simp only [List.length_cons] at e3 e4
  omega
theorem FsOk.drop (h : FsOk F k) (hx : F.find n = some x) : FsOk { F with used:=F.used - x.data.length,files:=dropL slt F.files n } k:=by
 have h2:=putL_self slt_ord h.rise hx
 have e2:=sumLen_perm h2
 rw [sumLen_cons] at e2
 have hu:=h.used
 have hf:=h.fits
 refine h.re (rise_dropL h.rise n) (by simp only at e2; omega) (by omega) (fun z hz => h.all z ((dropL_sub _ _).subset hz)) (Nat.le_trans (dropL_sub _ _).length_le h.few)
theorem FsOk.new (h : FsOk F k) (hx : F.find n = none) (hv : okName n = true) (hl : F.files.length < 400) : FsOk (F.set n ⟨[],0⟩) k:=by
 have h1:=putL_perm slt_ord F.files n (⟨[],0⟩ : FileS)
 have h2 : dropL slt F.files n = F.files:=by
  unfold dropL
  rw [List.filter_eq_self]
  intro z hz
  unfold FsS.find findL at hx
  rw [Option.map_eq_none_iff,List.find?_eq_none] at hx
  have:=hx z hz
  cases c1 : slt z.1 n <;> cases c2 : slt n z.1 <;> simp_all
 rw [h2] at h1
 have e1:=sumLen_perm h1
 rw [sumLen_cons] at e1
 have hu:=h.used
 have e3:=h1.length_eq
 simp only [List.length_cons] at e3
 have:=h.re (l:=putL slt F.files n ⟨[],0⟩) (u:=F.used) (rise_putL slt_ord h.rise n _) (by simp only [List.length_nil] at e1; omega) h.fits (fun z hz => by
  rcases List.mem_cons.1 (h1.mem_iff.1 hz) with rfl | hz
  ·exact ⟨Nat.le_refl _,hv⟩
  ·exact h.all z hz) (by omega)
 exact this
theorem FsOk.on (h : FsOk F k) {g : FileS → FsS × Int} (hg : ∀ x,F.find n = some x → FsOk (g x).1 (k + 1)) : FsOk (F.on n g).1 (k + 1):=by
 unfold FsS.on
 split
 ·exact h.mono (Nat.le_succ k)
 ·cases hx : F.find n with
  | none => exact h.mono (Nat.le_succ k)
  | some x => exact hg x hx
theorem FsOk.sync (h : FsOk F k) (n : ByteArray) : FsOk (F.sync n).1 (k + 1):=h.on fun x hx => h.write fun a h0 h1 => by
 have:=(h.arm h0 h1).put (n:=n) (x:=x) (y:=⟨x.data,x.data.length⟩) hx (Nat.le_refl _) (by have:=h.fits; show F.used - (x.data.length : Int) + (x.data.length : Int) ≤ F.room; omega)
 have e : F.used - x.data.length + (⟨x.data,x.data.length⟩ : FileS).data.length = F.used:=by simp only; omega
 simp only at this e
 rw [e] at this
 exact this
theorem FsOk.append (h : FsOk F k) (n : ByteArray) (b : List UInt8) : FsOk (F.append n b).1 (k + 1):=h.on fun x hx => by
 split
 ·exact h.mono (Nat.le_succ k)
 ·rename_i hfit
  refine h.write fun a h0 h1 => ?_
  have hs : x.synced ≤ x.data.length:=h.synced _ (FsOk.find_mem hx)
  have hl : (x.data ++ b).length = x.data.length + b.length:=List.length_append
  have:=(h.arm h0 h1).put (n:=n) (x:=x) (y:=⟨x.data ++ b,x.synced⟩) hx (by show x.synced ≤ (x.data ++ b).length; omega) (by show F.used - (x.data.length : Int) + ((x.data ++ b).length : Nat) ≤ F.room; omega)
  have e : F.used - x.data.length + ((x.data ++ b).length : Nat) = F.used + b.length:=by rw [List.length_append]; omega
  simp only at this
  rw [e] at this
  exact this
theorem FsOk.cut (h : FsOk F k) (hx : F.find n = some x) {c : Nat} (hc : c ≤ x.data.length) : FsOk (F.cut n x c) k:=by
 have hs:=h.synced _ (FsOk.find_mem hx)
 simp only at hs
 have hl : (x.data.take c).length = c:=by rw [List.length_take]; omega
 have:=h.put (n:=n) (x:=x) (y:=⟨x.data.take c,min x.synced c⟩) hx (by simp only [hl]; omega) (by have:=h.fits; simp only [hl]; omega)
 have e : F.used - x.data.length + ((x.data.take c).length : Nat) = F.used - (x.data.length - c):=by rw [hl]; omega
 simp only at this
 rw [e] at this
 exact this
theorem FsOk.truncate (h : FsOk F k) (n : ByteArray) (m : Int) : FsOk (F.truncate n m).1 (k + 1):=h.on fun x hx => by
 split
 ·exact h.mono (Nat.le_succ k)
 ·exact h.write fun a h0 h1 => (h.arm h0 h1).cut hx (by omega)
theorem FsOk.remove (h : FsOk F k) (n : ByteArray) : FsOk (F.remove n).1 (k + 1):=h.on fun _ hx => h.write fun _ h0 h1 => (h.arm h0 h1).drop hx
theorem FsOk.create (h : FsOk F k) (n : ByteArray) : FsOk (F.create n).1 (k + 1):=by
 unfold FsS.create
 split
 ·exact h.mono (Nat.le_succ k)
 split
 ·exact h.mono (Nat.le_succ k)
 split
 ·exact h.mono (Nat.le_succ k)
 split
 ·exact h.mono (Nat.le_succ k)
 ·rename_i h1 h2 h3 h4
  refine h.write fun a h5 h6 => (h.arm h5 h6).new ?_ ?_ (by show F.files.length < 400; omega)
  ·show F.find n = none
   simpa using h3
  ·simpa using h2
theorem FsOk.moved (h : FsOk F k) {a b : ByteArray} (hx : F.find a = some x) (hv : okName b = true) : FsOk (F.moved a b x) k:=by
 unfold FsS.moved
 split
 ·exact h
 ·rename_i hne
  have hs:=h.synced _ (FsOk.find_mem hx)
  have p1:=putL_perm slt_ord F.files b x
  have hb : (slt b a || slt a b) = true:=by
   cases h1 : slt b a with
   | true => rfl
   | false =>
     cases h2 : slt a b with
     | true => rfl
     | false => exact absurd (slt_ord.eq _ _ h2 h1) hne
  have p2 : (dropL slt (putL slt F.files b x) a).Perm ((b,x) :: dropL slt (dropL slt F.files b) a):=by
   have:=p1.filter (fun z => slt z.1 a || slt a z.1)
   rw [List.filter_cons,if_pos hb] at this
   exact this
  have pa : (dropL slt F.files b).Perm ((a,x) :: dropL slt (dropL slt F.files b) a):=by
   refine putL_self slt_ord (rise_dropL h.rise b) ?_
   obtain ⟨A,B,e⟩:=findL_split slt_ord hx
   have hr:=h.rise
   rw [e] at hr ⊢
   unfold dropL
   rw [List.filter_append,List.filter_cons,if_pos (by simpa [Bool.or_comm] using hb)]
   refine findL_eq slt_ord ?_
   have:=hr.filter (fun z => slt z.1 b || slt b z.1)
   rw [List.filter_append,List.filter_cons,if_pos (by simpa [Bool.or_comm] using hb)] at this
   exact this
  have e1:=sumLen_perm p2
  have e2:=sumLen_perm pa
  rw [sumLen_cons] at e1 e2
  have hu:=h.used
  have hf:=h.fits
  have hl2:=p2.length_eq
  have hl3:=pa.length_eq
  simp only [List.length_cons] at hl2 hl3
  have hl4:=(dropL_sub (lt:=slt) F.files b).length_le
  have hfew:=h.few
  have hall : ∀ z ∈ dropL slt (putL slt F.files b x) a,FileOk z:=by
   intro z hz
   rcases List.mem_cons.1 (p2.mem_iff.1 hz) with rfl | hz
   ·exact ⟨hs,hv⟩
   ·exact h.all z ((dropL_sub _ _).subset ((dropL_sub _ _).subset hz))
  have hr : Rise slt (dropL slt (putL slt F.files b x) a):=rise_dropL (rise_putL slt_ord h.rise b x) a
  cases hy : F.find b with
  | none =>
    have hd : dropL slt F.files b = F.files:=by
     unfold dropL
     rw [List.filter_eq_self]
     intro z hz
     unfold FsS.find findL at hy
     rw [Option.map_eq_none_iff,List.find?_eq_none] at hy
     have:=hy z hz
     cases c1 : slt z.1 b <;> cases c2 : slt b z.1 <;> simp_all
    have e3 : sumLen (dropL slt F.files b) = sumLen F.files:=by rw [hd]
    exact h.re hr (by simp only at *; omega) (by simp only at *; omega) hall (by omega)
  | some y =>
    have e3:=sumLen_perm (putL_self slt_ord h.rise hy)
    rw [sumLen_cons] at e3
    exact h.re hr (by simp only at *; omega) (by simp only at *; omega) hall (by omega)
theorem FsOk.rename (h : FsOk F k) (a b : ByteArray) : FsOk (F.rename a b).1 (k + 1):=h.on fun x hx => by
 split
 ·exact h.mono (Nat.le_succ k)
 ·rename_i hv
  exact h.write fun c h0 h1 => (h.arm h0 h1).moved hx (by simpa using hv)
theorem FsOk.crash (h : FsOk F k) (kf : ByteArray → Int → Int) : FsOk (F.crash kf) k:=by
 have hle:=crashAt_len (kf:=kf) h.synced F.files.length
 have e : crashTo kf F.files F.files.length = F.files.map (fun x => (x.1,crashFile kf x.1 x.2)):=by unfold crashTo; simp
 have h1:=h.re (l:=crashTo kf F.files F.files.length) (u:=sumLen (crashTo kf F.files F.files.length)) (rise_crashTo h.rise) rfl (by have:=h.used; have:=h.fits; omega) (by
  rw [e]
  intro z hz
  obtain ⟨y,hy,rfl⟩:=List.mem_map.1 hz
  have:=crashFile_le (kf:=kf) (n:=y.1) (h.synced y hy)
  exact ⟨by simp only; omega,h.valid y hy⟩) (by rw [e,List.length_map]; exact h.few)
 exact { h1.arm (a:=0) (by omega) (by omega) with }
end
theorem r_num (w : World) (n : Int) : Calls Tryz.prog 19 #[.int .i64 n] w fun e w' => e = .returned (.int .i64 n) ∧ w' = w:=by
 go_enter Tryz.func19,Tryz.ntmps19
 go_wp2
 go_ret
 exact ⟨rfl,rfl⟩
theorem r_sameTexts {w : World} {u v : Value} {xs : List ByteArray} (h1 : RdAt textKind w u xs) (h2 : RdAt textKind w v xs) (hm : xs.length ≤ 1000000000) :
 Calls Tryz.prog 46 #[u,v] w fun e w' => e = .returned (.bool true) ∧ Below w.heap.size w w':=by
 have HR1:=hid h1
 have HR2:=hid h2
 obtain ⟨a,c1,rfl,hr1⟩:=h1
 obtain ⟨b,c2,rfl,hr2⟩:=h2
 clear hr1 hr2
 have hm2 : (xs.length : Int) ≤ 1000000000:=by omega
 go_enter Tryz.func46,Tryz.ntmps46
 go_wp2_with (fail)
 go_loopw [5] (fun i wr => ∃ k : Nat,k ≤ xs.length ∧ i = .int .i64 k ∧ Hid (∃ n,wr = w.drewN n)) (fun i _ => xs.length - (intOf i).toNat)
 case atStart => exact ⟨0,Nat.zero_le _,rfl,hid ⟨0,rfl⟩⟩
 case round =>
  obtain ⟨k,hk,rfl,HN⟩:=hrel
  have HB : Hid (Below w.heap.size w wr):=hid (by obtain ⟨n,hn⟩:=HN.out; rw [hn]; exact below_drewN _ _ _)
  by_cases hlt : k < xs.length
  ·have hx : xs[k]? = some xs[k]:=List.getElem?_eq_getElem hlt
   generalize xs[k] = x at hx
   obtain ⟨_,_,e1,hr1⟩:=HR1.out
   injection e1 with e1 _ e3
   subst e1 e3
   obtain ⟨g,off,rfl,d1⟩:=hr1 k x hx
   obtain ⟨_,_,e1,hr2⟩:=HR2.out
   injection e1 with e1 _ e3
   subst e1 e3
   obtain ⟨g2,off2,rfl,d2⟩:=hr2 k x hx
   have d1:=d1 0 (by decide)
   have d2:=d2 0 (by decide)
   replace d1 : w.cell? ⟨g,off + k,none⟩ = some (.string x):=by simpa [textKind] using d1
   replace d2 : w.cell? ⟨g2,off2 + k,none⟩ = some (.string x):=by simpa [textKind] using d2
   have d1:=(HB.out.cell (p:=⟨g,off + k,none⟩) (World.block_lt_of_cell? w _ d1)).trans d1
   have d2:=(HB.out.cell (p:=⟨g2,off2 + k,none⟩) (World.block_lt_of_cell? w _ d2)).trans d2
   have hk0 : (0 : Int) ≤ (k : Int):=by omega
   have hk1 : (k : Int) < (xs.length : Int):=by omega
   have he : (x.toList == x.toList) = true:=by simp
   clear hx hr1 hr2
   go_wp2_with (fail)
   go_quiet (fail)
   go_wp2_with (fail)
   go_roundw
   case rel => exact ⟨k + 1,by omega,by go_num,hid (by obtain ⟨n,hn⟩:=HN.out; exact ⟨n + nq,by rw [hn]; simp [World.drewN]; omega⟩)⟩
   case measure => simp [intOf]; omega
  ·have hk1 : ¬ ((k : Int) < (xs.length : Int)):=by omega
   go_wp2_with (fail)
   go_ret
   exact ⟨rfl,HB.out⟩
end Go.Proofs.YtagdchgkjjpacaaGreat
