/- Plain laws of a store: Open. No program. -/
import Derived.Test.YtagdchgkjjpacaaGreatr43
set_option linter.unusedSimpArgs false
set_option linter.unusedVariables false
namespace Go.Proofs.YtagdchgkjjpacaaGreat
section
variable {F G : FsS} {dir : ByteArray} {size : Int} {first sy n q b f q0 a : Nat} {m m0 ma : Prs} {ds os : List FileS} {d : FileS} {old cur ro rc : List (List UInt8)} {c t : List UInt8}
theorem Segs.tailF (h : Segs F dir first (d :: ds)) (hr : Rise slt G.files) (hfp : ∀ k,G.find k = if k = segName dir first then none else F.find k) : Segs G dir (first + 1) ds:=by
 have htop:=h.top
 rw [List.length_cons] at htop
 refine ⟨hr,by omega,by omega,fun j e hj => ?_,fun k x hx hn => ?_⟩
 ·have hl:=(List.getElem?_eq_some_iff.1 hj).1
  rw [hfp,if_neg (fun e2 => by have:=segName_inj dir (by omega) (by omega) e2; omega)]
  have:=h.at_ (j + 1) e (by simpa using hj)
  rwa [show first + 1 + j = first + (j + 1) by omega]
 ·rw [hfp] at hx
  split at hx
  ·cases hx
  ·rename_i hne
   have:=h.only k x hx hn
   rw [List.length_cons] at this
   have h2 : segNum dir k ≠ first:=fun e => hne (by have:=name_of_num dir k hn; rw [e] at this; exact this)
   omega
structure DropOut (F : FsS) (L : LogS) (os ds : List FileS) (R : LogS × FsS × Int) : Prop where
 step : Step (fun k => segNum L.dir k ≠ 0) 0 0 F R.2.1
 out : (R.2.2 = 0 ∧ R.1 = { L with first:=L.first + os.length } ∧ R.2.1.down = false ∧ Segs R.2.1 L.dir (L.first + os.length) ds) ∨
   (R.2.2 = 5 ∧ R.2.1.down = true ∧ F.armed ≠ 0 ∧ ∃ g hs,os = g ++ hs ∧ Segs R.2.1 L.dir (L.first + g.length) (hs ++ ds))
theorem dropF_out : ∀ (os : List FileS) {F : FsS} {L : LogS},Segs F L.dir L.first (os ++ ds) → F.down = false → DropOut F L os ds (dropF os.length L F)
 | [],F,L,h,hd => ⟨Step.refl _ _,.inl ⟨rfl,rfl,hd,h⟩⟩
 | o :: os,F,L,h,hd => by
   have hx : F.find (segName L.dir L.first) = some o:=h.at_ 0 o rfl
   have htop:=h.top
   simp only [List.cons_append,List.length_cons] at htop
   have hn : segNum L.dir (segName L.dir L.first) = L.first:=segNum_name L.dir (by omega)
   have hpos:=h.pos
   obtain ⟨s1,o1⟩:=remove_1 hd h.rise hx
   have s1' : Step (fun k => segNum L.dir k ≠ 0) 0 0 F (F.remove (segName L.dir L.first)).1:=s1.mono (fun k e => by rw [e,hn]; omega) (by omega) (by omega)
   simp only [List.length_cons,dropF]
   rcases o1 with ⟨e1,d1,f1⟩ | ⟨e1,d1,a1,f1⟩
   ·rw [if_pos e1]
    have h2 : Segs (F.remove (segName L.dir L.first)).1 L.dir (L.first + 1) (os ++ ds):=h.tailF (s1.rise h.rise) f1
    obtain ⟨s2,o2⟩:=dropF_out os (F:=(F.remove (segName L.dir L.first)).1) (L:={ L with first:=L.first + 1 }) h2 d1
    refine ⟨by have:=s1'.trans s2; simpa using this,?_⟩
    rcases o2 with ⟨e2,r2,d2,g2⟩ | ⟨e2,d2,a2,g,hs,hg,g2⟩
    ·refine .inl ⟨e2,by rw [r2]; simp only [List.length_cons]; rw [show L.first + 1 + os.length = L.first + (os.length + 1) by omega],d2,?_⟩
     rw [List.length_cons,show L.first + (os.length + 1) = L.first + 1 + os.length by omega]
     exact g2
    ·refine .inr ⟨e2,d2,fun e => ?_,o :: g,hs,by rw [hg]; rfl,?_⟩
     ·exact a2 (s1.calm e).1
     ·rw [List.length_cons,show L.first + (g.length + 1) = L.first + 1 + g.length by omega]
      exact g2
   ·rw [if_neg (by rw [e1]; decide)]
    refine ⟨s1',.inr ⟨e1,d1,a1,[],o :: os,rfl,?_⟩⟩
    exact h.ext (s1.rise h.rise) fun k _ => f1 k
theorem DiskA.replay {n : Nat} {a : Nat} (h : DiskA F dir n q m b f q0 m0 first old cur c t sy ro rc a ma) : replayR (ro ++ rc) q0 m0 = some (q,m):=by
 rw [replay_skip (by have:=h.base.q1; omega) h.chO (Nat.le_refl _)]
 exact replay_do h.chC
theorem DiskA.holds {n : Nat} {a : Nat} (h : DiskA F dir n q m b f q0 m0 first old cur c t sy ro rc a ma) : Holds ((old ++ cur) ++ [c]) (ro ++ rc):=by
 rw [List.append_assoc]
 exact h.holdO.join h.holdC
theorem DiskA.log {n : Nat} {a : Nat} (h : DiskA F dir n q m b f q0 m0 first old cur c t sy ro rc a ma) (hok : okName (segName (nmOf dir sLog) 1) = true) (h16 : 16 ≤ size) (h20 : size ≤ 1048576) (hd : F.down = false) :
 LogOut F (nmOf dir sLog) size first (old ++ cur) (ro ++ rc) c t (openL F (nmOf dir sLog) size):=open_log h.sg h.sy1 h.sy2 h.holds h.torn hok h16 h20 hd
def Gone (dir : ByteArray) (b : Nat) (k : ByteArray) : Prop:=k = nmOf dir sNext ∨ (baseNum dir k ≠ 0 ∧ baseNum dir k ≠ b)
theorem gone_not {k : ByteArray} : ¬ Gone dir b k ↔ k ≠ nmOf dir sNext ∧ (baseNum dir k = 0 ∨ baseNum dir k = b):=by
 unfold Gone
 constructor
 ·intro h
  refine ⟨fun e => h (.inl e),?_⟩
  by_cases e : baseNum dir k = 0
  ·exact .inl e
  ·exact .inr (Classical.byContradiction fun e2 => h (.inr ⟨e,e2⟩))
 ·rintro ⟨h1,h2⟩ (e | e)
  ·exact h1 e
  ·rcases h2 with h2 | h2
   ·exact e.1 h2
   ·exact e.2 h2
structure CleanOut (dir : ByteArray) (b : Nat) (names : List ByteArray) (F : FsS) (R : FsS × Int) : Prop where
 step : Step (Gone dir b) 0 0 F R.1
 or_ : ∀ k,R.1.find k = F.find k ∨ R.1.find k = none
 out : (R.2 = 0 ∧ R.1.down = false ∧ (∀ k,¬ (k ∈ names ∧ Gone dir b k) → R.1.find k = F.find k) ∧ ∀ k,k ∈ names → Gone dir b k → R.1.find k = none) ∨ (R.2 = 5 ∧ R.1.down = true ∧ F.armed ≠ 0)
theorem clean_out (dir : ByteArray) (b : Nat) : ∀ (names : List ByteArray) {F : FsS},names.Nodup → (∀ k,k ∈ names → F.find k ≠ none) → F.down = false → Rise slt F.files → CleanOut dir b names F (cleanR dir b names F)
 | [],F,_,_,hd,_ => ⟨Step.refl _ _,fun _ => .inl rfl,.inl ⟨rfl,hd,fun _ _ => rfl,fun k hk => by simp at hk⟩⟩
 | k :: r,F,hn,hx,hd,hr => by
   have hn2:=List.nodup_cons.1 hn
   by_cases hg : Gone dir b k
   ·have hg2 : ¬ (k ≠ nmOf dir sNext ∧ (baseNum dir k = 0 ∨ baseNum dir k = b)):=fun e => gone_not.2 e hg
    simp only [cleanR]
    rw [if_neg hg2]
    obtain ⟨x,hx0⟩ : ∃ x,F.find k = some x:=by
     cases h : F.find k with
     | none => exact absurd h (hx k (List.mem_cons_self ..))
     | some x => exact ⟨x,rfl⟩
    obtain ⟨s1,o1⟩:=remove_1 hd hr hx0
    have s1' : Step (Gone dir b) 0 0 F (F.remove k).1:=s1.mono (fun m e => by rw [e]; exact hg) (by omega) (by omega)
    rcases o1 with ⟨e1,d1,f1⟩ | ⟨e1,d1,a1,f1⟩
    ·rw [if_pos e1]
     obtain ⟨s2,oo,o2⟩:=clean_out dir b r (F:=(F.remove k).1) hn2.2 (fun j hj => by rw [f1,if_neg (fun (e : j = k) => hn2.1 (by rw [← e]; exact hj))]; exact hx j (List.mem_cons_of_mem _ hj)) d1 (s1.rise hr)
     refine ⟨by have:=s1'.trans s2; simpa using this,fun j => ?_,?_⟩
     ·rcases oo j with e | e
      ·rw [e,f1]
       split
       ·exact .inr rfl
       ·exact .inl rfl
      ·exact .inr e
     rcases o2 with ⟨e2,d2,k2,g2⟩ | ⟨e2,d2,a2⟩
     ·refine .inl ⟨e2,d2,fun j hj => ?_,fun j hj hgj => ?_⟩
      ·have hjk : j ≠ k:=fun e => hj ⟨by rw [e]; exact List.mem_cons_self ..,by rw [e]; exact hg⟩
       rw [k2 j (fun e => hj ⟨List.mem_cons_of_mem _ e.1,e.2⟩),f1,if_neg hjk]
      ·by_cases hjr : j ∈ r
       ·exact g2 j hjr hgj
       ·have hjk : j = k:=by rcases List.mem_cons.1 hj with e | e; exact e; exact absurd e hjr
        rw [k2 j (fun e => hjr e.1),f1,if_pos hjk]
     ·exact .inr ⟨e2,d2,fun e => a2 (s1.calm e).1⟩
    ·rw [if_neg (by rw [e1]; decide)]
     exact ⟨s1',fun j => .inl (f1 j),.inr ⟨e1,d1,a1⟩⟩
   ·have hg2:=gone_not.1 hg
    simp only [cleanR]
    rw [if_pos hg2]
    obtain ⟨s2,oo,o2⟩:=clean_out dir b r (F:=F) hn2.2 (fun j hj => hx j (List.mem_cons_of_mem _ hj)) hd hr
    refine ⟨s2,oo,?_⟩
    rcases o2 with ⟨e2,d2,k2,g2⟩ | ⟨e2,d2,a2⟩
    ·refine .inl ⟨e2,d2,fun j hj => k2 j (fun e => hj ⟨List.mem_cons_of_mem _ e.1,e.2⟩),fun j hj hgj => ?_⟩
     rcases List.mem_cons.1 hj with e | e
     ·rw [e] at hgj; exact absurd hgj hg
     ·exact g2 j e hgj
    ·exact .inr ⟨e2,d2,a2⟩
theorem Holds.cut {g hs want : List (List UInt8)} (h : Holds (g ++ hs) want) : ∃ r1 r2,want = r1 ++ r2 ∧ Holds hs r2:=by
 obtain ⟨rss,h1,h2,h3⟩:=h
 obtain ⟨x,y,hxy,hx,hy⟩:=List.append_eq_map_iff.1 h1
 refine ⟨x.flatten,y.flatten,by rw [← h2,hxy,List.flatten_append],y,hy.symm,rfl,fun p hp => h3 p ?_⟩
 rw [← h2,hxy,List.flatten_append]
 exact List.mem_append_right _ hp
theorem DiskA.cut {n a sy' : Nat} {g hs : List (List UInt8)} {t' : List UInt8} (h : DiskA F dir n q m b f q0 m0 first (g ++ hs) cur c t sy ro rc a ma) (hr : Rise slt G.files) (hb : BaseIs G dir b f q0 m0) (hsg : Segs G (nmOf dir sLog) (first + g.length) ((hs ++ cur).map fl ++ [⟨c ++ t',sy'⟩]))
 (s1 : c.length ≤ sy') (s2 : sy' ≤ c.length + t'.length) (ht : headOf t' = none) (hk : ∀ nm x,G.find nm = some x → segNum (nmOf dir sLog) nm ≠ 0 ∨ F.find nm = some x) :
 ∃ ro2 a2 ma2,DiskA G dir n q m b f q0 m0 (first + g.length) hs cur c t' sy' ro2 rc a2 ma2:=by
 obtain ⟨r1,r2,e,h2⟩:=h.holdO.cut
 have hc:=h.chO
 rw [e] at hc
 obtain ⟨a2,ma2,_,hc2⟩:=hc.split
 refine ⟨r2,a2,ma2,hr,hb,hsg,s1,s2,ht,h2,h.holdC,hc2,h.chC,fun e => ?_,fun e => ?_,h.nb,?_,h.nq,h.n1,fun nm x hx hi => ?_⟩
 ·have:=h.none_ e
  exact (List.append_eq_nil_iff.1 this).2
 ·have:=h.some_ e
  rw [List.length_append] at this
  omega
 ·have:=h.nl
  simp only [List.length_append] at this ⊢
  omega
 ·rcases hk nm x hx with e | e
  ·exact .inl e
  ·exact h.kinds nm x e hi
theorem mem_names {front k : ByteArray} (hr : Rise slt F.files) : k ∈ namesL front F.files ↔ (∃ x,F.find k = some x) ∧ Lib.hasPrefix (tx k) (tx front) = true:=by
 unfold namesL
 rw [List.mem_map]
 constructor
 ·rintro ⟨⟨k2,x⟩,h1,rfl⟩
  have h2:=List.mem_filter.1 h1
  exact ⟨⟨x,(mem_files hr).1 h2.1⟩,h2.2⟩
 ·rintro ⟨⟨x,hx⟩,h2⟩
  exact ⟨(k,x),List.mem_filter.2 ⟨(mem_files hr).2 hx,h2⟩,rfl⟩
theorem names_nodup {front : ByteArray} (hr : Rise slt F.files) : (namesL front F.files).Nodup:=by
 unfold namesL
 unfold Rise at hr
 refine List.Pairwise.map _ (fun x y (hxy : slt x.1 y.1 = true) e => ?_) (List.Pairwise.filter _ hr)
 rw [e,slt_ord.irr] at hxy
 cases hxy
theorem gone_in {k : ByteArray} (h : Gone dir b k) : inDir dir k:=by
 rcases h with e | e
 ·rw [e]; exact inDir_next dir
 ·rw [base_of_num e.1]; exact inDir_base dir _
theorem gone_seg {k : ByteArray} (h : Gone dir b k) : segNum (nmOf dir sLog) k = 0:=by
 rcases h with e | e
 ·rw [e]; exact next_seg dir
 ·rw [base_of_num e.1]; exact base_seg dir _
structure OpenOut (F : FsS) (dir : ByteArray) (size : Int) (n q : Nat) (m : Prs) (R : FsS × Option StS × Int) : Prop where
 step : Step (inDir dir) 0 0 F R.1
 out : (∃ s,R.2.1 = some s ∧ R.2.2 = 0 ∧ s.dir = dir ∧ s.seq = q ∧ s.all = m ∧ On R.1 s size n) ∨ (R.2.1 = none ∧ R.2.2 = 5 ∧ R.1.down = true ∧ F.armed ≠ 0 ∧ Disk R.1 dir n q m)
theorem sopen_out {n : Nat} (h : Disk F dir n q m) (hdir : DirS dir) (h16 : 16 ≤ size) (h20 : size ≤ 1048576) (hd : F.down = false) : OpenOut F dir size n q m (openS F dir size):=by
 obtain ⟨b,f,q0,m0,first,old,cur,c,t,sy,ro,rc,a,ma,h⟩:=h
 have hS : openS F dir size = openW dir b f q0 m0 (openL F (nmOf dir sLog) size):=by
  unfold openS
  rw [if_neg (by simp [hdir.seg 1,hdir.base 1]),if_neg (by omega),if_neg (by simp [hd]),h.base.man]
  rfl
 obtain ⟨s1,o1⟩:=h.log (hdir.seg 1) h16 h20 hd
 have hbs : ∀ {G : FsS},(∀ k,segNum (nmOf dir sLog) k = 0 → G.find k = F.find k) → BaseIs G dir b f q0 m0:=fun hG => h.base.ext (hG _ (man_seg dir)) (fun _ => hG _ (base_seg dir b))
 have hks : ∀ {G : FsS},(∀ k,segNum (nmOf dir sLog) k = 0 → G.find k = F.find k) → ∀ nm x,G.find nm = some x → segNum (nmOf dir sLog) nm ≠ 0 ∨ F.find nm = some x:=fun hG nm x hx => by
  by_cases e : segNum (nmOf dir sLog) nm = 0
  ·exact .inr (by rw [← hG nm e]; exact hx)
  ·exact .inl e
 have s1i:=s1.mono (Q:=inDir dir) (fun k e => inDir_seg dir e) (Nat.le_refl 0) (Int.le_refl 0)
 obtain ⟨O,hO⟩ : ∃ O,O = openL F (nmOf dir sLog) size:=⟨_,rfl⟩
 rw [← hO] at hS s1 s1i o1
 clear hO
 obtain ⟨G,L,want,r⟩:=O
 have oth1 : ∀ k,segNum (nmOf dir sLog) k = 0 → G.find k = F.find k:=fun k e => s1.others k (by simp [e])
 rcases o1 with ⟨cutv,e1,d1,g1,_⟩ | ⟨e1,d1,a1,t',sy',g1,k1,k2,k3⟩
 rotate_left
 ·have e1 : r = 5:=e1
  subst e1
  have hE : openS F dir size = (G,none,5):=by rw [hS]; rfl
  rw [hE]
  obtain ⟨ro2,a2,ma2,hD⟩:=DiskA.cut (g:=[]) (hs:=old) h g1.rise (hbs oth1) (by simpa using g1) k1 k2 k3 (hks oth1)
  exact ⟨s1i,.inr ⟨rfl,rfl,d1,a1,_,_,_,_,_,_,_,_,_,_,_,_,_,_,hD⟩⟩
 simp only [Prod.mk.injEq,true_and] at e1
 obtain ⟨rfl,rfl,rfl⟩:=e1
 have g1 : Segs G (nmOf dir sLog) first (((old ++ cur) ++ [c]).map fl):=g1
 obtain ⟨L,hL⟩ : ∃ L : LogS,L = ⟨nmOf dir sLog,size,first,first + (old ++ cur).length,cutv,false⟩:=⟨_,rfl⟩
 rw [← hL] at hS
 have hpos:=h.sg.pos
 have hD : (if L.first < f then dropLg L G ((min f L.last : Nat) : Int) else (L,G,0)) = dropF (old.map fl).length L G:=by
  rw [List.length_map]
  have hl1 : L.first = first:=by rw [hL]
  have hl2 : L.last = first + (old ++ cur).length:=by rw [hL]
  have hl3 : L.stuck = false:=by rw [hL]
  rw [List.length_append] at hl2
  by_cases hlt : L.first < f
  ·have hb0 : b ≠ 0:=fun e => by
    rcases h.base.is with ⟨_,e2,_⟩ | ⟨e2,_⟩
    ·omega
    ·omega
   have hf:=h.some_ hb0
   rw [if_pos hlt]
   unfold dropLg
   rw [if_neg (by simp [hl3]),if_neg (by omega),hl1]
   congr 1
   omega
  ·rw [if_neg hlt]
   have : old.length = 0:=by
    by_cases hb0 : b = 0
    ·rw [h.none_ hb0]; rfl
    ·have:=h.some_ hb0; omega
   rw [this]
   rfl
 have hS2 : openS F dir size = openD dir b q m (dropF (old.map fl).length L G):=by
  rw [hS,← hD]
  show openP dir b f L G (replayR (ro ++ rc) q0 m0) = _
  rw [h.replay]
  rfl
 clear hS hD
 have hgd : Segs G L.dir L.first (old.map fl ++ (cur ++ [c]).map fl):=by
  rw [hL,← List.map_append,← List.append_assoc]
  exact g1
 obtain ⟨s2,o2⟩:=dropF_out (ds:=(cur ++ [c]).map fl) (old.map fl) hgd d1
 obtain ⟨D,hDD⟩ : ∃ D,D = dropF (old.map fl).length L G:=⟨_,rfl⟩
 rw [← hDD] at hS2 s2 o2
 clear hDD
 obtain ⟨L2,G2,r2⟩:=D
 have hLd : L.dir = nmOf dir sLog:=by rw [hL]
 have hLf : L.first = first:=by rw [hL]
 rw [hLd] at s2
 have oth2 : ∀ k,segNum (nmOf dir sLog) k = 0 → G2.find k = F.find k:=fun k e => (s2.others k (by simp [e])).trans (oth1 k e)
 have s12 : Step (inDir dir) 0 0 F G2:=by
  have:=s1i.trans (s2.mono (Q:=inDir dir) (fun k e => inDir_seg dir e) (Nat.le_refl 0) (Int.le_refl 0))
  simpa using this
 rw [hLd,hLf] at o2
 rcases o2 with ⟨e2,l2,d2,g2⟩ | ⟨e2,d2,a2,g,hs,hg,g2⟩
 rotate_left
 ·have e2 : r2 = 5:=e2
  subst e2
  have hE : openS F dir size = (G2,none,5):=by rw [hS2]; rfl
  rw [hE]
  obtain ⟨g',hs',rfl,rfl,rfl⟩:=List.map_eq_append_iff.1 hg
  obtain ⟨ro2,a2',ma2,hD⟩:=DiskA.cut (g:=g') (hs:=hs') (t':=[]) (sy':=c.length) h g2.rise (hbs oth2) (by rw [List.length_map] at g2; simpa using g2) (Nat.le_refl _) (by simp) (by unfold headOf; simp) (hks oth2)
  exact ⟨s12,.inr ⟨rfl,rfl,d2,fun e => a2 (s1.calm e).1,_,_,_,_,_,_,_,_,_,_,_,_,_,_,hD⟩⟩
 have e2 : r2 = 0:=e2
 subst e2
 have l2 : L2 = { L with dir:=nmOf dir sLog,first:=first + (old.map fl).length }:=l2
 have hS3 : openS F dir size = openC dir b q m L2 (cleanR dir b (namesL (dirOf dir) G2.files) G2):=by rw [hS2]; rfl
 obtain ⟨s3,s3_or,o3⟩:=clean_out dir b (namesL (dirOf dir) G2.files) (F:=G2) (names_nodup g2.rise) (fun k hk => by obtain ⟨⟨x,hx⟩,_⟩:=(mem_names g2.rise).1 hk; rw [hx]; simp) d2 g2.rise
 obtain ⟨C,hC⟩ : ∃ C,C = cleanR dir b (namesL (dirOf dir) G2.files) G2:=⟨_,rfl⟩
 rw [← hC] at hS3 s3 s3_or o3
 clear hC
 obtain ⟨G3,r3⟩:=C
 have s13 : Step (inDir dir) 0 0 F G3:=by
  have:=s12.trans (s3.mono (Q:=inDir dir) (fun k e => gone_in e) (Nat.le_refl 0) (Int.le_refl 0))
  simpa using this
 have hseg3 : Segs G3 (nmOf dir sLog) (first + old.length) ((cur ++ [c]).map fl):=by
  rw [List.length_map] at g2
  exact g2.ext (s3.rise g2.rise) fun k hk => s3.others k fun e => hk (gone_seg e)
 have hbase3 : BaseIs G3 dir b f q0 m0:=(hbs oth2).ext (s3.others _ fun e => by
  rcases e with e | e
  ·have h1:=nth_man dir
   rw [e,nth_next] at h1
   exact absurd h1 (by decide)
  ·exact e.1 (man_base dir)) fun hb0 => s3.others _ fun e => by
  have hb1 : b < 100000000:=by
   rcases h.base.is with ⟨e2,_⟩ | ⟨_,e2,_⟩
   ·omega
   ·omega
  rcases e with e | e
  ·have h1:=baseNum_nm dir hb1
   rw [e,next_base] at h1
   omega
  ·exact e.2 (baseNum_nm dir hb1)
 rcases o3 with ⟨e3,d3,k3,n3⟩ | ⟨e3,d3,a3⟩
 rotate_left
 ·have e3 : r3 = 5:=e3
  subst e3
  have hE : openS F dir size = (G3,none,5):=by rw [hS3]; rfl
  rw [hE]
  obtain ⟨ro2,a2',ma2,hD⟩:=DiskA.cut (g:=old) (hs:=[]) (t':=[]) (sy':=c.length) (by rw [List.append_nil]; exact h) hseg3.rise hbase3 (by simpa using hseg3) (Nat.le_refl _) (by simp) (by unfold headOf; simp) (fun nm x hx => by
   by_cases eg : Gone dir b nm
   ·by_cases em : segNum (nmOf dir sLog) nm = 0
    ·right
     have h0 : G3.find nm = G2.find nm ∨ G3.find nm = none:=s3_or nm
     rcases h0 with e | e
     ·rw [← oth2 nm em,← e]; exact hx
     ·rw [e] at hx; cases hx
    ·exact .inl em
   ·exact hks (G:=G2) oth2 nm x (by rw [← s3.others nm eg]; exact hx))
  exact ⟨s13,.inr ⟨rfl,rfl,d3,fun e => a3 (s12.calm e).1,_,_,_,_,_,_,_,_,_,_,_,_,_,_,hD⟩⟩
 have e3 : r3 = 0:=e3
 subst e3
 have hE : openS F dir size = (G3,some ⟨dir,L2,b,false,m,q⟩,0):=by rw [hS3]; rfl
 rw [hE]
 have hL2d : L2.dir = nmOf dir sLog:=by rw [l2]
 have hL2f : L2.first = first + old.length:=by rw [l2,List.length_map]
 have hL2l : L2.last = first + (old ++ cur).length:=by rw [l2,hL]
 have hL2s : L2.stuck = false:=by rw [l2,hL]
 have hL2z : L2.size = size:=by rw [l2,hL]
 rw [List.length_append] at hL2l
 refine ⟨s13,.inl ⟨_,rfl,rfl,rfl,rfl,rfl,d3,rfl,hL2d,hL2z,⟨f,q0,m0,cur ++ [c],rc,hbase3,⟨by rw [hL2d,hL2f]; exact hseg3,by simp,by rw [hL2l,hL2f]; simp; omega,hL2s,d3,fun k _ => by rw [hL2d]; exact hdir.seg k⟩,h.holdC,h.chC,fun hb0 => by rw [hL2f]; exact h.some_ hb0⟩,fun nm x hx hi => ?_,h.nb,by rw [hL2l]; have:=h.nl; rw [List.length_append] at this; exact (by omega),h.nq,h.n1⟩⟩
 by_cases em : segNum (nmOf dir sLog) nm = 0
 rotate_left
 ·exact .inl em
 right
 have hng : ¬ Gone dir b nm:=fun eg => by
  by_cases hmem : nm ∈ namesL (dirOf dir) G2.files
  ·have hx3 : G3.find nm = some x:=hx
   rw [n3 nm hmem eg] at hx3
   cases hx3
  ·have h5 : G3.find nm = G2.find nm:=k3 nm (fun e => hmem e.1)
   have hx3 : G3.find nm = some x:=hx
   rw [h5] at hx3
   exact hmem ((mem_names g2.rise).2 ⟨⟨x,hx3⟩,hi⟩)
 have hxF : F.find nm = some x:=by rw [← oth2 nm em,← s3.others nm hng]; exact hx
 rcases h.kinds nm x hxF hi with e | ⟨e,e2⟩ | e | e
 ·exact absurd em e
 ·exact ⟨e,.inl e2⟩
 ·exact absurd (.inl e) hng
 ·have hbn : baseNum dir nm = b:=Classical.byContradiction fun e2 => hng (.inr ⟨e,e2⟩)
  refine ⟨by rw [← hbn]; exact e,.inr ?_⟩
  have:=base_of_num e
  rw [hbn] at this
  exact this
theorem clean_none (dir : ByteArray) (b : Nat) (F : FsS) : ∀ (names : List ByteArray),(∀ k,k ∈ names → ¬ Gone dir b k) → cleanR dir b names F = (F,0)
 | [],_ => rfl
 | k :: r,h => by
   simp only [cleanR]
   rw [if_pos (gone_not.1 (h k (List.mem_cons_self ..)))]
   exact clean_none dir b F r fun j hj => h j (List.mem_cons_of_mem _ hj)
theorem sopen_fresh {n : Nat} (hr : Rise slt F.files) (hno : ∀ k x,F.find k = some x → ¬ inDir dir k) (hdir : DirS dir) (h16 : 16 ≤ size) (h20 : size ≤ 1048576) (hd : F.down = false) (ha : F.armed = 0) (hf : F.files.length < 400) (hn : 1 ≤ n) (h9 : n ≤ 900) :
 ∃ G s,openS F dir size = (G,some s,0) ∧ On G s size n ∧ s.dir = dir ∧ s.seq = 0 ∧ s.all = [] ∧ G.armed = 0 ∧ G.room = F.room ∧ G.used = F.used ∧ G.files = putL slt F.files (segName (nmOf dir sLog) 1) (fl []):=by
 have hnone : ∀ k,inDir dir k → F.find k = none:=fun k hk => by
  cases h : F.find k with
  | none => rfl
  | some x => exact absurd hk (hno k x h)
 have hsg : Segs F (nmOf dir sLog) 1 []:=⟨hr,Nat.le_refl _,by simp,fun i d hi => by simp at hi,fun k x hx hk => absurd (inDir_seg dir hk) (hno k x hx)⟩
 obtain ⟨G,e1,hon,ha1,hro,hus,hfl⟩:=open_none hsg hdir.log h16 h20 hd ha hf
 have hman : manR F dir = some (0,0,0,[]):=by
  unfold manR
  rw [hnone _ (inDir_man dir)]
 have hfp:=find_put hr hfl
 have hrG : Rise slt G.files:=hon.sg.rise
 have hS : openS F dir size = (G,some ⟨dir,⟨nmOf dir sLog,size,1,1,0,false⟩,0,false,[],0⟩,0):=by
  unfold openS
  rw [if_neg (by simp [hdir.seg 1,hdir.base 1]),if_neg (by omega),if_neg (by simp [hd]),hman]
  show openW dir 0 0 0 [] (openL F (nmOf dir sLog) size) = _
  rw [e1]
  show openC dir 0 0 [] ⟨nmOf dir sLog,size,1,1,0,false⟩ (cleanR dir 0 (namesL (dirOf dir) G.files) G) = _
  rw [clean_none dir 0 G _ fun k hk => ?_]
  ·rfl
  ·obtain ⟨⟨x,hx⟩,hi⟩:=(mem_names hrG).1 hk
   rw [hfp] at hx
   split at hx
   ·rename_i e
    rw [e]
    rintro (e2 | e2)
    ·have h1:=segNum_name (nmOf dir sLog) (n:=1) (by decide)
     rw [e2,next_seg] at h1
     exact absurd h1 (by decide)
    ·exact e2.1 (seg_base dir 1)
   ·exact absurd hi (hno k x hx)
 refine ⟨G,_,hS,⟨hon.up,rfl,rfl,rfl,⟨0,0,[],[[]],[],⟨Fit.zero,by decide,.inl ⟨rfl,rfl,rfl,rfl,?_⟩⟩,hon,Holds.empty,⟨rfl,rfl⟩,fun e => absurd rfl e⟩,fun nm x hx hi => ?_,Nat.zero_le _,hn,Nat.zero_le _,h9⟩,rfl,rfl,rfl,ha1,hro,hus,hfl⟩
 ·rw [hfp,if_neg (fun e => by
   have h1:=segNum_name (nmOf dir sLog) (n:=1) (by decide)
   rw [← e,man_seg] at h1
   exact absurd h1 (by decide))]
  exact hnone _ (inDir_man dir)
 ·left
  rw [hfp] at hx
  split at hx
  ·rename_i e
   rw [e,segNum_name _ (by decide)]
   decide
  ·exact absurd hi (hno nm x hx)
end
end Go.Proofs.YtagdchgkjjpacaaGreat
