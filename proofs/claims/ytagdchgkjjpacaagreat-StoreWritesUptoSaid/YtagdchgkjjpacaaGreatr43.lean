/- Plain laws of a store: what lies on a file system; the manifest and its checkpoint are read. No program. -/
import Derived.Test.YtagdchgkjjpacaaGreatr42
set_option linter.unusedSimpArgs false
set_option linter.unusedVariables false
namespace Go.Proofs.YtagdchgkjjpacaaGreat
structure BaseIs (F : FsS) (dir : ByteArray) (b f q : Nat) (m : Prs) : Prop where
 fit : Fit q m
 q1 : q < 1000000000
 is : (b = 0 ∧ f = 0 ∧ q = 0 ∧ m = [] ∧ F.find (nmOf dir sMan) = none) ∨
   (1 ≤ b ∧ b ≤ 99999999 ∧ 1 ≤ f ∧ f < 1000000000 ∧ F.find (nmOf dir sMan) = some (fl (frameOf (saidB b f))) ∧ F.find (baseNm dir b) = some (fl (imgB q m)))
section
variable {F G : FsS} {dir : ByteArray} {b f q : Nat} {m : Prs}
theorem said_len (b f : Nat) : (saidB b f).length = 16:=by unfold saidB; rw [List.length_append,lowN_len,lowN_len]
theorem scan_one {p : List UInt8} (h : p.length ≤ 1048576) : scanOf (frameOf p) = [p]:=by
 have:=scan_of_frames (rs:=[p]) (fun q hq => by rw [List.mem_singleton.1 hq]; exact h)
 simpa using this
theorem BaseIs.man (h : BaseIs F dir b f q m) : manR F dir = some (b,f,q,m):=by
 unfold manR
 rcases h.is with ⟨rfl,rfl,rfl,rfl,hn⟩ | ⟨h1,h2,h3,h4,h5,h6⟩
 ·rw [hn]
 ·rw [h5]
  have hs : scanOf (fl (frameOf (saidB b f))).data = [saidB b f]:=scan_one (by rw [said_len]; omega)
  simp only
  rw [hs]
  have he : endOf [saidB b f] = (frameOf (saidB b f)).length:=by rw [frameOf_len]; simp [endOf]
  rw [if_neg (by rw [he]; simp)]
  simp only
  have t8 : (saidB b f).take 8 = lowN 8 b:=by unfold saidB; exact List.take_left' (lowN_len _ _)
  have d8 : (saidB b f).drop 8 = lowN 8 f:=by unfold saidB; exact List.drop_left' (lowN_len _ _)
  have nb : numOf (lowN 8 b) = b:=numOf_lowN 8 _ (by omega)
  have nf : numOf (lowN 8 f) = f:=numOf_lowN 8 _ (by omega)
  rw [if_neg (by rw [said_len]; decide),t8,d8,nb,nf,if_neg (by omega),if_neg (by omega),h6]
  simp only
  rw [loadB_img h.fit.ok (by have:=h.q1; omega)]
theorem BaseIs.ext (h : BaseIs F dir b f q m) (h1 : G.find (nmOf dir sMan) = F.find (nmOf dir sMan)) (h2 : b ≠ 0 → G.find (baseNm dir b) = F.find (baseNm dir b)) : BaseIs G dir b f q m:=by
 refine ⟨h.fit,h.q1,?_⟩
 rcases h.is with ⟨e1,e2,e3,e4,hn⟩ | ⟨k1,k2,k3,k4,k5,k6⟩
 ·exact .inl ⟨e1,e2,e3,e4,by rw [h1]; exact hn⟩
 ·exact .inr ⟨k1,k2,k3,k4,by rw [h1]; exact k5,by rw [h2 (by omega)]; exact k6⟩
end
abbrev inDir (dir n : ByteArray) : Prop:=Lib.hasPrefix (tx n) (tx (dirOf dir)) = true
structure DiskA (F : FsS) (dir : ByteArray) (n q : Nat) (m : Prs) (b f q0 : Nat) (m0 : Prs) (first : Nat) (old cur : List (List UInt8)) (c t : List UInt8) (sy : Nat) (ro rc : List (List UInt8)) (a : Nat) (ma : Prs) : Prop where
 rise : Rise slt F.files
 base : BaseIs F dir b f q0 m0
 sg : Segs F (nmOf dir sLog) first ((old ++ cur).map fl ++ [⟨c ++ t,sy⟩])
 sy1 : c.length ≤ sy
 sy2 : sy ≤ c.length + t.length
 torn : headOf t = none
 holdO : Holds old ro
 holdC : Holds (cur ++ [c]) rc
 chO : Chain a ma ro q0 m0
 chC : Chain q0 m0 rc q m
 none_ : b = 0 → old = []
 some_ : b ≠ 0 → f = first + old.length
 nb : b ≤ n
 nl : first + (old ++ cur).length ≤ n
 nq : q ≤ n
 n1 : n ≤ 900
 kinds : ∀ nm x,F.find nm = some x → inDir dir nm → segNum (nmOf dir sLog) nm ≠ 0 ∨ (b ≠ 0 ∧ nm = nmOf dir sMan) ∨ nm = nmOf dir sNext ∨ baseNum dir nm ≠ 0
def Disk (F : FsS) (dir : ByteArray) (n q : Nat) (m : Prs) : Prop:=∃ b f q0 m0 first old cur c t sy ro rc a ma,DiskA F dir n q m b f q0 m0 first old cur c t sy ro rc a ma
structure On (F : FsS) (s : StS) (size : Int) (n : Nat) : Prop where
 up : F.down = false
 free : s.stuck = false
 ldir : s.log.dir = nmOf s.dir sLog
 lsize : s.log.size = size
 ex : ∃ f q0 m0 segs rc,BaseIs F s.dir s.base f q0 m0 ∧ LogOn F s.log segs ∧ Holds segs rc ∧ Chain q0 m0 rc s.seq s.all ∧ (s.base ≠ 0 → f = s.log.first)
 only : ∀ nm x,F.find nm = some x → inDir s.dir nm → segNum (nmOf s.dir sLog) nm ≠ 0 ∨ (s.base ≠ 0 ∧ (nm = nmOf s.dir sMan ∨ nm = baseNm s.dir s.base))
 nb : s.base ≤ n
 nl : s.log.last ≤ n
 nq : s.seq ≤ n
 n1 : n ≤ 900
section
variable {F G : FsS} {s : StS} {size : Int} {n : Nat}
theorem On.fit (h : On F s size n) : Fit s.seq s.all:=by
 obtain ⟨f,q0,m0,segs,rc,h1,h2,h3,h4,h5⟩:=h.ex
 exact h4.fit h1.fit
theorem On.disk (h : On F s size n) : Disk F s.dir n s.seq s.all:=by
 obtain ⟨f,q0,m0,segs,rc,h1,h2,h3,h4,h5⟩:=h.ex
 obtain ⟨cur,c,rfl⟩ : ∃ cur c,segs = cur ++ [c]:=⟨_,_,(List.dropLast_concat_getLast h2.ne).symm⟩
 have hsg:=h2.sg
 rw [h.ldir] at hsg
 have hl:=h2.last
 rw [List.length_append,List.length_singleton] at hl
 refine ⟨s.base,f,q0,m0,s.log.first,[],cur,c,[],c.length,[],rc,q0,m0,hsg.rise,h1,?_,Nat.le_refl _,by simp,by unfold headOf; simp,⟨[],rfl,rfl,fun p hp => by simp at hp⟩,h3,⟨rfl,rfl⟩,h4,fun _ => rfl,fun e => by rw [h5 e]; rfl,h.nb,?_,h.nq,h.n1,fun nm x hx hi => ?_⟩
 ·rw [List.nil_append,List.append_nil]
  simpa using hsg
 ·rw [List.nil_append]
  have:=h.nl
  omega
 ·rcases h.only nm x hx hi with e | ⟨e1,e2⟩
  ·exact .inl e
  ·rcases e2 with e2 | e2
   ·exact .inr (.inl ⟨e1,e2⟩)
   ·refine .inr (.inr (.inr ?_))
    rw [e2]
    have hb : s.base ≤ 99999999:=by have:=h.nb; have:=h.n1; omega
    rw [baseNum_nm s.dir (by omega)]
    exact e1
theorem inDir_seg (dir : ByteArray) {nm : ByteArray} (h : segNum (nmOf dir sLog) nm ≠ 0) : inDir dir nm:=by
 rw [name_of_num _ _ h,segName_in]
 exact pre_in dir _
theorem inDir_man (dir : ByteArray) : inDir dir (nmOf dir sMan):=pre_in dir _
theorem inDir_next (dir : ByteArray) : inDir dir (nmOf dir sNext):=pre_in dir _
theorem inDir_base (dir : ByteArray) (k : Nat) : inDir dir (baseNm dir k):=by rw [baseNm_in]; exact pre_in dir _
theorem On.ext (h : On F s size n) (hr : Rise slt G.files) (hd : G.down = false) (ho : ∀ m,inDir s.dir m → G.find m = F.find m) : On G s size n:=by
 obtain ⟨f,q0,m0,segs,rc,h1,h2,h3,h4,h5⟩:=h.ex
 refine ⟨hd,h.free,h.ldir,h.lsize,⟨f,q0,m0,segs,rc,h1.ext (ho _ (inDir_man _)) (fun _ => ho _ (inDir_base _ _)),⟨h2.sg.ext hr (fun m hm => ho m (inDir_seg s.dir (by rw [← h.ldir]; exact hm))),h2.ne,h2.last,h2.free,hd,h2.name⟩,h3,h4,h5⟩,fun nm x hx hi => h.only nm x (by rw [← ho nm hi]; exact hx) hi,h.nb,h.nl,h.nq,h.n1⟩
theorem On.mono (h : On F s size n) {n' : Nat} (hn : n ≤ n') (h9 : n' ≤ 900) : On F s size n' :=
 ⟨h.up,h.free,h.ldir,h.lsize,h.ex,h.only,by have:=h.nb; omega,by have:=h.nl; omega,by have:=h.nq; omega,h9⟩
theorem Disk.mono {dir : ByteArray} {q : Nat} {m : Prs} (h : Disk F dir n q m) {n' : Nat} (hn : n ≤ n') (h9 : n' ≤ 900) : Disk F dir n' q m:=by
 obtain ⟨b,f,q0,m0,first,old,cur,c,t,sy,ro,rc,a,ma,d⟩:=h
 exact ⟨b,f,q0,m0,first,old,cur,c,t,sy,ro,rc,a,ma,{ d with nb:=by have:=d.nb; omega,nl:=by have:=d.nl; omega,nq:=by have:=d.nq; omega,n1:=h9 }⟩
end
theorem find_crash {F : FsS} (hr : Rise slt F.files) (kf : ByteArray → Int → Int) (n : ByteArray) : (F.crash kf).find n = (F.find n).map (crashFile kf n):=by
 have hfiles:=crash_files (F:=F) kf
 have hr2 : Rise slt (F.crash kf).files:=by
  rw [hfiles]
  unfold Rise
  rw [List.pairwise_map]
  exact hr
 cases hx : F.find n with
 | some x =>
   refine (mem_files hr2).1 ?_
   rw [hfiles]
   exact List.mem_map.2 ⟨(n,x),(mem_files hr).2 hx,rfl⟩
 | none =>
   cases hy : (F.crash kf).find n with
   | none => rfl
   | some y =>
     have h1:=(mem_files hr2).2 hy
     rw [hfiles] at h1
     obtain ⟨⟨m,z⟩,hz,e⟩:=List.mem_map.1 h1
     simp only [Prod.mk.injEq] at e
     obtain ⟨rfl,-⟩:=e
     rw [(mem_files hr).1 hz] at hx
     cases hx
theorem crash_rise {F : FsS} (hr : Rise slt F.files) (kf : ByteArray → Int → Int) : Rise slt (F.crash kf).files:=by
 rw [crash_files (F:=F) kf]
 unfold Rise
 rw [List.pairwise_map]
 exact hr
theorem crash_len (F : FsS) (kf : ByteArray → Int → Int) : (F.crash kf).files.length = F.files.length:=by rw [crash_files (F:=F) kf,List.length_map]
theorem crash_torn2 (kf : ByteArray → Int → Int) (n : ByteArray) (c t : List UInt8) {sy : Nat} (h : c.length ≤ sy) : ∃ j,crashFile kf n ⟨c ++ t,sy⟩ = fl (c ++ t.take j):=by
 unfold crashFile
 split
 ·refine ⟨sy - c.length,?_⟩
  simp only
  rw [List.take_append,List.take_of_length_le h]
 ·generalize hq : leftOfFile _ _ = q
  have hq2 : c.length ≤ q:=by rw [← hq]; unfold leftOfFile; simp only; omega
  refine ⟨q - c.length,?_⟩
  simp only
  rw [List.take_append,List.take_of_length_le hq2]
theorem torn_take {t : List UInt8} (h : headOf t = none) (j : Nat) : headOf (t.take j) = none:=by
 cases he : headOf (t.take j) with
 | none => rfl
 | some p => rw [(headOf_untake he).1] at h; cases h
section
variable {F : FsS} {dir : ByteArray} {b f q n : Nat} {m : Prs}
theorem BaseIs.crash (h : BaseIs F dir b f q m) (hr : Rise slt F.files) (kf : ByteArray → Int → Int) : BaseIs (F.crash kf) dir b f q m:=by
 refine ⟨h.fit,h.q1,?_⟩
 rcases h.is with ⟨e1,e2,e3,e4,hn⟩ | ⟨k1,k2,k3,k4,k5,k6⟩
 ·exact .inl ⟨e1,e2,e3,e4,by rw [find_crash hr,hn]; rfl⟩
 ·exact .inr ⟨k1,k2,k3,k4,by rw [find_crash hr,k5,Option.map_some,crashFile_synced rfl],by rw [find_crash hr,k6,Option.map_some,crashFile_synced rfl]⟩
theorem Segs.crashT {dir : ByteArray} {first sy : Nat} {pre : List (List UInt8)} {c t : List UInt8} (h : Segs F dir first (pre.map fl ++ [⟨c ++ t,sy⟩])) (hsy : c.length ≤ sy) (kf : ByteArray → Int → Int) : ∃ j,Segs (F.crash kf) dir first (pre.map fl ++ [fl (c ++ t.take j)]):=by
 obtain ⟨j,hj⟩:=crash_torn2 kf (segName dir (first + pre.length)) c t hsy
 refine ⟨j,h.crash kf _ (by simp) fun i d hd => ?_⟩
 by_cases hi : i < pre.length
 ·rw [List.getElem?_append_left (by simpa using hi)] at hd ⊢
  rw [List.getElem?_map] at hd
  obtain ⟨s,hs,rfl⟩:=Option.map_eq_some_iff.1 hd
  rw [crashFile_synced rfl,List.getElem?_map,hs]
  rfl
 ·have hl:=(List.getElem?_eq_some_iff.1 hd).1
  simp only [List.length_append,List.length_map,List.length_singleton] at hl
  obtain rfl : i = pre.length:=by omega
  rw [List.getElem?_append_right (by simp)] at hd ⊢
  simp only [List.length_map,Nat.sub_self,List.getElem?_cons_zero,Option.some.injEq] at hd ⊢
  subst hd
  exact hj.symm
theorem Disk.crash (h : Disk F dir n q m) (kf : ByteArray → Int → Int) : Disk (F.crash kf) dir n q m:=by
 obtain ⟨b,f,q0,m0,first,old,cur,c,t,sy,ro,rc,a,ma,d⟩:=h
 obtain ⟨j,hj⟩:=d.sg.crashT d.sy1 kf
 refine ⟨b,f,q0,m0,first,old,cur,c,t.take j,(c ++ t.take j).length,ro,rc,a,ma,?_⟩
 exact { d with
  rise:=crash_rise d.rise kf
  base:=d.base.crash d.rise kf
  sg:=hj
  sy1:=by simp
  sy2:=by simp
  torn:=torn_take d.torn j
  kinds:=fun nm x hx hi => by
   rw [find_crash d.rise] at hx
   obtain ⟨y,hy,-⟩:=Option.map_eq_some_iff.1 hx
   exact d.kinds nm y hy hi }
theorem Disk.ext {G : FsS} (h : Disk F dir n q m) (hr : Rise slt G.files) (ho : ∀ nm,inDir dir nm → (segNum (nmOf dir sLog) nm ≠ 0 ∨ nm = nmOf dir sMan ∨ ∃ k,k ≠ 0 ∧ nm = baseNm dir k ∧ ∀ b f q0 m0,BaseIs F dir b f q0 m0 → b = k) → G.find nm = F.find nm)
 (hk : ∀ nm x,G.find nm = some x → inDir dir nm → (∃ y,F.find nm = some y) ∨ nm = nmOf dir sNext ∨ baseNum dir nm ≠ 0) : Disk G dir n q m:=by
 obtain ⟨b,f,q0,m0,first,old,cur,c,t,sy,ro,rc,a,ma,d⟩:=h
 have hb : ∀ b' f' q' m',BaseIs F dir b' f' q' m' → b' = b:=fun b' f' q' m' h' => by
  have h1:=h'.man
  rw [d.base.man] at h1
  simp only [Option.some.injEq,Prod.mk.injEq] at h1
  exact h1.1.symm
 refine ⟨b,f,q0,m0,first,old,cur,c,t,sy,ro,rc,a,ma,?_⟩
 exact { d with
  rise:=hr
  base:=d.base.ext (ho _ (inDir_man _) (.inr (.inl rfl))) (fun hb0 => ho _ (inDir_base _ _) (.inr (.inr ⟨b,hb0,rfl,hb⟩)))
  sg:=d.sg.ext hr (fun nm hn => ho nm (inDir_seg dir hn) (.inl hn))
  kinds:=fun nm x hx hi => by
   rcases hk nm x hx hi with ⟨y,hy⟩ | e | e
   ·exact d.kinds nm y hy hi
   ·exact .inr (.inr (.inl e))
   ·exact .inr (.inr (.inr e)) }
end
def LocN (P : ByteArray → Prop) (F G : FsS) : Prop:=Rise slt F.files → Rise slt G.files ∧ ∀ m,¬ P m → G.find m = F.find m
section
variable {P Q : ByteArray → Prop} {F G H : FsS} {n : ByteArray}
theorem LocN.refl (P : ByteArray → Prop) (F : FsS) : LocN P F F:=fun h => ⟨h,fun _ _ => rfl⟩
theorem LocN.trans (h : LocN P F G) (k : LocN P G H) : LocN P F H:=fun hr => ⟨(k (h hr).1).1,fun m hm => ((k (h hr).1).2 m hm).trans ((h hr).2 m hm)⟩
theorem LocN.mono (h : LocN P F G) (hp : ∀ m,P m → Q m) : LocN Q F G:=fun hr => ⟨(h hr).1,fun m hm => (h hr).2 m fun e => hm (hp m e)⟩
theorem loc_files (h : G.files = F.files ∨ ∃ y,G.files = putL slt F.files n y) : LocN (fun m => m = n) F G:=fun hr => by
 rcases h with h | ⟨y,h⟩
 ·exact ⟨by rw [h]; exact hr,fun m _ => find_same h m⟩
 ·exact ⟨by rw [h]; exact rise_putL slt_ord hr _ _,fun m hm => by rw [find_put hr h,if_neg hm]⟩
theorem append_files (F : FsS) (n : ByteArray) (b : List UInt8) : (F.append n b).1.files = F.files ∨ ∃ y,(F.append n b).1.files = putL slt F.files n y:=by
 unfold FsS.append FsS.on
 split
 ·exact .inl rfl
 ·split
  ·exact .inl rfl
  ·split
   ·exact .inl rfl
   ·unfold FsS.write
    split
    ·split
     ·exact .inl rfl
     ·exact .inr ⟨_,rfl⟩
    ·exact .inr ⟨_,rfl⟩
theorem sync_files (F : FsS) (n : ByteArray) : (F.sync n).1.files = F.files ∨ ∃ y,(F.sync n).1.files = putL slt F.files n y:=by
 unfold FsS.sync FsS.on
 split
 ·exact .inl rfl
 ·split
  ·exact .inl rfl
  ·unfold FsS.write
   split
   ·split
    ·exact .inl rfl
    ·exact .inr ⟨_,rfl⟩
   ·exact .inr ⟨_,rfl⟩
theorem create_files (F : FsS) (n : ByteArray) : (F.create n).1.files = F.files ∨ ∃ y,(F.create n).1.files = putL slt F.files n y:=by
 unfold FsS.create
 split
 ·exact .inl rfl
 ·split
  ·exact .inl rfl
  ·split
   ·exact .inl rfl
   ·split
    ·exact .inl rfl
    ·unfold FsS.write
     split
     ·split
      ·exact .inl rfl
      ·exact .inr ⟨_,rfl⟩
     ·exact .inr ⟨_,rfl⟩
theorem appendL_loc (L : LogS) (F : FsS) (p : List UInt8) (h1 : 1 ≤ L.last) (h2 : L.last < 99999999) : LocN (fun m => segNum L.dir m ≠ 0) F (appendL L F p).2.1:=by
 have hs : ∀ k,1 ≤ k → k < 100000000 → ∀ m,m = segName L.dir k → segNum L.dir m ≠ 0:=fun k k1 k2 m e => by rw [e,segNum_name L.dir k2]; omega
 have hw : ∀ (L' : LogS) (G : FsS),L'.dir = L.dir → 1 ≤ L'.last → L'.last < 100000000 → LocN (fun m => segNum L.dir m ≠ 0) G (writeL L' G p).2.1:=fun L' G hd k1 k2 => by
  unfold writeL writeR twoRes
  have ha:=(loc_files (append_files G (segName L'.dir L'.last) (frameOf p))).mono (Q:=fun m => segNum L.dir m ≠ 0) (fun m e => hs _ k1 k2 m (by rw [e,hd]))
  simp only
  split
  ·exact ha.trans ((loc_files (sync_files _ _)).mono (fun m e => hs _ k1 k2 m (by rw [e,hd])))
  ·exact ha
 have hr : LocN (fun m => segNum L.dir m ≠ 0) F (rotateL L F).2.1:=by
  unfold rotateL
  split
  ·exact LocN.refl _ _
  ·split
   ·exact LocN.refl _ _
   ·have hc:=(loc_files (create_files F (segName L.dir (L.last + 1)))).mono (Q:=fun m => segNum L.dir m ≠ 0) (fun m e => hs _ (by omega) (by omega) m e)
    split
    ·exact hc
    ·exact hc
 unfold appendL
 split
 ·exact LocN.refl _ _
 ·split
  ·exact LocN.refl _ _
  ·split
   ·split
    ·rename_i h0
     have hd:=rotateL_dir L F
     exact hr.trans (hw _ _ hd.1 (by rw [hd.2 h0]; omega) (by rw [hd.2 h0]; omega))
    ·exact hr
   ·exact hw L F rfl h1 (by omega)
end
inductive WrOut (F : FsS) (s : StS) (size : Int) (n : Nat) (l : List Chg) (R : StS × FsS × Int) : Prop where
 | refused (e : Nat) (he : e ≠ 0) (h5 : e ≠ 5 ∧ e ≠ 4) (h : (encB ((s.seq : Int) + 1) l).2 = e) (hR : R = (s,F,(e : Int))) : WrOut F s size n l R
 | nothing (h : (encB ((s.seq : Int) + 1) l).2 = 0) (hl : l = []) (hR : R = (s,F,0)) : WrOut F s size n l R
 | done (h : (encB ((s.seq : Int) + 1) l).2 = 0) (hl : l ≠ []) (hR : R.2.2 = 0) (on : On R.2.1 R.1 size (n + 1)) (ha : R.1.all = applyB s.all l) (hq : R.1.seq = s.seq + 1) (hd : R.1.dir = s.dir ∧ R.1.base = s.base) (st : Step (fun m => segNum (nmOf s.dir sLog) m ≠ 0) 1 ((8 + (batB (s.seq + 1) l).length : Nat) : Int) F R.2.1) : WrOut F s size n l R
 | full (h : (encB ((s.seq : Int) + 1) l).2 = 0) (hl : l ≠ []) (hR : R.2.2 = 4) (on : On R.2.1 R.1 size (n + 1)) (ha : R.1.all = s.all) (hq : R.1.seq = s.seq) (hd : R.1.dir = s.dir ∧ R.1.base = s.base) (hf : F.room - F.used < ((8 + (batB (s.seq + 1) l).length : Nat) : Int)) (st : Step (fun m => segNum (nmOf s.dir sLog) m ≠ 0) 1 0 F R.2.1) : WrOut F s size n l R
 | down (h : (encB ((s.seq : Int) + 1) l).2 = 0) (hl : l ≠ []) (hR : R.2.2 = 5) (hd : R.2.1.down = true) (arm : F.armed ≠ 0) (disk : ∀ kf,Disk (R.2.1.crash kf) s.dir (n + 1) s.seq s.all ∨ Disk (R.2.1.crash kf) s.dir (n + 1) (s.seq + 1) (applyB s.all l)) (few : R.2.1.files.length ≤ F.files.length + 1) (rise : Rise slt R.2.1.files) : WrOut F s size n l R
section
variable {F : FsS} {s : StS} {size : Int} {n : Nat} {l : List Chg}
theorem encB_seq {q : Nat} {l : List Chg} : encB ((q : Int) + 1) l = if chkB l ≠ 0 then ([],chkB l) else if 1048576 < (batB (q + 1) l).length then ([],8) else (batB (q + 1) l,0):=by
 unfold encB
 rw [if_neg (by omega),show ((q : Int) + 1).toNat = q + 1 by omega]
theorem chkFrom_vals : ∀ (l : List Chg) (seen : List ByteArray),chkFrom seen l = 0 ∨ chkFrom seen l = 1 ∨ chkFrom seen l = 8 ∨ chkFrom seen l = 12
 | [],_ => .inl rfl
 | c :: l,seen => by
   unfold chkFrom
   split
   ·exact .inr (.inl rfl)
   ·split
    ·exact .inr (.inr (.inl rfl))
    ·split
     ·exact .inr (.inr (.inr rfl))
     ·exact chkFrom_vals l _
theorem chkB_vals (l : List Chg) : chkB l = 0 ∨ chkB l = 1 ∨ chkB l = 8 ∨ chkB l = 9 ∨ chkB l = 12:=by
 unfold chkB
 split
 ·exact .inr (.inr (.inr (.inl rfl)))
 ·rcases chkFrom_vals l [] with h | h | h | h
  ·exact .inl h
  ·exact .inr (.inl h)
  ·exact .inr (.inr (.inl h))
  ·exact .inr (.inr (.inr (.inr h)))
theorem calm_step {dir : ByteArray} {F G : FsS} {du : Int} (h : Calm dir F G du) (hr : Rise slt G.files) (hd : F.down = false) (hg : G.down = false) : Step (fun m => segNum dir m ≠ 0) 1 du F G :=
 ⟨fun _ => hr,fun m hm => h.others m (by simpa using hm),h.few,by rw [h.used]; omega,h.room,fun e => ⟨h.calm e,by rw [hg,hd]⟩⟩
theorem swrite_out (h : On F s size n) (hn : n + 1 ≤ 900) (hf : F.files.length < 400) (l : List Chg) : WrOut F s size n l (writeS s F l):=by
 have hE:=encB_seq (q:=s.seq) (l:=l)
 have hW : writeS s F l = if chkB l ≠ 0 then (s,F,(chkB l : Int)) else writeE s F l (encB ((s.seq : Int) + 1) l):=by
  unfold writeS
  rw [if_neg (by simp [h.free])]
 by_cases hc : chkB l = 0
 rotate_left
 ·rw [if_pos hc] at hE
  rw [if_pos hc] at hW
  rw [hW]
  exact .refused (chkB l) hc (by have:=chkB_vals l; omega) (by rw [hE]) rfl
 rw [if_neg (by simpa using hc)] at hE hW
 by_cases hlen : 1048576 < (batB (s.seq + 1) l).length
 ·rw [if_pos hlen] at hE
  rw [hE] at hW
  have : writeE s F l ([],8) = (s,F,8):=by unfold writeE; rw [if_pos (.inl (by decide))]; rfl
  rw [hW,this]
  exact .refused 8 (by decide) (by decide) (by rw [hE]) rfl
 rw [if_neg hlen] at hE
 have hE2 : (encB ((s.seq : Int) + 1) l).2 = 0:=by rw [hE]
 by_cases hl : l = []
 ·rw [hW,hE]
  have : writeE s F l (batB (s.seq + 1) l,0) = (s,F,0):=by unfold writeE; rw [if_pos (.inr hl)]; rfl
  rw [this]
  exact .nothing hE2 hl rfl
 have hW2 : writeS s F l = writeA s l (appendL s.log F (batB (s.seq + 1) l)):=by
  rw [hW,hE]
  unfold writeE
  rw [if_neg]
  rintro (e | e)
  ·exact e rfl
  ·exact hl e
 obtain ⟨f,q0,m0,segs,rc,h1,h2,h3,h4,h5⟩:=h.ex
 obtain ⟨pre,b,rfl⟩ : ∃ pre b,segs = pre ++ [b]:=⟨_,_,(List.dropLast_concat_getLast h2.ne).symm⟩
 have hp : (batB (s.seq + 1) l).length ≤ 1048576:=by omega
 have hlast:=h2.last
 have hpos:=h2.pos
 have hnl:=h.nl
 have ho:=append_out h2 hp (by omega) hf
 have hloc:=appendL_loc s.log F (batB (s.seq + 1) l) hpos.1 (by omega) h2.sg.rise
 obtain ⟨P,hP⟩ : ∃ P,P = appendL s.log F (batB (s.seq + 1) l):=⟨_,rfl⟩
 rw [← hP] at ho hloc hW2
 rw [hW2]
 have hdec : decB (batB (s.seq + 1) l) = some (s.seq + 1,l.map Chg.norm):=decB_batB (by omega) (by have:=h.nq; omega) hc hp
 have hseg0 : ∀ m,segNum (nmOf s.dir sLog) m = 0 → P.2.1.find m = F.find m:=fun m hm => hloc.2 m (by rw [h.ldir]; simpa using hm)
 have hbase : BaseIs P.2.1 s.dir s.base f q0 m0:=h1.ext (hseg0 _ (man_seg _)) (fun _ => hseg0 _ (base_seg _ _))
 have honly : ∀ nm x,P.2.1.find nm = some x → inDir s.dir nm → segNum (nmOf s.dir sLog) nm ≠ 0 ∨ (s.base ≠ 0 ∧ (nm = nmOf s.dir sMan ∨ nm = baseNm s.dir s.base)):=fun nm x hx hi => by
  by_cases hs : segNum (nmOf s.dir sLog) nm = 0
  ·exact h.only nm x (by rw [← hseg0 nm hs]; exact hx) hi
  ·exact .inl hs
 rcases ho with ⟨e0,hroom,hcalm,hL,hon⟩ | ⟨e4,hroom,hcalm,hL,hon⟩ | ⟨e5,ht⟩
 ·have hfin : writeA s l P = ({ s with log:=P.1,all:=applyB s.all l,seq:=s.seq + 1 },P.2.1,0):=by unfold writeA; rw [if_neg (by rw [e0]; simp)]
  rw [hfin]
  have hst:=calm_step hcalm hon.sg.rise h.up hon.up
  rw [h.ldir] at hst
  refine .done hE2 hl rfl ⟨hon.up,h.free,?_,?_,⟨f,q0,m0,_,rc ++ [batB (s.seq + 1) l],hbase,hon,?_,h4.append (by have:=Chain.one (m:=s.all) hdec; rwa [applyB_norm] at this),fun e => by rw [hL]; exact h5 e⟩,honly,by have:=h.nb; show s.base ≤ n + 1; omega,?_,by have:=h.nq; show s.seq + 1 ≤ n + 1; omega,hn⟩ rfl rfl ⟨rfl,rfl⟩ hst
  ·show P.1.dir = _
   rw [hL]; exact h.ldir
  ·show P.1.size = _
   rw [hL]; exact h.lsize
  ·split
   ·exact h3.fresh hp
   ·exact h3.next hp
  ·show P.1.last ≤ n + 1
   have h6:=hon.last
   have h7 : P.1.first = s.log.first:=by rw [hL]
   rw [h7] at h6
   split at h6
   ·simp at h6 hlast; omega
   ·simp at h6 hlast; omega
 ·have hfin : writeA s l P = ({ s with log:=P.1,stuck:=P.2.2 == 5 },P.2.1,4):=by unfold writeA; rw [if_pos (by rw [e4]; decide),e4]
  rw [hfin]
  have hst:=calm_step hcalm hon.sg.rise h.up hon.up
  rw [h.ldir] at hst
  refine .full hE2 hl rfl ⟨hon.up,by show (P.2.2 == 5) = false; rw [e4]; rfl,?_,?_,⟨f,q0,m0,_,rc,hbase,hon,?_,h4,fun e => by rw [hL]; exact h5 e⟩,honly,by have:=h.nb; show s.base ≤ n + 1; omega,?_,by have:=h.nq; show s.seq ≤ n + 1; omega,hn⟩ rfl rfl ⟨rfl,rfl⟩ hroom hst
  ·show P.1.dir = _
   rw [hL]; exact h.ldir
  ·show P.1.size = _
   rw [hL]; exact h.lsize
  ·split
   ·exact h3.new
   ·exact h3
  ·show P.1.last ≤ n + 1
   have h6:=hon.last
   have h7 : P.1.first = s.log.first:=by rw [hL]
   rw [h7] at h6
   split at h6
   ·simp at h6 hlast; omega
   ·simp at h6 hlast; omega
 ·have hfin : writeA s l P = ({ s with log:=P.1,stuck:=P.2.2 == 5 },P.2.1,5):=by unfold writeA; rw [if_pos (by rw [e5]; decide),e5]
  rw [hfin]
  obtain ⟨pre',c,t,hsegs,htt,hsg⟩:=ht.ex
  rw [h.ldir] at hsg
  have hh : Holds (pre' ++ [c]) rc:=by
   rcases hsegs with e | e
   ·rw [e]; exact h3
   ·rw [e]; exact h3.new
  have hcount : s.log.first + pre'.length ≤ n + 1:=by
   have e : pre'.length + 1 ≤ (pre ++ [b]).length + 1:=by
    rcases hsegs with e | e <;> have:=congrArg List.length e <;> simp at this ⊢ <;> omega
   omega
  have hkinds : ∀ kf nm x,(P.2.1.crash kf).find nm = some x → inDir s.dir nm → segNum (nmOf s.dir sLog) nm ≠ 0 ∨ (s.base ≠ 0 ∧ nm = nmOf s.dir sMan) ∨ nm = nmOf s.dir sNext ∨ baseNum s.dir nm ≠ 0:=fun kf nm x hx hi => by
   rw [find_crash hsg.rise] at hx
   obtain ⟨y,hy,-⟩:=Option.map_eq_some_iff.1 hx
   rcases honly nm y hy hi with e | ⟨e1,e2⟩
   ·exact .inl e
   ·rcases e2 with e2 | e2
    ·exact .inr (.inl ⟨e1,e2⟩)
    ·refine .inr (.inr (.inr ?_))
     rw [e2,baseNum_nm s.dir (by have:=h.nb; omega)]
     exact e1
  refine .down hE2 hl rfl ht.down ht.arm (fun kf => ?_) ht.few hsg.rise
  obtain ⟨j,hj⟩:=hsg.crashT (Nat.le_refl _) kf
  by_cases hw : t = frameOf (batB (s.seq + 1) l) ∧ (frameOf (batB (s.seq + 1) l)).length ≤ j
  ·right
   obtain ⟨rfl,hjl⟩:=hw
   rw [List.take_of_length_le hjl] at hj
   refine ⟨s.base,f,q0,m0,s.log.first,[],pre',c ++ frameOf (batB (s.seq + 1) l),[],(c ++ frameOf (batB (s.seq + 1) l)).length,[],rc ++ [batB (s.seq + 1) l],q0,m0,crash_rise hsg.rise kf,hbase.crash hsg.rise kf,?_,Nat.le_refl _,by simp,by unfold headOf; simp,⟨[],rfl,rfl,fun p hp => by simp at hp⟩,hh.next hp,⟨rfl,rfl⟩,h4.append (by have:=Chain.one (m:=s.all) hdec; rwa [applyB_norm] at this),fun _ => rfl,fun e => by rw [h5 e]; rfl,by have:=h.nb; omega,by rw [List.nil_append]; exact hcount,by have:=h.nq; omega,hn,hkinds kf⟩
   rw [List.nil_append,List.append_nil]
   exact hj
  ·left
   refine ⟨s.base,f,q0,m0,s.log.first,[],pre',c,t.take j,(c ++ t.take j).length,[],rc,q0,m0,crash_rise hsg.rise kf,hbase.crash hsg.rise kf,?_,by simp,by simp,?_,⟨[],rfl,rfl,fun p hp => by simp at hp⟩,hh,⟨rfl,rfl⟩,h4,fun _ => rfl,fun e => by rw [h5 e]; rfl,by have:=h.nb; omega,by rw [List.nil_append]; exact hcount,by have:=h.nq; omega,hn,hkinds kf⟩
   ·rw [List.nil_append]
    exact hj
   ·rcases htt with rfl | rfl
    ·rw [List.take_nil]; unfold headOf; simp
    ·refine headOf_torn hp ?_
     have:=hw
     rw [frameOf_len] at this
     simp only [true_and] at this
     omega
end
end Go.Proofs.YtagdchgkjjpacaaGreat
