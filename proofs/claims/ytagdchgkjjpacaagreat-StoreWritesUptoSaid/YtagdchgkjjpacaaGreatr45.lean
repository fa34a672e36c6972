/- Plain laws of a store: Checkpoint. No program. -/
import Derived.Test.YtagdchgkjjpacaaGreatr44
set_option linter.unusedSimpArgs false
set_option linter.unusedVariables false
namespace Go.Proofs.YtagdchgkjjpacaaGreat
section
variable {F G : FsS} {dir : ByteArray} {size : Int} {n b : Nat} {s : StS}
theorem fold_init (dir : ByteArray) : ∀ (l : List ByteArray) (z : Nat),z ≤ l.foldl (fun n m => max n (baseNum dir m + 1)) z
 | [],z => Nat.le_refl _
 | k :: r,z => Nat.le_trans (Nat.le_max_left _ _) (fold_init dir r (max z (baseNum dir k + 1)))
theorem fold_mem (dir : ByteArray) {k : ByteArray} : ∀ (l : List ByteArray) (z : Nat),k ∈ l → baseNum dir k + 1 ≤ l.foldl (fun n m => max n (baseNum dir m + 1)) z
 | j :: r,z,h => by
   rcases List.mem_cons.1 h with e | e
   ·rw [e]
    exact Nat.le_trans (Nat.le_max_right z _) (fold_init dir r _)
   ·exact fold_mem dir r _ e
theorem fold_le (dir : ByteArray) {B : Nat} : ∀ (l : List ByteArray) (z : Nat),z ≤ B → (∀ k,k ∈ l → baseNum dir k + 1 ≤ B) → l.foldl (fun n m => max n (baseNum dir m + 1)) z ≤ B
 | [],_,hz,_ => hz
 | k :: r,z,hz,h => fold_le dir r _ (Nat.max_le.2 ⟨hz,h k (List.mem_cons_self ..)⟩) fun j hj => h j (List.mem_cons_of_mem _ hj)
theorem top_free (hr : Rise slt F.files) (ht : topBase dir F < 100000000) : F.find (baseNm dir (topBase dir F)) = none:=by
 cases h : F.find (baseNm dir (topBase dir F)) with
 | none => rfl
 | some x =>
   have hm : baseNm dir (topBase dir F) ∈ namesL (nmOf dir sBase) F.files:=(mem_names hr).2 ⟨⟨x,h⟩,pre_base dir _⟩
   have h1:=fold_mem dir _ 1 hm
   rw [baseNum_nm dir ht] at h1
   have h2 : (namesL (nmOf dir sBase) F.files).foldl (fun n m => max n (baseNum dir m + 1)) 1 = topBase dir F:=rfl
   rw [h2] at h1
   omega
theorem On.top (h : On F s size n) : topBase s.dir F = s.base + 1:=by
 obtain ⟨f,q0,m0,segs,rc,h1,h2,_⟩:=h.ex
 have hr:=h2.sg.rise
 refine Nat.le_antisymm ?_ ?_
 ·refine fold_le s.dir _ 1 (by omega) fun k hk => ?_
  obtain ⟨⟨x,hx⟩,hp⟩:=(mem_names hr).1 hk
  by_cases h0 : baseNum s.dir k = 0
  ·omega
  have e:=base_of_num h0
  rcases h.only k x hx (by rw [e]; exact inDir_base _ _) with e2 | ⟨e2,e3⟩
  ·rw [e,base_seg] at e2
   exact absurd rfl e2
  ·rcases e3 with e3 | e3
   ·rw [e3,man_base] at h0
    exact absurd rfl h0
   ·have hb : s.base < 100000000:=by have:=h.nb; have:=h.n1; omega
    rw [e3,baseNum_nm _ hb]
    exact Nat.le_refl _
 ·by_cases h0 : s.base = 0
  ·rw [h0]
   exact fold_init s.dir _ 1
  ·have hb : s.base < 100000000:=by have:=h.nb; have:=h.n1; omega
   have hx : ∃ x,F.find (baseNm s.dir s.base) = some x:=by
    rcases h1.is with ⟨e,_⟩ | ⟨_,_,_,_,_,e⟩
    ·exact absurd e h0
    ·exact ⟨_,e⟩
   have h3:=fold_mem s.dir (namesL (nmOf s.dir sBase) F.files) 1 ((mem_names hr).2 ⟨hx,pre_base _ _⟩)
   rw [baseNum_nm _ hb] at h3
   exact h3
theorem fail_out {N : Nat} {e : Int} (hd : G.down = false) (hr : Rise slt G.files) (hs : s.stuck = false) (he : e ≠ 5) :
 Step (fun k => k = baseNm s.dir N ∨ k = nmOf s.dir sNext) 0 0 G (failS s G N e false).2.1 ∧ (failS s G N e false).2.2 = e ∧
   (((failS s G N e false).2.1.down = false ∧ (failS s G N e false).1 = s ∧ (failS s G N e false).2.1.find (nmOf s.dir sNext) = none ∧ (baseNm s.dir N ≠ nmOf s.dir sNext → (failS s G N e false).2.1.find (baseNm s.dir N) = none)) ∨
     ((failS s G N e false).2.1.down = true ∧ (failS s G N e false).1 = { s with stuck:=true } ∧ G.armed ≠ 0)):=by
 have hst : (s.stuck || e == 5) = false:=by rw [hs]; simp [he]
 have hE : failS s G N e false = ({ s with stuck:=(undoR (undoR (G,false) (baseNm s.dir N)) (nmOf s.dir sNext)).2 },(undoR (undoR (G,false) (baseNm s.dir N)) (nmOf s.dir sNext)).1,e):=by
  unfold failS
  rw [if_pos ⟨rfl,he⟩,hst]
 obtain ⟨s1,o1⟩:=undo_out hd hr false (baseNm s.dir N)
 rw [hE]
 obtain ⟨U,hU⟩ : ∃ U,U = undoR (G,false) (baseNm s.dir N):=⟨_,rfl⟩
 rw [← hU] at s1 o1 ⊢
 clear hU hE
 obtain ⟨G1,st1⟩:=U
 have s1':=s1.mono (Q:=fun k => k = baseNm s.dir N ∨ k = nmOf s.dir sNext) (fun k e => .inl e) (Nat.le_refl 0) (Int.le_refl 0)
 rcases o1 with ⟨d1,t1,f1⟩ | ⟨d1,t1,a1⟩
 ·have t1 : st1 = false:=t1
  subst t1
  obtain ⟨s2,o2⟩:=undo_out d1 (s1.rise hr) false (nmOf s.dir sNext)
  have s2':=s2.mono (Q:=fun k => k = baseNm s.dir N ∨ k = nmOf s.dir sNext) (fun k e => .inr e) (Nat.le_refl 0) (Int.le_refl 0)
  refine ⟨by have:=s1'.trans s2'; simpa using this,rfl,?_⟩
  rcases o2 with ⟨d2,t2,f2⟩ | ⟨d2,t2,a2⟩
  ·refine .inl ⟨d2,?_,f2,fun hne => ?_⟩
   ·show { s with stuck:=_ } = s
    rw [t2,← hs]
   ·show (undoR (G1,false) (nmOf s.dir sNext)).1.find (baseNm s.dir N) = none
    rw [s2.others _ hne]
    exact f1
  ·refine .inr ⟨d2,?_,fun e => a2 (s1.calm e).1⟩
   show { s with stuck:=_ } = _
   rw [t2]
 ·have t1 : st1 = true:=t1
  subst t1
  obtain ⟨u1,u2⟩:=undo_down d1 (nmOf s.dir sNext)
  refine ⟨?_,rfl,.inr ⟨?_,?_,a1⟩⟩
  ·show Step _ 0 0 G (undoR (G1,true) (nmOf s.dir sNext)).1
   rw [u1]
   exact s1'
  ·show (undoR (G1,true) (nmOf s.dir sNext)).1.down = true
   rw [u1]
   exact d1
  ·show { s with stuck:=_ } = _
   rw [u2]
theorem On.next_none (h : On F s size n) : F.find (nmOf s.dir sNext) = none:=by
 cases hx : F.find (nmOf s.dir sNext) with
 | none => rfl
 | some x =>
   rcases h.only _ x hx (inDir_next _) with e | ⟨e1,e | e⟩
   ·exact absurd (next_seg s.dir) e
   ·have h1:=nth_next s.dir
    rw [e,nth_man] at h1
    exact absurd h1 (by decide)
   ·have h1:=nth_next s.dir
    rw [e,nth_base] at h1
    exact absurd h1 (by decide)
theorem base_next (dir : ByteArray) (k : Nat) : baseNm dir k ≠ nmOf dir sNext:=fun e => by
 have h1:=nth_next dir
 rw [← e,nth_base] at h1
 exact absurd h1 (by decide)
theorem On.base_none (h : On F s size n) : F.find (baseNm s.dir (s.base + 1)) = none:=by
 obtain ⟨f,q0,m0,segs,rc,h1,h2,_⟩:=h.ex
 have h3:=top_free (dir:=s.dir) h2.sg.rise (by rw [h.top]; have:=h.nb; have:=h.n1; omega)
 rwa [h.top] at h3
theorem On.roll (h : On F s size n) (hn : n + 1 ≤ 900) (hf : F.files.length < 400) :
 ((rotateL s.log F).2.2 = 0 ∧ On (rotateL s.log F).2.1 { s with log:=(rotateL s.log F).1 } size (n + 1) ∧ (rotateL s.log F).1 = { s.log with last:=s.log.last + 1 } ∧ Step (fun k => segNum (nmOf s.dir sLog) k ≠ 0) 1 0 F (rotateL s.log F).2.1) ∨
   ((rotateL s.log F).2.2 = 5 ∧ F.armed ≠ 0 ∧ (rotateL s.log F).2.1.down = true ∧ (rotateL s.log F).2.1.files = F.files):=by
 obtain ⟨f,q0,m0,segs,rc,h1,h2,h3,h4,h5⟩:=h.ex
 rcases rotate_out h2 (by have:=h.nl; have:=h.n1; omega) hf with ⟨r0,hc,hL,hon⟩ | ⟨r5,ha,_,hd,hfl,_⟩
 ·left
  have hst:=calm_step hc hon.sg.rise h2.up hon.up
  rw [h.ldir] at hst
  refine ⟨r0,⟨hon.up,h.free,by rw [hL]; exact h.ldir,by rw [hL]; exact h.lsize,⟨f,q0,m0,segs ++ [[]],rc,h1.ext (hst.others _ (by rw [man_seg]; simp)) (fun _ => hst.others _ (by rw [base_seg]; simp)),hon,h3.new,h4,fun e => by rw [hL]; exact h5 e⟩,fun nm x hx hi => ?_,by have:=h.nb; show s.base ≤ n + 1; omega,by rw [hL]; have:=h.nl; show s.log.last + 1 ≤ n + 1; omega,by have:=h.nq; show s.seq ≤ n + 1; omega,hn⟩,hL,hst⟩
  by_cases e : segNum (nmOf s.dir sLog) nm = 0
  ·exact h.only nm x (by rw [← hst.others nm (by simp [e])]; exact hx) hi
  ·exact .inl e
 ·exact .inr ⟨r5,ha,hd,hfl⟩
structure OnX (F : FsS) (s : StS) (size : Int) (n : Nat) (P : ByteArray → Prop) : Prop where
 up : F.down = false
 free : s.stuck = false
 ldir : s.log.dir = nmOf s.dir sLog
 lsize : s.log.size = size
 ex : ∃ f q0 m0 segs rc,BaseIs F s.dir s.base f q0 m0 ∧ LogOn F s.log segs ∧ Holds segs rc ∧ Chain q0 m0 rc s.seq s.all ∧ (s.base ≠ 0 → f = s.log.first)
 only : ∀ nm x,F.find nm = some x → inDir s.dir nm → segNum (nmOf s.dir sLog) nm ≠ 0 ∨ (s.base ≠ 0 ∧ (nm = nmOf s.dir sMan ∨ nm = baseNm s.dir s.base)) ∨ P nm
 nb : s.base ≤ n
 nl : s.log.last ≤ n
 nq : s.seq ≤ n
 n1 : n ≤ 900
abbrev ckP (s : StS) (k : ByteArray) : Prop:=k = baseNm s.dir (s.base + 1) ∨ k = nmOf s.dir sNext
theorem ckP_seg {k : ByteArray} (e : ckP s k) : segNum (nmOf s.dir sLog) k = 0:=by
 rcases e with e | e
 ·rw [e]; exact base_seg _ _
 ·rw [e]; exact next_seg _
theorem ckP_man (e : ckP s (nmOf s.dir sMan)) : False:=by
 rcases e with e | e
 ·have h1:=nth_man s.dir
  rw [e,nth_base] at h1
  exact absurd h1 (by decide)
 ·have h1:=nth_man s.dir
  rw [e,nth_next] at h1
  exact absurd h1 (by decide)
theorem ckP_base (hb : s.base + 1 < 100000000) (e : ckP s (baseNm s.dir s.base)) : False:=by
 rcases e with e | e
 ·have:=baseNm_inj s.dir (by omega) hb e
  omega
 ·exact base_next _ _ e
theorem On.x (h : On F s size n) : OnX F s size n (ckP s):=⟨h.up,h.free,h.ldir,h.lsize,h.ex,fun nm x hx hi => (h.only nm x hx hi).elim .inl fun e => .inr (.inl e),h.nb,h.nl,h.nq,h.n1⟩
theorem OnX.step {i : Nat} {u : Int} (h : OnX F s size n (ckP s)) (st : Step (ckP s) i u F G) (hd : G.down = false) : OnX G s size n (ckP s):=by
 obtain ⟨f,q0,m0,segs,rc,h1,h2,h3,h4,h5⟩:=h.ex
 have hb : s.base + 1 < 100000000:=by have:=h.nb; have:=h.n1; omega
 have hr:=st.rise h2.sg.rise
 refine ⟨hd,h.free,h.ldir,h.lsize,⟨f,q0,m0,segs,rc,h1.ext (st.others _ ckP_man) (fun _ => st.others _ (ckP_base hb)),⟨h2.sg.ext hr (fun k hk => st.others k fun e => hk (by rw [h.ldir]; exact ckP_seg e)),h2.ne,h2.last,h2.free,hd,h2.name⟩,h3,h4,h5⟩,fun nm x hx hi => ?_,h.nb,h.nl,h.nq,h.n1⟩
 by_cases e : ckP s nm
 ·exact .inr (.inr e)
 ·exact h.only nm x (by rw [← st.others nm e]; exact hx) hi
theorem OnX.back (h : OnX F s size n (ckP s)) (g1 : F.find (baseNm s.dir (s.base + 1)) = none) (g2 : F.find (nmOf s.dir sNext) = none) : On F s size n:=by
 refine ⟨h.up,h.free,h.ldir,h.lsize,h.ex,fun nm x hx hi => ?_,h.nb,h.nl,h.nq,h.n1⟩
 rcases h.only nm x hx hi with e | e | e | e
 ·exact .inl e
 ·exact .inr e
 ·rw [e,g1] at hx; exact absurd hx (by simp)
 ·rw [e,g2] at hx; exact absurd hx (by simp)
theorem OnX.roll (h : OnX F s size n (ckP s)) (hn : n + 1 ≤ 900) (hf : F.files.length < 400) :
 ((rotateL s.log F).2.2 = 0 ∧ OnX (rotateL s.log F).2.1 { s with log:=(rotateL s.log F).1 } size (n + 1) (ckP s) ∧ (rotateL s.log F).1 = { s.log with last:=s.log.last + 1 } ∧ Step (fun k => segNum (nmOf s.dir sLog) k ≠ 0) 1 0 F (rotateL s.log F).2.1) ∨
   ((rotateL s.log F).2.2 = 5 ∧ F.armed ≠ 0 ∧ (rotateL s.log F).2.1.down = true ∧ (rotateL s.log F).2.1.files = F.files):=by
 obtain ⟨f,q0,m0,segs,rc,h1,h2,h3,h4,h5⟩:=h.ex
 rcases rotate_out h2 (by have:=h.nl; have:=h.n1; omega) hf with ⟨r0,hc,hL,hon⟩ | ⟨r5,ha,_,hd,hfl,_⟩
 ·left
  have hst:=calm_step hc hon.sg.rise h2.up hon.up
  rw [h.ldir] at hst
  refine ⟨r0,⟨hon.up,h.free,by rw [hL]; exact h.ldir,by rw [hL]; exact h.lsize,⟨f,q0,m0,segs ++ [[]],rc,h1.ext (hst.others _ (by rw [man_seg]; simp)) (fun _ => hst.others _ (by rw [base_seg]; simp)),hon,h3.new,h4,fun e => by rw [hL]; exact h5 e⟩,fun nm x hx hi => ?_,by have:=h.nb; show s.base ≤ n + 1; omega,by rw [hL]; have:=h.nl; show s.log.last + 1 ≤ n + 1; omega,by have:=h.nq; show s.seq ≤ n + 1; omega,hn⟩,hL,hst⟩
  by_cases e : segNum (nmOf s.dir sLog) nm = 0
  ·exact h.only nm x (by rw [← hst.others nm (by simp [e])]; exact hx) hi
  ·exact .inl e
 ·exact .inr ⟨r5,ha,hd,hfl⟩
theorem OnX.disk (h : OnX F s size n (ckP s)) : Disk F s.dir n s.seq s.all:=by
 obtain ⟨f,q0,m0,segs,rc,h1,h2,h3,h4,h5⟩:=h.ex
 obtain ⟨cur,c,rfl⟩ : ∃ cur c,segs = cur ++ [c]:=⟨_,_,(List.dropLast_concat_getLast h2.ne).symm⟩
 have hsg:=h2.sg
 rw [h.ldir] at hsg
 have hl:=h2.last
 rw [List.length_append,List.length_singleton] at hl
 refine ⟨s.base,f,q0,m0,s.log.first,[],cur,c,[],c.length,[],rc,q0,m0,hsg.rise,h1,?_,Nat.le_refl _,by simp,by unfold headOf; simp,⟨[],rfl,rfl,fun p hp => by simp at hp⟩,h3,⟨rfl,rfl⟩,h4,fun _ => rfl,fun e => by rw [h5 e]; rfl,h.nb,?_,h.nq,h.n1,fun nm x hx hi => ?_⟩
 ·rw [List.nil_append,List.append_nil]
  simpa using hsg
 ·rw [List.nil_append]
  have:=h.nl
  omega
 ·rcases h.only nm x hx hi with e | ⟨e1,e2⟩ | e | e
  ·exact .inl e
  ·rcases e2 with e2 | e2
   ·exact .inr (.inl ⟨e1,e2⟩)
   ·refine .inr (.inr (.inr ?_))
    rw [e2]
    have hb : s.base ≤ 99999999:=by have:=h.nb; have:=h.n1; omega
    rw [baseNum_nm s.dir (by omega)]
    exact e1
  ·right; right; right
   have hb : s.base + 1 < 100000000:=by have:=h.nb; have:=h.n1; omega
   rw [e,baseNum_nm _ hb]
   omega
  ·exact .inr (.inr (.inl e))
end
section
variable {F G : FsS} {dir : ByteArray} {size : Int} {n i : Nat} {u : Int} {s : StS}
theorem Disk.same {q : Nat} {m : Prs} (h : Disk F dir n q m) (hr : Rise slt G.files) (hf : ∀ k,G.find k = F.find k) : Disk G dir n q m :=
 h.ext hr (fun k _ _ => hf k) fun k x hx _ => .inl ⟨x,by rw [← hf k]; exact hx⟩
theorem OnX.rise (h : OnX F s size n (ckP s)) : Rise slt F.files:=by
 obtain ⟨f,q0,m0,segs,rc,h1,h2,_⟩:=h.ex
 exact h2.sg.rise
theorem OnX.spoil (h : OnX F s size n (ckP s)) (st : Step (ckP s) i u F G) : Disk G s.dir n s.seq s.all:=by
 have h1 : OnX { G with down:=false } s size n (ckP s):=h.step (i:=i) (u:=u) ⟨st.rise,st.others,st.few,st.used,st.room,fun e => ⟨(st.calm e).1,h.up.symm⟩⟩ rfl
 exact h1.disk.same (st.rise h.rise) fun _ => rfl
theorem OnX.fail (h : OnX F s size n (ckP s)) : ∃ t G,failS s F (s.base + 1) 4 false = (t,G,4) ∧ Step (ckP s) 0 0 F G ∧ ((t = s ∧ On G s size n) ∨ (G.down = true ∧ F.armed ≠ 0 ∧ Disk G s.dir n s.seq s.all)):=by
 obtain ⟨s1,e1,o1⟩:=fail_out (s:=s) (N:=s.base + 1) (e:=4) h.up h.rise h.free (by decide)
 obtain ⟨R,hR⟩ : ∃ R,R = failS s F (s.base + 1) 4 false:=⟨_,rfl⟩
 rw [← hR] at s1 e1 o1 ⊢
 obtain ⟨t,G,e⟩:=R
 have e1 : e = 4:=e1
 subst e1
 refine ⟨t,G,rfl,s1,?_⟩
 rcases o1 with ⟨d,ht,g2,g1⟩ | ⟨d,_,a⟩
 ·exact .inl ⟨ht,(h.step s1 d).back (g1 (base_next _ _)) g2⟩
 ·exact .inr ⟨d,a,h.spoil s1⟩
inductive ChkOut (F : FsS) (s : StS) (size : Int) (n : Nat) (R : StS × FsS × Int) : Prop where
 | done (hR : R.2.2 = 0) (on : On R.2.1 R.1 size (n + 1)) (ha : R.1.all = s.all) (hq : R.1.seq = s.seq) (hd : R.1.dir = s.dir) (hb : R.1.base = s.base + 1) (lg : LogOn R.2.1 R.1.log [[]]) (st : Step (inDir s.dir) 4 ((imgB s.seq s.all).length + 24 : Nat) F R.2.1) : ChkOut F s size n R
 | full (hR : R.2.2 = 4) (on : On R.2.1 R.1 size (n + 1)) (ha : R.1.all = s.all) (hq : R.1.seq = s.seq) (hd : R.1.dir = s.dir) (hf : F.room - F.used < ((imgB s.seq s.all).length + 24 : Nat)) (st : Step (inDir s.dir) 4 ((imgB s.seq s.all).length + 24 : Nat) F R.2.1) : ChkOut F s size n R
 | down (hR : R.2.2 = 4 ∨ R.2.2 = 5) (hd : R.2.1.down = true) (arm : F.armed ≠ 0) (disk : Disk R.2.1 s.dir (n + 1) s.seq s.all) (few : R.2.1.files.length ≤ F.files.length + 4) : ChkOut F s size n R
theorem ckP_in {k : ByteArray} (e : ckP s k) : inDir s.dir k:=by
 rcases e with e | e
 ·rw [e]; exact inDir_base _ _
 ·rw [e]; exact inDir_next _
theorem fail_five (s : StS) (F : FsS) (N : Nat) (b : Bool) : ∃ t,failS s F N 5 b = (t,F,5):=by
 unfold failS
 rw [if_neg (fun e => e.2 rfl)]
 exact ⟨_,rfl⟩
theorem fail_done (s : StS) (F : FsS) (N : Nat) (e : Int) : failS s F N e true = ({ s with stuck:=s.stuck || e == 5 },F,e):=by
 unfold failS
 rw [if_neg (fun e => absurd e.1 (by decide))]
theorem map_fl_empty (segs : List (List UInt8)) : (segs ++ [[]]).map fl = segs.map fl ++ [⟨[] ++ [],0⟩]:=by rw [List.map_append]; rfl
theorem chk_disk {L : LogS} {q0 : Nat} {m0 : Prs} {segs rc : List (List UInt8)} (h : OnX F { s with log:=L } size (n + 1) (ckP s)) (hfit : Fit s.seq s.all) (hsg : Segs F L.dir L.first ((segs ++ [[]]).map fl)) (hlast : L.last + 1 = L.first + (segs ++ [[]]).length) (hpos : 1 ≤ L.last) (hh : Holds segs rc) (hch : Chain q0 m0 rc s.seq s.all)
 (hr : Rise slt G.files) (hf : ∀ k,G.find k = if k = nmOf s.dir sNext then none else if k = nmOf s.dir sMan then some (fl (frameOf (saidB (s.base + 1) L.last))) else F.find k) (hbase : F.find (baseNm s.dir (s.base + 1)) = some (fl (imgB s.seq s.all))) (hnb : s.base ≤ n) :
 DiskA G s.dir (n + 1) s.seq s.all (s.base + 1) L.last s.seq s.all L.first segs [] [] [] 0 rc [] q0 m0:=by
 have hn1 : n + 1 ≤ 900:=h.n1
 have hnl : L.last ≤ n + 1:=h.nl
 have hnq : s.seq ≤ n + 1:=h.nq
 have hdl : L.dir = nmOf s.dir sLog:=h.ldir
 have hbn : baseNum s.dir (baseNm s.dir (s.base + 1)) = s.base + 1:=baseNum_nm _ (by omega)
 have hseg : ∀ k,segNum (nmOf s.dir sLog) k ≠ 0 → G.find k = F.find k:=fun k hk => by
  rw [hf,if_neg (fun e => hk (by rw [e]; exact next_seg _)),if_neg (fun e => hk (by rw [e]; exact man_seg _))]
 rw [hdl] at hsg
 refine ⟨hr,⟨hfit,by omega,.inr ⟨by omega,by omega,hpos,by omega,?_,?_⟩⟩,?_,Nat.le_refl _,by simp,by unfold headOf; simp,hh,?_,hch,⟨rfl,rfl⟩,fun e => by omega,fun _ => ?_,by omega,?_,hnq,hn1,fun nm x hx hi => ?_⟩
 ·rw [hf,if_neg (man_next _),if_pos rfl]
 ·rw [hf,if_neg (base_next _ _),if_neg (fun e => man_ne_base _ _ e.symm)]
  exact hbase
 ·rw [List.append_nil,← map_fl_empty]
  exact hsg.ext hr hseg
 ·exact Holds.empty
 ·rw [List.length_append,List.length_singleton] at hlast
  omega
 ·rw [List.append_nil]
  rw [List.length_append,List.length_singleton] at hlast
  omega
 ·rw [hf] at hx
  split at hx
  ·cases hx
  ·rename_i e1
   split at hx
   ·rename_i e2
    exact .inr (.inl ⟨by omega,e2⟩)
   ·rename_i e2
    rcases h.only nm x hx hi with e | ⟨e3,e⟩ | e | e
    ·exact .inl e
    ·rcases e with e | e
     ·exact absurd e e2
     ·right; right; right
      have e3 : s.base ≠ 0:=e3
      have e : nm = baseNm s.dir s.base:=e
      rw [e,baseNum_nm _ (by omega)]
      exact e3
    ·right; right; right
     rw [e,hbn]; omega
    ·exact absurd e e1
theorem chk_tail {L : LogS} {q0 : Nat} {m0 : Prs} {segs rc : List (List UInt8)} (hD : DiskA F s.dir (n + 1) s.seq s.all (s.base + 1) L.last s.seq s.all L.first segs [] [] [] 0 rc [] q0 m0) (hd : F.down = false) (hlast : L.last = L.first + segs.length) (hdir : L.dir = nmOf s.dir sLog) (hsize : L.size = size) (hst : L.stuck = false) (hs : s.stuck = false) (hname : ∀ n,n < 100000000 → okName (segName L.dir n) = true) :
 ∃ t G e,chk4 { s with log:=L,base:=s.base + 1 } (s.base + 1) (cleanR s.dir (s.base + 1) (namesL (dirOf s.dir) F.files) F) = (t,G,e) ∧ Step (inDir s.dir) 0 0 F G ∧
   ((e = 0 ∧ On G t size (n + 1) ∧ t.all = s.all ∧ t.seq = s.seq ∧ t.dir = s.dir ∧ t.base = s.base + 1 ∧ LogOn G t.log [[]]) ∨ (e = 5 ∧ G.down = true ∧ F.armed ≠ 0 ∧ Disk G s.dir (n + 1) s.seq s.all)):=by
 have hr:=hD.rise
 have hnb:=hD.nb
 have hn1:=hD.n1
 have hbn : baseNum s.dir (baseNm s.dir (s.base + 1)) = s.base + 1:=baseNum_nm _ (by omega)
 have hsgD:=hD.sg
 rw [List.append_nil] at hsgD
 have hng : ¬ Gone s.dir (s.base + 1) (nmOf s.dir sMan):=gone_not.2 ⟨man_next _,.inl (man_base _)⟩
 have hngb : ¬ Gone s.dir (s.base + 1) (baseNm s.dir (s.base + 1)):=gone_not.2 ⟨base_next _ _,.inr hbn⟩
 obtain ⟨s1,s1_or,o1⟩:=clean_out s.dir (s.base + 1) (namesL (dirOf s.dir) F.files) (F:=F) (names_nodup hr) (fun k hk => by obtain ⟨⟨x,hx⟩,_⟩:=(mem_names hr).1 hk; rw [hx]; simp) hd hr
 obtain ⟨C,hC⟩ : ∃ C,C = cleanR s.dir (s.base + 1) (namesL (dirOf s.dir) F.files) F:=⟨_,rfl⟩
 rw [← hC] at s1 s1_or o1 ⊢
 obtain ⟨G1,r1⟩:=C
 have s1i:=s1.mono (Q:=inDir s.dir) (fun k e => gone_in e) (Nat.le_refl 0) (Int.le_refl 0)
 have hr1:=s1.rise hr
 have hbase1 : BaseIs G1 s.dir (s.base + 1) L.last s.seq s.all:=hD.base.ext (s1.others _ hng) (fun _ => s1.others _ hngb)
 have hseg1 : Segs G1 (nmOf s.dir sLog) L.first ((segs ++ [[]]).map fl):=by
  rw [map_fl_empty]
  exact hsgD.ext hr1 fun k hk => s1.others k fun e => hk (gone_seg e)
 rcases o1 with ⟨e1,d1,k1,n1⟩ | ⟨e1,d1,a1⟩
 rotate_left
 ·have e1 : r1 = 5:=e1
  subst e1
  obtain ⟨ro2,a2',ma2,hD2⟩:=DiskA.cut (g:=[]) (hs:=segs) (t':=[]) (sy':=0) hD hr1 hbase1 (by rw [List.append_nil,← map_fl_empty]; exact hseg1) (Nat.le_refl _) (by simp) (by unfold headOf; simp) (fun nm x hx => by
   right
   have h0 : G1.find nm = F.find nm ∨ G1.find nm = none:=s1_or nm
   rcases h0 with e | e
   ·rw [← e]; exact hx
   ·rw [e] at hx; cases hx)
  obtain ⟨t,ht⟩ : ∃ t,chk4 { s with log:=L,base:=s.base + 1 } (s.base + 1) (G1,5) = (t,G1,5):=by
   unfold chk4
   rw [if_pos (show (5 : Int) ≠ 0 by decide),fail_done]
   exact ⟨_,rfl⟩
  exact ⟨t,G1,5,ht,s1i,.inr ⟨rfl,d1,a1,_,_,_,_,_,_,_,_,_,_,_,_,_,_,hD2⟩⟩
 have e1 : r1 = 0:=e1
 subst e1
 have hdg : dropLg L G1 (L.last : Int) = dropF (segs.map fl).length L G1:=by
  unfold dropLg
  rw [if_neg (by simp [hst]),if_neg (by omega),List.length_map]
  congr 1
  omega
 have hE : chk4 { s with log:=L,base:=s.base + 1 } (s.base + 1) (G1,0) = failS { s with log:=(dropF (segs.map fl).length L G1).1,base:=s.base + 1 } (dropF (segs.map fl).length L G1).2.1 (s.base + 1) (dropF (segs.map fl).length L G1).2.2 true:=by
  unfold chk4
  rw [if_neg (fun e => e rfl)]
  show chk5 _ _ (dropLg L G1 (L.last : Int)) = _
  rw [hdg]
  rfl
 rw [hE,fail_done]
 have hseg1' : Segs G1 L.dir L.first (segs.map fl ++ [fl []]):=by
  rw [hdir]
  rw [map_fl_empty] at hseg1
  exact hseg1
 obtain ⟨s2,o2⟩:=dropF_out (ds:=[fl []]) (segs.map fl) hseg1' d1
 obtain ⟨D,hDD⟩ : ∃ D,D = dropF (segs.map fl).length L G1:=⟨_,rfl⟩
 rw [← hDD] at s2 o2 ⊢
 clear hDD hE
 obtain ⟨L2,G2,r2⟩:=D
 rw [hdir] at s2
 have s12 : Step (inDir s.dir) 0 0 F G2:=by
  have:=s1i.trans (s2.mono (Q:=inDir s.dir) (fun k e => inDir_seg s.dir e) (Nat.le_refl 0) (Int.le_refl 0))
  simpa using this
 have oth2 : ∀ k,segNum (nmOf s.dir sLog) k = 0 → G2.find k = G1.find k:=fun k e => s2.others k (by simp [e])
 have hbase2 : BaseIs G2 s.dir (s.base + 1) L.last s.seq s.all:=hbase1.ext (oth2 _ (man_seg _)) (fun _ => oth2 _ (base_seg _ _))
 rw [List.length_map] at o2
 rcases o2 with ⟨e2,l2,d2,g2⟩ | ⟨e2,d2,a2,g,hs',hg,g2⟩
 rotate_left
 ·have e2 : r2 = 5:=e2
  subst e2
  obtain ⟨g',hs',rfl,rfl,rfl⟩:=List.map_eq_append_iff.1 hg
  rw [hdir,List.length_map] at g2
  obtain ⟨ro2,a2',ma2,hD2⟩:=DiskA.cut (g:=g') (hs:=hs') (t':=[]) (sy':=0) hD g2.rise hbase2 (by rw [List.append_nil]; exact g2) (Nat.le_refl _) (by simp) (by unfold headOf; simp) (fun nm x hx => by
   by_cases em : segNum (nmOf s.dir sLog) nm = 0
   ·right
    rw [oth2 nm em] at hx
    have h0 : G1.find nm = F.find nm ∨ G1.find nm = none:=s1_or nm
    rcases h0 with e | e
    ·rw [← e]; exact hx
    ·rw [e] at hx; cases hx
   ·exact .inl em)
  exact ⟨_,_,_,rfl,s12,.inr ⟨rfl,d2,fun e => a2 (s1.calm e).1,_,_,_,_,_,_,_,_,_,_,_,_,_,_,hD2⟩⟩
 have e2 : r2 = 0:=e2
 subst e2
 have l2 : L2 = { L with first:=L.first + segs.length }:=l2
 have hL2f : L2.first = L.first + segs.length:=by rw [l2]
 have hL2d : L2.dir = nmOf s.dir sLog:=by rw [l2]; exact hdir
 have hL2l : L2.last = L.first + segs.length:=by rw [l2]; exact hlast
 have hL2z : L2.size = size:=by rw [l2]; exact hsize
 have hL2s : L2.stuck = false:=by rw [l2]; exact hst
 have g2 : Segs G2 L.dir (L.first + segs.length) [fl []]:=g2
 have d2 : G2.down = false:=d2
 have hon : LogOn G2 L2 [[]]:=⟨by rw [hL2d,hL2f,← hdir]; exact g2,by simp,by rw [hL2l,hL2f]; rfl,hL2s,d2,fun k hk => by rw [hL2d,← hdir]; exact hname k hk⟩
 refine ⟨_,_,_,rfl,s12,.inl ⟨rfl,⟨d2,?_,hL2d,hL2z,⟨L.last,s.seq,s.all,[[]],[],hbase2,hon,Holds.empty,⟨rfl,rfl⟩,fun _ => by rw [hL2f]; exact hlast⟩,fun nm x hx hi => ?_,hD.nb,?_,hD.nq,hD.n1⟩,rfl,rfl,rfl,rfl,hon⟩⟩
 ·show (s.stuck || (0 : Int) == 5) = false
  rw [hs]; rfl
 ·by_cases em : segNum (nmOf s.dir sLog) nm = 0
  rotate_left
  ·exact .inl em
  right
  have hx1 : G1.find nm = some x:=by rw [← oth2 nm em]; exact hx
  have hng2 : ¬ Gone s.dir (s.base + 1) nm:=fun eg => by
   by_cases hmem : nm ∈ namesL (dirOf s.dir) F.files
   ·rw [n1 nm hmem eg] at hx1
    cases hx1
   ·have h5 : G1.find nm = F.find nm:=k1 nm (fun e => hmem e.1)
    rw [h5] at hx1
    exact hmem ((mem_names hr).2 ⟨⟨x,hx1⟩,hi⟩)
  have hxF : F.find nm = some x:=by rw [← s1.others nm hng2]; exact hx1
  rcases hD.kinds nm x hxF hi with e | ⟨_,e⟩ | e | e
  ·exact absurd em e
  ·exact ⟨by show s.base + 1 ≠ 0; omega,.inl e⟩
  ·exact absurd (.inl e) hng2
  ·have h6 : baseNum s.dir nm = s.base + 1:=Classical.byContradiction fun e2 => hng2 (.inr ⟨e,e2⟩)
   refine ⟨by show s.base + 1 ≠ 0; omega,.inr ?_⟩
   have:=base_of_num e
   rw [h6] at this
   exact this
 ·show L2.last ≤ n + 1
  rw [hL2l]
  have:=hD.nl
  rw [List.append_nil] at this
  exact this
theorem chk_out (h : On F s size n) (hdir : DirS s.dir) (hn : n + 1 ≤ 900) (hf : F.files.length + 4 < 400) : ChkOut F s size n (chkS s F):=by
 have hfit:=h.fit
 have hnb:=h.nb
 have hS : chkS s F = chk0 s (s.base + 1) (laysR F (baseNm s.dir (s.base + 1)) (imgB s.seq s.all)):=by
  unfold chkS
  rw [if_neg (by simp [h.free]),h.top]
 have hr : Rise slt F.files:=h.x.rise
 obtain ⟨s1,o1⟩:=lays_out h.up hr (hdir.base (s.base + 1)) h.base_none (by omega) (imgB s.seq s.all)
 rw [hS]
 clear hS
 obtain ⟨L,hL⟩ : ∃ L,L = laysR F (baseNm s.dir (s.base + 1)) (imgB s.seq s.all):=⟨_,rfl⟩
 rw [← hL] at s1 o1 ⊢
 clear hL
 obtain ⟨F1,r1⟩:=L
 have s1k : Step (ckP s) 1 ((imgB s.seq s.all).length : Int) F F1:=s1.mono (fun k e => .inl e) (Nat.le_refl _) (Int.le_refl _)
 have hr1 : Rise slt F1.files:=s1.rise hr
 have hfew1 : F1.files.length ≤ F.files.length + 1:=s1.few
 have hcast : (((imgB s.seq s.all).length + 24 : Nat) : Int) = ((imgB s.seq s.all).length : Int) + 24:=by omega
 have full0 : ∀ {G : FsS} {i : Nat} {u : Int} (st : Step (ckP s) i u F G),i ≤ 4 → u ≤ ((imgB s.seq s.all).length : Int) + 24 → Step (inDir s.dir) 4 (((imgB s.seq s.all).length + 24 : Nat) : Int) F G:=fun st h1 h2 => st.mono (fun k e => ckP_in e) h1 (by rw [hcast]; exact h2)
 rcases o1 with ⟨e1,d1,x1⟩ | ⟨e1,d1,hfull,x1⟩ | ⟨e1,d1,a1⟩
 rotate_left
 ·have e1 : r1 = 4:=e1
  subst e1
  obtain ⟨t,G,hE,st,o⟩:=(h.x.step s1k d1).fail
  have hE2 : chk0 s (s.base + 1) (F1,4) = (t,G,4):=by unfold chk0; rw [if_pos (show (4 : Int) ≠ 0 by decide)]; exact hE
  rw [hE2]
  have st2:=full0 (s1k.trans st) (by omega) (by omega)
  rcases o with ⟨rfl,on⟩ | ⟨dn,ar,dk⟩
  ·exact .full rfl (on.mono (Nat.le_succ n) hn) rfl rfl rfl (by rw [hcast]; omega) st2
  ·exact .down (.inl rfl) dn (fun e => ar (s1k.calm e).1) (dk.mono (Nat.le_succ n) hn) st2.few
 ·have e1 : r1 = 5:=e1
  subst e1
  obtain ⟨t,ht⟩:=fail_five s F1 (s.base + 1) false
  have hE2 : chk0 s (s.base + 1) (F1,5) = (t,F1,5):=by unfold chk0; rw [if_pos (show (5 : Int) ≠ 0 by decide)]; exact ht
  rw [hE2]
  exact .down (.inr rfl) d1 a1 ((h.x.spoil s1k).mono (Nat.le_succ n) hn) (by show F1.files.length ≤ _; omega)
 have e1 : r1 = 0:=e1
 subst e1
 have X1 : OnX F1 s size n (ckP s):=h.x.step s1k d1
 have hC1 : chk0 s (s.base + 1) (F1,0) = chk1 s (s.base + 1) (rotateL s.log F1):=by unfold chk0; rw [if_neg (fun e => e rfl)]
 rw [hC1]
 clear hC1
 obtain ⟨f,q0,m0,segs,rc,hb1,hlog1,hh1,hc1,hf1⟩:=X1.ex
 have hpos1:=hlog1.pos
 have hroll:=X1.roll hn (by omega)
 have hrot:=rotate_out hlog1 (by have:=X1.nl; have:=X1.n1; omega) (by omega)
 obtain ⟨P,hP⟩ : ∃ P,P = rotateL s.log F1:=⟨_,rfl⟩
 rw [← hP] at hroll hrot ⊢
 clear hP
 obtain ⟨L2,F2,r2⟩:=P
 rcases hroll with ⟨r0,X2,hL2,s2⟩ | ⟨r5,ra,rd,rf⟩
 rotate_left
 ·have r5 : r2 = 5:=r5
  subst r5
  obtain ⟨t,ht⟩:=fail_five { s with log:=L2 } F2 (s.base + 1) false
  have hE2 : chk1 s (s.base + 1) (L2,F2,5) = (t,F2,5):=by unfold chk1; rw [if_pos (show (5 : Int) ≠ 0 by decide)]; exact ht
  rw [hE2]
  have rf : F2.files = F1.files:=rf
  exact .down (.inr rfl) rd (fun e => ra (s1k.calm e).1) ((X1.disk.same (by rw [rf]; exact hr1) fun k => find_same rf k).mono (Nat.le_succ n) hn) (by show F2.files.length ≤ _; rw [rf]; omega)
 have r0 : r2 = 0:=r0
 subst r0
 have hon : LogOn F2 L2 (segs ++ [[]]):=by
  rcases hrot with ⟨_,_,_,e⟩ | ⟨e,_⟩
  ·exact e
  ·exact absurd (show (0 : Int) = 5 from e) (by decide)
 have hL2 : L2 = { s.log with last:=s.log.last + 1 }:=hL2
 have s2 : Step (fun k => segNum (nmOf s.dir sLog) k ≠ 0) 1 0 F1 F2:=s2
 have X2 : OnX F2 { s with log:=L2 } size (n + 1) (ckP s):=X2
 clear hrot
 have hr2 : Rise slt F2.files:=s2.rise hr1
 have hfew2 : F2.files.length ≤ F1.files.length + 1:=s2.few
 have hbase2 : F2.find (baseNm s.dir (s.base + 1)) = some (fl (imgB s.seq s.all)):=by rw [s2.others _ (by rw [base_seg]; simp)]; exact x1
 have hnext2 : F2.find (nmOf s.dir sNext) = none:=by rw [s2.others _ (by rw [next_seg]; simp),s1.others _ (fun e => base_next _ _ e.symm)]; exact h.next_none
 have hC2 : chk1 s (s.base + 1) (L2,F2,0) = chk2 { s with log:=L2 } (s.base + 1) (laysR F2 (nmOf s.dir sNext) (frameOf (saidB (s.base + 1) L2.last))):=by unfold chk1; rw [if_neg (fun e => e rfl)]
 rw [hC2]
 clear hC2
 have hsl : (frameOf (saidB (s.base + 1) L2.last)).length = 24:=by rw [frameOf_len,said_len]
 obtain ⟨s3,o3⟩:=lays_out X2.up hr2 hdir.next hnext2 (by omega) (frameOf (saidB (s.base + 1) L2.last))
 rw [hsl] at s3 o3
 obtain ⟨P,hP⟩ : ∃ P,P = laysR F2 (nmOf s.dir sNext) (frameOf (saidB (s.base + 1) L2.last)):=⟨_,rfl⟩
 rw [← hP] at s3 o3 ⊢
 clear hP
 obtain ⟨F3,r3⟩:=P
 have s3k : Step (ckP { s with log:=L2 }) 1 24 F2 F3:=s3.mono (fun k e => .inr e) (Nat.le_refl _) (by decide)
 have s13 : Step (inDir s.dir) 3 ((imgB s.seq s.all).length + 24) F F3:=by
  have a1:=(s1k.mono (Q:=inDir s.dir) (fun k e => ckP_in e) (Nat.le_refl 1) (Int.le_refl _)).trans (s2.mono (Q:=inDir s.dir) (fun k e => inDir_seg s.dir e) (Nat.le_refl 1) (Int.le_refl 0))
  have a2:=a1.trans (s3k.mono (Q:=inDir s.dir) (fun k e => ckP_in e) (Nat.le_refl 1) (Int.le_refl _))
  exact a2.mono (fun _ e => e) (Nat.le_refl _) (by omega)
 have ar2 : F2.armed ≠ 0 → F.armed ≠ 0:=fun e e2 => e (s2.calm (s1k.calm e2).1).1
 have hfew3 : F3.files.length ≤ F.files.length + 3:=s13.few
 have hr3 : Rise slt F3.files:=s3.rise hr2
 rcases o3 with ⟨e3,d3,x3⟩ | ⟨e3,d3,hfull,x3⟩ | ⟨e3,d3,a3⟩
 rotate_left
 ·have e3 : r3 = 4:=e3
  subst e3
  have X3 : OnX F3 { s with log:=L2 } size (n + 1) (ckP { s with log:=L2 }):=OnX.step X2 s3k d3
  obtain ⟨t,G,hE,st,o⟩:=X3.fail
  have hE2 : chk2 { s with log:=L2 } (s.base + 1) (F3,4) = (t,G,4):=by unfold chk2; rw [if_pos (show (4 : Int) ≠ 0 by decide)]; exact hE
  rw [hE2]
  have st2 : Step (inDir s.dir) 4 (((imgB s.seq s.all).length + 24 : Nat) : Int) F G:=(s13.trans (st.mono (Q:=inDir s.dir) (fun k e => ckP_in e) (Nat.le_refl 0) (Int.le_refl 0))).mono (fun _ e => e) (by omega) (by omega)
  rcases o with ⟨rfl,on⟩ | ⟨dn,ar,dk⟩
  ·refine .full rfl on rfl rfl rfl ?_ st2
   have h1 : F2.room - F2.used < ((24 : Nat) : Int):=hfull
   have h2:=s2.used
   have h3:=s1k.used
   have h4:=s2.room
   have h5:=s1k.room
   omega
  ·exact .down (.inl rfl) dn (fun e => ar (s13.calm e).1) dk st2.few
 ·have e3 : r3 = 5:=e3
  subst e3
  obtain ⟨t,ht⟩:=fail_five { s with log:=L2 } F3 (s.base + 1) false
  have hE2 : chk2 { s with log:=L2 } (s.base + 1) (F3,5) = (t,F3,5):=by unfold chk2; rw [if_pos (show (5 : Int) ≠ 0 by decide)]; exact ht
  rw [hE2]
  exact .down (.inr rfl) d3 (ar2 a3) (OnX.spoil (s:={ s with log:=L2 }) X2 s3k) (by show F3.files.length ≤ _; omega)
 have e3 : r3 = 0:=e3
 subst e3
 have X3 : OnX F3 { s with log:=L2 } size (n + 1) (ckP { s with log:=L2 }):=OnX.step X2 s3k d3
 have hC3 : chk2 { s with log:=L2 } (s.base + 1) (F3,0) = chk3 { s with log:=L2 } (s.base + 1) (F3.rename (nmOf s.dir sNext) (nmOf s.dir sMan)):=by unfold chk2; rw [if_neg (fun e => e rfl)]
 rw [hC3]
 clear hC3
 have d3 : F3.down = false:=d3
 obtain ⟨s4,o4⟩:=rename_1 d3 hr3 x3 hdir.man (fun e => man_next _ e.symm)
 obtain ⟨P,hP⟩ : ∃ P,P = F3.rename (nmOf s.dir sNext) (nmOf s.dir sMan):=⟨_,rfl⟩
 rw [← hP] at s4 o4 ⊢
 clear hP
 obtain ⟨F4,r4⟩:=P
 have s14 : Step (inDir s.dir) 4 (((imgB s.seq s.all).length + 24 : Nat) : Int) F F4:=(s13.trans (s4.mono (Q:=inDir s.dir) (fun k e => by rcases e with e | e; rw [e]; exact inDir_next _; rw [e]; exact inDir_man _) (Nat.le_refl 1) (Int.le_refl 0))).mono (fun _ e => e) (by omega) (by omega)
 have hr4 : Rise slt F4.files:=s4.rise hr3
 rcases o4 with ⟨e4,d4,f4⟩ | ⟨e4,d4,a4,f4⟩
 rotate_left
 ·have e4 : r4 = 5:=e4
  subst e4
  obtain ⟨t,ht⟩:=fail_five { s with log:=L2 } F4 (s.base + 1) false
  have hE2 : chk3 { s with log:=L2 } (s.base + 1) (F4,5) = (t,F4,5):=by unfold chk3; rw [if_pos (show (5 : Int) ≠ 0 by decide)]; exact ht
  rw [hE2]
  exact .down (.inr rfl) d4 (fun e => a4 (s13.calm e).1) (X3.disk.same hr4 f4) s14.few
 have e4 : r4 = 0:=e4
 subst e4
 have hC4 : chk3 { s with log:=L2 } (s.base + 1) (F4,0) = chk4 { s with log:=L2,base:=s.base + 1 } (s.base + 1) (cleanR s.dir (s.base + 1) (namesL (dirOf s.dir) F4.files) F4):=by unfold chk3; rw [if_neg (fun e => e rfl)]
 rw [hC4]
 clear hC4
 have hdl : L2.dir = nmOf s.dir sLog:=X2.ldir
 have hlastL : L2.last + 1 = L2.first + (segs ++ [[]]).length:=hon.last
 have hseg3 : Segs F3 L2.dir L2.first ((segs ++ [[]]).map fl):=hon.sg.ext hr3 fun k hk => s3.others k fun e => hk (by rw [hdl]; rw [show k = nmOf s.dir sNext from e]; exact next_seg _)
 have hbase3 : F3.find (baseNm s.dir (s.base + 1)) = some (fl (imgB s.seq s.all)):=by rw [s3.others _ (base_next _ _)]; exact hbase2
 have hD:=chk_disk (L:=L2) X3 hfit hseg3 hlastL hon.pos.1 hh1 hc1 hr4 f4 hbase3 hnb
 have d4 : F4.down = false:=d4
 obtain ⟨t,G,e,hE,st,o⟩:=chk_tail (size:=size) hD d4 (by rw [List.length_append,List.length_singleton] at hlastL; omega) hdl (by rw [hL2]; exact h.lsize) hon.free h.free hon.name
 rw [hE]
 have st2 : Step (inDir s.dir) 4 (((imgB s.seq s.all).length + 24 : Nat) : Int) F G:=(s14.trans st).mono (fun _ e => e) (by omega) (by omega)
 rcases o with ⟨rfl,on,ha,hq,hd,hb,lg⟩ | ⟨rfl,dn,ar,dk⟩
 ·exact .done rfl on ha hq hd hb lg st2
 ·exact .down (.inr rfl) dn (fun e => ar (s14.calm e).1) dk st2.few
end
end Go.Proofs.YtagdchgkjjpacaaGreat
