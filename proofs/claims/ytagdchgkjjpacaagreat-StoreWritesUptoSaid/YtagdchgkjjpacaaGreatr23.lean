/- The walk of read. -/
import Derived.Test.YtagdchgkjjpacaaGreatr22
set_option maxRecDepth 100000
open Go.Lib (hid)
namespace Go.Proofs.YtagdchgkjjpacaaGreat
open Go.RowKit Go.Shelf
structure LsX (S : Nat → Prop) (w : World) (v : Value) (rs : List (List UInt8)) : Prop where
 ex : ∃ ss,SlAt slKind 23 w v ss ∧ Hold w ss rs ∧ ∀ s ∈ ss,∀ g,s.val.ownBlock = some g → ¬ S g
 out : ∀ g,v.ownBlock = some g → ¬ S g
section
variable {S T : Nat → Prop} {w w' : World} {v u : Value} {rs qs : List (List UInt8)}
theorem LsX.rd (h : LsX S w v rs) : LrAt w v rs:=by
 obtain ⟨ss,h1,h2,_⟩:=h.ex
 exact ⟨ss,h1.rd,h2.reads⟩
theorem LsAt.x {B : Nat} (h : LsAt B w v rs) (hS : ∀ i,S i → i < B) : LsX S w v rs:=by
 obtain ⟨ss,h1,h2,h3⟩:=h.ex
 exact ⟨⟨ss,h1,h2,fun s hs g hg e => by have:=h3 s hs g hg; have:=hS g e; omega⟩,fun g hg e => by have:=h.new g hg; have:=hS g e; omega⟩
theorem LsX.below (h : LsX S w v rs) (k : Below w.heap.size w w') : LsX S w' v rs:=by
 obtain ⟨ss,h1,h2,h3⟩:=h.ex
 exact ⟨⟨ss,h1.below k,h2.below k,h3⟩,h.out⟩
theorem LsX.keeps (h : LsX S w v rs) (k : Keeps T w w') (hT : ∀ i,T i → S i ∨ ∃ cs U,IsBlk w i cs U ∧ U ≠ 23 ∧ U ≠ 5) : LsX S w' v rs:=by
 obtain ⟨ss,h1,h2,h3⟩:=h.ex
 refine ⟨⟨ss,h1.keeps k (fun g hg e => ?_),⟨h2.1,fun j s r hs hr => (h2.2 j s r hs hr).keeps k (fun g hg e => ?_)⟩,h3⟩,h.out⟩
 ·rcases hT g e with e2 | ⟨cs,U,hb,hU,_⟩
  ·exact h.out g hg e2
  ·obtain ⟨cur,hc⟩:=h1.own g hg
   exact blk_ne_type hc hb (fun e => hU e.symm) rfl
 ·rcases hT g e with e2 | ⟨cs,U,hb,_,hU⟩
  ·exact h3 s (List.mem_of_getElem? hs) g hg e2
  ·obtain ⟨cur,hc⟩:=(h2.2 j s r hs hr).own g hg
   exact blk_ne_type hc hb (fun e => hU e.symm) rfl
theorem LsX.lt (h : LsX S w v rs) : ∃ ss,SlAt slKind 23 w v ss ∧ Hold w ss rs ∧ (∀ s ∈ ss,∀ g,s.val.ownBlock = some g → ¬ S g ∧ g < w.heap.size) ∧ ∀ g,v.ownBlock = some g → ¬ S g ∧ g < w.heap.size:=by
 obtain ⟨ss,h1,h2,h3⟩:=h.ex
 refine ⟨ss,h1,h2,fun s hs g hg => ⟨h3 s hs g hg,?_⟩,fun g hg => ⟨h.out g hg,?_⟩⟩
 ·obtain ⟨j,hj⟩:=List.getElem?_of_mem hs
  obtain ⟨r,hr⟩ : ∃ r,rs[j]? = some r:=⟨_,List.getElem?_eq_getElem (by rw [← h2.1]; exact (List.getElem?_eq_some_iff.1 hj).1)⟩
  obtain ⟨cur,hc⟩:=(h2.2 j s r hj hr).own g hg
  exact lt_of_block hc
 ·obtain ⟨cur,hc⟩:=h1.own g hg
  exact lt_of_block hc
theorem LsX.post (h : LsX S w v rs) (k : Keeps S w w') : LsX (New w w' S) w' v rs:=by
 have h':=h.keeps k (fun i e => .inl e)
 obtain ⟨ss,h1,h2,h3,h4⟩:=h.lt
 refine ⟨⟨ss,h1.keeps k (fun g hg e => (h4 g hg).1 e),h2.keeps k (fun s hs g hg e => (h3 s hs g hg).1 e),fun s hs g hg e => ?_⟩,fun g hg e => ?_⟩
 ·have:=h3 s hs g hg
  rcases e with e | e
  ·exact this.1 e
  ·omega
 ·have:=h4 g hg
  rcases e with e | e
  ·exact this.1 e
  ·omega
theorem LsX.nil (S : Nat → Prop) (w : World) : LsX S w (.slice none 0 0) []:=⟨⟨[],SlAt.nil,hold_nil w,fun s hs => by simp at hs⟩,fun g hg => by simp [Value.ownBlock] at hg⟩
theorem LsX.join (h : LsX S w v rs) (k : LsX S w u qs) (hS : ∀ i,S i → i < w.heap.size) (hn : rs.length + qs.length ≤ 10000000) (ty : TypeId) :
 ∃ v' w',(Builtin.append_ #[132,132] ty #[v,u]).run Tryz.prog w = .ok v' w' ∧ LsX S w' v' (rs ++ qs) ∧ Keeps (fun k => v.ownBlock = some k) w w' ∧ ∀ g,v'.ownBlock = some g → v.ownBlock = some g ∨ w.heap.size ≤ g:=by
 obtain ⟨ss,h1,h2,h3⟩:=h.ex
 obtain ⟨tt,k1,k2,k3⟩:=k.ex
 obtain ⟨v',w',hr,hs',hk,ho,_⟩:=append_sls h1 k1.rd (by rw [h2.1,k2.1]; omega) ty
 have nv : ∀ (t : SlV) (q : List UInt8),SlAt byteKind 5 w t.val q → ∀ g,t.val.ownBlock = some g → ¬ v.ownBlock = some g:=by
  intro t q ht g hg e
  obtain ⟨c1,hb1⟩:=ht.own g hg
  obtain ⟨c2,hb2⟩:=h1.own g e
  exact blk_ne_type hb1 hb2 (by decide) rfl
 refine ⟨v',w',hr,⟨⟨ss ++ tt,hs',?_,fun t ht g hg => ?_⟩,fun g hg => ?_⟩,hk,ho⟩
 ·exact Hold.append ⟨h2.1,fun j t q ht hq => (h2.2 j t q ht hq).keeps hk (nv t q (h2.2 j t q ht hq))⟩ ⟨k2.1,fun j t q ht hq => (k2.2 j t q ht hq).keeps hk (nv t q (k2.2 j t q ht hq))⟩
 ·rcases List.mem_append.1 ht with ht | ht
  ·exact h3 t ht g hg
  ·exact k3 t ht g hg
 ·rcases ho g hg with e | e
  ·exact h.out g e
  ·intro e2; have:=hS g e2; omega
end
def readF (dir : ByteArray) (last : Nat) : Nat → Nat → FsS → Nat → List (List UInt8) → FsS × Nat × List (List UInt8) × Int
 | 0,_,F,cut,out => (F,cut,out,0)
 | c + 1,n,F,cut,out => match F.find (segName dir n) with
   | none => (F,cut,[],2)
   | some x =>
     if endOf (scanOf x.data) = x.data.length then readF dir last c (n + 1) F cut (out ++ scanOf x.data)
     else if n < last then (F,cut,[],14)
     else if (F.truncate (segName dir n) (endOf (scanOf x.data) : Int)).2 = 0 then
      (if ((F.truncate (segName dir n) (endOf (scanOf x.data) : Int)).1.sync (segName dir n)).2 = 0 then
        readF dir last c (n + 1) ((F.truncate (segName dir n) (endOf (scanOf x.data) : Int)).1.sync (segName dir n)).1 (x.data.length - endOf (scanOf x.data)) (out ++ scanOf x.data)
      else (((F.truncate (segName dir n) (endOf (scanOf x.data) : Int)).1.sync (segName dir n)).1,x.data.length - endOf (scanOf x.data),[],((F.truncate (segName dir n) (endOf (scanOf x.data) : Int)).1.sync (segName dir n)).2))
     else ((F.truncate (segName dir n) (endOf (scanOf x.data) : Int)).1,x.data.length - endOf (scanOf x.data),[],(F.truncate (segName dir n) (endOf (scanOf x.data) : Int)).2)
section
variable {dir : ByteArray} {last c n cut : Nat} {F : FsS} {out : List (List UInt8)} {nm : ByteArray} {x : FileS} (hn : nm = segName dir n)
include hn
theorem readF_none (h : F.find nm = none) : readF dir last (c + 1) n F cut out = (F,cut,[],2):=by subst hn; simp only [readF,h]
theorem readF_whole (h : F.find nm = some x) (he : endOf (scanOf x.data) = x.data.length) : readF dir last (c + 1) n F cut out = readF dir last c (n + 1) F cut (out ++ scanOf x.data):=by subst hn; simp only [readF,h]; rw [if_pos he]
theorem readF_bad (h : F.find nm = some x) (he : endOf (scanOf x.data) ≠ x.data.length) (hl : n < last) : readF dir last (c + 1) n F cut out = (F,cut,[],14):=by subst hn; simp only [readF,h]; rw [if_neg he,if_pos hl]
theorem readF_cut (h : F.find nm = some x) (he : endOf (scanOf x.data) ≠ x.data.length) (hl : ¬ n < last) (ht : (F.truncate nm (endOf (scanOf x.data) : Int)).2 = 0) (hs : ((F.truncate nm (endOf (scanOf x.data) : Int)).1.sync nm).2 = 0) :
 readF dir last (c + 1) n F cut out = readF dir last c (n + 1) ((F.truncate nm (endOf (scanOf x.data) : Int)).1.sync nm).1 (x.data.length - endOf (scanOf x.data)) (out ++ scanOf x.data):=by
 subst hn; simp only [readF,h]; rw [if_neg he,if_neg hl,if_pos ht,if_pos hs]
theorem readF_sync (h : F.find nm = some x) (he : endOf (scanOf x.data) ≠ x.data.length) (hl : ¬ n < last) (ht : (F.truncate nm (endOf (scanOf x.data) : Int)).2 = 0) (hs : ((F.truncate nm (endOf (scanOf x.data) : Int)).1.sync nm).2 ≠ 0) :
 readF dir last (c + 1) n F cut out = (((F.truncate nm (endOf (scanOf x.data) : Int)).1.sync nm).1,x.data.length - endOf (scanOf x.data),[],((F.truncate nm (endOf (scanOf x.data) : Int)).1.sync nm).2):=by
 subst hn; simp only [readF,h]; rw [if_neg he,if_neg hl,if_pos ht,if_neg hs]
theorem readF_trunc (h : F.find nm = some x) (he : endOf (scanOf x.data) ≠ x.data.length) (hl : ¬ n < last) (ht : (F.truncate nm (endOf (scanOf x.data) : Int)).2 ≠ 0) :
 readF dir last (c + 1) n F cut out = ((F.truncate nm (endOf (scanOf x.data) : Int)).1,x.data.length - endOf (scanOf x.data),[],(F.truncate nm (endOf (scanOf x.data) : Int)).2):=by
 subst hn; simp only [readF,h]; rw [if_neg he,if_neg hl,if_neg ht]
end
structure LgX (w0 w : World) (fb : Nat) (S : Nat → Prop) (lb : Nat) (F' : FsS) (k' : Nat) (L' : LogS) (v : Value) (rs : List (List UInt8)) (w' : World) : Prop where
 ex : ∃ T,(∀ i,T i → S i ∨ w.heap.size ≤ i) ∧ Lg w0 w' fb F' k' T lb L' ∧ LsX T w' v rs
 keeps : Keeps (fun i => S i ∨ i = lb) w w'
def szO (o : Option FileS) : Nat:=match o with | none => 0 | some x => x.data.length
theorem sum_names : ∀ (ns : List ByteArray) (l : List (ByteArray × FileS)),Rise slt l → ns.Nodup → (((ns.map fun m => szO (findL slt l m)).sum : Nat) : Int) ≤ sumLen l
 | [],l,_,_ => by have:=sumLen_nonneg l; simpa using this
 | n :: ns,l,hr,hn => by
   rw [List.nodup_cons] at hn
   rw [List.map_cons,List.sum_cons]
   cases hx : findL slt l n with
   | none =>
     have ih:=sum_names ns l hr hn.2
     have e0 : szO (none : Option FileS) = 0:=rfl
     rw [e0]
     omega
   | some x =>
     obtain ⟨a,b,e⟩:=findL_split slt_ord hx
     have hd : dropL slt l n = a ++ b:=by rw [e] at hr ⊢; exact dropL_eq slt_ord hr
     have ih:=sum_names ns (a ++ b) (by rw [← hd]; exact rise_dropL hr n) hn.2
     have hs : sumLen l = (x.data.length : Int) + sumLen (a ++ b):=by rw [e,sumLen_append,sumLen_cons,sumLen_append]; simp only; omega
     have hm : (ns.map fun m => szO (findL slt l m)) = ns.map fun m => szO (findL slt (a ++ b) m):=List.map_congr_left fun m hm => by
      rw [← hd,findL_dropL_ne hr (fun e2 => hn.1 (by rw [← e2]; exact hm))]
     rw [hm]
     have e0 : szO (some x) = x.data.length:=rfl
     rw [e0]
     omega
def restN (F : FsS) (dir : ByteArray) (n c : Nat) : Nat:=((List.range' n c).map fun j => szO (F.find (segName dir j))).sum
theorem restN_succ (F : FsS) (dir : ByteArray) (n c : Nat) : restN F dir n (c + 1) = szO (F.find (segName dir n)) + restN F dir (n + 1) c:=by
 unfold restN
 rw [List.range'_succ,List.map_cons,List.sum_cons]
theorem restN_le {F : FsS} {k : Nat} (h : FsOk F k) (dir : ByteArray) (n c : Nat) (hn : n + c ≤ 100000000) : restN F dir n c ≤ 67108864:=by
 have h1:=sum_names ((List.range' n c).map (segName dir)) F.files h.rise (by
  rw [List.Nodup,List.pairwise_map]
  refine (List.pairwise_lt_range' (s:=n) (n:=c)).imp_of_mem fun {a b} ha hb hab e => ?_
  have ha':=List.mem_range'_1.1 ha
  have hb':=List.mem_range'_1.1 hb
  have h1:=congrArg (fun s : ByteArray => s.data.toList) e
  simp only [segName_list] at h1
  have h2:=List.append_cancel_left h1
  rw [List.cons.injEq] at h2
  have:=digs_inj 8 (by omega) (by omega) h2.2
  omega)
 rw [List.map_map] at h1
 have h2:=h.used
 have h3:=h.fits
 have h4:=h.room1
 unfold restN
 have e : ((fun m => szO (findL slt F.files m)) ∘ segName dir) = fun j => szO (F.find (segName dir j)):=rfl
 rw [e] at h1
 omega
structure RdI (w0 w : World) (fb : Nat) (S : Nat → Prop) (lb k : Nat) (L : LogS) (F : FsS) (c0 c n : Nat) (F' : FsS) (cut : Nat) (out : List (List UInt8)) (v : Value) (wr : World) : Prop where
 at_ : ∃ k',(0 < c → k' = k ∧ F' = F) ∧ k' ≤ k + 2 ∧ LgX w0 w fb S lb F' k' { L with cut:=cut } v out wr
 same : readF L.dir L.last c0 L.first F L.cut [] = readF L.dir L.last c n F' cut out
 sum : n + c = L.last + 1
 vnew : ∀ g,v.ownBlock = some g → w.heap.size ≤ g
 few : 8 * out.length + restN F L.dir n c ≤ restN F L.dir L.first c0
def ReadPost (w0 w : World) (fb : Nat) (S : Nat → Prop) (lb k : Nat) (L : LogS) (R : FsS × Nat × List (List UInt8) × Int) (e : Ending) (w' : World) : Prop :=
 ∃ v,e = .returned (.tuple #[v,.int .i64 R.2.2.2]) ∧ LgX w0 w fb S lb R.1 (k + 2) { L with cut:=R.2.1 } v R.2.2.1 w' ∧ (R.2.2.2 ≠ 0 → v = .slice none 0 0) ∧ ∀ g,v.ownBlock = some g → w.heap.size ≤ g
section
variable {w0 w w' W W1 W2 W3 : World} {fb k k' lb : Nat} {F G : FsS} {S T U : Nat → Prop} {L L' : LogS} {v u : Value} {rs qs : List (List UInt8)}
theorem Lg.keepsOut (h : Lg w0 w fb F k S lb L) (hk : Keeps U w w') (h1 : ∀ i,U i → ¬ S i) (h2 : ∀ i,U i → i ≠ lb) (h3 : ∀ i,U i → w0.heap.size ≤ i) : Lg w0 w' fb F k S lb L :=
 ⟨⟨h.hd.fs.keeps hk h1,h.hd.low,below_keeps h.hd.below hk h3 h.hd.below.size,h.hd.ok⟩,⟨hk.obj h.log.blk (fun e => h2 _ e rfl),h.log.out,h.log.low⟩⟩
theorem Lg.op (h : Lg w0 w fb F k S lb L) (hp : FsPost w fb G S w') (ho : FsOk G k') : Lg w0 w' fb G k' (New w w' S) lb L ∧ Keeps S w w':=h.step (Below.refl _ _) hp ho
theorem LgX.nil {L2 : LogS} (h : Lg w0 w' fb G k' T lb L2) (hT : ∀ i,T i → S i ∨ w.heap.size ≤ i) (hk : Keeps (fun i => S i ∨ i = lb) w w') : LgX w0 w fb S lb G k' L2 (.slice none 0 0) [] w':=⟨⟨T,hT,h,LsX.nil _ _⟩,hk⟩
theorem keepsTo {a b c : World} (h : Keeps (fun i => S i ∨ i = lb) a b) (k : Keeps U b c) (hU : ∀ i,i < a.heap.size → U i → S i ∨ i = lb) : Keeps (fun i => S i ∨ i = lb) a c:=h.trans k hU
set_option maxHeartbeats 8000000 in
theorem w_readN (h : Lg w0 w fb F k S lb L) (hk : k < 930000) (hdir : L.dir.size ≤ 100000) (hlast : L.last < 100000000) (hfl : L.first ≤ L.last) :
 Calls Tryz.prog 109 #[.pointer (some ⟨lb,0,none⟩)] w (ReadPost w0 w fb S lb k L (readF L.dir L.last (L.last + 1 - L.first) L.first F L.cut [])):=by
 have H:=hid h
 have c3:=h.cells.c3
 have HLA:=hid hlast
 have HKK:=hid hk
 obtain ⟨c0,hc0⟩ : ∃ c0,c0 = L.last + 1 - L.first:=⟨_,rfl⟩
 rw [← hc0]
 have HUS : Hid (restN F L.dir L.first c0 ≤ 67108864):=hid (restN_le h.hd.ok L.dir L.first c0 (by omega))
 have HI : Hid (RdI w0 w fb S lb k L F c0 c0 L.first F L.cut [] (.slice none 0 0) w):=hid ⟨⟨k,fun _ => ⟨rfl,rfl⟩,by omega,⟨⟨S,fun i e => .inl e,h,LsX.nil _ _⟩,Keeps.refl _ _⟩⟩,rfl,by omega,fun g hg => by simp [Value.ownBlock] at hg,by simp⟩
 have HC0:=hid hc0
 clear h hlast hc0 hfl hk
 go_enter Tryz.func109,Tryz.ntmps109
 go_wp2_with (fail)
 clear c3
 go_loopg [4,5] (c0 + 1) (fun g v i wr => ∃ (c n : Nat),g = c + 1 ∧ i = .int .i64 (n : Int) ∧ Hid (∃ F' cut out,RdI w0 w fb S lb k L F c0 c n F' cut out v wr))
 case atStart => exact ⟨c0,L.first,rfl,rfl,hid ⟨_,_,_,HI.out⟩⟩
 case round =>
  obtain ⟨c,n,rfl,rfl,HX⟩:=hrel
  obtain ⟨F',cut,out,hR⟩:=HX.out
  obtain ⟨k',hkc,hk2,hX⟩:=hR.at_
  obtain ⟨T,hTS,hL,hO⟩:=hX.ex
  have HR:=hid hR
  have HKC:=hid hkc
  have HK2:=hid hk2
  have HX2:=hid hX
  have HTS:=hid hTS
  have HL:=hid hL
  have HO:=hid hO
  have c4 : wr.cell? ⟨lb,4,none⟩ = some (.int .i64 (L.last : Int)):=hL.cells.c4
  have c1 : wr.cell? ⟨lb,1,none⟩ = some (.string L.dir):=hL.cells.c1
  have hsum:=hR.sum
  clear hR hkc hk2 hX hTS hL hO
  cases c with
  | zero =>
    have hnl : ¬ ((n : Int) ≤ (L.last : Int)):=by omega
    have HP : Hid (ReadPost w0 w fb S lb k L (readF L.dir L.last c0 L.first F L.cut []) (.returned (.tuple #[u4,.int .i64 0])) wr):=hid (by
     rw [HR.out.same]
     exact ⟨u4,rfl,⟨⟨T,HTS.out,⟨⟨HL.out.hd.fs,HL.out.hd.low,HL.out.hd.below,HL.out.hd.ok.mono HK2.out⟩,HL.out.log⟩,HO.out⟩,HX2.out.keeps⟩,fun e => absurd rfl e,HR.out.vnew⟩)
    clear hsum
    go_wp2_with (fail)
    go_ret2
    exact HP.out
  | succ c =>
    have hnl : (n : Int) ≤ (L.last : Int):=by omega
    obtain ⟨hkk,hFF⟩:=HKC.out (by omega)
    subst hkk hFF
    have HNB : Hid (n < 100000000):=hid (by have:=HLA.out; omega)
    have HSUM:=hid hsum
    obtain ⟨nm,hnm⟩ : ∃ nm,nm = segName L.dir n:=⟨_,rfl⟩
    have HNM:=hid hnm
    clear hsum hnm
    go_wp2_with (fail)
    refine (w_name wr L.dir hdir n HNB.out).mono ?_
    rw [← HNM.out]
    rintro e w1 ⟨rfl,hb1⟩
    have HB1:=hid hb1
    have HL1 : Hid (Lg w0 w1 fb F' k' T lb { L with cut:=cut }):=hid (HL.out.below hb1)
    have d0 : w1.cell? ⟨lb,0,none⟩ = some (.pointer (some ⟨fb,0,none⟩)):=HL1.out.cells.c0
    clear hb1 c1 c4
    cases hx : F'.find nm with
    | none =>
      have HP : Hid (ReadPost w0 w fb S lb k' L (readF L.dir L.last c0 L.first F' L.cut []) (.returned (.tuple #[.slice none 0 0,.int .i64 2])) w1):=hid (by
       rw [HR.out.same,readF_none HNM.out hx]
       exact ⟨_,rfl,LgX.nil ⟨⟨HL1.out.hd.fs,HL1.out.hd.low,HL1.out.hd.below,HL1.out.hd.ok.mono (by omega)⟩,HL1.out.log⟩ HTS.out (keepsTo HX2.out.keeps (Keeps.of_below HB1.out) (fun _ _ e => e.elim)),fun _ => rfl,fun g hg => by simp [Value.ownBlock] at hg⟩)
      have HXX:=hid hx
      clear hx
      go_wp2_with (fail)
      refine (d_read_none HL1.out.hd HXX.out).mono ?_
      rintro e w2 ⟨rfl,rfl⟩
      go_wp2_with (fail)
      go_ret2
      exact HP.out
    | some x =>
      have HXX:=hid hx
      have HXL : Hid (x.data.length ≤ 67108864 ∧ x.data.length ≤ F'.used.toNat):=hid (by have:=HL1.out.hd.ok.len hx; omega)
      clear hx
      go_wp2_with (fail)
      refine (d_read HL1.out.hd HXX.out).mono ?_
      rintro e w2 ⟨ra,rc,rfl,hfr,_⟩
      obtain ⟨hr1,hr2,_⟩:=hfr.sl.room
      have HFR:=hid hfr
      have HSC:=hid (w_scan hfr.sl.rd (by have:=HXL.out; omega) hr1 hr2)
      clear hfr hr1 hr2
      go_wp2_with (fail)
      refine HSC.out.mono ?_
      rintro e w3 ⟨sv,rfl,hls,hb3⟩
      have hb13 : Below wr.heap.size wr w3:=(HB1.out.trans (HFR.out.below.mono HB1.out.size)).trans (hb3.mono (Nat.le_trans HB1.out.size HFR.out.below.size))
      have hTlt : ∀ i,T i → i < wr.heap.size:=HL.out.hd.fs.lt
      obtain ⟨v4,w4,hrun,ho4,hk4,hn4⟩:=(HO.out.below hb13).join (hls.x (fun i e => by have:=hTlt i e; have:=HB1.out.size; have:=HFR.out.below.size; omega)) (fun i e => Nat.lt_of_lt_of_le (hTlt i e) hb13.size)
        (by have h1:=HR.out.few; rw [restN_succ,← HNM.out,HXX.out] at h1; simp only [szO] at h1; have h2:=HUS.out; have h3:=endOf_len (scanOf x.data); have h4:=scan_end x.data; have h5:=HXL.out; omega) 132
      have hL3 : Lg w0 w3 fb F' k' T lb { L with cut:=cut }:=HL.out.below hb13
      have hvn : ∀ g,u4.ownBlock = some g → w.heap.size ≤ g:=HR.out.vnew
      have hL4 : Lg w0 w4 fb F' k' T lb { L with cut:=cut }:=hL3.keepsOut hk4 (fun i e => (HO.out.below hb13).out i e) (fun i e hi => by have:=hvn i e; have:=H.out.lt; omega) (fun i e => by have:=hvn i e; have:=H.out.hd.below.size; omega)
      have hKP : Keeps (fun i => S i ∨ i = lb) w w4:=keepsTo (keepsTo HX2.out.keeps (Keeps.of_below hb13) (fun _ _ e => e.elim)) hk4 (fun i hi e => by have:=hvn i e; omega)
      have HL4:=hid hL4
      have HO4:=hid ho4
      have HKP:=hid hKP
      have HVN : Hid (∀ g,v4.ownBlock = some g → w.heap.size ≤ g):=hid (fun g hg => by
       rcases hn4 g hg with e | e
       ·exact hvn g e
       ·have h1:=HX2.out.keeps.size; have h2:=hb13.size; omega)
      have HFEW : Hid (8 * (out ++ scanOf x.data).length + restN F' L.dir (n + 1) c ≤ restN F' L.dir L.first c0):=hid (by
       have h1:=HR.out.few
       have h3:=endOf_len (scanOf x.data)
       have h4:=scan_end x.data
       have h5:=HXL.out
       rw [restN_succ,← HNM.out,HXX.out] at h1
       simp only [szO] at h1
       rw [List.length_append]
       omega)
      have c4 : w4.cell? ⟨lb,4,none⟩ = some (.int .i64 (L.last : Int)):=hL4.cells.c4
      clear hls hb3 hb13 hTlt ho4 hk4 hn4 hL3 hvn hL4 hKP d0
      by_cases hw : endOf (scanOf x.data) = x.data.length
      ·have hdw : decide (endOf (scanOf x.data) = x.data.length) = true:=decide_eq_true hw
       have HNX : Hid (RdI w0 w fb S lb k' L F' c0 c (n + 1) F' cut (out ++ scanOf x.data) v4 w4):=hid ⟨⟨k',fun _ => ⟨rfl,rfl⟩,by omega,⟨⟨T,HTS.out,HL4.out,HO4.out⟩,HKP.out⟩⟩,by rw [HR.out.same,readF_whole HNM.out HXX.out hw],by have:=HSUM.out; omega,HVN.out,HFEW.out⟩
       rw [hdw]
       have hnb : (n : Int) < 100000000:=by have:=HNB.out; omega
       clear hw hdw
       go_wp2_with (at_builtin; refine wpList_append_run rfl (.tmp 50) (.tmp 51) 132 rfl _ _ rfl rfl _ _ hrun ?_)
       go_roundg (c + 1)
       case measure => omega
       case rel => exact ⟨c,n + 1,rfl,by go_num,hid ⟨_,_,_,HNX.out⟩⟩
      ·have hdw : decide (endOf (scanOf x.data) = x.data.length) = false:=decide_eq_false hw
       rw [hdw]
       have HW:=hid hw
       clear hw hdw
       by_cases hnl2 : (n : Int) < (L.last : Int)
       ·have HP : Hid (ReadPost w0 w fb S lb k' L (readF L.dir L.last c0 L.first F' L.cut []) (.returned (.tuple #[.slice none 0 0,.int .i64 14])) w4):=hid (by
         rw [HR.out.same,readF_bad HNM.out HXX.out HW.out (by omega)]
         exact ⟨_,rfl,LgX.nil ⟨⟨HL4.out.hd.fs,HL4.out.hd.low,HL4.out.hd.below,HL4.out.hd.ok.mono (by omega)⟩,HL4.out.log⟩ HTS.out HKP.out,fun _ => rfl,fun g hg => by simp [Value.ownBlock] at hg⟩)
        go_wp2_with (at_builtin; refine wpList_append_run rfl (.tmp 50) (.tmp 51) 132 rfl _ _ rfl rfl _ _ hrun ?_)
        go_ret2
        exact HP.out
       ·have HNL : Hid (¬ n < L.last):=hid (by omega)
        have hC0 : c = 0:=by have:=HSUM.out; have:=HNL.out; omega
        have HC00:=hid hC0
        have hen:=scan_end x.data
        obtain ⟨en,hene⟩ : ∃ en,en = endOf (scanOf x.data):=⟨_,rfl⟩
        rw [← hene] at hen ⊢
        have HEN:=hid hene
        have hle1 : (en : Int) ≤ (x.data.length : Int):=by omega
        have hle2 : (x.data.length : Int) ≤ 67108864:=by have:=HXL.out; omega
        have hle0 : (0 : Int) ≤ (en : Int):=by omega
        have c5 : w4.cell? ⟨lb,5,none⟩ = some (.int .i64 (cut : Int)):=HL4.out.cells.c5
        have z5 : w4.frozen? ⟨lb,5,none⟩ = false:=HL4.out.free 5
        have hL5 : Lg w0 (w4.setCell ⟨lb,5,none⟩ (.int .i64 ((x.data.length : Int) - (en : Int)))) fb F' k' T lb { L with cut:=x.data.length - en }:=HL4.out.setLog (L':={ L with cut:=x.data.length - en }) 5 _ (by simp only [logCells]; rw [show ((x.data.length - en : Nat) : Int) = (x.data.length : Int) - (en : Int) by omega]; rfl)
        have hO5 : LsX T (w4.setCell ⟨lb,5,none⟩ (.int .i64 ((x.data.length : Int) - (en : Int)))) v4 (out ++ scanOf x.data):=HO4.out.keeps ((Keeps.refl (fun j => j = lb) w4).setCell (p:=⟨lb,5,none⟩) (fun _ => rfl) _) (fun i e => .inr ⟨_,_,e ▸ HL4.out.log.blk,by decide,by decide⟩)
        have hK5 : Keeps (fun i => S i ∨ i = lb) w (w4.setCell ⟨lb,5,none⟩ (.int .i64 ((x.data.length : Int) - (en : Int)))):=HKP.out.trans' ((Keeps.refl (fun i => S i ∨ i = lb) w4).setCell (p:=⟨lb,5,none⟩) (fun _ => .inr rfl) _)
        have HL5:=hid hL5
        have HO5:=hid hO5
        have HK5:=hid hK5
        have e0 : (w4.setCell ⟨lb,5,none⟩ (.int .i64 ((x.data.length : Int) - (en : Int)))).cell? ⟨lb,0,none⟩ = some (.pointer (some ⟨fb,0,none⟩)):=hL5.cells.c0
        obtain ⟨w5,hw5⟩ : ∃ w5,w5 = w4.setCell ⟨lb,5,none⟩ (.int .i64 ((x.data.length : Int) - (en : Int))):=⟨_,rfl⟩
        rw [← hw5] at HL5 HO5 HK5
        have HW5:=hid hw5
        obtain ⟨tr,htr⟩ : ∃ tr,tr = F'.truncate nm (en : Int):=⟨_,rfl⟩
        obtain ⟨sy,hsy⟩ : ∃ sy,sy = tr.1.sync nm:=⟨_,rfl⟩
        have HTR:=hid htr
        have HSY:=hid hsy
        have HT : Hid (Calls Tryz.prog 29 #[.pointer (some ⟨fb,0,none⟩),.string nm,.int .i64 (en : Int)] w5 fun e w6 => e = .returned (.int .i64 tr.2) ∧ FsPost w5 fb tr.1 T w6):=hid (by
         obtain ⟨mb,rs,h1⟩:=HL5.out.hd.fs
         rw [HTR.out]
         exact f_truncate h1 HL5.out.hd.ok (by have:=HKK.out; omega) nm _)
        clear hC0 hen hene hL5 hO5 hK5 hw5 htr hsy
        go_wp2_with (at_builtin; refine wpList_append_run rfl (.tmp 50) (.tmp 51) 132 rfl _ _ rfl rfl _ _ hrun ?_)
        rw [← HW5.out]
        refine HT.out.mono ?_
        rintro e w6 ⟨rfl,hp6⟩
        have h6:=HL5.out.op hp6 (by have:=HL5.out.hd.ok.truncate nm (en : Int); rw [← HTR.out] at this; exact this)
        have HL6:=hid h6.1
        have HO6:=hid (HO5.out.post h6.2)
        have HK6 : Hid (Keeps (fun i => S i ∨ i = lb) w w6):=hid (keepsTo HK5.out h6.2 (fun i hi e => by rcases HTS.out i e with e2 | e2; exact .inl e2; omega))
        have HT6 : Hid (∀ i,New w5 w6 T i → S i ∨ w.heap.size ≤ i):=hid (fun i e => by
         rcases e with e | e
         ·exact HTS.out i e
         ·have:=HK5.out.size; omega)
        have g0 : w6.cell? ⟨lb,0,none⟩ = some (.pointer (some ⟨fb,0,none⟩)):=h6.1.cells.c0
        clear hp6 h6 e0 c5 z5 c4
        by_cases ht : tr.2 = 0
        ·have HT0:=hid ht
         have HS : Hid (Calls Tryz.prog 115 #[.pointer (some ⟨fb,0,none⟩),.string nm] w6 fun e w7 => e = .returned (.int .i64 sy.2) ∧ FsPost w6 fb sy.1 (New w5 w6 T) w7):=hid (by
          obtain ⟨mb,rs,h1⟩:=HL6.out.hd.fs
          rw [HSY.out]
          exact f_sync h1 HL6.out.hd.ok (by have:=HKK.out; omega) nm)
         rw [ht]
         clear ht
         go_wp2_with (fail)
         refine HS.out.mono ?_
         rintro e w7 ⟨rfl,hp7⟩
         have h7:=HL6.out.op hp7 (by have:=HL6.out.hd.ok.sync nm; rw [← HSY.out] at this; exact this)
         have HL7:=hid h7.1
         have HO7:=hid (HO6.out.post h7.2)
         have HK7 : Hid (Keeps (fun i => S i ∨ i = lb) w w7):=hid (keepsTo HK6.out h7.2 (fun i hi e => by rcases HT6.out i e with e2 | e2; exact .inl e2; omega))
         have HT7 : Hid (∀ i,New w6 w7 (New w5 w6 T) i → S i ∨ w.heap.size ≤ i):=hid (fun i e => by
          rcases e with e | e
          ·exact HT6.out i e
          ·have:=HK6.out.size; omega)
         have g4 : w7.cell? ⟨lb,4,none⟩ = some (.int .i64 (L.last : Int)):=h7.1.cells.c4
         clear hp7 h7 g0
         by_cases hs0 : sy.2 = 0
         ·have HNX : Hid (RdI w0 w fb S lb k' L F' c0 c (n + 1) sy.1 (x.data.length - en) (out ++ scanOf x.data) v4 w7):=hid ⟨⟨k' + 1 + 1,fun h => by have:=HC00.out; omega,by omega,⟨⟨_,HT7.out,HL7.out,HO7.out⟩,HK7.out⟩⟩,by
           have h1:=HT0.out
           have h2:=hs0
           rw [HSY.out,HTR.out] at h2
           rw [HTR.out] at h1
           rw [HEN.out] at h1 h2
           rw [HR.out.same,readF_cut HNM.out HXX.out HW.out HNL.out h1 h2,HSY.out,HTR.out,HEN.out],by have:=HSUM.out; omega,HVN.out,HFEW.out⟩
          rw [hs0]
          have hnb : (n : Int) < 100000000:=by have:=HNB.out; omega
          clear hs0
          go_wp2_with (fail)
          go_roundg (c + 1)
          case measure => omega
          case rel => exact ⟨c,n + 1,rfl,by go_num,hid ⟨_,_,_,HNX.out⟩⟩
         ·have HP : Hid (ReadPost w0 w fb S lb k' L (readF L.dir L.last c0 L.first F' L.cut []) (.returned (.tuple #[.slice none 0 0,.int .i64 sy.2])) w7):=hid (by
           have h1:=HT0.out
           have h2:=hs0
           rw [HSY.out,HTR.out] at h2
           rw [HTR.out] at h1
           rw [HEN.out] at h1 h2
           rw [HR.out.same,readF_sync HNM.out HXX.out HW.out HNL.out h1 h2,← HEN.out,← HTR.out,← HSY.out]
           exact ⟨_,rfl,LgX.nil ⟨⟨HL7.out.hd.fs,HL7.out.hd.low,HL7.out.hd.below,HL7.out.hd.ok.mono (by omega)⟩,HL7.out.log⟩ HT7.out HK7.out,fun _ => rfl,fun g hg => by simp [Value.ownBlock] at hg⟩)
          have hs1 : (sy.2 != 0) = true:=by rw [bne_iff_ne]; exact hs0
          clear hs0
          go_wp2_with (fail)
          go_ret2
          exact HP.out
        ·have HP : Hid (ReadPost w0 w fb S lb k' L (readF L.dir L.last c0 L.first F' L.cut []) (.returned (.tuple #[.slice none 0 0,.int .i64 tr.2])) w6):=hid (by
          have h1:=ht
          rw [HTR.out,HEN.out] at h1
          rw [HR.out.same,readF_trunc HNM.out HXX.out HW.out HNL.out h1,← HEN.out,← HTR.out]
          exact ⟨_,rfl,LgX.nil ⟨⟨HL6.out.hd.fs,HL6.out.hd.low,HL6.out.hd.below,HL6.out.hd.ok.mono (by omega)⟩,HL6.out.log⟩ HT6.out HK6.out,fun _ => rfl,fun g hg => by simp [Value.ownBlock] at hg⟩)
         have ht1 : (tr.2 != 0) = true:=by rw [bne_iff_ne]; exact ht
         clear ht
         go_wp2_with (fail)
         go_ret2
         exact HP.out
end
end Go.Proofs.YtagdchgkjjpacaaGreat
