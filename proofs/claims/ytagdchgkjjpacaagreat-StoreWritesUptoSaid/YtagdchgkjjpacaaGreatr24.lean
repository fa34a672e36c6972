/- The walk of Open. -/
import Derived.Test.YtagdchgkjjpacaaGreatr23
set_option maxRecDepth 100000
open Go.Lib (hid)
namespace Go.Proofs.YtagdchgkjjpacaaGreat
open Go.RowKit Go.Shelf
def scanNums : List Nat → Nat → Nat → Option (Nat × Nat)
 | [],f,l => some (f,l)
 | n :: r,f,l => if n = 0 then scanNums r f l else if f = 0 then scanNums r n n else if n ≠ l + 1 then none else scanNums r f n
theorem segNum_lt (dir name : ByteArray) : segNum dir name < 100000000:=by
 unfold segNum
 split
 ·unfold numTail
  split
  ·rename_i h
   have:=numDigs_lt _ h.2
   rw [h.1] at this
   omega
  ·omega
 ·omega
theorem scanNums_bound : ∀ (ns : List Nat) (f l : Nat),(∀ n ∈ ns,n < 100000000) → (f = 0 → l = 0) → f ≤ l → l < 100000000 → ∀ f' l',scanNums ns f l = some (f',l') → f' ≤ l' ∧ l' < 100000000 ∧ (f' = 0 → l' = 0) ∧ l' + 1 - f' ≤ (l + 1 - f) + ns.length
 | [],f,l,_,h0,h1,h2,f',l',h => by
   simp only [scanNums,Option.some.injEq,Prod.mk.injEq] at h
   obtain ⟨rfl,rfl⟩:=h
   exact ⟨h1,h2,h0,by simp⟩
 | n :: r,f,l,hn,h0,h1,h2,f',l',h => by
   have hn0:=hn n (by simp)
   have hr : ∀ m ∈ r,m < 100000000:=fun m hm => hn m (by simp [hm])
   unfold scanNums at h
   split at h
   ·have:=scanNums_bound r f l hr h0 h1 h2 f' l' h
    simp only [List.length_cons]; omega
   ·split at h
    ·have:=scanNums_bound r n n hr (fun e => e) (Nat.le_refl _) hn0 f' l' h
     simp only [List.length_cons]; omega
    ·split at h
     ·cases h
     ·have:=scanNums_bound r f n hr (by omega) (by omega) hn0 f' l' h
      simp only [List.length_cons]; omega
def openR (F : FsS) (dir : ByteArray) (size : Int) (f l : Nat) : FsS × LogS × List (List UInt8) × Int :=
 ((readF dir l (l + 1 - f) f F 0 []).1,⟨dir,size,f,l,(readF dir l (l + 1 - f) f F 0 []).2.1,false⟩,(readF dir l (l + 1 - f) f F 0 []).2.2.1,(readF dir l (l + 1 - f) f F 0 []).2.2.2)
def segNums (F : FsS) (dir : ByteArray) : List Nat:=(namesL (dirOf dir) F.files).map (segNum dir)
def openL (F : FsS) (dir : ByteArray) (size : Int) : FsS × LogS × List (List UInt8) × Int :=
 if okName (segName dir 1) = false then (F,⟨dir,size,0,0,0,false⟩,[],1) else if size < 16 ∨ 1048576 < size then (F,⟨dir,size,0,0,0,false⟩,[],6)
 else if F.down = true then (F,⟨dir,size,0,0,0,false⟩,[],5)
 else match scanNums (segNums F dir) 0 0 with
  | none => (F,⟨dir,size,0,0,0,false⟩,[],14)
  | some (f,l) => if f = 0 then (if (F.create (segName dir 1)).2 = 0 then openR (F.create (segName dir 1)).1 dir size 1 1 else ((F.create (segName dir 1)).1,⟨dir,size,1,1,0,false⟩,[],(F.create (segName dir 1)).2)) else openR F dir size f l
structure OpenAt (w0 w : World) (fb : Nat) (S : Nat → Prop) (k : Nat) (R : FsS × LogS × List (List UInt8) × Int) (lv v : Value) (w' : World) : Prop where
 keeps : Keeps S w w'
 new : ∀ g,v.ownBlock = some g → w.heap.size ≤ g
 bad : R.2.2.2 ≠ 0 → lv = .pointer none ∧ v = .slice none 0 0 ∧ ∃ T,(∀ i,T i → S i ∨ w.heap.size ≤ i) ∧ Hd w0 w' fb R.1 k T
 good : R.2.2.2 = 0 → ∃ lb,lv = .pointer (some ⟨lb,0,none⟩) ∧ w.heap.size ≤ lb ∧ ∃ T,(∀ i,T i → S i ∨ w.heap.size ≤ i) ∧ Lg w0 w' fb R.1 k T lb R.2.1 ∧ LsX T w' v R.2.2.1
def OpenPost (w0 w : World) (fb : Nat) (S : Nat → Prop) (k : Nat) (R : FsS × LogS × List (List UInt8) × Int) (e : Ending) (w' : World) : Prop :=
 ∃ lv v,e = .returned (.tuple #[lv,v,.int .i64 R.2.2.2]) ∧ OpenAt w0 w fb S k R lv v w'
section
variable {w0 w w' W W1 W2 W3 : World} {fb k k' lb : Nat} {F G : FsS} {S T U : Nat → Prop} {L L' : LogS} {v u : Value} {rs qs : List (List UInt8)}
theorem create_used (F : FsS) (n : ByteArray) : (F.create n).1.used ≤ F.used:=by
 unfold FsS.create
 split
 ·exact Int.le_refl _
 split
 ·exact Int.le_refl _
 split
 ·exact Int.le_refl _
 split
 ·exact Int.le_refl _
 unfold FsS.write
 split
 ·split <;> exact Int.le_refl _
 ·exact Int.le_refl _
theorem OpenPost.fail {R : FsS × LogS × List (List UInt8) × Int} (h : Hd w0 w fb F k S) (hb : Below w.heap.size w w') {r : Int} (hr : r ≠ 0) (hR : R.2.2.2 = r) (hF : R.1 = F) {k2 : Nat} (hk : k ≤ k2) : OpenPost w0 w fb S k2 R (.returned (.tuple #[.pointer none,.slice none 0 0,.int .i64 r])) w':=by
 refine ⟨_,_,by rw [hR],(Keeps.of_below hb).mono (fun _ _ e => e.elim),fun g hg => by simp [Value.ownBlock] at hg,fun _ => ⟨rfl,rfl,S,fun i e => .inl e,?_⟩,fun e => absurd (hR.symm.trans e) hr⟩
 have:=h.read hb
 rw [hF]
 exact ⟨this.fs,this.low,this.below,this.ok.mono hk⟩
theorem OpenPost.bad {R : FsS × LogS × List (List UInt8) × Int} {L2 L3 : LogS} {k2 : Nat} (hx : LgX w0 W fb T lb G k2 L2 u rs w') (hT : ∀ i,T i → S i ∨ w.heap.size ≤ i) (hkp : Keeps S w W) (hlb : w.heap.size ≤ lb) {r : Int} (hr : r ≠ 0) (hR : R = (G,L3,qs,r)) (hk : k2 ≤ k) : OpenPost w0 w fb S k R (.returned (.tuple #[.pointer none,.slice none 0 0,.int .i64 r])) w':=by
 subst hR
 refine ⟨_,_,rfl,hkp.trans hx.keeps (fun i hi e => ?_),fun g hg => by simp [Value.ownBlock] at hg,fun _ => ⟨rfl,rfl,?_⟩,fun e => absurd e hr⟩
 ·rcases e with e | e
  ·rcases hT i e with e2 | e2
   ·exact e2
   ·omega
  ·omega
 ·obtain ⟨T',h1,h2,-⟩:=hx.ex
  exact ⟨T',fun i e => by
   rcases h1 i e with e2 | e2
   ·exact hT i e2
   ·have:=hkp.size; exact .inr (by omega),⟨h2.hd.fs,h2.hd.low,h2.hd.below,h2.hd.ok.mono hk⟩⟩
theorem OpenPost.good {R : FsS × LogS × List (List UInt8) × Int} {L2 : LogS} {k2 : Nat} (hx : LgX w0 W fb T lb G k2 L2 u rs w') (hT : ∀ i,T i → S i ∨ w.heap.size ≤ i) (hkp : Keeps S w W) (hlb : w.heap.size ≤ lb) (hR : R = (G,L2,rs,0)) (hk : k2 ≤ k) (hnw : ∀ g,u.ownBlock = some g → W.heap.size ≤ g) : OpenPost w0 w fb S k R (.returned (.tuple #[.pointer (some ⟨lb,0,none⟩),u,.int .i64 0])) w':=by
 subst hR
 refine ⟨_,_,rfl,hkp.trans hx.keeps (fun i hi e => ?_),fun g hg => Nat.le_trans hkp.size (hnw g hg),fun e => absurd rfl e,fun _ => ⟨lb,rfl,hlb,?_⟩⟩
 ·rcases e with e | e
  ·rcases hT i e with e2 | e2
   ·exact e2
   ·omega
  ·omega
 ·obtain ⟨T',h1,h2,h3⟩:=hx.ex
  exact ⟨T',fun i e => by
   rcases h1 i e with e2 | e2
   ·exact hT i e2
   ·have:=hkp.size; exact .inr (by omega),⟨⟨h2.hd.fs,h2.hd.low,h2.hd.below,h2.hd.ok.mono hk⟩,h2.log⟩,h3⟩
structure OpW (w0 w W3 : World) (fb : Nat) (F : FsS) (k : Nat) (S : Nat → Prop) (lb : Nat) (dir : ByteArray) (size : Int) (nv : Value) (f l : Nat) (wr : World) : Prop where
 lg : Lg w0 wr fb F k S lb ⟨dir,size,f,l,0,false⟩
 names : SlAt textKind 9 wr nv (namesL (dirOf dir) F.files)
 keeps : Below W3.heap.size w wr
structure OpI (w0 w W3 : World) (fb : Nat) (F : FsS) (k : Nat) (S : Nat → Prop) (lb : Nat) (dir : ByteArray) (size : Int) (nv : Value) (j f l : Nat) (wr : World) : Prop extends OpW w0 w W3 fb F k S lb dir size nv f l wr where
 same : scanNums (segNums F dir) 0 0 = scanNums ((segNums F dir).drop j) f l
 bd : l < 100000000
theorem OpW.set {W3 : World} {dir : ByteArray} {size : Int} {nv : Value} {f l f' l' : Nat} {wr : World} (h : OpW w0 w W3 fb F k S lb dir size nv f l wr) {i : Nat} {u : Value} (hlb : W3.heap.size ≤ lb)
 (hc : (logCells fb ⟨dir,size,f,l,0,false⟩).setIfInBounds i u = logCells fb ⟨dir,size,f',l',0,false⟩) : OpW w0 w W3 fb F k S lb dir size nv f' l' (wr.setCell ⟨lb,i,none⟩ u) :=
 ⟨h.lg.setLog (L':=⟨dir,size,f',l',0,false⟩) i u hc,h.names.keeps ((Keeps.refl (fun j => j = lb) wr).setCell (p:=⟨lb,i,none⟩) (fun _ => rfl) _) (fun g hg e => by
  obtain ⟨cur,hb⟩:=h.names.own g hg
  exact blk_ne_type hb h.lg.log.blk (by decide) e),h.keeps.setCell (p:=⟨lb,i,none⟩) hlb _⟩
theorem scanNums_zero {n f l : Nat} (r : List Nat) (h : n = 0) : scanNums (n :: r) f l = scanNums r f l:=by conv => lhs; unfold scanNums; rw [if_pos h]
theorem scanNums_first {n f l : Nat} (r : List Nat) (h : n ≠ 0) (hf : f = 0) : scanNums (n :: r) f l = scanNums r n n:=by conv => lhs; unfold scanNums; rw [if_neg h,if_pos hf]
theorem scanNums_gap {n f l : Nat} (r : List Nat) (h : n ≠ 0) (hf : f ≠ 0) (hg : n ≠ l + 1) : scanNums (n :: r) f l = none:=by conv => lhs; unfold scanNums; rw [if_neg h,if_neg hf,if_pos hg]
theorem scanNums_next {n f l : Nat} (r : List Nat) (h : n ≠ 0) (hf : f ≠ 0) (hg : n = l + 1) : scanNums (n :: r) f l = scanNums r f n:=by conv => lhs; unfold scanNums; rw [if_neg h,if_neg hf,if_neg (by omega)]
set_option maxHeartbeats 8000000 in
theorem w_openN (h : Hd w0 w fb F k S) (hk : k < 920000) (dir : ByteArray) (hdir : dir.size ≤ 1000) (size : Int) :
 Calls Tryz.prog 68 #[.pointer (some ⟨fb,0,none⟩),.string dir,.int .i64 size] w (OpenPost w0 w fb S (k + 3) (openL F dir size)):=by
 have H:=hid h
 have HKK:=hid hk
 clear h hk
 go_enter Tryz.func68,Tryz.ntmps68
 go_wp2_with (fail)
 refine (w_name w dir (by omega) 1 (by omega)).mono ?_
 rintro e w1 ⟨rfl,hb1⟩
 have HB1:=hid hb1
 clear hb1
 go_wp2_with (fail)
 refine (f_valid w1 (segName dir 1)).mono ?_
 rintro e w2 ⟨rfl,hb2⟩
 have HB2 : Hid (Below w.heap.size w w2):=hid (HB1.out.trans (hb2.mono HB1.out.size))
 clear hb2
 cases hok : okName (segName dir 1) with
 | false =>
   have HP : Hid (OpenPost w0 w fb S (k + 3) (openL F dir size) (.returned (.tuple #[.pointer none,.slice none 0 0,.int .i64 1])) w2):=hid (OpenPost.fail H.out HB2.out (by omega) (by unfold openL; rw [if_pos hok]) (by unfold openL; rw [if_pos hok]) (by omega))
   clear hok
   go_wp2_with (fail)
   go_ret3
   exact HP.out
 | true =>
   have HOK:=hid hok
   clear hok
   by_cases h16 : size < 16
   ·have HP : Hid (OpenPost w0 w fb S (k + 3) (openL F dir size) (.returned (.tuple #[.pointer none,.slice none 0 0,.int .i64 6])) w2):=hid (OpenPost.fail H.out HB2.out (by omega) (by unfold openL; rw [if_neg (by simp [HOK.out]),if_pos (.inl h16)]) (by unfold openL; rw [if_neg (by simp [HOK.out]),if_pos (.inl h16)]) (by omega))
    go_wp2_with (fail)
    go_ret3
    exact HP.out
   by_cases h20 : (1048576 : Int) < size
   ·have HP : Hid (OpenPost w0 w fb S (k + 3) (openL F dir size) (.returned (.tuple #[.pointer none,.slice none 0 0,.int .i64 6])) w2):=hid (OpenPost.fail H.out HB2.out (by omega) (by unfold openL; rw [if_neg (by simp [HOK.out]),if_pos (.inr h20)]) (by unfold openL; rw [if_neg (by simp [HOK.out]),if_pos (.inr h20)]) (by omega))
    go_wp2_with (fail)
    go_ret3
    exact HP.out
   have HSZ : Hid (¬ (size < 16 ∨ 1048576 < size)):=hid (by omega)
   have hs1 : (16 : Int) ≤ size:=by omega
   have hs2 : size ≤ 1048576:=by omega
   go_wp2_with (fail)
   refine (d_down (H.out.read HB2.out)).mono ?_
   rintro e w3 ⟨rfl,rfl⟩
   cases hdn : F.down with
   | true =>
     have HP : Hid (OpenPost w0 w fb S (k + 3) (openL F dir size) (.returned (.tuple #[.pointer none,.slice none 0 0,.int .i64 5])) w2):=hid (OpenPost.fail H.out HB2.out (by omega) (by unfold openL; rw [if_neg (by simp [HOK.out]),if_neg HSZ.out,if_pos hdn]) (by unfold openL; rw [if_neg (by simp [HOK.out]),if_neg HSZ.out,if_pos hdn]) (by omega))
     clear hdn
     go_wp2_with (fail)
     go_ret3
     exact HP.out
   | false =>
     have HDN:=hid hdn
     clear hdn h16 h20
     have he:=dirOf_add dir
     have hal : Below w2.heap.size w2 (w2.alloc (.cells (logCells fb ⟨dir,size,0,0,0,false⟩) 165)):=(Below.refl _ _).alloc (Nat.le_refl _) _
     have hL0 : Lg w0 (w2.alloc (.cells (logCells fb ⟨dir,size,0,0,0,false⟩) 165)) fb F k S w2.heap.size ⟨dir,size,0,0,0,false⟩:=⟨(H.out.read HB2.out).read hal,⟨blk_new w2 _,fun e => by have:=H.out.fs.lt _ e; have:=HB2.out.size; omega,by have:=H.out.below.size; have:=HB2.out.size; omega⟩⟩
     have HL0:=hid hL0
     have HAL:=hid hal
     have hn0 : (logCells fb ⟨dir,size,0,0,0,false⟩) = #[.pointer (some ⟨fb,0,none⟩),.string dir,.int .i64 size,.int .i64 0,.int .i64 0,.int .i64 0,.bool false]:=rfl
     rw [hn0] at HL0 HAL
     clear hal hL0 hn0
     go_wp2_with (fail)
     obtain ⟨W3,hW3⟩ : ∃ W3,W3 = w2.alloc (.cells #[.pointer (some ⟨fb,0,none⟩),.string dir,.int .i64 size,.int .i64 0,.int .i64 0,.int .i64 0,.bool false] 165):=⟨_,rfl⟩
     rw [← hW3] at HL0 HAL ⊢
     have HZ3 : Hid (W3.heap.size = w2.heap.size + 1):=hid (by rw [hW3]; simp)
     obtain ⟨lb,hlb⟩ : ∃ lb,lb = w2.heap.size:=⟨_,rfl⟩
     rw [← hlb] at HL0 ⊢
     have HLB:=hid hlb
     clear hW3 hlb he
     refine (s_names HL0.out.hd.fs HL0.out.hd.ok (dirOf dir)).mono ?_
     rintro e w4 ⟨na,nc,rfl,ht⟩
     have hN : (namesL (dirOf dir) F.files).length ≤ 400:=by
      have:=HL0.out.hd.ok.few
      unfold namesL
      rw [List.length_map]
      exact Nat.le_trans (List.length_filter_le _ _) this
     have HI : Hid (OpI w0 w2 w2 fb F k S lb dir size (.slice na (namesL (dirOf dir) F.files).length nc) 0 0 0 w4):=hid ⟨⟨HL0.out.below ht.below,ht.sl,HAL.out.trans (ht.below.mono HAL.out.size)⟩,rfl,by omega⟩
     clear ht
     obtain ⟨N,hNe⟩ : ∃ N,N = (namesL (dirOf dir) F.files).length:=⟨_,rfl⟩
     rw [← hNe] at HI hN ⊢
     have HNE:=hid hNe
     have hN2 : (N : Int) ≤ 400:=by omega
     have HN400 : Hid (N ≤ 400):=hid hN
     have HLBW : Hid (w2.heap.size ≤ lb):=hid (by have:=HLB.out; omega)
     clear hNe hN
     go_wp2_with (fail)
     go_loopw [41] (fun i wr => ∃ j : Nat,j ≤ N ∧ i = .int .i64 (j : Int) ∧ Hid (∃ f l,(f = 0 → l = 0) ∧ OpI w0 w2 w2 fb F k S lb dir size (.slice na N nc) j f l wr)) (fun i _ => N - (intOf i).toNat)
     case atStart => exact ⟨0,Nat.zero_le _,rfl,hid ⟨0,0,fun _ => rfl,HI.out⟩⟩
     case round =>
      obtain ⟨j,hj,rfl,HX⟩:=hrel
      obtain ⟨f,l,hfl,hO⟩:=HX.out
      have HO:=hid hO
      have HFL:=hid hfl
      have c3 : wr.cell? ⟨lb,3,none⟩ = some (.int .i64 (f : Int)):=hO.lg.cells.c3
      have c4 : wr.cell? ⟨lb,4,none⟩ = some (.int .i64 (l : Int)):=hO.lg.cells.c4
      have z3 : wr.frozen? ⟨lb,3,none⟩ = false:=hO.lg.free 3
      have z4 : wr.frozen? ⟨lb,4,none⟩ = false:=hO.lg.free 4
      clear hO hfl
      by_cases hlt : j < N
      ·obtain ⟨nm,hnm⟩ : ∃ nm,(namesL (dirOf dir) F.files)[j]? = some nm:=⟨_,List.getElem?_eq_getElem (by rw [← HNE.out]; exact hlt)⟩
       obtain ⟨g,off,hga,hcn⟩:=text_cell HO.out.names.rd rfl hnm
       subst hga
       have hdr : (segNums F dir).drop j = segNum dir nm :: (segNums F dir).drop (j + 1):=by
        have : (segNums F dir)[j]? = some (segNum dir nm):=by unfold segNums; rw [List.getElem?_map,hnm]; rfl
        rw [List.drop_eq_getElem_cons (List.getElem?_eq_some_iff.1 this).1,(List.getElem?_eq_some_iff.1 this).2]
       obtain ⟨n,hn⟩ : ∃ n,n = segNum dir nm:=⟨_,rfl⟩
       rw [← hn] at hdr
       have HNL : Hid (n < 100000000):=hid (by rw [hn]; exact segNum_lt dir nm)
       have HDR:=hid hdr
       have HN:=hid hn
       have HBD : Hid (l < 100000000):=hid HO.out.bd
       have hk0 : (0 : Int) ≤ (j : Int):=by omega
       have hk1 : (j : Int) < (N : Int):=by omega
       clear hdr hn hnm
       go_wp2_with (fail)
       refine (w_number wr dir nm (by omega)).mono ?_
       rw [← HN.out]
       rintro e w' ⟨rfl,rfl⟩
       by_cases hz : n = 0
       ·have HNX : Hid (∃ f l,(f = 0 → l = 0) ∧ OpI w0 w2 w2 fb F k S lb dir size (.slice (some ⟨g,off,none⟩) N nc) (j + 1) f l wr):=hid ⟨f,l,HFL.out,HO.out.toOpW,by rw [HO.out.same,HDR.out]; exact scanNums_zero _ hz,HO.out.bd⟩
        rw [hz]
        clear hz
        go_wp2_with (fail)
        go_roundw
        case rel => exact ⟨j + 1,by omega,by go_num,HNX⟩
        case measure => simp [intOf]; omega
       have hz1 : ((n : Int) == 0) = false:=beq_eq_false_iff_ne.2 (by omega)
       by_cases hf0 : f = 0
       ·have HNX : Hid (∃ f l,(f = 0 → l = 0) ∧ OpI w0 w2 w2 fb F k S lb dir size (.slice (some ⟨g,off,none⟩) N nc) (j + 1) f l ((wr.setCell ⟨lb,3,none⟩ (.int .i64 (n : Int))).setCell ⟨lb,4,none⟩ (.int .i64 (n : Int)))):=hid (by
         exact ⟨n,n,fun e => e,(HO.out.toOpW.set (f':=n) (l':=l) HLBW.out rfl).set (f':=n) (l':=n) HLBW.out rfl,by rw [HO.out.same,HDR.out]; exact scanNums_first _ hz hf0,HNL.out⟩)
        rw [hf0] at c3
        clear hz hf0
        go_wp2_with (fail)
        go_roundw
        case rel => exact ⟨j + 1,by omega,by go_num,HNX⟩
        case measure => simp [intOf]; omega
       ·have hf1 : ((f : Int) == 0) = false:=beq_eq_false_iff_ne.2 (by omega)
        have hw1 : wrap64 ((l : Int) + 1) = (l : Int) + 1:=IntWalk.wrap64_in _ (by have:=HBD.out; omega)
        by_cases hg : n = l + 1
        ·have HNX : Hid (∃ f l,(f = 0 → l = 0) ∧ OpI w0 w2 w2 fb F k S lb dir size (.slice (some ⟨g,off,none⟩) N nc) (j + 1) f l (wr.setCell ⟨lb,4,none⟩ (.int .i64 (n : Int)))):=hid
           ⟨f,n,fun e => absurd e hf0,HO.out.toOpW.set (f':=f) (l':=n) HLBW.out rfl,by rw [HO.out.same,HDR.out]; exact scanNums_next _ hz hf0 hg,HNL.out⟩
         have hg1 : ((n : Int) != (l : Int) + 1) = false:=by rw [hg]; simp
         clear hz hf0 hg
         go_wp2_with (fail)
         go_roundw
         case rel => exact ⟨j + 1,by omega,by go_num,HNX⟩
         case measure => simp [intOf]; omega
        ·have HSN : Hid (scanNums (segNums F dir) 0 0 = none):=hid (by rw [HO.out.same,HDR.out]; exact scanNums_gap _ hz hf0 hg)
         have hg1 : ((n : Int) != (l : Int) + 1) = true:=by rw [bne_iff_ne]; omega
         have HOL : Hid (openL F dir size = (F,⟨dir,size,0,0,0,false⟩,[],14)):=hid (by unfold openL; rw [if_neg (by simp [HOK.out]),if_neg HSZ.out,if_neg (by simp [HDN.out]),HSN.out])
         have HP : Hid (OpenPost w0 w fb S (k + 3) (openL F dir size) (.returned (.tuple #[.pointer none,.slice none 0 0,.int .i64 14])) wr):=hid (OpenPost.fail H.out (HB2.out.trans (HO.out.keeps.mono HB2.out.size)) (by omega) (by rw [HOL.out]) (by rw [HOL.out]) (by omega))
         clear hz hf0 hg
         go_wp2_with (fail)
         go_ret3
         exact HP.out
      ·obtain rfl : j = N:=by omega
       have hk1 : ¬ ((j : Int) < (j : Int)):=by omega
       have hds : scanNums (segNums F dir) 0 0 = some (f,l):=by
        rw [HO.out.same,List.drop_of_length_le (by unfold segNums; rw [List.length_map,← HNE.out]; exact Nat.le_refl _)]; rfl
       have HDS:=hid hds
       have HBN:=hid (scanNums_bound (segNums F dir) 0 0 (fun n hn => by
        unfold segNums at hn
        obtain ⟨x,_,rfl⟩:=List.mem_map.1 hn
        exact segNum_lt dir x) (fun _ => rfl) (Nat.le_refl _) (by omega) f l hds)
       have HNS : Hid ((segNums F dir).length ≤ 400):=hid (by unfold segNums; rw [List.length_map,← HNE.out]; exact HN400.out)
       clear hds
       by_cases hf0 : f = 0
       ·have hl0 : l = 0:=HFL.out hf0
        have hO1:=(HO.out.toOpW.set (f':=1) (l':=l) (i:=3) (u:=.int .i64 1) HLBW.out rfl).set (f':=1) (l':=1) (i:=4) (u:=.int .i64 1) HLBW.out rfl
        have HO1:=hid hO1
        rw [hf0] at c3
        have HF0:=hid hf0
        clear hf0 hl0 hO1
        go_wp2_with (fail)
        obtain ⟨W5,hW5⟩ : ∃ W5,W5 = (wr.setCell ⟨lb,3,none⟩ (.int .i64 1)).setCell ⟨lb,4,none⟩ (.int .i64 1):=⟨_,rfl⟩
        rw [← hW5] at HO1 ⊢
        clear hW5
        have c0 : W5.cell? ⟨lb,0,none⟩ = some (.pointer (some ⟨fb,0,none⟩)):=HO1.out.lg.cells.c0
        refine (w_name W5 dir (by omega) 1 (by omega)).mono ?_
        rintro e w6 ⟨rfl,hb6⟩
        have HL6 : Hid (Lg w0 w6 fb F k S lb ⟨dir,size,1,1,0,false⟩):=hid (HO1.out.lg.below hb6)
        have HB6 : Hid (Below w.heap.size w w6):=hid (HB2.out.trans ((HO1.out.keeps.trans (hb6.mono HO1.out.keeps.size)).mono HB2.out.size))
        clear hb6 c0 c3 c4 z3 z4
        have c0 : w6.cell? ⟨lb,0,none⟩ = some (.pointer (some ⟨fb,0,none⟩)):=HL6.out.cells.c0
        go_wp2_with (fail)
        obtain ⟨mb6,rs6,hf6⟩:=HL6.out.hd.fs
        refine (f_create hf6 HL6.out.hd.ok (by have:=HKK.out; omega) (segName dir 1)).mono ?_
        obtain ⟨G,hG⟩ : ∃ G,G = F.create (segName dir 1):=⟨_,rfl⟩
        rw [← hG]
        rintro e w7 ⟨rfl,hp7⟩
        have HGD:=hid hG
        have hok7 : FsOk G.1 (k + 1):=by rw [hG]; exact HL6.out.hd.ok.create _
        have h7:=HL6.out.op hp7 hok7
        have HL7:=hid h7.1
        have hO : openL F dir size = if G.2 = 0 then openR G.1 dir size 1 1 else (G.1,⟨dir,size,1,1,0,false⟩,[],G.2):=by
         unfold openL
         rw [if_neg (by simp [HOK.out]),if_neg HSZ.out,if_neg (by simp [HDN.out]),HDS.out]
         dsimp only
         rw [if_pos HF0.out,← hG]
        have HOL:=hid hO
        have HK7 : Hid (Keeps S w w7):=hid (((Keeps.of_below HB6.out).mono (fun _ _ e => e.elim)).trans h7.2 (fun _ _ e => e))
        have HK67:=hid h7.2
        clear hG hp7 hok7 h7 c0 hO hf6
        by_cases hr : G.2 = 0
        ·have HOL2 : Hid (openL F dir size = openR G.1 dir size 1 1):=hid (by rw [HOL.out,if_pos hr])
         rw [hr]
         have HUG : Hid (G.1.used ≤ 67108864):=hid (by rw [HGD.out]; exact Int.le_trans (create_used F _) (Int.le_trans H.out.ok.fits H.out.ok.room1))
         clear hr
         go_wp2_with (fail)
         refine (w_readN HL7.out (by have:=HKK.out; omega) (by dsimp only; omega) (by dsimp only; omega) (by dsimp only; omega)).mono ?_
         rintro e w8 ⟨v,rfl,hx,hv⟩
         dsimp only at hx hv ⊢
         have HX5:=hid hx
         have HV:=hid hv
         clear hx hv
         have hLBW : w.heap.size ≤ lb:=by have:=HB2.out.size; have:=HLBW.out; omega
         have hHT : ∀ i,New w6 w7 S i → S i ∨ w.heap.size ≤ i:=fun i e => by
          rcases e with e | e
          ·exact .inl e
          ·have:=HB6.out.size; have:=e.1; exact .inr (by omega)
         obtain ⟨R,hR⟩ : ∃ R,R = readF dir 1 (1 + 1 - 1) 1 G.1 0 []:=⟨_,rfl⟩
         rw [← hR] at HX5 HV ⊢
         have HRR:=hid hR
         have HLB2:=hid hLBW
         have HT2:=hid hHT
         clear hR hLBW hHT
         by_cases hr : R.2.2.2 = 0
         ·have hr1 : (R.2.2.2 == 0) = true:=by rw [hr]; rfl
          have HP : Hid (OpenPost w0 w fb S (k + 3) (openL F dir size) (.returned (.tuple #[.pointer (some ⟨lb,0,none⟩),v,.int .i64 0])) w8):=hid
            (OpenPost.good HX5.out HT2.out HK7.out HLB2.out (by rw [HOL2.out]; unfold openR; rw [← HRR.out,hr]) (by omega) HV.out.2)
          rw [hr]
          clear hr hr1
          go_wp2_with (fail)
          go_ret3
          exact HP.out
         ·have hr1 : (R.2.2.2 != 0) = true:=by rw [bne_iff_ne]; exact hr
          have HP : Hid (OpenPost w0 w fb S (k + 3) (openL F dir size) (.returned (.tuple #[.pointer none,.slice none 0 0,.int .i64 R.2.2.2])) w8):=hid
            (OpenPost.bad (L3:=⟨dir,size,1,1,R.2.1,false⟩) (qs:=R.2.2.1) HX5.out HT2.out HK7.out HLB2.out hr (by rw [HOL2.out]; unfold openR; rw [← HRR.out]) (by omega))
          clear hr
          go_wp2_with (fail)
          go_ret3
          exact HP.out
        ·have hr1 : (G.2 != 0) = true:=by rw [bne_iff_ne]; exact hr
         have HP : Hid (OpenPost w0 w fb S (k + 3) (openL F dir size) (.returned (.tuple #[.pointer none,.slice none 0 0,.int .i64 G.2])) w7):=hid
           (OpenPost.bad (L3:=⟨dir,size,1,1,0,false⟩) (qs:=[]) (W:=w6) (T:=S) (LgX.nil HL7.out (fun i e => e.elim .inl (fun e => .inr e.1)) (HK67.out.mono (fun _ _ e => .inl e))) (fun i e => .inl e) ((Keeps.of_below HB6.out).mono (fun _ _ e => e.elim)) (by have:=HB2.out.size; have:=HLBW.out; omega) hr (by rw [HOL.out,if_neg hr]) (by omega))
         clear hr
         go_wp2_with (fail)
         go_ret3
         exact HP.out
       ·have hf1 : ((f : Int) == 0) = false:=beq_eq_false_iff_ne.2 (by omega)
        have hR : ∃ R,R = openL F dir size:=⟨_,rfl⟩
        have HOL : Hid (openL F dir size = openR F dir size f l):=hid (by
         unfold openL
         rw [if_neg (by simp [HOK.out]),if_neg HSZ.out,if_neg (by simp [HDN.out]),HDS.out]
         dsimp only
         rw [if_neg hf0])
        have HKW : Hid (Keeps S w wr):=hid ((Keeps.of_below (HB2.out.trans (HO.out.keeps.mono HB2.out.size))).mono (fun _ _ e => e.elim))
        clear hf0 hR
        go_wp2_with (fail)
        refine (w_readN HO.out.lg (by have:=HKK.out; omega) (by dsimp only; omega) HBN.out.2.1 HBN.out.1).mono ?_
        rintro e w5 ⟨v,rfl,hx,hv⟩
        dsimp only at hx hv ⊢
        have HX5:=hid hx
        have HV:=hid hv
        clear hx hv
        obtain ⟨R,hR⟩ : ∃ R,R = readF dir l (l + 1 - f) f F 0 []:=⟨_,rfl⟩
        rw [← hR] at HX5 HV ⊢
        have HRR:=hid hR
        clear hR
        by_cases hr : R.2.2.2 = 0
        ·have hr1 : (R.2.2.2 == 0) = true:=by rw [hr]; rfl
         have HP : Hid (OpenPost w0 w fb S (k + 3) (openL F dir size) (.returned (.tuple #[.pointer (some ⟨lb,0,none⟩),v,.int .i64 0])) w5):=hid
           (OpenPost.good HX5.out (fun i e => .inl e) HKW.out (by have:=HB2.out.size; have:=HLBW.out; omega) (by rw [HOL.out]; unfold openR; rw [← HRR.out,hr]) (by omega) HV.out.2)
         rw [hr]
         clear hr hr1
         go_wp2_with (fail)
         go_ret3
         exact HP.out
        ·have hr1 : (R.2.2.2 != 0) = true:=by rw [bne_iff_ne]; exact hr
         have HP : Hid (OpenPost w0 w fb S (k + 3) (openL F dir size) (.returned (.tuple #[.pointer none,.slice none 0 0,.int .i64 R.2.2.2])) w5):=hid
           (OpenPost.bad (L3:=⟨dir,size,f,l,R.2.1,false⟩) (qs:=R.2.2.1) HX5.out (fun i e => .inl e) HKW.out (by have:=HB2.out.size; have:=HLBW.out; omega) hr (by rw [HOL.out]; unfold openR; rw [← HRR.out]) (by omega))
         clear hr
         go_wp2_with (fail)
         go_ret3
         exact HP.out
end
end Go.Proofs.YtagdchgkjjpacaaGreat
