/- The walk of Append. -/
import Derived.Test.YtagdchgkjjpacaaGreatr20
set_option maxRecDepth 100000
open Go.Lib (hid)
namespace Go.Proofs.YtagdchgkjjpacaaGreat
open Go.RowKit Go.Shelf
section
variable {w0 w w' W W1 W2 W3 : World} {fb k k' lb : Nat} {F G : FsS} {S : Nat → Prop} {L : LogS}
def writeR (L : LogS) (F : FsS) (p : List UInt8) : FsS × Int:=twoRes (F.append (segName L.dir L.last) (frameOf p)) ((F.append (segName L.dir L.last) (frameOf p)).1.sync (segName L.dir L.last))
def writeL (L : LogS) (F : FsS) (p : List UInt8) : LogS × FsS × Int:=(L.after (writeR L F p).2,(writeR L F p).1,(writeR L F p).2)
def sizeOf_ (o : Option FileS) : Int:=match o with | none => 0 | some x => (x.data.length : Int)
def appendL (L : LogS) (F : FsS) (p : List UInt8) : LogS × FsS × Int :=
 if L.stuck = true then (L,F,25) else if 1048576 < p.length then (L,F,8) else
  if L.size ≤ sizeOf_ (F.find (segName L.dir L.last)) then (if (rotateL L F).2.2 = 0 then writeL (rotateL L F).1 (rotateL L F).2.1 p else rotateL L F) else writeL L F p
theorem append_tail (h : Lg w0 W fb F k S lb L) (hk : k < 950000) {bl bp : Nat} {a : Option Addr} {cap : Nat} {p : List UInt8} (hbl : BoxAt S W bl (.pointer (some ⟨lb,0,none⟩)) 112) (hbp : BoxAt S W bp (.slice a p.length cap) 23)
 (hu : RdAt byteKind W (.slice a p.length cap) p) (hp : p.length ≤ 10000000) {bn : Nat} (hb : Below W.heap.size W W3) (hbn : IsBlk W3 bn #[.string (segName L.dir L.last)] 9) (hn : W.heap.size ≤ bn) :
 Calls Tryz.prog 110 #[.pointer (some ⟨lb,0,none⟩),.slice (some ⟨W3.heap.size,0,none⟩) 2 2] (W3.alloc (.cells #[.func (.func 113) #[] #[.pointer (some ⟨bl,0,none⟩),.pointer (some ⟨bn,0,none⟩),.pointer (some ⟨bp,0,none⟩)],.func (.func 114) #[] #[.pointer (some ⟨bl,0,none⟩),.pointer (some ⟨bn,0,none⟩)]] 55))
   fun e w' => e = .returned (.int .i64 (writeL L F p).2.2) ∧ LPost w0 W fb S lb (writeL L F p).2.1 (k + 1 + 1) (writeL L F p).1 w':=by
 have eg1:=enters_of Tryz.func113 (P:=Tryz.prog) (by kernel_rfl) rfl
 have eg2:=enters_of Tryz.func114 (P:=Tryz.prog) (by kernel_rfl) rfl
 have hal : Below W3.heap.size W3 (W3.alloc (.cells #[.func (.func 113) #[] #[.pointer (some ⟨bl,0,none⟩),.pointer (some ⟨bn,0,none⟩),.pointer (some ⟨bp,0,none⟩)],.func (.func 114) #[] #[.pointer (some ⟨bl,0,none⟩),.pointer (some ⟨bn,0,none⟩)]] 55)):=(Below.refl _ _).alloc (Nat.le_refl _) _
 have hab:=blk_new W3 (.cells #[.func (.func 113) #[] #[.pointer (some ⟨bl,0,none⟩),.pointer (some ⟨bn,0,none⟩),.pointer (some ⟨bp,0,none⟩)],.func (.func 114) #[] #[.pointer (some ⟨bl,0,none⟩),.pointer (some ⟨bn,0,none⟩)]] 55)
 generalize W3.alloc (.cells #[.func (.func 113) #[] #[.pointer (some ⟨bl,0,none⟩),.pointer (some ⟨bn,0,none⟩),.pointer (some ⟨bp,0,none⟩)],.func (.func 114) #[] #[.pointer (some ⟨bl,0,none⟩),.pointer (some ⟨bn,0,none⟩)]] 55) = W4 at hal hab ⊢
 have hb4 : Below W.heap.size W W4:=hb.trans (hal.mono hb.size)
 have hbn4 : IsBlk W4 bn #[.string (segName L.dir L.last)] 9:=(hal.block _ (lt_of_block hbn)).trans hbn
 have nS : ∀ i,W.heap.size ≤ i → ¬ S i:=fun i hi e => by have:=h.hd.fs.lt i e; omega
 have B1 : BoxAt S W4 bl (.pointer (some ⟨lb,0,none⟩)) 112:=hbl.below hb4
 have B2 : BoxAt S W4 bn (.string (segName L.dir L.last)) 9:=⟨hbn4,nS bn hn⟩
 have B3 : BoxAt S W4 bp (.slice a p.length cap) 23:=hbp.below hb4
 exact does_two h hb4 (f1:=⟨113,#[.pointer (some ⟨bl,0,none⟩),.pointer (some ⟨bn,0,none⟩),.pointer (some ⟨bp,0,none⟩)]⟩) (f2:=⟨114,#[.pointer (some ⟨bl,0,none⟩),.pointer (some ⟨bn,0,none⟩)]⟩) hab (nS _ hb.size) eg1 eg2
   (F.append (segName L.dir L.last) (frameOf p)) ((F.append (segName L.dir L.last) (frameOf p)).1.sync (segName L.dir L.last))
   (q_append1 (h.below hb4) (by omega) B1 B2 B3 (hu.below hb4) hp)
   (fun W' _ h1 hk1 => q_append2 h1 (by omega) ⟨B1.keep hk1,fun e => by rcases e with e | e; exact B1.out e; have:=lt_of_block B1.blk; omega⟩ ⟨B2.keep hk1,fun e => by rcases e with e | e; exact B2.out e; have:=lt_of_block B2.blk; omega⟩)
structure LPostBase (w a b : World) (S : Nat → Prop) (lb : Nat) : Prop where
 start : Below w.heap.size w a
 keeps : Keeps (fun i => S i ∨ i = lb) a b
theorem LPost.base0 {a w' : World} {L' : LogS} (h : LPost w0 a fb S lb G k L' w') (h0 : Lg w0 w fb F k' S lb L) (hb : Below w.heap.size w a) {k2 : Nat} (hk : k ≤ k2) : LPost w0 w fb S lb G k2 L' w':=by
 have hz:=h.keeps.size
 have h1:=h.lg.mono (T:=New w w' S) (fun i e => by
  rcases e with e | e
  ·exact .inl e
  ·exact .inr ⟨by have:=hb.size; omega,e.2⟩) (new_lt h0.hd.fs.lt (Nat.le_trans hb.size hz)) (fun i e => by
  rcases e with e | e
  ·exact h0.hd.low i e
  ·have:=h0.hd.below.size; omega) (fun e => by
  rcases e with e | e
  ·exact h0.log.out e
  ·have:=h0.lt; omega)
 exact ⟨⟨⟨h1.hd.fs,h1.hd.low,h1.hd.below,h1.hd.ok.mono hk⟩,h1.log⟩,((Keeps.of_below hb).mono (fun _ _ e => e.elim)).trans' h.keeps⟩
theorem LPost.base {a b w' : World} {T : Nat → Prop} {L' : LogS} (h : LPost w0 b fb T lb G k L' w') (h0 : Lg w0 w fb F k' S lb L) (hb : LPostBase w a b S lb) {k2 : Nat} (hk : k ≤ k2) (hT : ∀ i,T i → S i ∨ a.heap.size ≤ i:=by first | exact fun i e => .inl e | exact fun i e => e.elim .inl (fun q => .inr q.1)) : LPost w0 w fb S lb G k2 L' w':=by
 have z1:=hb.start.size
 have z2:=hb.keeps.size
 have z3:=h.keeps.size
 have h1:=h.lg.mono (T:=New w w' S) (fun i e => by
  rcases e with e | e
  ·rcases hT i e with e2 | e2
   ·exact .inl e2
   ·exact .inr ⟨by omega,h.lg.hd.fs.lt i (.inl e)⟩
  ·exact .inr ⟨by omega,e.2⟩) (new_lt h0.hd.fs.lt (by omega)) (fun i e => by
  rcases e with e | e
  ·exact h0.hd.low i e
  ·have:=h0.hd.below.size; omega) (fun e => by
  rcases e with e | e
  ·exact h0.log.out e
  ·have:=h0.lt; omega)
 refine ⟨⟨⟨h1.hd.fs,h1.hd.low,h1.hd.below,h1.hd.ok.mono hk⟩,h1.log⟩,?_⟩
 have k1 : Keeps (fun i => S i ∨ i = lb) w b:=((Keeps.of_below hb.start).mono (fun _ _ e => e.elim)).trans' hb.keeps
 refine k1.trans h.keeps (fun i hi e => ?_)
 rcases e with e | e
 ·rcases hT i e with e2 | e2
  ·exact .inl e2
  ·omega
 ·exact .inr e
theorem rotateL_dir (L : LogS) (F : FsS) : (rotateL L F).1.dir = L.dir ∧ ((rotateL L F).2.2 = 0 → (rotateL L F).1.last = L.last + 1):=by
 unfold rotateL
 split
 ·exact ⟨rfl,fun h => by simp at h⟩
 ·split
  ·exact ⟨rfl,fun h => by simp at h⟩
  ·split
   ·exact ⟨rfl,fun _ => rfl⟩
   ·rename_i h
    exact ⟨rfl,fun h2 => absurd h2 h⟩
set_option maxHeartbeats 4000000 in
theorem w_append (h : Lg w0 w fb F k S lb L) (hk : k < 930000) (hdir : L.dir.size ≤ 100000) (hlast : L.last < 99999999) {a : Option Addr} {cap : Nat} {p : List UInt8} (hu : RdAt byteKind w (.slice a p.length cap) p) (ho : ∀ g,(Value.slice a p.length cap).ownBlock = some g → p ≠ [] → ¬ S g ∧ g ≠ lb) (hp : p.length ≤ 10000000) :
 Calls Tryz.prog 74 #[.pointer (some ⟨lb,0,none⟩),.slice a p.length cap] w fun e w' => e = .returned (.int .i64 (appendL L F p).2.2) ∧ LPost w0 w fb S lb (appendL L F p).2.1 (k + 3) (appendL L F p).1 w':=by
 have H:=hid h
 obtain ⟨a1,a2,a3,a4⟩:=alloc2 w (.cells #[.pointer (some ⟨lb,0,none⟩)] 112) (.cells #[.slice a p.length cap] 23)
 have HA:=hid (And.intro a1 (And.intro a2 (And.intro a3 a4)))
 have hlt:=h.lt
 have hz:=a4
 have h2:=h.below a1
 have cc:=h2.cells
 have c0:=cc.c0
 have c1:=cc.c1
 have c2:=cc.c2
 have c4:=cc.c4
 have c6:=cc.c6
 have cl : ((w.alloc (.cells #[.pointer (some ⟨lb,0,none⟩)] 112)).alloc (.cells #[.slice a p.length cap] 23)).cell? ⟨w.heap.size,0,none⟩ = some (.pointer (some ⟨lb,0,none⟩)):=blk_cell a2 0
 have cp : ((w.alloc (.cells #[.pointer (some ⟨lb,0,none⟩)] 112)).alloc (.cells #[.slice a p.length cap] 23)).cell? ⟨w.heap.size + 1,0,none⟩ = some (.slice a p.length cap):=blk_cell a3 0
 cases hst : L.stuck with
 | true =>
   have hr : Hid (appendL L F p = (L,F,25)):=hid (by unfold appendL; rw [if_pos hst])
   rw [hst] at c6
   clear h h2 hst a1 a2 a3 a4 hz cc
   go_enter Tryz.func74,Tryz.ntmps74
   go_wp2_with (fail)
   go_ret
   rw [hr.out]
   exact ⟨rfl,H.out.same HA.out.1 (by omega)⟩
 | false =>
   rw [hst] at c6
   by_cases hbig : (1048576 : Int) < (p.length : Int)
   ·have hr : Hid (appendL L F p = (L,F,8)):=hid (by unfold appendL; rw [if_neg (by simp [hst]),if_pos (by omega)])
    clear h h2 hst a1 a2 a3 a4 hz cc
    go_enter Tryz.func74,Tryz.ntmps74
    go_wp2_with (fail)
    go_ret
    rw [hr.out]
    exact ⟨rfl,H.out.same HA.out.1 (by omega)⟩
   ·have HST:=hid hst
    have HBIG : Hid (¬ 1048576 < p.length):=hid (by omega)
    have HU:=hid hu
    have HO:=hid ho
    have HLA:=hid hlast
    have hal:=hid a1
    generalize hW : (w.alloc (.cells #[.pointer (some ⟨lb,0,none⟩)] 112)).alloc (.cells #[.slice a p.length cap] 23) = W at *
    have HWE:=hid hW
    have H2:=hid h2
    obtain ⟨er,her⟩ : ∃ er : Int,sizeRes (F.find (segName L.dir L.last)) = .tuple #[.int .i64 (sizeOf_ (F.find (segName L.dir L.last))),.int .i64 er]:=by
     cases F.find (segName L.dir L.last) with
     | none => exact ⟨2,rfl⟩
     | some x => exact ⟨0,rfl⟩
    have HNM : Hid (∀ W1,Below W.heap.size W W1 → Calls Tryz.prog 64 #[.string L.dir,.int .i64 (L.last : Int)] W1 fun e w2 => e = .returned (.string (segName L.dir L.last)) ∧
        (w2.cell? ⟨w.heap.size,0,none⟩ = some (.pointer (some ⟨lb,0,none⟩)) ∧ w2.cell? ⟨lb,0,none⟩ = some (.pointer (some ⟨fb,0,none⟩)) ∧ w2.cell? ⟨lb,1,none⟩ = some (.string L.dir) ∧ w2.cell? ⟨lb,4,none⟩ = some (.int .i64 (L.last : Int))) ∧ Hid (Below W.heap.size W w2)):=hid fun W1 hW1 =>
      (w_name W1 L.dir hdir L.last (by omega)).mono fun e w2 ⟨he,hb2⟩ => by
        have hb3 : Below W.heap.size W w2:=hW1.trans (hb2.mono hW1.size)
        have hc:=(h2.below hb3).cells
        exact ⟨he,⟨blk_cell ((hb3.block _ (lt_of_block a2)).trans a2) 0,hc.c0,hc.c1,hc.c4⟩,hid hb3⟩
    have HSZ : Hid (∀ W1,Below W.heap.size W W1 → Calls Tryz.prog 28 #[.pointer (some ⟨fb,0,none⟩),.string (segName L.dir L.last)] W1 fun e w2 => e = .returned (.tuple #[.int .i64 (sizeOf_ (F.find (segName L.dir L.last))),.int .i64 er]) ∧ W1 = w2):=hid fun W1 hW1 => by
     rw [← her]; exact d_size (h2.hd.read hW1) _
    have hb0 : Below W.heap.size W W.drew:=(Below.refl _ _).drew
    generalize hzz : sizeOf_ (F.find (segName L.dir L.last)) = z at *
    have HZ:=hid hzz
    clear h h2 hst a1 a2 a3 a4 hz hu ho hlast cc her hzz
    go_enter Tryz.func74,Tryz.ntmps74
    go_wp2_with (fail)
    go_region_held3 (fun w' => w'.cell? ⟨w.heap.size,0,none⟩ = some (.pointer (some ⟨lb,0,none⟩)) ∧ w'.cell? ⟨lb,0,none⟩ = some (.pointer (some ⟨fb,0,none⟩)) ∧ w'.cell? ⟨lb,1,none⟩ = some (.string L.dir) ∧ w'.cell? ⟨lb,4,none⟩ = some (.int .i64 (L.last : Int)))
      (first
        | go_keep
        | exact s1)
      (first
        | (go_at_call 64; (with_reducible refine (HNM.out _ ?_).mono ?_); exact hb0; rintro e w2 ⟨rfl,s1,HC⟩)
        | (go_at_call 28; (with_reducible refine (HSZ.out _ HC.out).mono ?_); rintro e w2 ⟨rfl,rfl⟩))
    have HB2 : Hid (Below w.heap.size w w2):=hid (hal.out.trans (HC.out.mono hal.out.size))
    have HL2 : Hid (Lg w0 w2 fb F k S lb L):=hid (H2.out.below HC.out)
    have HBX : Hid (IsBlk w2 w.heap.size #[.pointer (some ⟨lb,0,none⟩)] 112 ∧ IsBlk w2 (w.heap.size + 1) #[.slice a p.length cap] 23):=hid ⟨(HC.out.block _ (lt_of_block HA.out.2.1)).trans HA.out.2.1,(HC.out.block _ (lt_of_block HA.out.2.2.1)).trans HA.out.2.2.1⟩
    have dl : w2.cell? ⟨w.heap.size,0,none⟩ = some (.pointer (some ⟨lb,0,none⟩)):=blk_cell HBX.out.1 0
    have dd:=HL2.out.cells
    have d1:=dd.c1
    have d2:=dd.c2
    have d4:=dd.c4
    clear c0 c1 c2 c4 c6 cl cp hW dd HSZ HNM hb0
    by_cases hsz : L.size ≤ z
    ·have HRO:=hid (w_rotate HL2.out (by omega) hdir)
     have HRD : Hid ((rotateL L F).1.dir = L.dir ∧ ((rotateL L F).2.2 = 0 → (rotateL L F).1.last = L.last + 1)):=hid (rotateL_dir L F)
     have HAP0 : Hid (appendL L F p = if (rotateL L F).2.2 = 0 then writeL (rotateL L F).1 (rotateL L F).2.1 p else rotateL L F):=hid (by unfold appendL; rw [if_neg (by simp [HST.out]),if_neg HBIG.out,if_pos (by rw [HZ.out]; exact hsz)])
     generalize rotateL L F = R at HRO HRD HAP0
     go_wp2_with (fail)
     refine HRO.out.mono ?_
     rintro e w5 ⟨rfl,hp5⟩
     by_cases hr0 : R.2.2 = 0
     ·have HR : Hid (appendL L F p = writeL R.1 R.2.1 p):=hid (by rw [HAP0.out,if_pos hr0])
      have HL5:=hid hp5.lg
      have HBX5 : Hid (IsBlk w5 w.heap.size #[.pointer (some ⟨lb,0,none⟩)] 112 ∧ IsBlk w5 (w.heap.size + 1) #[.slice a p.length cap] 23):=hid ⟨hp5.keeps.obj HBX.out.1 (by rintro (e | e); have:=H.out.hd.fs.lt _ e; omega; omega),hp5.keeps.obj HBX.out.2 (by rintro (e | e); have:=H.out.hd.fs.lt _ e; omega; omega)⟩
      have HUB : Hid (RdAt byteKind w5 (.slice a p.length cap) p):=hid ((HU.out.below HB2.out).keeps' hp5.keeps (fun g hg hne e => by rcases e with e | e; exact (HO.out g hg hne).1 e; exact (HO.out g hg hne).2 e))
      have NS : Hid (¬ New w2 w5 S w.heap.size ∧ ¬ New w2 w5 S (w.heap.size + 1)):=hid ⟨by rintro (e | e); have:=H.out.hd.fs.lt _ e; omega; have:=lt_of_block HBX.out.1; omega,by rintro (e | e); have:=H.out.hd.fs.lt _ e; omega; have:=lt_of_block HBX.out.2; omega⟩
      have HLAST : Hid ((R.1.last : Int) = (L.last : Int) + 1):=hid (by rw [HRD.out.2 hr0]; omega)
      have HDIR : Hid (R.1.dir = L.dir):=hid HRD.out.1
      obtain ⟨nm,hnm⟩ : ∃ nm,nm = segName L.dir (L.last + 1):=⟨_,rfl⟩
      have HNMQ : Hid (segName R.1.dir R.1.last = nm):=hid (by rw [HRD.out.1,HRD.out.2 hr0,hnm])
      have HNAME : Hid (∀ W1,Calls Tryz.prog 64 #[.string L.dir,.int .i64 ((L.last : Int) + 1)] W1 fun e w3 => e = .returned (.string nm) ∧ Below W1.heap.size W1 w3):=hid fun W1 => by rw [hnm]; exact name_last W1 L hdir (L.last + 1) (by have:=HLA.out; omega) _ rfl
      have BASE : Hid (LPostBase w w2 w5 S lb):=hid ⟨HB2.out,hp5.keeps⟩
      have dl5 : w5.cell? ⟨w.heap.size,0,none⟩ = some (.pointer (some ⟨lb,0,none⟩)):=blk_cell HBX5.out.1 0
      have dd:=HL5.out.cells
      have e1:=dd.c1
      have e4:=dd.c4
      rw [HDIR.out] at e1
      rw [HLAST.out] at e4
      rw [hr0]
      clear hp5 dd dl d1 d2 d4 hnm HRO HAP0 hr0 hsz
      have HNM : ∀ W1,Below w5.heap.size w5 W1 → Calls Tryz.prog 64 #[.string L.dir,.int .i64 ((L.last : Int) + 1)] W1 fun e w3 => e = .returned (.string nm) ∧
          (w3.cell? ⟨w.heap.size,0,none⟩ = some (.pointer (some ⟨lb,0,none⟩)) ∧ w3.cell? ⟨lb,1,none⟩ = some (.string L.dir) ∧ w3.cell? ⟨lb,4,none⟩ = some (.int .i64 ((L.last : Int) + 1))) ∧ Hid (Below W1.heap.size W1 w3):=fun W1 hW1 =>
        (HNAME.out W1).mono fun e w3 ⟨he,hb2⟩ => by
          have hb3 : Below w5.heap.size w5 w3:=hW1.trans (hb2.mono hW1.size)
          have hc:=(HL5.out.below hb3).cells
          exact ⟨he,⟨blk_cell ((hb3.block _ (lt_of_block HBX5.out.1)).trans HBX5.out.1) 0,by rw [hc.c1,HDIR.out],by rw [hc.c4,HLAST.out]⟩,hid hb2⟩
      have HN0:=hid (HNM w5.drew (Below.refl _ _).drew)
      have HN1 : Hid (Calls Tryz.prog 64 #[.string L.dir,.int .i64 ((L.last : Int) + 1)] (w5.alloc (.cells #[.string ⟨#[]⟩] 9)).drew fun e w3 => e = .returned (.string nm) ∧
          (w3.cell? ⟨w.heap.size,0,none⟩ = some (.pointer (some ⟨lb,0,none⟩)) ∧ w3.cell? ⟨lb,1,none⟩ = some (.string L.dir) ∧ w3.cell? ⟨lb,4,none⟩ = some (.int .i64 ((L.last : Int) + 1))) ∧
          w3.cell? ⟨w5.heap.size,0,none⟩ = some (.string ⟨#[]⟩) ∧ w3.frozen? ⟨w5.heap.size,0,none⟩ = false ∧ Hid (IsBlk w3 w5.heap.size #[.string ⟨#[]⟩] 9 ∧ Below w5.heap.size w5 w3)):=hid (by
        have hb1 : Below w5.heap.size w5 (w5.alloc (.cells #[.string ⟨#[]⟩] 9)).drew:=((Below.refl _ _).alloc (Nat.le_refl _) _).drew
        refine (HNM _ hb1).mono fun e w3 ⟨he,hs,hb⟩ => ?_
        have hk : IsBlk w3 w5.heap.size #[.string ⟨#[]⟩] 9:=(hb.out.block _ (show _ < (w5.alloc _).heap.size by simp)).trans (blk_new w5 _)
        exact ⟨he,hs,blk_cell hk 0,blk_free hk 0,hid ⟨hk,hb1.trans (hb.out.mono hb1.size)⟩⟩)
      clear HNM
      have n1 : ¬ w5.heap.size = w.heap.size:=by have:=lt_of_block HBX5.out.1; omega
      have n2 : ¬ w5.heap.size = lb:=by have:=HL5.out.lt; omega
      have n3 : ¬ w.heap.size = w5.heap.size:=by omega
      have n4 : ¬ lb = w5.heap.size:=by omega
      go_wp2_with (fail)
      go_region_held3 (fun w' => w'.cell? ⟨w.heap.size,0,none⟩ = some (.pointer (some ⟨lb,0,none⟩)) ∧ w'.cell? ⟨lb,1,none⟩ = some (.string L.dir) ∧ w'.cell? ⟨lb,4,none⟩ = some (.int .i64 ((L.last : Int) + 1)))
        (first
          | go_keep
          | exact s1)
        (first
          | (go_at_call 64; (with_reducible refine HN1.out.mono ?_); rintro e w3 ⟨rfl,s1,cA,zA,HC3⟩)
          | (go_at_call 64; (with_reducible refine HN0.out.mono ?_); rintro e w3 ⟨rfl,s1,HC3⟩; have n5 : ¬ w3.heap.size = w.heap.size:=(by have:=HC3.out.size; have:=lt_of_block HBX5.out.1; simp at *; omega); have n6 : ¬ w3.heap.size = lb:=(by have:=HC3.out.size; have:=HL5.out.lt; simp at *; omega)))
      ·have hb3 : Below w5.heap.size w5 (w3.alloc (.cells #[.string nm] 9)):=((Below.refl w5.heap.size w5).drew.trans HC3.out).alloc HC3.out.size _
       have hbl3:=(hb3.block _ (lt_of_block HBX5.out.1)).trans HBX5.out.1
       have HT:=hid (append_tail HL5.out (by omega) (bl:=w.heap.size) (bp:=w.heap.size + 1) ⟨HBX5.out.1,NS.out.1⟩ ⟨HBX5.out.2,NS.out.2⟩ HUB.out hp hb3 (by rw [HNMQ.out]; exact blk_new w3 _) HC3.out.size)
       have dl3 : (w3.alloc (.cells #[.string nm] 9)).cell? ⟨w.heap.size,0,none⟩ = some (.pointer (some ⟨lb,0,none⟩)):=blk_cell hbl3 0
       generalize w3.alloc (.cells #[.string nm] 9) = W3 at *
       clear hb3 hbl3
       go_wp2_with (fail)
       refine HT.out.mono ?_
       rintro e w4 ⟨rfl,hp4⟩
       have HF:=hid (hp4.base H.out BASE.out (k2:=k + 3) (by omega))
       clear hp4
       go_wp2_with (fail)
       go_ret
       rw [HR.out]
       exact ⟨rfl,HF.out⟩
      ·have hb3 : Below w5.heap.size w5 (w3.setCell ⟨w5.heap.size,0,none⟩ (.string nm)):=HC3.out.2.setCell (p:=⟨w5.heap.size,0,none⟩) (Nat.le_refl _) _
       have hbl3:=(hb3.block _ (lt_of_block HBX5.out.1)).trans HBX5.out.1
       have HT:=hid (append_tail HL5.out (by omega) (bl:=w.heap.size) (bp:=w.heap.size + 1) ⟨HBX5.out.1,NS.out.1⟩ ⟨HBX5.out.2,NS.out.2⟩ HUB.out hp hb3 (by rw [HNMQ.out]; exact blk_set HC3.out.1 0 _) (Nat.le_refl _))
       have dl3 : (w3.setCell ⟨w5.heap.size,0,none⟩ (.string nm)).cell? ⟨w.heap.size,0,none⟩ = some (.pointer (some ⟨lb,0,none⟩)):=blk_cell hbl3 0
       generalize w3.setCell ⟨w5.heap.size,0,none⟩ (.string nm) = W3 at *
       clear hb3 hbl3
       go_wp2_with (fail)
       refine HT.out.mono ?_
       rintro e w4 ⟨rfl,hp4⟩
       have HF:=hid (hp4.base H.out BASE.out (k2:=k + 3) (by omega))
       clear hp4
       go_wp2_with (fail)
       go_ret
       rw [HR.out]
       exact ⟨rfl,HF.out⟩
     ·have HR : Hid (appendL L F p = R):=hid (by rw [HAP0.out,if_neg hr0])
      have hr1 : (R.2.2 != 0) = true:=by rw [bne_iff_ne]; exact hr0
      have HF:=hid (hp5.base0 H.out HB2.out (k2:=k + 3) (by omega))
      clear hp5 HRO HAP0 hr0
      go_wp2_with (fail)
      go_ret
      rw [HR.out]
      exact ⟨rfl,HF.out⟩
    ·have HR : Hid (appendL L F p = writeL L F p):=hid (by unfold appendL; rw [if_neg (by simp [HST.out]),if_neg HBIG.out,if_neg (by rw [HZ.out]; exact hsz)])
     have HUB : Hid (RdAt byteKind w2 (.slice a p.length cap) p):=hid (HU.out.below HB2.out)
     have NS : Hid (¬ S w.heap.size ∧ ¬ S (w.heap.size + 1)):=hid ⟨fun e => by have:=H.out.hd.fs.lt _ e; omega,fun e => by have:=H.out.hd.fs.lt _ e; omega⟩
     have HLAST : Hid ((L.last : Int) = (L.last : Int)):=hid rfl
     have HDIR : Hid (L.dir = L.dir):=hid rfl
     obtain ⟨nm,hnm⟩ : ∃ nm,nm = segName L.dir L.last:=⟨_,rfl⟩
     have HNMQ : Hid (segName L.dir L.last = nm):=hid hnm.symm
     have HNAME : Hid (∀ W1,Calls Tryz.prog 64 #[.string L.dir,.int .i64 (L.last : Int)] W1 fun e w3 => e = .returned (.string nm) ∧ Below W1.heap.size W1 w3):=hid fun W1 => by rw [hnm]; exact w_name W1 L.dir hdir L.last (by have:=HLA.out; omega)
     have BASE : Hid (LPostBase w w2 w2 S lb):=hid ⟨HB2.out,Keeps.refl _ _⟩
     clear hnm
     have HNM : ∀ W1,Below w2.heap.size w2 W1 → Calls Tryz.prog 64 #[.string L.dir,.int .i64 (L.last : Int)] W1 fun e w3 => e = .returned (.string nm) ∧
         (w3.cell? ⟨w.heap.size,0,none⟩ = some (.pointer (some ⟨lb,0,none⟩)) ∧ w3.cell? ⟨lb,1,none⟩ = some (.string L.dir) ∧ w3.cell? ⟨lb,4,none⟩ = some (.int .i64 (L.last : Int))) ∧ Hid (Below W1.heap.size W1 w3):=fun W1 hW1 =>
       (HNAME.out W1).mono fun e w3 ⟨he,hb2⟩ => by
         have hb3 : Below w2.heap.size w2 w3:=hW1.trans (hb2.mono hW1.size)
         have hc:=(HL2.out.below hb3).cells
         exact ⟨he,⟨blk_cell ((hb3.block _ (lt_of_block HBX.out.1)).trans HBX.out.1) 0,by rw [hc.c1,HDIR.out],by rw [hc.c4,HLAST.out]⟩,hid hb2⟩
     have HN0:=hid (HNM w2.drew (Below.refl _ _).drew)
     have HN1 : Hid (Calls Tryz.prog 64 #[.string L.dir,.int .i64 (L.last : Int)] (w2.alloc (.cells #[.string ⟨#[]⟩] 9)).drew fun e w3 => e = .returned (.string nm) ∧
         (w3.cell? ⟨w.heap.size,0,none⟩ = some (.pointer (some ⟨lb,0,none⟩)) ∧ w3.cell? ⟨lb,1,none⟩ = some (.string L.dir) ∧ w3.cell? ⟨lb,4,none⟩ = some (.int .i64 (L.last : Int))) ∧
         w3.cell? ⟨w2.heap.size,0,none⟩ = some (.string ⟨#[]⟩) ∧ w3.frozen? ⟨w2.heap.size,0,none⟩ = false ∧ Hid (IsBlk w3 w2.heap.size #[.string ⟨#[]⟩] 9 ∧ Below w2.heap.size w2 w3)):=hid (by
       have hb1 : Below w2.heap.size w2 (w2.alloc (.cells #[.string ⟨#[]⟩] 9)).drew:=((Below.refl _ _).alloc (Nat.le_refl _) _).drew
       refine (HNM _ hb1).mono fun e w3 ⟨he,hs,hb⟩ => ?_
       have hk : IsBlk w3 w2.heap.size #[.string ⟨#[]⟩] 9:=(hb.out.block _ (show _ < (w2.alloc _).heap.size by simp)).trans (blk_new w2 _)
       exact ⟨he,hs,blk_cell hk 0,blk_free hk 0,hid ⟨hk,hb1.trans (hb.out.mono hb1.size)⟩⟩)
     clear HNM
     have n1 : ¬ w2.heap.size = w.heap.size:=by have:=lt_of_block HBX.out.1; omega
     have n2 : ¬ w2.heap.size = lb:=by have:=HL2.out.lt; omega
     have n3 : ¬ w.heap.size = w2.heap.size:=by omega
     have n4 : ¬ lb = w2.heap.size:=by omega
     go_wp2_with (fail)
     go_region_held3 (fun w' => w'.cell? ⟨w.heap.size,0,none⟩ = some (.pointer (some ⟨lb,0,none⟩)) ∧ w'.cell? ⟨lb,1,none⟩ = some (.string L.dir) ∧ w'.cell? ⟨lb,4,none⟩ = some (.int .i64 (L.last : Int)))
       (first
         | go_keep
         | exact s1)
       (first
         | (go_at_call 64; (with_reducible refine HN1.out.mono ?_); rintro e w3 ⟨rfl,s1,cA,zA,HC3⟩)
         | (go_at_call 64; (with_reducible refine HN0.out.mono ?_); rintro e w3 ⟨rfl,s1,HC3⟩; have n5 : ¬ w3.heap.size = w.heap.size:=(by have:=HC3.out.size; have:=lt_of_block HBX.out.1; simp at *; omega); have n6 : ¬ w3.heap.size = lb:=(by have:=HC3.out.size; have:=HL2.out.lt; simp at *; omega)))
     ·have hb3 : Below w2.heap.size w2 (w3.alloc (.cells #[.string nm] 9)):=((Below.refl w2.heap.size w2).drew.trans HC3.out).alloc HC3.out.size _
      have hbl3:=(hb3.block _ (lt_of_block HBX.out.1)).trans HBX.out.1
      have HT:=hid (append_tail HL2.out (by omega) (bl:=w.heap.size) (bp:=w.heap.size + 1) ⟨HBX.out.1,NS.out.1⟩ ⟨HBX.out.2,NS.out.2⟩ HUB.out hp hb3 (by rw [HNMQ.out]; exact blk_new w3 _) HC3.out.size)
      have dl3 : (w3.alloc (.cells #[.string nm] 9)).cell? ⟨w.heap.size,0,none⟩ = some (.pointer (some ⟨lb,0,none⟩)):=blk_cell hbl3 0
      generalize w3.alloc (.cells #[.string nm] 9) = W3 at *
      clear hb3 hbl3
      go_wp2_with (fail)
      refine HT.out.mono ?_
      rintro e w4 ⟨rfl,hp4⟩
      have HF:=hid (hp4.base H.out BASE.out (k2:=k + 3) (by omega))
      clear hp4
      go_wp2_with (fail)
      go_ret
      rw [HR.out]
      exact ⟨rfl,HF.out⟩
     ·have hb3 : Below w2.heap.size w2 (w3.setCell ⟨w2.heap.size,0,none⟩ (.string nm)):=HC3.out.2.setCell (p:=⟨w2.heap.size,0,none⟩) (Nat.le_refl _) _
      have hbl3:=(hb3.block _ (lt_of_block HBX.out.1)).trans HBX.out.1
      have HT:=hid (append_tail HL2.out (by omega) (bl:=w.heap.size) (bp:=w.heap.size + 1) ⟨HBX.out.1,NS.out.1⟩ ⟨HBX.out.2,NS.out.2⟩ HUB.out hp hb3 (by rw [HNMQ.out]; exact blk_set HC3.out.1 0 _) (Nat.le_refl _))
      have dl3 : (w3.setCell ⟨w2.heap.size,0,none⟩ (.string nm)).cell? ⟨w.heap.size,0,none⟩ = some (.pointer (some ⟨lb,0,none⟩)):=blk_cell hbl3 0
      generalize w3.setCell ⟨w2.heap.size,0,none⟩ (.string nm) = W3 at *
      clear hb3 hbl3
      go_wp2_with (fail)
      refine HT.out.mono ?_
      rintro e w4 ⟨rfl,hp4⟩
      have HF:=hid (hp4.base H.out BASE.out (k2:=k + 3) (by omega))
      clear hp4
      go_wp2_with (fail)
      go_ret
      rw [HR.out]
      exact ⟨rfl,HF.out⟩
end
end Go.Proofs.YtagdchgkjjpacaaGreat
