/- The walks of Drop, Segment, First, Cut. -/
import Derived.Test.YtagdchgkjjpacaaGreatr21
import Derived.Deep.LoopGhost
set_option maxRecDepth 100000
open Go.Lib (hid)
namespace Go.Proofs.YtagdchgkjjpacaaGreat
open Go.RowKit Go.Shelf
section
variable {w0 w w' W W1 W2 W3 : World} {fb k k' lb : Nat} {F G : FsS} {S : Nat → Prop} {L : LogS}
theorem w_segment (h : Lg w0 w fb F k S lb L) : Calls Tryz.prog 72 #[.pointer (some ⟨lb,0,none⟩)] w fun e w' => e = .returned (.int .i64 (L.last : Int)) ∧ w = w':=by
 have c:=h.cells.c4
 clear h
 go_enter Tryz.func72,Tryz.ntmps72
 go_wp2
 go_ret
 exact ⟨rfl,rfl⟩
theorem w_first (h : Lg w0 w fb F k S lb L) : Calls Tryz.prog 70 #[.pointer (some ⟨lb,0,none⟩)] w fun e w' => e = .returned (.int .i64 (L.first : Int)) ∧ w = w':=by
 have c:=h.cells.c3
 clear h
 go_enter Tryz.func70,Tryz.ntmps70
 go_wp2
 go_ret
 exact ⟨rfl,rfl⟩
set_option maxHeartbeats 2000000 in
theorem q_drop1 (h : Lg w0 W fb F k S lb L) (hk : k < 1000000) {bl bn : Nat} {nm : ByteArray} (hbl : BoxAt S W bl (.pointer (some ⟨lb,0,none⟩)) 112) (hbn : BoxAt S W bn (.string nm) 9) :
 Calls Tryz.prog 111 #[.pointer (some ⟨bl,0,none⟩),.pointer (some ⟨bn,0,none⟩)] W fun e W' => e = .returned (.int .i64 (F.remove nm).2) ∧ Lg w0 W' fb (F.remove nm).1 (k + 1) (New W W' S) lb L ∧ Keeps S W W':=by
 have HAP : Hid (∀ W2,Below W.heap.size W W2 → Calls Tryz.prog 112 #[.pointer (some ⟨fb,0,none⟩),.string nm] W2 fun e w2 => e = .returned (.int .i64 (F.remove nm).2) ∧
     (w2.cell? ⟨bl,0,none⟩ = some (.pointer (some ⟨lb,0,none⟩)) ∧ w2.cell? ⟨lb,0,none⟩ = some (.pointer (some ⟨fb,0,none⟩)) ∧ w2.cell? ⟨bn,0,none⟩ = some (.string nm)) ∧
     Hid (Lg w0 w2 fb (F.remove nm).1 (k + 1) (New W w2 S) lb L ∧ Keeps S W w2)):=hid fun W2 hW => by
   obtain ⟨mb,rs,h1⟩:=h.hd.fs.below hW
   refine (f_remove h1 h.hd.ok hk nm).mono fun e w2 ⟨he,hp⟩ => ?_
   have hs:=h.step hW hp (h.hd.ok.remove _)
   have hc:=hs.1.cells
   exact ⟨he,⟨blk_cell (hbl.keep hs.2) 0,hc.c0,blk_cell (hbn.keep hs.2) 0⟩,hid hs⟩
 have c0:=h.cells.c0
 have cl : W.cell? ⟨bl,0,none⟩ = some (.pointer (some ⟨lb,0,none⟩)):=blk_cell hbl.blk 0
 have cn : W.cell? ⟨bn,0,none⟩ = some (.string nm):=blk_cell hbn.blk 0
 have hb0 : Below W.heap.size W W.drew:=(Below.refl _ _).drew
 clear h hbl hbn
 go_enter Tryz.func111,Tryz.ntmps111
 go_wp2_with (fail)
 go_region_held3 (fun w' => w'.cell? ⟨bl,0,none⟩ = some (.pointer (some ⟨lb,0,none⟩)) ∧ w'.cell? ⟨lb,0,none⟩ = some (.pointer (some ⟨fb,0,none⟩)) ∧ w'.cell? ⟨bn,0,none⟩ = some (.string nm))
   (first
     | go_keep
     | exact s2)
   (first
     | (go_at_call 112; (with_reducible refine (HAP.out _ ?_).mono ?_); exact hb0; rintro e w2 ⟨rfl,s2,HD⟩))
 go_wp2_with (fail)
 go_ret
 exact ⟨rfl,HD.out.1,HD.out.2⟩
def dropF : Nat → LogS → FsS → LogS × FsS × Int
 | 0,L,F => (L,F,0)
 | m + 1,L,F => if (F.remove (segName L.dir L.first)).2 = 0 then dropF m { L with first:=L.first + 1 } (F.remove (segName L.dir L.first)).1 else (L.after (F.remove (segName L.dir L.first)).2,(F.remove (segName L.dir L.first)).1,(F.remove (segName L.dir L.first)).2)
def dropLg (L : LogS) (F : FsS) (below : Int) : LogS × FsS × Int :=
 if L.stuck = true then (L,F,25) else if (L.last : Int) < below then (L,F,6) else dropF (below - (L.first : Int)).toNat L F
theorem drop_tail (h : Lg w0 W fb F k S lb L) (hk : k < 950000) {bl bn : Nat} {nm : ByteArray} (hbl : BoxAt S W bl (.pointer (some ⟨lb,0,none⟩)) 112) (hb : Below W.heap.size W W3) (hbn : IsBlk W3 bn #[.string nm] 9) (hn : W.heap.size ≤ bn) :
 Calls Tryz.prog 110 #[.pointer (some ⟨lb,0,none⟩),.slice (some ⟨W3.heap.size,0,none⟩) 1 1] (W3.alloc (.cells #[.func (.func 111) #[] #[.pointer (some ⟨bl,0,none⟩),.pointer (some ⟨bn,0,none⟩)]] 55))
   fun e w' => e = .returned (.int .i64 (F.remove nm).2) ∧ LPost w0 W fb S lb (F.remove nm).1 (k + 1) (L.after (F.remove nm).2) w' ∧ IsBlk w' bl #[.pointer (some ⟨lb,0,none⟩)] 112:=by
 have eg1:=enters_of Tryz.func111 (P:=Tryz.prog) (by kernel_rfl) rfl
 have hal : Below W3.heap.size W3 (W3.alloc (.cells #[.func (.func 111) #[] #[.pointer (some ⟨bl,0,none⟩),.pointer (some ⟨bn,0,none⟩)]] 55)):=(Below.refl _ _).alloc (Nat.le_refl _) _
 have hab:=blk_new W3 (.cells #[.func (.func 111) #[] #[.pointer (some ⟨bl,0,none⟩),.pointer (some ⟨bn,0,none⟩)]] 55)
 generalize W3.alloc (.cells #[.func (.func 111) #[] #[.pointer (some ⟨bl,0,none⟩),.pointer (some ⟨bn,0,none⟩)]] 55) = W4 at hal hab ⊢
 have hb4 : Below W.heap.size W W4:=hb.trans (hal.mono hb.size)
 have hbn4 : IsBlk W4 bn #[.string nm] 9:=(hal.block _ (lt_of_block hbn)).trans hbn
 have nS : ∀ i,W.heap.size ≤ i → ¬ S i:=fun i hi e => by have:=h.hd.fs.lt i e; omega
 have B1 : BoxAt S W4 bl (.pointer (some ⟨lb,0,none⟩)) 112:=hbl.below hb4
 have hne : bl ≠ lb:=blk_ne_type hbl.blk h.log.blk (by decide)
 exact (does_one h hb4 (f:=⟨111,#[.pointer (some ⟨bl,0,none⟩),.pointer (some ⟨bn,0,none⟩)]⟩) (blk_cell hab 0) eg1 (F.remove nm) (q_drop1 (h.below hb4) (by omega) B1 ⟨hbn4,nS bn hn⟩)).mono
   fun e w' ⟨he,h1,h2⟩ => ⟨he,h1,h2.obj B1.blk (by rintro (e | e); exact B1.out e; exact hne e)⟩
theorem LPost.step {a b c : World} {L1 L2 : LogS} {G1 : FsS} {j : Nat} (h2 : LPost w0 b fb (New a b S) lb G k' L2 c) (h1 : LPost w0 a fb S lb G1 j L1 b) (h0 : Lg w0 a fb F k S lb L) : LPost w0 a fb S lb G k' L2 c :=
 ⟨h2.lg.mono (new_trans h1.keeps.size h2.keeps.size) (new_lt h0.hd.fs.lt (Nat.le_trans h1.keeps.size h2.keeps.size)) (fun i e => by
  rcases e with e | e
  ·exact h0.hd.low i e
  ·have:=h0.hd.below.size; omega) (fun e => by
  rcases e with e | e
  ·exact h0.log.out e
  ·have:=h0.lt; omega),h1.keeps.trans h2.keeps (fun i hi e => by
  rcases e with (e | e) | e
  ·exact .inl e
  ·omega
  ·exact .inr e)⟩
structure DrI (w0 w : World) (bl fb : Nat) (S : Nat → Prop) (lb k : Nat) (L : LogS) (F : FsS) (m : Nat) (L' : LogS) (F' : FsS) (m' j : Nat) (wr : World) : Prop where
 post : LPost w0 w fb S lb F' (k + j) L' wr
 box : IsBlk wr bl #[.pointer (some ⟨lb,0,none⟩)] 112
 same : dropF m L F = dropF m' L' F'
 dir : L'.dir = L.dir
 first : L'.first = L.first + j
 sum : j + m' = m
set_option maxHeartbeats 4000000 in
theorem w_drop (h : Lg w0 w fb F k S lb L) (hk : k < 930000) (hdir : L.dir.size ≤ 100000) (hlast : L.last ≤ 1000) (below : Int) :
 Calls Tryz.prog 71 #[.pointer (some ⟨lb,0,none⟩),.int .i64 below] w fun e w' => e = .returned (.int .i64 (dropLg L F below).2.2) ∧ LPost w0 w fb S lb (dropLg L F below).2.1 (k + 1001) (dropLg L F below).1 w':=by
 have H:=hid h
 have HA : Hid (Below w.heap.size w (w.alloc (.cells #[.pointer (some ⟨lb,0,none⟩)] 112))):=hid ((Below.refl _ _).alloc (Nat.le_refl _) _)
 have hbx:=blk_new w (.cells #[.pointer (some ⟨lb,0,none⟩)] 112)
 have hlt:=h.lt
 have h2:=h.below HA.out
 have c4:=h2.cells.c4
 have c6:=h2.cells.c6
 cases hst : L.stuck with
 | true =>
   have hr : Hid (dropLg L F below = (L,F,25)):=hid (by unfold dropLg; rw [if_pos hst])
   rw [hst] at c6
   clear h h2 hst hbx
   go_enter Tryz.func71,Tryz.ntmps71
   go_wp2_with (fail)
   go_ret
   rw [hr.out]
   exact ⟨rfl,H.out.same HA.out (by omega)⟩
 | false =>
   rw [hst] at c6
   by_cases hbig : (L.last : Int) < below
   ·have hr : Hid (dropLg L F below = (L,F,6)):=hid (by unfold dropLg; rw [if_neg (by simp [hst]),if_pos hbig])
    clear h h2 hst hbx
    go_enter Tryz.func71,Tryz.ntmps71
    go_wp2_with (fail)
    go_ret
    rw [hr.out]
    exact ⟨rfl,H.out.same HA.out (by omega)⟩
   ·obtain ⟨m,hm⟩ : ∃ m,m = (below - (L.first : Int)).toNat:=⟨_,rfl⟩
    have hr : Hid (dropLg L F below = dropF m L F):=hid (by unfold dropLg; rw [if_neg (by simp [hst]),if_neg hbig,hm])
    have HM:=hid hm
    have HLA : Hid (L.last ≤ 1000):=hid hlast
    have HBI : Hid (below ≤ (L.last : Int)):=hid (by omega)
    have HI : Hid (DrI w0 (w.alloc (.cells #[.pointer (some ⟨lb,0,none⟩)] 112)) w.heap.size fb S lb k L F m L F m 0 (w.alloc (.cells #[.pointer (some ⟨lb,0,none⟩)] 112))):=hid ⟨h2.same (Below.refl _ _) (by omega),hbx,rfl,rfl,rfl,by omega⟩
    have H2:=hid h2
    have HZ0 : Hid ((w.alloc (.cells #[.pointer (some ⟨lb,0,none⟩)] 112)).heap.size = w.heap.size + 1):=hid (by simp)
    obtain ⟨W0,hW0⟩ : ∃ W0,W0 = w.alloc (.cells #[.pointer (some ⟨lb,0,none⟩)] 112):=⟨_,rfl⟩
    rw [← hW0] at HI H2 HZ0 HA
    have HW0:=hid hW0
    clear h h2 hst hbx hm hlast hW0
    go_enter Tryz.func71,Tryz.ntmps71
    go_wp2_with (fail)
    rw [← HW0.out]
    clear c4 c6 hbig
    go_loopg [] (m + 1) (fun g wr => ∃ m' : Nat,g = m' + 1 ∧ Hid (∃ L' F' j,DrI w0 W0 w.heap.size fb S lb k L F m L' F' m' j wr))
    case atStart => exact ⟨m,rfl,hid ⟨L,F,0,HI.out⟩⟩
    case round =>
     obtain ⟨m',rfl,HX⟩:=hrel
     obtain ⟨L',F',j,hD⟩:=HX.out
     have HD:=hid hD
     have dl : wr.cell? ⟨w.heap.size,0,none⟩ = some (.pointer (some ⟨lb,0,none⟩)):=blk_cell hD.box 0
     have cc:=hD.post.lg.cells
     have d1:=cc.c1
     have d3:=cc.c3
     rw [hD.dir] at d1
     have z3:=hD.post.lg.free 3
     have hmm : (m' : Int) = (below - (L'.first : Int)).toNat:=by
      have h1:=hD.first
      have h2:=hD.sum
      have h3:=HM.out
      omega
     cases m' with
     | zero =>
       have hnl : ¬ ((L'.first : Int) < below):=by omega
       have hr2 : Hid (dropF m L F = (L',F',0)):=hid hD.same
       have HP : Hid (LPost w0 w fb S lb F' (k + 1001) L' wr):=hid (hD.post.base0 H.out HA.out (by have:=hD.sum; have:=HM.out; have:=HLA.out; have:=HBI.out; omega))
       clear hD cc hmm
       go_wp2_with (fail)
       go_ret
       rw [hr.out,hr2.out]
       exact ⟨rfl,HP.out⟩
     | succ m' =>
       have hyl : (L'.first : Int) < below:=by omega
       have HFB : Hid (L'.first < 1000):=hid (by have:=HLA.out; have:=HBI.out; omega)
       have HKJ : Hid (k + j < 950000):=hid (by have:=hD.sum; have:=HM.out; have:=HLA.out; have:=HBI.out; omega)
       obtain ⟨nm,hnm⟩ : ∃ nm,nm = segName L.dir L'.first:=⟨_,rfl⟩
       have HNQ : Hid (segName L'.dir L'.first = nm):=hid (by rw [hnm,hD.dir])
       have HNM : ∀ W1,Below wr.heap.size wr W1 → Calls Tryz.prog 64 #[.string L.dir,.int .i64 (L'.first : Int)] W1 fun e w3 => e = .returned (.string nm) ∧
           (w3.cell? ⟨w.heap.size,0,none⟩ = some (.pointer (some ⟨lb,0,none⟩)) ∧ w3.cell? ⟨lb,1,none⟩ = some (.string L.dir) ∧ w3.cell? ⟨lb,3,none⟩ = some (.int .i64 (L'.first : Int))) ∧ Hid (Below W1.heap.size W1 w3):=fun W1 hW1 => by
         rw [hnm]
         refine (w_name W1 L.dir hdir L'.first (by have:=HFB.out; omega)).mono fun e w3 ⟨he,hb2⟩ => ?_
         have hb3 : Below wr.heap.size wr w3:=hW1.trans (hb2.mono hW1.size)
         have hc:=(HD.out.post.lg.below hb3).cells
         exact ⟨he,⟨blk_cell ((hb3.block _ (lt_of_block HD.out.box)).trans HD.out.box) 0,by rw [hc.c1,HD.out.dir],hc.c3⟩,hid hb2⟩
       have HN0:=hid (HNM wr.drew (Below.refl _ _).drew)
       have HN1 : Hid (Calls Tryz.prog 64 #[.string L.dir,.int .i64 (L'.first : Int)] (wr.alloc (.cells #[.string ⟨#[]⟩] 9)).drew fun e w3 => e = .returned (.string nm) ∧
           (w3.cell? ⟨w.heap.size,0,none⟩ = some (.pointer (some ⟨lb,0,none⟩)) ∧ w3.cell? ⟨lb,1,none⟩ = some (.string L.dir) ∧ w3.cell? ⟨lb,3,none⟩ = some (.int .i64 (L'.first : Int))) ∧
           w3.cell? ⟨wr.heap.size,0,none⟩ = some (.string ⟨#[]⟩) ∧ w3.frozen? ⟨wr.heap.size,0,none⟩ = false ∧ Hid (IsBlk w3 wr.heap.size #[.string ⟨#[]⟩] 9 ∧ Below wr.heap.size wr w3)):=hid (by
         have hb1 : Below wr.heap.size wr (wr.alloc (.cells #[.string ⟨#[]⟩] 9)).drew:=((Below.refl _ _).alloc (Nat.le_refl _) _).drew
         refine (HNM _ hb1).mono fun e w3 ⟨he,hs,hb⟩ => ?_
         have hk : IsBlk w3 wr.heap.size #[.string ⟨#[]⟩] 9:=(hb.out.block _ (show _ < (wr.alloc _).heap.size by simp)).trans (blk_new wr _)
         exact ⟨he,hs,blk_cell hk 0,blk_free hk 0,hid ⟨hk,hb1.trans (hb.out.mono hb1.size)⟩⟩)
       clear HNM hnm
       have n1 : ¬ wr.heap.size = w.heap.size:=by have:=lt_of_block HD.out.box; omega
       have n2 : ¬ wr.heap.size = lb:=by have:=HD.out.post.lg.lt; omega
       have n3 : ¬ w.heap.size = wr.heap.size:=by omega
       have n4 : ¬ lb = wr.heap.size:=by omega
       clear hD cc hmm
       go_wp2_with (fail)
       go_region_held3 (fun w' => w'.cell? ⟨w.heap.size,0,none⟩ = some (.pointer (some ⟨lb,0,none⟩)) ∧ w'.cell? ⟨lb,1,none⟩ = some (.string L.dir) ∧ w'.cell? ⟨lb,3,none⟩ = some (.int .i64 (L'.first : Int)))
         (first
           | go_keep
           | exact s1)
         (first
           | (go_at_call 64; (with_reducible refine HN1.out.mono ?_); rintro e w3 ⟨rfl,s1,cA,zA,HC3⟩)
           | (go_at_call 64; (with_reducible refine HN0.out.mono ?_); rintro e w3 ⟨rfl,s1,HC3⟩; have n5 : ¬ w3.heap.size = w.heap.size:=(by have:=HC3.out.size; have:=lt_of_block HD.out.box; simp at *; omega); have n6 : ¬ w3.heap.size = lb:=(by have:=HC3.out.size; have:=HD.out.post.lg.lt; simp at *; omega)))
       ·have hb3 : Below wr.heap.size wr (w3.alloc (.cells #[.string nm] 9)):=((Below.refl wr.heap.size wr).drew.trans HC3.out).alloc HC3.out.size _
        have hbl3:=(hb3.block _ (lt_of_block HD.out.box)).trans HD.out.box
        have HT:=hid (drop_tail HD.out.post.lg HKJ.out (bl:=w.heap.size) (nm:=nm) ⟨HD.out.box,by rintro (e | e); have:=H.out.hd.fs.lt _ e; omega; have:=e.1; have:=HZ0.out; omega⟩ hb3 (blk_new w3 _) (HC3.out.size))
        have dl3 : (w3.alloc (.cells #[.string nm] 9)).cell? ⟨w.heap.size,0,none⟩ = some (.pointer (some ⟨lb,0,none⟩)):=blk_cell hbl3 0
        generalize w3.alloc (.cells #[.string nm] 9) = W3 at *
        clear hb3 hbl3
        obtain ⟨cr,hcr⟩ : ∃ cr,cr = F'.remove nm:=⟨_,rfl⟩
        rw [← hcr] at HT
        have HCR:=hid hcr
        clear hcr
        go_wp2_with (fail)
        refine HT.out.mono ?_
        rintro e w4 ⟨rfl,hp4,hbx4⟩
        have HP4:=hid (hp4.step HD.out.post H2.out)
        by_cases hr0 : cr.2 = 0
        ·have e4:=hp4.lg.cells.c3
         have ez4:=hp4.lg.free 3
         have el4 : w4.cell? ⟨w.heap.size,0,none⟩ = some (.pointer (some ⟨lb,0,none⟩)):=blk_cell hbx4 0
         unfold LogS.after at e4
         rw [if_pos hr0] at e4
         have HP5 : Hid (DrI w0 W0 w.heap.size fb S lb k L F m { L' with first:=L'.first + 1 } cr.1 m' (j + 1) (w4.setCell ⟨lb,3,none⟩ (.int .i64 ((L'.first : Int) + 1)))):=hid (by
          have h5:=HP4.out
          unfold LogS.after at h5
          rw [if_pos hr0] at h5
          refine ⟨h5.setLog (L2:={ L' with first:=L'.first + 1 }) 3 _ rfl,blk_other hbx4 3 _ (by omega),?_,HD.out.dir,by have:=HD.out.first; simp only; omega,by have:=HD.out.sum; omega⟩
          rw [HD.out.same]
          conv => lhs; unfold dropF
          rw [HNQ.out,← HCR.out,if_pos hr0])
         rw [hr0]
         have hw1 : wrap64 ((L'.first : Int) + 1) = (L'.first : Int) + 1:=IntWalk.wrap64_in _ (by have:=HFB.out; omega)
         clear hp4 hbx4 hr0
         go_wp2_with (fail)
         go_roundg (m' + 1)
         case measure => omega
         case rel => exact ⟨m',rfl,hid ⟨_,_,_,HP5.out⟩⟩
        ·have hr1 : (cr.2 != 0) = true:=by rw [bne_iff_ne]; exact hr0
         have hr2 : Hid (dropF m L F = (L'.after cr.2,cr.1,cr.2)):=hid (by
          rw [HD.out.same]
          conv => lhs; unfold dropF
          rw [HNQ.out,← HCR.out,if_neg hr0])
         have HP5 : Hid (LPost w0 w fb S lb cr.1 (k + 1001) (L'.after cr.2) w4):=hid (HP4.out.base0 H.out HA.out (by have:=HD.out.sum; have:=HM.out; have:=HLA.out; have:=HBI.out; omega))
         clear hp4 hbx4 hr0
         go_wp2_with (fail)
         go_ret
         rw [hr.out,hr2.out]
         exact ⟨rfl,HP5.out⟩
       ·have hb3 : Below wr.heap.size wr (w3.setCell ⟨wr.heap.size,0,none⟩ (.string nm)):=HC3.out.2.setCell (p:=⟨wr.heap.size,0,none⟩) (Nat.le_refl _) _
        have hbl3:=(hb3.block _ (lt_of_block HD.out.box)).trans HD.out.box
        have HT:=hid (drop_tail HD.out.post.lg HKJ.out (bl:=w.heap.size) (nm:=nm) ⟨HD.out.box,by rintro (e | e); have:=H.out.hd.fs.lt _ e; omega; have:=e.1; have:=HZ0.out; omega⟩ hb3 (blk_set HC3.out.1 0 _) (Nat.le_refl _))
        have dl3 : (w3.setCell ⟨wr.heap.size,0,none⟩ (.string nm)).cell? ⟨w.heap.size,0,none⟩ = some (.pointer (some ⟨lb,0,none⟩)):=blk_cell hbl3 0
        generalize w3.setCell ⟨wr.heap.size,0,none⟩ (.string nm) = W3 at *
        clear hb3 hbl3
        obtain ⟨cr,hcr⟩ : ∃ cr,cr = F'.remove nm:=⟨_,rfl⟩
        rw [← hcr] at HT
        have HCR:=hid hcr
        clear hcr
        go_wp2_with (fail)
        refine HT.out.mono ?_
        rintro e w4 ⟨rfl,hp4,hbx4⟩
        have HP4:=hid (hp4.step HD.out.post H2.out)
        by_cases hr0 : cr.2 = 0
        ·have e4:=hp4.lg.cells.c3
         have ez4:=hp4.lg.free 3
         have el4 : w4.cell? ⟨w.heap.size,0,none⟩ = some (.pointer (some ⟨lb,0,none⟩)):=blk_cell hbx4 0
         unfold LogS.after at e4
         rw [if_pos hr0] at e4
         have HP5 : Hid (DrI w0 W0 w.heap.size fb S lb k L F m { L' with first:=L'.first + 1 } cr.1 m' (j + 1) (w4.setCell ⟨lb,3,none⟩ (.int .i64 ((L'.first : Int) + 1)))):=hid (by
          have h5:=HP4.out
          unfold LogS.after at h5
          rw [if_pos hr0] at h5
          refine ⟨h5.setLog (L2:={ L' with first:=L'.first + 1 }) 3 _ rfl,blk_other hbx4 3 _ (by omega),?_,HD.out.dir,by have:=HD.out.first; simp only; omega,by have:=HD.out.sum; omega⟩
          rw [HD.out.same]
          conv => lhs; unfold dropF
          rw [HNQ.out,← HCR.out,if_pos hr0])
         rw [hr0]
         have hw1 : wrap64 ((L'.first : Int) + 1) = (L'.first : Int) + 1:=IntWalk.wrap64_in _ (by have:=HFB.out; omega)
         clear hp4 hbx4 hr0
         go_wp2_with (fail)
         go_roundg (m' + 1)
         case measure => omega
         case rel => exact ⟨m',rfl,hid ⟨_,_,_,HP5.out⟩⟩
        ·have hr1 : (cr.2 != 0) = true:=by rw [bne_iff_ne]; exact hr0
         have hr2 : Hid (dropF m L F = (L'.after cr.2,cr.1,cr.2)):=hid (by
          rw [HD.out.same]
          conv => lhs; unfold dropF
          rw [HNQ.out,← HCR.out,if_neg hr0])
         have HP5 : Hid (LPost w0 w fb S lb cr.1 (k + 1001) (L'.after cr.2) w4):=hid (HP4.out.base0 H.out HA.out (by have:=HD.out.sum; have:=HM.out; have:=HLA.out; have:=HBI.out; omega))
         clear hp4 hbx4 hr0
         go_wp2_with (fail)
         go_ret
         rw [hr.out,hr2.out]
         exact ⟨rfl,HP5.out⟩
end
end Go.Proofs.YtagdchgkjjpacaaGreat
