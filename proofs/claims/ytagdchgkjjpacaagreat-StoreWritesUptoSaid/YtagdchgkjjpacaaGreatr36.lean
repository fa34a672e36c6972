/- The walks of package store's lays; printed by mk_td.py. -/
import Derived.Test.YtagdchgkjjpacaaGreatr35
set_option maxRecDepth 100000
open Go.Lib (hid)
set_option linter.unusedSimpArgs false
set_option linter.unusedVariables false
set_option linter.unusedSectionVars false
namespace Go.Proofs.YtagdchgkjjpacaaGreat
open Go.RowKit Go.Shelf
structure FwP (w0 w : World) (fb : Nat) (S : Nat → Prop) (k : Nat) (G : FsS) (w' : World) : Prop where
 ex : ∃ T,Hd w0 w' fb G k T ∧ PureS T w' ∧ ∀ i,T i → S i ∨ w.heap.size ≤ i
 keeps : Keeps S w w'
section
variable {w0 w w' W W' : World} {fb k k' : Nat} {F G : FsS} {S T : Nat → Prop}
theorem FwP.of (h : Hd w0 w' fb G k (New w w' S)) (hk : Keeps S w w') : FwP w0 w fb S k G w' :=
 ⟨⟨_,h.ps,PS.pure _ _,fun i hi => by rcases hi.1 with e | e; exact .inl e; exact .inr e.1⟩,hk⟩
theorem FwP.refl (h : Hd w0 w fb F k S) (hp : PureS S w) : FwP w0 w fb S k F w:=⟨⟨S,h,hp,fun _ e => .inl e⟩,Keeps.refl _ _⟩
theorem FwP.trans {T : Nat → Prop} (h : FwP w0 W fb T k G w') (hT : ∀ i,T i → S i ∨ w.heap.size ≤ i) (hk : Keeps S w W) : FwP w0 w fb S k G w':=by
 obtain ⟨U,h1,h2,h3⟩:=h.ex
 exact ⟨⟨U,h1,h2,fun i hi => by rcases h3 i hi with e | e; exact hT i e; exact .inr (Nat.le_trans hk.size e)⟩,hk.trans h.keeps fun i hi e => by rcases hT i e with e | e; exact e; omega⟩
theorem FwP.base (h : FwP w0 W fb S k G w') (hb : Below w.heap.size w W) : FwP w0 w fb S k G w':=h.trans (fun _ e => .inl e) ((Keeps.of_below hb).mono fun _ _ e => e.elim)
theorem FwP.more (h : FwP w0 w fb S k G w') (hk : k ≤ k') : FwP w0 w fb S k' G w':=by
 obtain ⟨U,h1,h2,h3⟩:=h.ex
 exact ⟨⟨U,⟨h1.fs,h1.low,h1.below,h1.ok.mono hk⟩,h2,h3⟩,h.keeps⟩
theorem PureS.obj (hp : PureS S w) (hk : Keeps S w w') {b : Nat} {cs : Array Value} {T : TypeId} (hb : IsBlk w b cs T) (h1 : T ≠ 102) (h2 : T ≠ 107) (h3 : T ≠ 5) : IsBlk w' b cs T:=hk.obj hb (hp.not hb h1 h2 h3)
end
def runW : List (FsS → FsS × Int) → FsS → FsS × Int
 | [],F => (F,0)
 | f :: r,F => if (f F).2 ≠ 0 then f F else runW r (f F).1
def laySteps (n : ByteArray) (b : List UInt8) : List (FsS → FsS × Int):=[fun F => F.create n,fun F => F.append n b,fun F => F.sync n]
theorem lays_run (F : FsS) (n : ByteArray) (b : List UInt8) : runW (laySteps n b) F = laysR F n b:=by
 unfold laySteps laysR
 simp only [runW]
 by_cases h1 : (F.create n).2 = 0
 ·by_cases h2 : ((F.create n).1.append n b).2 = 0
  ·by_cases h3 : (((F.create n).1.append n b).1.sync n).2 = 0
   ·simp only [h1,h2,h3,ne_eq,not_true_eq_false,↓reduceIte]
    exact Prod.ext rfl h3.symm
   ·simp only [h1,h2,h3,ne_eq,not_true_eq_false,not_false_eq_true,↓reduceIte]
  ·simp only [h1,h2,ne_eq,not_true_eq_false,not_false_eq_true,↓reduceIte]
 ·simp only [h1,ne_eq,not_false_eq_true,↓reduceIte]
section
variable {w0 w w' W : World} {fb k sb b3 b4 b5 : Nat} {F G : FsS} {S T : Nat → Prop} {c : StC} {n : ByteArray} {a : Option Addr} {cap : Nat} {b : List UInt8}
set_option maxHeartbeats 4000000 in
theorem q_lays1 (h : Hd w0 W fb F k S) (hp : PureS S W) (hk : k < 1000000) (hs : StIn W sb c) (hfb : c.fb = fb) (h3 : IsBlk W b3 #[.pointer (some ⟨sb,0,none⟩)] 49) (h4 : IsBlk W b4 #[.string n] 9) :
 Calls Tryz.prog 131 #[.pointer (some ⟨b3,0,none⟩),.pointer (some ⟨b4,0,none⟩)] W fun e W' => e = .returned (.int .i64 (F.create n).2) ∧ FwP w0 W fb S (k + 1) (F.create n).1 W':=by
 have HAP : Hid (∀ V,Below W.heap.size W V → Calls Tryz.prog 22 #[.pointer (some ⟨fb,0,none⟩),.string n] V fun e w' => e = .returned (.int .i64 (F.create n).2) ∧ (w'.cell? ⟨b3,0,none⟩ = some (.pointer (some ⟨sb,0,none⟩)) ∧ w'.cell? ⟨sb,0,none⟩ = some (.pointer (some ⟨fb,0,none⟩)) ∧ w'.cell? ⟨b4,0,none⟩ = some (.string n)) ∧ Hid (FwP w0 W fb S (k + 1) (F.create n).1 w')):=hid fun V hV => by
  have hp2:=hp.below h.fs.lt hV
  have h3' : IsBlk V b3 #[.pointer (some ⟨sb,0,none⟩)] 49:=(hV.block _ (lt_of_block h3)).trans h3
  have h4' : IsBlk V b4 #[.string n] 9:=(hV.block _ (lt_of_block h4)).trans h4
  have hs' : StIn V sb c:=hs.below hV
  refine (d_create (h.read hV) hk n).mono ?_
  rintro e w' ⟨he,hh,hk2⟩
  exact ⟨he,⟨blk_cell (hp2.obj hk2 h3' (by decide) (by decide) (by decide)) 0,by rw [← hfb]; exact blk_cell (hp2.obj hk2 hs' (by decide) (by decide) (by decide)) 0,blk_cell (hp2.obj hk2 h4' (by decide) (by decide) (by decide)) 0⟩,hid ((FwP.of hh hk2).base hV)⟩
 have c3 : W.cell? ⟨b3,0,none⟩ = some (.pointer (some ⟨sb,0,none⟩)):=blk_cell h3 0
 have c4 : W.cell? ⟨b4,0,none⟩ = some (.string n):=blk_cell h4 0
 have cs : W.cell? ⟨sb,0,none⟩ = some (.pointer (some ⟨fb,0,none⟩)):=by rw [← hfb]; exact blk_cell hs 0
 have hb0 : Below W.heap.size W W.drew:=(Below.refl _ _).drew
 clear h hp hk hs hfb h3 h4
 go_enter Tryz.func131,Tryz.ntmps131
 go_upto_region 1 with (fail)
 go_region_held3 (fun w' => w'.cell? ⟨b3,0,none⟩ = some (.pointer (some ⟨sb,0,none⟩)) ∧ w'.cell? ⟨sb,0,none⟩ = some (.pointer (some ⟨fb,0,none⟩)) ∧ w'.cell? ⟨b4,0,none⟩ = some (.string n))
   (first
     | go_keep
     | exact s2)
   (first
     | (go_at_call 22; (with_reducible refine (HAP.out _ ?_).mono ?_); exact hb0; rintro e w2 ⟨rfl,s2,HD⟩))
 go_wp2_with (fail)
 go_ret
 exact ⟨rfl,HD.out⟩
set_option maxHeartbeats 4000000 in
theorem q_lays2 (h : Hd w0 W fb F k S) (hp : PureS S W) (hk : k < 1000000) (hs : StIn W sb c) (hfb : c.fb = fb) (h3 : IsBlk W b3 #[.pointer (some ⟨sb,0,none⟩)] 49) (h4 : IsBlk W b4 #[.string n] 9) (h5 : IsBlk W b5 #[.slice a b.length cap] 23) (hu : RdAt byteKind W (.slice a b.length cap) b) (hb : b.length ≤ 1000000000) :
 Calls Tryz.prog 132 #[.pointer (some ⟨b3,0,none⟩),.pointer (some ⟨b4,0,none⟩),.pointer (some ⟨b5,0,none⟩)] W fun e W' => e = .returned (.int .i64 (F.append n b).2) ∧ FwP w0 W fb S (k + 1) (F.append n b).1 W':=by
 have HAP : Hid (∀ V,Below W.heap.size W V → Calls Tryz.prog 23 #[.pointer (some ⟨fb,0,none⟩),.string n,.slice a b.length cap] V fun e w' => e = .returned (.int .i64 (F.append n b).2) ∧ (w'.cell? ⟨b3,0,none⟩ = some (.pointer (some ⟨sb,0,none⟩)) ∧ w'.cell? ⟨sb,0,none⟩ = some (.pointer (some ⟨fb,0,none⟩)) ∧ w'.cell? ⟨b4,0,none⟩ = some (.string n) ∧ w'.cell? ⟨b5,0,none⟩ = some (.slice a b.length cap)) ∧ Hid (FwP w0 W fb S (k + 1) (F.append n b).1 w')):=hid fun V hV => by
  have hp2:=hp.below h.fs.lt hV
  have h3' : IsBlk V b3 #[.pointer (some ⟨sb,0,none⟩)] 49:=(hV.block _ (lt_of_block h3)).trans h3
  have h4' : IsBlk V b4 #[.string n] 9:=(hV.block _ (lt_of_block h4)).trans h4
  have hs' : StIn V sb c:=hs.below hV
  have h5' : IsBlk V b5 #[.slice a b.length cap] 23:=(hV.block _ (lt_of_block h5)).trans h5
  obtain ⟨mb,rs,h1⟩:=(h.read hV).fs
  refine ((f_append h1 h.ok hk n (hu.below hV) (by omega)).mono fun _ _ ⟨he,hp⟩ => (⟨he,(h.read hV).post hp (h.ok.append n b),hp.2⟩ : _ ∧ Hd w0 _ fb (F.append n b).1 (k + 1) (New V _ S) ∧ Keeps S V _)).mono ?_
  rintro e w' ⟨he,hh,hk2⟩
  exact ⟨he,⟨blk_cell (hp2.obj hk2 h3' (by decide) (by decide) (by decide)) 0,by rw [← hfb]; exact blk_cell (hp2.obj hk2 hs' (by decide) (by decide) (by decide)) 0,blk_cell (hp2.obj hk2 h4' (by decide) (by decide) (by decide)) 0,blk_cell (hp2.obj hk2 h5' (by decide) (by decide) (by decide)) 0⟩,hid ((FwP.of hh hk2).base hV)⟩
 have c3 : W.cell? ⟨b3,0,none⟩ = some (.pointer (some ⟨sb,0,none⟩)):=blk_cell h3 0
 have c4 : W.cell? ⟨b4,0,none⟩ = some (.string n):=blk_cell h4 0
 have cs : W.cell? ⟨sb,0,none⟩ = some (.pointer (some ⟨fb,0,none⟩)):=by rw [← hfb]; exact blk_cell hs 0
 have c5 : W.cell? ⟨b5,0,none⟩ = some (.slice a b.length cap):=blk_cell h5 0
 have hb0 : Below W.heap.size W W.drew:=(Below.refl _ _).drew
 clear h hp hk hs hfb h3 h4 h5 hu hb
 go_enter Tryz.func132,Tryz.ntmps132
 go_upto_region 1 with (fail)
 go_region_held3 (fun w' => w'.cell? ⟨b3,0,none⟩ = some (.pointer (some ⟨sb,0,none⟩)) ∧ w'.cell? ⟨sb,0,none⟩ = some (.pointer (some ⟨fb,0,none⟩)) ∧ w'.cell? ⟨b4,0,none⟩ = some (.string n) ∧ w'.cell? ⟨b5,0,none⟩ = some (.slice a b.length cap))
   (first
     | go_keep
     | exact s2)
   (first
     | (go_at_call 23; (with_reducible refine (HAP.out _ ?_).mono ?_); exact hb0; rintro e w2 ⟨rfl,s2,HD⟩))
 go_wp2_with (fail)
 go_ret
 exact ⟨rfl,HD.out⟩
set_option maxHeartbeats 4000000 in
theorem q_lays3 (h : Hd w0 W fb F k S) (hp : PureS S W) (hk : k < 1000000) (hs : StIn W sb c) (hfb : c.fb = fb) (h3 : IsBlk W b3 #[.pointer (some ⟨sb,0,none⟩)] 49) (h4 : IsBlk W b4 #[.string n] 9) :
 Calls Tryz.prog 133 #[.pointer (some ⟨b3,0,none⟩),.pointer (some ⟨b4,0,none⟩)] W fun e W' => e = .returned (.int .i64 (F.sync n).2) ∧ FwP w0 W fb S (k + 1) (F.sync n).1 W':=by
 have HAP : Hid (∀ V,Below W.heap.size W V → Calls Tryz.prog 115 #[.pointer (some ⟨fb,0,none⟩),.string n] V fun e w' => e = .returned (.int .i64 (F.sync n).2) ∧ (w'.cell? ⟨b3,0,none⟩ = some (.pointer (some ⟨sb,0,none⟩)) ∧ w'.cell? ⟨sb,0,none⟩ = some (.pointer (some ⟨fb,0,none⟩)) ∧ w'.cell? ⟨b4,0,none⟩ = some (.string n)) ∧ Hid (FwP w0 W fb S (k + 1) (F.sync n).1 w')):=hid fun V hV => by
  have hp2:=hp.below h.fs.lt hV
  have h3' : IsBlk V b3 #[.pointer (some ⟨sb,0,none⟩)] 49:=(hV.block _ (lt_of_block h3)).trans h3
  have h4' : IsBlk V b4 #[.string n] 9:=(hV.block _ (lt_of_block h4)).trans h4
  have hs' : StIn V sb c:=hs.below hV
  refine (d_sync (h.read hV) hk n).mono ?_
  rintro e w' ⟨he,hh,hk2⟩
  exact ⟨he,⟨blk_cell (hp2.obj hk2 h3' (by decide) (by decide) (by decide)) 0,by rw [← hfb]; exact blk_cell (hp2.obj hk2 hs' (by decide) (by decide) (by decide)) 0,blk_cell (hp2.obj hk2 h4' (by decide) (by decide) (by decide)) 0⟩,hid ((FwP.of hh hk2).base hV)⟩
 have c3 : W.cell? ⟨b3,0,none⟩ = some (.pointer (some ⟨sb,0,none⟩)):=blk_cell h3 0
 have c4 : W.cell? ⟨b4,0,none⟩ = some (.string n):=blk_cell h4 0
 have cs : W.cell? ⟨sb,0,none⟩ = some (.pointer (some ⟨fb,0,none⟩)):=by rw [← hfb]; exact blk_cell hs 0
 have hb0 : Below W.heap.size W W.drew:=(Below.refl _ _).drew
 clear h hp hk hs hfb h3 h4
 go_enter Tryz.func133,Tryz.ntmps133
 go_upto_region 1 with (fail)
 go_region_held3 (fun w' => w'.cell? ⟨b3,0,none⟩ = some (.pointer (some ⟨sb,0,none⟩)) ∧ w'.cell? ⟨sb,0,none⟩ = some (.pointer (some ⟨fb,0,none⟩)) ∧ w'.cell? ⟨b4,0,none⟩ = some (.string n))
   (first
     | go_keep
     | exact s2)
   (first
     | (go_at_call 115; (with_reducible refine (HAP.out _ ?_).mono ?_); exact hb0; rintro e w2 ⟨rfl,s2,HD⟩))
 go_wp2_with (fail)
 go_ret
 exact ⟨rfl,HD.out⟩
structure LyI (w0 w : World) (fb : Nat) (S : Nat → Prop) (sb : Nat) (c : StC) (n : ByteArray) (b : List UInt8) (a : Option Addr) (cap : Nat) (b3 b4 b5 ab k : Nat) (R : FsS × Int) (j : Nat) (wr : World) : Prop where
 ex : ∃ G,FwP w0 w fb S (k + j) G wr ∧ runW ((laySteps n b).drop j) G = R
 st : StIn wr sb c
 h3 : IsBlk wr b3 #[.pointer (some ⟨sb,0,none⟩)] 49
 h4 : IsBlk wr b4 #[.string n] 9
 h5 : IsBlk wr b5 #[.slice a b.length cap] 23
 ha : IsBlk wr ab #[.func (.func 131) #[] #[.pointer (some ⟨b3,0,none⟩),.pointer (some ⟨b4,0,none⟩)],.func (.func 132) #[] #[.pointer (some ⟨b3,0,none⟩),.pointer (some ⟨b4,0,none⟩),.pointer (some ⟨b5,0,none⟩)],.func (.func 133) #[] #[.pointer (some ⟨b3,0,none⟩),.pointer (some ⟨b4,0,none⟩)]] 55
 hu : RdAt byteKind wr (.slice a b.length cap) b
 new : ∀ g,(Value.slice a b.length cap).ownBlock = some g → g < w.heap.size ∧ ¬ S g
theorem LyI.next {R : FsS × Int} {b3 b4 b5 ab j : Nat} {wr w' : World} {f : FsS → FsS × Int} {T : Nat → Prop} {G : FsS} (h : LyI w0 w fb S sb c n b a cap b3 b4 b5 ab k R j wr) (hf : (laySteps n b)[j]? = some f) (hT : ∀ i,T i → S i ∨ w.heap.size ≤ i) (hp : PureS T wr) (hk : Keeps S w wr)
 (hr : runW ((laySteps n b).drop j) G = R) (hz : (f G).2 = 0) (h' : FwP w0 wr fb T (k + j + 1) (f G).1 w') : LyI w0 w fb S sb c n b a cap b3 b4 b5 ab k R (j + 1) w':=by
 refine ⟨⟨(f G).1,h'.trans hT hk,?_⟩,hp.obj h'.keeps h.st (by decide) (by decide) (by decide),hp.obj h'.keeps h.h3 (by decide) (by decide) (by decide),hp.obj h'.keeps h.h4 (by decide) (by decide) (by decide),hp.obj h'.keeps h.h5 (by decide) (by decide) (by decide),hp.obj h'.keeps h.ha (by decide) (by decide) (by decide),h.hu.block fun g hg hlt => h'.keeps.block g hlt (fun e => ?_),h.new⟩
 ·rw [← hr]
  obtain ⟨hj,he⟩:=List.getElem?_eq_some_iff.1 hf
  rw [List.drop_eq_getElem_cons hj,he]
  simp only [runW]
  rw [if_neg (by simp [hz])]
 ·have:=h.new g hg
  rcases hT g e with e | e
  ·exact this.2 e
  ·omega
theorem LyI.stop {R : FsS × Int} {j : Nat} {f : FsS → FsS × Int} {G : FsS} (hf : (laySteps n b)[j]? = some f) (hr : runW ((laySteps n b).drop j) G = R) (hz : (f G).2 ≠ 0) : f G = R:=by
 rw [← hr]
 obtain ⟨hj,he⟩:=List.getElem?_eq_some_iff.1 hf
 rw [List.drop_eq_getElem_cons hj,he]
 simp only [runW]
 rw [if_pos hz]
set_option maxHeartbeats 8000000 in
theorem st_lays (h : Hd w0 w fb F k S) (hp : PureS S w) (hk : k < 900000) (hs : StIn w sb c) (hfb : c.fb = fb) (n : ByteArray) (hu : RdAt byteKind w (.slice a b.length cap) b) (ho : ∀ g,(Value.slice a b.length cap).ownBlock = some g → g < w.heap.size ∧ ¬ S g) (hb : b.length ≤ 1000000000) :
 Calls Tryz.prog 82 #[.pointer (some ⟨sb,0,none⟩),.string n,.slice a b.length cap] w fun e w' => e = .returned (.int .i64 (laysR F n b).2) ∧ FwP w0 w fb S (k + 3) (laysR F n b).1 w':=by
 have eg1:=enters_of Tryz.func131 (P:=Tryz.prog) (by kernel_rfl) rfl
 have eg2:=enters_of Tryz.func132 (P:=Tryz.prog) (by kernel_rfl) rfl
 have eg3:=enters_of Tryz.func133 (P:=Tryz.prog) (by kernel_rfl) rfl
 obtain ⟨w1,hw1⟩ : ∃ x,x = w.alloc (.cells #[.pointer (some ⟨sb,0,none⟩)] 49):=⟨_,rfl⟩
 obtain ⟨w2,hw2⟩ : ∃ x,x = w1.alloc (.cells #[.string n] 9):=⟨_,rfl⟩
 obtain ⟨w3,hw3⟩ : ∃ x,x = w2.alloc (.cells #[.slice a b.length cap] 23):=⟨_,rfl⟩
 obtain ⟨b3,hb3⟩ : ∃ x,x = w.heap.size:=⟨_,rfl⟩
 obtain ⟨b4,hb4⟩ : ∃ x,x = w1.heap.size:=⟨_,rfl⟩
 obtain ⟨b5,hb5⟩ : ∃ x,x = w2.heap.size:=⟨_,rfl⟩
 have k1 : Below w.heap.size w w1:=by rw [hw1]; exact (Below.refl _ _).alloc (Nat.le_refl _) _
 have k2 : Below w1.heap.size w1 w2:=by rw [hw2]; exact (Below.refl _ _).alloc (Nat.le_refl _) _
 have k3 : Below w2.heap.size w2 w3:=by rw [hw3]; exact (Below.refl _ _).alloc (Nat.le_refl _) _
 have i3 : IsBlk w1 b3 #[.pointer (some ⟨sb,0,none⟩)] 49:=by rw [hw1,hb3]; exact blk_new _ _
 have i4 : IsBlk w2 b4 #[.string n] 9:=by rw [hw2,hb4]; exact blk_new _ _
 have i5 : IsBlk w3 b5 #[.slice a b.length cap] 23:=by rw [hw3,hb5]; exact blk_new _ _
 obtain ⟨ab,hab⟩ : ∃ x,x = w3.heap.size:=⟨_,rfl⟩
 obtain ⟨w4,hw4⟩ : ∃ x,x = w3.alloc (.cells #[.func (.func 131) #[] #[.pointer (some ⟨b3,0,none⟩),.pointer (some ⟨b4,0,none⟩)],.func (.func 132) #[] #[.pointer (some ⟨b3,0,none⟩),.pointer (some ⟨b4,0,none⟩),.pointer (some ⟨b5,0,none⟩)],.func (.func 133) #[] #[.pointer (some ⟨b3,0,none⟩),.pointer (some ⟨b4,0,none⟩)]] 55):=⟨_,rfl⟩
 have k4 : Below w3.heap.size w3 w4:=by rw [hw4]; exact (Below.refl _ _).alloc (Nat.le_refl _) _
 have i6 : IsBlk w4 ab #[.func (.func 131) #[] #[.pointer (some ⟨b3,0,none⟩),.pointer (some ⟨b4,0,none⟩)],.func (.func 132) #[] #[.pointer (some ⟨b3,0,none⟩),.pointer (some ⟨b4,0,none⟩),.pointer (some ⟨b5,0,none⟩)],.func (.func 133) #[] #[.pointer (some ⟨b3,0,none⟩),.pointer (some ⟨b4,0,none⟩)]] 55:=by rw [hw4,hab]; exact blk_new _ _
 have k34:=k3.trans (k4.mono k3.size)
 have k24:=k2.trans (k34.mono k2.size)
 have k14 : Below w.heap.size w w4:=k1.trans (k24.mono k1.size)
 have HI0 : Hid (LyI w0 w fb S sb c n b a cap b3 b4 b5 ab k (laysR F n b) 0 w4):=hid ⟨⟨F,(FwP.refl (h.read k14) (hp.below h.fs.lt k14)).base k14,by rw [List.drop_zero]; exact lays_run F n b⟩,hs.below k14,(k24.block _ (lt_of_block i3)).trans i3,(k34.block _ (lt_of_block i4)).trans i4,(k4.block _ (lt_of_block i5)).trans i5,i6,hu.below k14,ho⟩
 have HW1 : Hid (w.alloc (.cells #[.pointer (some ⟨sb,0,none⟩)] 49) = w1):=hid hw1.symm
 have HW2 : Hid (w1.alloc (.cells #[.string n] 9) = w2):=hid hw2.symm
 have HW3 : Hid (w2.alloc (.cells #[.slice a b.length cap] 23) = w3):=hid hw3.symm
 have HW4:=hid hw4
 have z1 : w1.heap.size = w.heap.size + 1:=by rw [hw1]; simp
 have z2 : w2.heap.size = w.heap.size + 1 + 1:=by rw [hw2]; simp; omega
 have HBS : Hid (b3 = w.heap.size ∧ b4 = w.heap.size + 1 ∧ b5 = w.heap.size + 1 + 1 ∧ ab = w3.heap.size):=hid ⟨hb3,by omega,by omega,hab⟩
 clear z1 z2
 have HC:=hid (And.intro hk (And.intro hfb hb))
 clear h hp hk hs hfb hu ho hb hw1 hw2 hw3 hw4 hb3 hb4 hb5 hab k1 k2 k3 k4 k34 k24 k14 i3 i4 i5 i6
 obtain ⟨R,hR⟩ : ∃ R,R = laysR F n b:=⟨_,rfl⟩
 rw [← hR] at HI0 ⊢
 clear hR
 go_enter Tryz.func82,Tryz.ntmps82
 go_upto_region 1 with (fail)
 rw [HW1.out,HW2.out,HW3.out,← HBS.out.2.2.1,← HBS.out.2.1,← HBS.out.1]
 go_upto_region 2 with (fail)
 rw [← HW4.out,← HBS.out.2.2.2]
 clear HW1 HW2 HW3 HW4
 clear HBS
 go_loopw [15] (fun iv wr => ∃ j : Nat,j ≤ 3 ∧ iv = .int .i64 (j : Int) ∧ Hid (LyI w0 w fb S sb c n b a cap b3 b4 b5 ab k R j wr)) (fun iv _ => 3 - (intOf iv).toNat)
 case atStart => exact ⟨0,by decide,rfl,HI0⟩
 case round =>
  obtain ⟨j,hj,rfl,HI⟩:=hrel
  obtain ⟨G,hG,hGR⟩:=HI.out.ex
  obtain ⟨T,hT1,hT2,hT3⟩:=hG.ex
  have HT:=hid hT3
  have HT1:=hid hT1
  have HT2:=hid hT2
  have HGR:=hid hGR
  have HKP:=hid hG.keeps
  clear hT1 hT2 hT3 hG hGR
  have hjj : j = 0 ∨ j = 1 ∨ j = 2 ∨ j = 3:=by omega
  rcases hjj with rfl | rfl | rfl | rfl
  ·have ca : wr.cell? ⟨ab,0,none⟩ = some (.func (.func 131) #[] #[.pointer (some ⟨b3,0,none⟩),.pointer (some ⟨b4,0,none⟩)]):=blk_cell HI.out.ha 0
   have HQ:=hid (q_lays1 (n:=n) HT1.out HT2.out (by have:=HC.out.1; omega) HI.out.st HC.out.2.1 HI.out.h3 HI.out.h4)
   go_wp2_with (fail)
   refine HQ.out.mono ?_
   rintro e w5 ⟨rfl,hp5⟩
   have HP5:=hid hp5
   clear hp5 ca
   by_cases hr : (G.create n).2 = 0
   ·have hr0 : ((G.create n).2 != 0) = false:=by simp [hr]
    have HI2 : Hid (LyI w0 w fb S sb c n b a cap b3 b4 b5 ab k R (0 + 1) w5):=hid (HI.out.next (f:=fun F => F.create n) rfl HT.out HT2.out HKP.out HGR.out hr HP5.out)
    go_wp2_with (fail)
    go_roundw
    case rel => exact ⟨0 + 1,by decide,by go_num,HI2⟩
    case measure => simp [intOf]
   ·have hr0 : ((G.create n).2 != 0) = true:=by simp [hr]
    have HST : Hid (G.create n = R):=hid (LyI.stop (j:=0) (f:=fun F => F.create n) rfl HGR.out hr)
    go_wp2_with (fail)
    go_ret
    rw [← HST.out]
    exact ⟨rfl,(HP5.out.trans HT.out HKP.out).more (by omega)⟩
  ·have ca : wr.cell? ⟨ab,1,none⟩ = some (.func (.func 132) #[] #[.pointer (some ⟨b3,0,none⟩),.pointer (some ⟨b4,0,none⟩),.pointer (some ⟨b5,0,none⟩)]):=blk_cell HI.out.ha 1
   have HQ:=hid (q_lays2 (n:=n) (b:=b) HT1.out HT2.out (by have:=HC.out.1; omega) HI.out.st HC.out.2.1 HI.out.h3 HI.out.h4 HI.out.h5 HI.out.hu HC.out.2.2)
   go_wp2_with (fail)
   refine HQ.out.mono ?_
   rintro e w5 ⟨rfl,hp5⟩
   have HP5:=hid hp5
   clear hp5 ca
   by_cases hr : (G.append n b).2 = 0
   ·have hr0 : ((G.append n b).2 != 0) = false:=by simp [hr]
    have HI2 : Hid (LyI w0 w fb S sb c n b a cap b3 b4 b5 ab k R (1 + 1) w5):=hid (HI.out.next (f:=fun F => F.append n b) rfl HT.out HT2.out HKP.out HGR.out hr HP5.out)
    go_wp2_with (fail)
    go_roundw
    case rel => exact ⟨1 + 1,by decide,by go_num,HI2⟩
    case measure => simp [intOf]
   ·have hr0 : ((G.append n b).2 != 0) = true:=by simp [hr]
    have HST : Hid (G.append n b = R):=hid (LyI.stop (j:=1) (f:=fun F => F.append n b) rfl HGR.out hr)
    go_wp2_with (fail)
    go_ret
    rw [← HST.out]
    exact ⟨rfl,(HP5.out.trans HT.out HKP.out).more (by omega)⟩
  ·have ca : wr.cell? ⟨ab,2,none⟩ = some (.func (.func 133) #[] #[.pointer (some ⟨b3,0,none⟩),.pointer (some ⟨b4,0,none⟩)]):=blk_cell HI.out.ha 2
   have HQ:=hid (q_lays3 (n:=n) HT1.out HT2.out (by have:=HC.out.1; omega) HI.out.st HC.out.2.1 HI.out.h3 HI.out.h4)
   go_wp2_with (fail)
   refine HQ.out.mono ?_
   rintro e w5 ⟨rfl,hp5⟩
   have HP5:=hid hp5
   clear hp5 ca
   by_cases hr : (G.sync n).2 = 0
   ·have hr0 : ((G.sync n).2 != 0) = false:=by simp [hr]
    have HI2 : Hid (LyI w0 w fb S sb c n b a cap b3 b4 b5 ab k R (2 + 1) w5):=hid (HI.out.next (f:=fun F => F.sync n) rfl HT.out HT2.out HKP.out HGR.out hr HP5.out)
    go_wp2_with (fail)
    go_roundw
    case rel => exact ⟨2 + 1,by decide,by go_num,HI2⟩
    case measure => simp [intOf]
   ·have hr0 : ((G.sync n).2 != 0) = true:=by simp [hr]
    have HST : Hid (G.sync n = R):=hid (LyI.stop (j:=2) (f:=fun F => F.sync n) rfl HGR.out hr)
    go_wp2_with (fail)
    go_ret
    rw [← HST.out]
    exact ⟨rfl,(HP5.out.trans HT.out HKP.out).more (by omega)⟩
  ·go_wp2_with (fail)
   go_ret
   have he : (G,(0 : Int)) = R:=HGR.out
   rw [← he]
   exact ⟨rfl,⟨⟨T,HT1.out,HT2.out,HT.out⟩,HKP.out⟩⟩
end
structure StW (w0 w : World) (fb : Nat) (S : Nat → Prop) (k : Nat) (G : FsS) (sb : Nat) (c : StC) (m : Prs) (n : Nat) (w' : World) : Prop where
 ex : ∃ T,Hd w0 w' fb G k T ∧ PureS T w' ∧ ∀ i,T i → S i ∨ w.heap.size ≤ i
 st : StB w' sb c m n
 keeps : Keeps (fun i => S i ∨ i = sb) w w'
section
variable {w0 w w' W W' : World} {fb k k' sb n : Nat} {F G : FsS} {S T : Nat → Prop} {c c' : StC} {m : Prs}
theorem StW.trans (h : StW w0 W fb T k G sb c m n w') (hT : ∀ i,T i → S i ∨ w.heap.size ≤ i) (hk : Keeps (fun i => S i ∨ i = sb) w W) : StW w0 w fb S k G sb c m n w':=by
 obtain ⟨U,h1,h2,h3⟩:=h.ex
 exact ⟨⟨U,h1,h2,fun i hi => by rcases h3 i hi with e | e; exact hT i e; exact .inr (Nat.le_trans hk.size e)⟩,h.st,hk.trans h.keeps fun i hi e => by
  rcases e with e | e
  ·rcases hT i e with e | e; exact .inl e; omega
  ·exact .inr e⟩
theorem StW.more (h : StW w0 w fb S k G sb c m n w') (hk : k ≤ k') : StW w0 w fb S k' G sb c m n w':=by
 obtain ⟨U,h1,h2,h3⟩:=h.ex
 exact ⟨⟨U,⟨h1.fs,h1.low,h1.below,h1.ok.mono hk⟩,h2,h3⟩,h.st,h.keeps⟩
theorem StW.same (h : Hd w0 w fb F k S) (hp : PureS S w) (hs : StB w sb c m n) (hb : Below w.heap.size w w') : StW w0 w fb S k F sb c m n w' :=
 ⟨⟨S,h.read hb,hp.below h.fs.lt hb,fun _ e => .inl e⟩,hs.below hb,(Keeps.of_below hb).mono fun _ _ e => e.elim⟩
theorem StW.met (h : Hd w0 W fb G k T) (hp : PureS T W) (hs : StB W sb c m n) (hlow : w0.heap.size ≤ sb) (hs4 : StIn w' sb c') (hc : c'.tb = c.tb) (hk4 : Keeps (Only sb) W w') (hT : ∀ i,T i → S i ∨ w.heap.size ≤ i) (hk : Keeps (fun i => S i ∨ i = sb) w W) : StW w0 w fb S k G sb c' m n w':=by
 have hn : ¬ T sb:=hp.not hs.blk (by decide) (by decide) (by decide)
 exact ⟨⟨T,h.keepsOut hk4 (fun i (e : i = sb) => by rw [e]; exact hn) (fun i (e : i = sb) => by rw [e]; exact hlow),hp.keeps h.fs.lt hk4 (fun i (e : i = sb) => by rw [e]; exact hn),hT⟩,hs.reblk hk4 hs4 hc,hk.trans hk4 fun i _ (e : i = sb) => .inr e⟩
set_option maxHeartbeats 4000000 in
theorem st_undo (h : Hd w0 w fb F k S) (hp : PureS S w) (hk : k < 900000) (hs : StB w sb c m n) (hfb : c.fb = fb) (hlow : w0.heap.size ≤ sb) (nm : ByteArray) :
 Calls Tryz.prog 81 #[.pointer (some ⟨sb,0,none⟩),.string nm] w fun e w' => e = .returned (.tuple #[]) ∧ StW w0 w fb S (k + 1) (undoR (F,c.stuck) nm).1 sb { c with stuck:=(undoR (F,c.stuck) nm).2 } m n w':=by
 have H:=hid h
 have HP:=hid hp
 have HS:=hid hs
 have HC:=hid (And.intro hk (And.intro hfb hlow))
 have s0 : w.cell? ⟨sb,0,none⟩ = some (.pointer (some ⟨fb,0,none⟩)):=by rw [← hfb]; exact blk_cell hs.blk 0
 clear h hp hs hk hfb hlow
 obtain ⟨o,ho⟩ : ∃ o,o = F.find nm:=⟨_,rfl⟩
 have HO:=hid ho
 have HSZ:=hid (d_size H.out nm)
 rw [← ho] at HSZ
 clear ho
 cases o with
 | none =>
   have HEQ : Hid (undoR (F,c.stuck) nm = (F,c.stuck)):=hid (by unfold undoR; simp only; rw [← HO.out])
   go_enter Tryz.func81,Tryz.ntmps81
   go_wp2_with (fail)
   refine HSZ.out.mono ?_
   rintro e wx ⟨rfl,rfl⟩
   simp only [sizeRes]
   go_wp2_with (fail)
   go_end0
   rw [HEQ.out]
   exact ⟨rfl,(StW.same H.out HP.out (by exact HS.out) (Below.refl _ _)).more (by omega)⟩
 | some x =>
   have HEQ : Hid (undoR (F,c.stuck) nm = ((F.remove nm).1,c.stuck || (F.remove nm).2 == 5)):=hid (by unfold undoR; simp only; rw [← HO.out])
   go_enter Tryz.func81,Tryz.ntmps81
   go_wp2_with (fail)
   refine HSZ.out.mono ?_
   rintro e wx ⟨rfl,rfl⟩
   simp only [sizeRes]
   go_wp2_with (fail)
   refine (d_remove H.out (by have:=HC.out.1; omega) nm).mono ?_
   rintro e w1 ⟨rfl,hh,hkk⟩
   have HF:=hid (FwP.of hh hkk)
   have HS1:=hid (HS.out.pure HP.out hkk)
   clear hh hkk s0
   go_wp2_with (fail)
   refine (st_met HS1.out.blk _).mono ?_
   rintro e w2 ⟨rfl,hs2,hk2⟩
   have HS2:=hid hs2
   have HK2:=hid hk2
   clear hs2 hk2
   go_wp2_with (fail)
   go_end0
   rw [HEQ.out]
   obtain ⟨T,t1,t2,t3⟩:=HF.out.ex
   exact ⟨rfl,StW.met t1 t2 HS1.out HC.out.2.2 HS2.out rfl HK2.out t3 (HF.out.keeps.mono fun _ _ e => .inl e)⟩
def ckU (F : FsS) (c : StC) (N : Nat) (e : Int) (done : Bool) : FsS × Bool:=if done = false ∧ e ≠ 5 then undoR (undoR (F,c.stuck || e == 5) (baseNm c.dir N)) (nmOf c.dir sNext) else (F,c.stuck || e == 5)
theorem StW.box (h : StW w0 w fb S k G sb c m n w') (hp : PureS S w) (hs : StIn w sb c') {b : Nat} {cs : Array Value} {T : TypeId} (hb : IsBlk w b cs T) (h1 : T ≠ 102) (h2 : T ≠ 107) (h3 : T ≠ 5) (h4 : T ≠ 126) : IsBlk w' b cs T :=
 h.keeps.obj hb fun e => by
  rcases e with e | e
  ·exact hp.not hb h1 h2 h3 e
  ·subst e; exact h4 (blk_type hb hs)
set_option maxHeartbeats 8000000 in
theorem q_ckpt1 {x0 x1 x2 x3 N : Nat} {er : Int} {done : Bool} (u : FrameMode) (h : Hd w0 w fb F k S) (hp : PureS S w) (hk : k < 800000) (hs : StB w sb c m n) (hfb : c.fb = fb) (hlow : w0.heap.size ≤ sb) (hdir : c.dir.size ≤ 900) (hN : N < 100000000)
 (i0 : IsBlk w x0 #[.pointer (some ⟨sb,0,none⟩)] 49) (i1 : IsBlk w x1 #[.int .i64 er] 27) (i2 : IsBlk w x2 #[.bool done] 4) (i3 : IsBlk w x3 #[.int .i64 (N : Int)] 3) :
 CallsD Tryz.prog 80 #[.pointer (some ⟨x0,0,none⟩),.pointer (some ⟨x1,0,none⟩),.pointer (some ⟨x2,0,none⟩),.pointer (some ⟨x3,0,none⟩)] u w fun e u' w' => u' = u ∧ e = .returned (.tuple #[]) ∧ StW w0 w fb S (k + 2) (ckU F c N er done).1 sb { c with stuck:=(ckU F c N er done).2 } m n w':=by
 have H:=hid h
 have HP:=hid hp
 have HS:=hid hs
 have HX:=hid (And.intro i0 (And.intro i1 (And.intro i2 i3)))
 have HC:=hid (And.intro hk (And.intro hfb (And.intro hlow (And.intro hdir hN))))
 have c0 : w.cell? ⟨x0,0,none⟩ = some (.pointer (some ⟨sb,0,none⟩)):=blk_cell i0 0
 have c1 : w.cell? ⟨x1,0,none⟩ = some (.int .i64 er):=blk_cell i1 0
 clear h hp hs i0 i1 i2 i3 hk hfb hlow hdir hN
 go_enter_d Tryz.func80,Tryz.ntmps80
 go_wp2_with (fail)
 refine (st_met HS.out.blk er).mono ?_
 rintro e w1 ⟨rfl,hs1,hk1⟩
 have HW1 : Hid (StW w0 w fb S k F sb (c.met er) m n w1):=hid (StW.met H.out HP.out HS.out HC.out.2.2.1 hs1 rfl hk1 (fun _ e => .inl e) (Keeps.refl _ _))
 have HX1 : Hid (IsBlk w1 x0 #[.pointer (some ⟨sb,0,none⟩)] 49 ∧ IsBlk w1 x1 #[.int .i64 er] 27 ∧ IsBlk w1 x2 #[.bool done] 4 ∧ IsBlk w1 x3 #[.int .i64 (N : Int)] 3):=hid
   ⟨HW1.out.box HP.out HS.out.blk HX.out.1 (by decide) (by decide) (by decide) (by decide),HW1.out.box HP.out HS.out.blk HX.out.2.1 (by decide) (by decide) (by decide) (by decide),HW1.out.box HP.out HS.out.blk HX.out.2.2.1 (by decide) (by decide) (by decide) (by decide),HW1.out.box HP.out HS.out.blk HX.out.2.2.2 (by decide) (by decide) (by decide) (by decide)⟩
 clear hs1 hk1 c0 c1
 have c1 : w1.cell? ⟨x1,0,none⟩ = some (.int .i64 er):=blk_cell HX1.out.2.1 0
 have c2 : w1.cell? ⟨x2,0,none⟩ = some (.bool done):=blk_cell HX1.out.2.2.1 0
 have HFIN : Hid (¬ (done = false ∧ er ≠ 5) → StW w0 w fb S (k + 2) (ckU F c N er done).1 sb { c with stuck:=(ckU F c N er done).2 } m n w1):=hid fun hc => by
  have e : ckU F c N er done = (F,c.stuck || er == 5):=by unfold ckU; rw [if_neg hc]
  rw [e]
  exact HW1.out.more (by omega)
 cases done with
 | true =>
   have HF2:=hid (HFIN.out (by simp))
   clear HFIN
   go_wp2_with (fail)
   go_end0
   exact ⟨rfl,HF2.out⟩
 | false =>
   by_cases he5 : er = 5
   ·have HF2:=hid (HFIN.out (by simp [he5]))
    have t0 : (er != 5) = false:=by simp [he5]
    clear HFIN
    go_wp2_with (fail)
    go_end0
    exact ⟨rfl,HF2.out⟩
   have t0 : (er != 5) = true:=by simp [he5]
   have HCK : Hid (ckU F c N er false = undoR (undoR (F,c.stuck || er == 5) (baseNm c.dir N)) (nmOf c.dir sNext)):=hid (by unfold ckU; rw [if_pos ⟨rfl,he5⟩])
   clear HFIN he5
   obtain ⟨T1,hd1,hp1,ht1⟩:=HW1.out.ex
   have HD1:=hid hd1
   have HP1:=hid hp1
   have HT1:=hid ht1
   clear hd1 hp1 ht1
   go_upto_region 2 with (fail)
   clear c1 c2
   have c0 : w1.cell? ⟨x0,0,none⟩ = some (.pointer (some ⟨sb,0,none⟩)):=blk_cell HX1.out.1 0
   have c3 : w1.cell? ⟨x3,0,none⟩ = some (.int .i64 (N : Int)):=blk_cell HX1.out.2.2.2 0
   have HBN : Hid (∀ V,Below w1.heap.size w1 V → Calls Tryz.prog 66 #[.pointer (some ⟨sb,0,none⟩),.int .i64 (N : Int)] V fun e w' => e = .returned (.string (baseNm c.dir N)) ∧ (w'.cell? ⟨x0,0,none⟩ = some (.pointer (some ⟨sb,0,none⟩)) ∧ w'.cell? ⟨x3,0,none⟩ = some (.int .i64 (N : Int))) ∧ Hid (Below w1.heap.size w1 w')):=hid fun V hV => by
    refine (st_baseName (c:=c.met er) (HW1.out.st.below hV).blk (by have:=HC.out.2.2.2.1; show c.dir.size ≤ _; omega) N HC.out.2.2.2.2 (N : Int) rfl).mono ?_
    rintro e w' ⟨he,hb⟩
    have hb2:=hV.trans (hb.mono hV.size)
    exact ⟨he,⟨blk_cell ((hb2.block _ (lt_of_block HX1.out.1)).trans HX1.out.1) 0,blk_cell ((hb2.block _ (lt_of_block HX1.out.2.2.2)).trans HX1.out.2.2.2) 0⟩,hid hb2⟩
   have HUN : Hid (∀ V,Below w1.heap.size w1 V → Calls Tryz.prog 81 #[.pointer (some ⟨sb,0,none⟩),.string (baseNm c.dir N)] V fun e w' => e = .returned (.tuple #[]) ∧ (w'.cell? ⟨x0,0,none⟩ = some (.pointer (some ⟨sb,0,none⟩)) ∧ w'.cell? ⟨x3,0,none⟩ = some (.int .i64 (N : Int))) ∧ Hid (StW w0 w1 fb T1 (k + 1) (undoR (F,c.stuck || er == 5) (baseNm c.dir N)).1 sb { c with stuck:=(undoR (F,c.stuck || er == 5) (baseNm c.dir N)).2 } m n w')):=hid fun V hV => by
    refine (st_undo (c:=c.met er) (HD1.out.read hV) (HP1.out.below HD1.out.fs.lt hV) (by have:=HC.out.1; omega) (HW1.out.st.below hV) HC.out.2.1 HC.out.2.2.1 (baseNm c.dir N)).mono ?_
    rintro e w' ⟨he,hw⟩
    have h2:=hw.trans (w:=w1) (S:=T1) (fun _ e => .inl e) ((Keeps.of_below hV).mono fun _ _ e => e.elim)
    exact ⟨he,⟨blk_cell (h2.box HP1.out HW1.out.st.blk HX1.out.1 (by decide) (by decide) (by decide) (by decide)) 0,blk_cell (h2.box HP1.out HW1.out.st.blk HX1.out.2.2.2 (by decide) (by decide) (by decide) (by decide)) 0⟩,hid h2⟩
   have hb0 : Below w1.heap.size w1 w1.drew:=(Below.refl _ _).drew
   go_region_held3 (fun w' => w'.cell? ⟨x0,0,none⟩ = some (.pointer (some ⟨sb,0,none⟩)) ∧ w'.cell? ⟨x3,0,none⟩ = some (.int .i64 (N : Int)))
     (first
       | go_keep
       | exact s3
       | exact s2)
     (first
       | (go_at_call 66; (with_reducible refine (HBN.out _ ?_).mono ?_); exact hb0; rintro e w2 ⟨rfl,s2,HB2⟩)
       | (go_at_call 81; (with_reducible refine (HUN.out _ HB2.out).mono ?_); rintro e w3 ⟨rfl,s3,HW3⟩))
   clear hb0 s2 c0 c3
   have HX3 : Hid (IsBlk w3 x0 #[.pointer (some ⟨sb,0,none⟩)] 49):=hid (HW3.out.box HP1.out HW1.out.st.blk HX1.out.1 (by decide) (by decide) (by decide) (by decide))
   have HW3' : Hid (StW w0 w fb S (k + 1) (undoR (F,c.stuck || er == 5) (baseNm c.dir N)).1 sb { c with stuck:=(undoR (F,c.stuck || er == 5) (baseNm c.dir N)).2 } m n w3):=hid (HW3.out.trans HT1.out HW1.out.keeps)
   obtain ⟨U,hU⟩ : ∃ U,U = undoR (F,c.stuck || er == 5) (baseNm c.dir N):=⟨_,rfl⟩
   rw [← hU] at HW3' HCK
   clear HW3 hU HUN HBN HX1 HD1 HP1 HT1
   obtain ⟨T3,hd3,hp3,ht3⟩:=HW3'.out.ex
   have HD3:=hid hd3
   have HP3:=hid hp3
   have HT3:=hid ht3
   clear hd3 hp3 ht3
   have c0 : w3.cell? ⟨x0,0,none⟩ = some (.pointer (some ⟨sb,0,none⟩)):=blk_cell HX3.out 0
   have HNM : Hid (∀ V,Below w3.heap.size w3 V → Calls Tryz.prog 65 #[.pointer (some ⟨sb,0,none⟩),.string sNext] V fun e w' => e = .returned (.string (nmOf c.dir sNext)) ∧ V = w'):=hid fun V hV =>
    st_name (c:={ c with stuck:=U.2 }) (HW3'.out.st.below hV).blk (by have:=HC.out.2.2.2.1; show c.dir.size ≤ _; omega) sNext (by decide)
   have HUN : Hid (∀ V,Below w3.heap.size w3 V → Calls Tryz.prog 81 #[.pointer (some ⟨sb,0,none⟩),.string (nmOf c.dir sNext)] V fun e w' => e = .returned (.tuple #[]) ∧ w'.cell? ⟨x0,0,none⟩ = some (.pointer (some ⟨sb,0,none⟩)) ∧ Hid (StW w0 w3 fb T3 (k + 1 + 1) (undoR U (nmOf c.dir sNext)).1 sb { c with stuck:=(undoR U (nmOf c.dir sNext)).2 } m n w')):=hid fun V hV => by
    refine (st_undo (c:={ c with stuck:=U.2 }) (HD3.out.read hV) (HP3.out.below HD3.out.fs.lt hV) (by have:=HC.out.1; omega) (HW3'.out.st.below hV) HC.out.2.1 HC.out.2.2.1 (nmOf c.dir sNext)).mono ?_
    rintro e w' ⟨he,hw⟩
    have h2:=hw.trans (w:=w3) (S:=T3) (fun _ e => .inl e) ((Keeps.of_below hV).mono fun _ _ e => e.elim)
    exact ⟨he,blk_cell (h2.box HP3.out HW3'.out.st.blk HX3.out (by decide) (by decide) (by decide) (by decide)) 0,hid h2⟩
   have hb0 : Below w3.heap.size w3 w3.drew:=(Below.refl _ _).drew
   go_upto_region 3 with (fail)
   go_region_held3 (fun w' => w'.cell? ⟨x0,0,none⟩ = some (.pointer (some ⟨sb,0,none⟩)))
     (first
       | go_keep
       | exact s4)
     (first
       | (go_at_call 65; (with_reducible refine (HNM.out _ ?_).mono ?_); exact hb0; rintro e w4 ⟨rfl,rfl⟩)
       | (go_at_call 81; (with_reducible refine (HUN.out _ ?_).mono ?_); exact hb0; rintro e w5 ⟨rfl,s4,HW5⟩))
   go_wp2_with (fail)
   go_end0
   rw [HCK.out]
   exact ⟨rfl,HW5.out.trans HT3.out HW3'.out.keeps⟩
end
end Go.Proofs.YtagdchgkjjpacaaGreat
