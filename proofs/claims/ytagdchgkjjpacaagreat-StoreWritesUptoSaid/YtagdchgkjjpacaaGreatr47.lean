/- Ranges of the table at texts. -/
import Derived.Test.YtagdchgkjjpacaaGreatr38
import Derived.Test.YtagdchgkjjpacaaGreatr46
import Derived.Deep.DeepCutAuto
import Derived.Test.YtagdchgkjjpacaaGreatr11
import Derived.Test.YtagdchgkjjpacaaGreatRows
import Derived.ProofKit
import Derived.OpenShut
import Derived.JoinedCond
import Derived.Deep.Slices
import Derived.Deep.Fields
import Derived.ChangeSame
import Derived.Test.YtagdchgkjjpacaaGreatr07
set_option maxRecDepth 100000
open Go.Lib (hid)
set_option linter.unusedSimpArgs false
set_option linter.unusedVariables false
set_option linter.unusedSectionVars false
namespace Go.Proofs.YtagdchgkjjpacaaGreat
open Go.RowKit Go.RwLone Go.Shelf
attribute [local go_sem] Oper.semAt_some
attribute [local go_sem] no_calleeS
namespace Ss
abbrev rangeL (lo hi : ByteArray) (l : List (ByteArray × ByteArray)) : List (ByteArray × ByteArray):=l.filter (fun x => !slt x.1 lo && slt x.1 hi)
theorem range_split (lo hi : ByteArray) : ∀ (l : List (ByteArray × ByteArray)),Rise slt l → ∃ M : Nat,M + (rangeL lo hi l).length ≤ l.length ∧
 (∀ (j : Nat) (x : ByteArray × ByteArray),l[j]? = some x → (slt x.1 lo = true ↔ j < M)) ∧ (∀ (j : Nat) (x : ByteArray × ByteArray),l[j]? = some x → M + (rangeL lo hi l).length ≤ j → slt x.1 hi = false) ∧
 (∀ (j : Nat) (x : ByteArray × ByteArray),(rangeL lo hi l)[j]? = some x → l[M + j]? = some x) ∧ (∀ (j : Nat) (x : ByteArray × ByteArray),(rangeL lo hi l)[j]? = some x → slt x.1 hi = true):=by
 intro l
 induction l with
 | nil => intro _; exact ⟨0,by simp,by simp,by simp,by simp,by simp⟩
 | cons y l ih =>
   intro h
   obtain ⟨hy,hl⟩:=List.pairwise_cons.1 h
   obtain ⟨M,h1,h2,h3,h4,h5⟩:=ih hl
   cases c1 : slt y.1 lo with
   | true =>
     have e : rangeL lo hi (y :: l) = rangeL lo hi l:=by simp [rangeL,c1]
     rw [e]
     refine ⟨M + 1,by simp; omega,?_,?_,?_,h5⟩
     ·intro j x hx
      cases j with
      | zero => simp at hx; subst hx; simp [c1]
      | succ j => simp only [List.getElem?_cons_succ] at hx; rw [h2 j x hx]; omega
     ·intro j x hx hj
      cases j with
      | zero => omega
      | succ j => simp only [List.getElem?_cons_succ] at hx; exact h3 j x hx (by omega)
     ·intro j x hx
      rw [show M + 1 + j = (M + j) + 1 by omega,List.getElem?_cons_succ]
      exact h4 j x hx
   | false =>
     have hge : ∀ x ∈ l,slt x.1 lo = false:=fun x hx => by
      cases c : slt x.1 lo with
      | false => rfl
      | true => have:=slt_ord.tr _ _ _ (hy x hx) c; rw [c1] at this; cases this
     have hM : ∀ j x,l[j]? = some x → ¬ j < M:=fun j x hx hj => by
      have:=(h2 j x hx).2 hj
      rw [hge x (List.mem_of_getElem? hx)] at this; cases this
     have hM0 : M = 0 ∨ l.length < M ∨ l = []:=by
      by_cases hz : M = 0
      ·exact .inl hz
      ·cases l with
       | nil => exact .inr (.inr rfl)
       | cons z l => exact absurd (Nat.pos_of_ne_zero hz) (hM 0 z rfl)
     have hM1 : M = 0:=by
      rcases hM0 with h | h | h
      ·exact h
      ·omega
      ·subst h; simp at h1; omega
     subst hM1
     cases c2 : slt y.1 hi with
     | true =>
       have e : rangeL lo hi (y :: l) = y :: rangeL lo hi l:=by simp [rangeL,c1,c2]
       rw [e]
       refine ⟨0,by simp; omega,?_,?_,?_,?_⟩
       ·intro j x hx
        cases j with
        | zero => simp at hx; subst hx; simp [c1]
        | succ j => simp only [List.getElem?_cons_succ] at hx; rw [hge x (List.mem_of_getElem? hx)]; simp
       ·intro j x hx hj
        cases j with
        | zero => simp at hj
        | succ j => simp only [List.getElem?_cons_succ] at hx; exact h3 j x hx (by simp at hj; omega)
       ·intro j x hx
        cases j with
        | zero => simpa using hx
        | succ j => simp only [List.getElem?_cons_succ] at hx; rw [show 0 + (j + 1) = (0 + j) + 1 by omega,List.getElem?_cons_succ]; exact h4 j x hx
       ·intro j x hx
        cases j with
        | zero => simp at hx; subst hx; exact c2
        | succ j => simp only [List.getElem?_cons_succ] at hx; exact h5 j x hx
     | false =>
       have hge2 : ∀ x ∈ l,slt x.1 hi = false:=fun x hx => by
        cases c : slt x.1 hi with
        | false => rfl
        | true => have:=slt_ord.tr _ _ _ (hy x hx) c; rw [c2] at this; cases this
       have e : rangeL lo hi (y :: l) = []:=by
        show List.filter _ _ = []
        refine filt_none fun x hx => ?_
        rcases List.mem_cons.1 hx with rfl | hx
        ·simp [c2]
        ·simp [hge2 x hx]
       rw [e]
       refine ⟨0,by simp,?_,?_,by simp,by simp⟩
       ·intro j x hx
        cases j with
        | zero => simp at hx; subst hx; simp [c1]
        | succ j => simp only [List.getElem?_cons_succ] at hx; rw [hge x (List.mem_of_getElem? hx)]; simp
       ·intro j x hx _
        cases j with
        | zero => simp at hx; subst hx; exact c2
        | succ j => simp only [List.getElem?_cons_succ] at hx; exact hge2 x (List.mem_of_getElem? hx)
def btw (lo hi k : ByteArray) : Int:=if slt k lo then -1 else if slt k hi then 0 else 1
theorem btw_in (lo hi k : ByteArray) : btw lo hi k = -1 ∨ btw lo hi k = 0 ∨ btw lo hi k = 1:=by
 unfold btw; split
 ·exact .inl rfl
 ·split
  ·exact .inr (.inl rfl)
  ·exact .inr (.inr rfl)
theorem s_btw (lo hi k : ByteArray) (bl bh : Nat) (W : World) (h1 : IsBlk W bl #[.string lo] 9) (h2 : IsBlk W bh #[.string hi] 9) :
 Calls Tryz.prog 181 (#[.string k] ++ #[.pointer (some ⟨bl,0,none⟩),.pointer (some ⟨bh,0,none⟩)]) W fun e W' => e = .returned (.int .i64 (btw lo hi k)) ∧ W = W':=by
 show Calls Tryz.prog 181 #[.string k,.pointer (some ⟨bl,0,none⟩),.pointer (some ⟨bh,0,none⟩)] W _
 have c1 : W.cell? ⟨bl,0,none⟩ = some (.string lo):=blk_cell h1 0
 have c2 : W.cell? ⟨bh,0,none⟩ = some (.string hi):=blk_cell h2 0
 clear h1 h2
 cases h : slt k lo with
 | true =>
   have e1 : Hid (btw lo hi k = -1):=hid (by simp [btw,h])
   have q1 : Op.bytesLess k.toList lo.toList = true:=h
   clear h
   go_enter Tryz.func181,Tryz.ntmps181
   go_wp2
   go_ret
   exact ⟨by rw [e1.out]; rfl,rfl⟩
 | false =>
   have q1 : Op.bytesLess k.toList lo.toList = false:=h
   cases h' : slt k hi with
   | true =>
     have e1 : Hid (btw lo hi k = 0):=hid (by simp [btw,h,h'])
     have q2 : Op.bytesLess k.toList hi.toList = true:=h'
     clear h h'
     go_enter Tryz.func181,Tryz.ntmps181
     go_wp2
     go_ret
     exact ⟨by rw [e1.out]; rfl,rfl⟩
   | false =>
     have e1 : Hid (btw lo hi k = 1):=hid (by simp [btw,h,h'])
     have q2 : Op.bytesLess k.toList hi.toList = false:=h'
     clear h h'
     go_enter Tryz.func181,Tryz.ntmps181
     go_wp2
     go_ret
     exact ⟨by rw [e1.out]; rfl,rfl⟩
theorem walkL_btw (lo hi : ByteArray) : ∀ t : Tr ByteArray ByteArray,Rise slt t.ino → walkL (btw lo hi) t = t.ino.filter (fun x => !slt x.1 lo && slt x.1 hi):=by
 intro t
 induction t with
 | leaf => intro _; rfl
 | node k v l r hl hr =>
   intro h
   obtain ⟨h1,h2,ha,hb,_,_⟩:=rise_split slt_ord h
   show walkL _ _ = (l.ino ++ (k,v) :: r.ino).filter _
   rw [List.filter_append,List.filter_cons]
   rw [← hl h1,← hr h2]
   rw [walkL_node]
   cases c1 : slt k lo with
   | true =>
     have e : btw lo hi k = -1:=by simp [btw,c1]
     have e0 : walkL (btw lo hi) l = []:=by
      rw [hl h1]
      exact filt_none fun x hx => by simp [slt_ord.tr _ _ _ (ha x hx) c1]
     simp [e,e0]
   | false =>
     cases c2 : slt k hi with
     | true => simp [btw,c1,c2]
     | false =>
       have e : btw lo hi k = 1:=by simp [btw,c1,c2]
       have e0 : walkL (btw lo hi) r = []:=by
        rw [hr h2]
        refine filt_none fun x hx => ?_
        have : slt x.1 hi = false:=by
         cases c : slt x.1 hi with
         | false => rfl
         | true => have:=slt_ord.tr _ _ _ (hb x hx) c; rw [c2] at this; cases this
        simp [this]
       simp [e,e0]
theorem KeepW.str {A B : World} (h : KeepW A B) : KeepT 9 A B:=h 9 (by simp)
theorem eg_btw : ∀ args w,(callFunc 181 args).run Tryz.prog w = .ok (.enter 181 args) w:=enters_of Tryz.func181 (by kernel_rfl) rfl
theorem q_btw (w : World) (lo hi : ByteArray) : Calls Tryz.prog 151 #[.string lo,.string hi] w fun e w' =>
 e = .returned (.func (.func 181) #[] #[.pointer (some ⟨w.heap.size,0,none⟩),.pointer (some ⟨w.heap.size + 1,0,none⟩)]) ∧ w' = (w.alloc (.cells #[.string lo] 9)).alloc (.cells #[.string hi] 9):=by
 go_enter Tryz.func151,Tryz.ntmps151
 go_wp2
 go_ret
 exact ⟨rfl,rfl⟩
theorem q_sRange (w : World) (sb : Nat) (lo hi : ByteArray) : Calls Tryz.prog 99 #[.pointer (some ⟨sb,0,none⟩),.string lo,.string hi] w fun e w' =>
 e = .returned (.func (.func 149) #[] #[.pointer (some ⟨w.heap.size,0,none⟩),.pointer (some ⟨w.heap.size + 1,0,none⟩),.pointer (some ⟨w.heap.size + 2,0,none⟩)]) ∧
   w' = ((w.alloc (.cells #[.pointer (some ⟨sb,0,none⟩)] 79)).alloc (.cells #[.string lo] 9)).alloc (.cells #[.string hi] 9):=by
 go_enter Tryz.func99,Tryz.ntmps99
 go_wp2
 go_ret
 exact ⟨rfl,rfl⟩
section
variable (l : Nat) (J Jx : List (ByteArray × ByteArray) → World → Prop)
theorem q_walk_btw {t : Tr ByteArray ByteArray} (hr : Rise slt t.ino) (lo hi : ByteArray) (H : SeqIn l J Jx (t.ino.filter (fun x => !slt x.1 lo && slt x.1 hi))) (p : Option Addr) (W : World) (ht : STree W t p) (h0 : J [] W)
 (bl bh : Nat) (h1 : IsBlk W bl #[.string lo] 9) (h2 : IsBlk W bh #[.string hi] 9) :
 Calls Tryz.prog 150 #[.pointer p,.func (.func 181) #[] #[.pointer (some ⟨bl,0,none⟩),.pointer (some ⟨bh,0,none⟩)],.func (.yield l) #[] #[]] W (WalkPost J Jx [] (t.ino.filter (fun x => !slt x.1 lo && slt x.1 hi)) W):=by
 have:=s_walk l J Jx 181 #[.pointer (some ⟨bl,0,none⟩),.pointer (some ⟨bh,0,none⟩)] (btw lo hi)
   (fun W => IsBlk W bl #[.string lo] 9 ∧ IsBlk W bh #[.string hi] 9) (fun ys W n h => H.grow ys W _ h (below_drewN' W n)) (fun _ _ hk h => ⟨hk.str _ _ h.1,hk.str _ _ h.2⟩) (btw_in lo hi) eg_btw
   (fun k W h => s_btw lo hi k bl bh W h.1 h.2) _ H.round t p [] W ht ⟨h1,h2⟩ h0 (by rw [walkL_btw lo hi t hr]; simp)
 rwa [walkL_btw lo hi t hr] at this
set_option maxHeartbeats 4000000 in
theorem q_srange {t : Tr ByteArray ByteArray} {ver : Int} (lo hi : ByteArray) (hr : Rise slt t.ino) (H : SeqIn l J Jx (t.ino.filter (fun x => !slt x.1 lo && slt x.1 hi))) (bs bl bh sb : Nat) (W : World)
 (hb : IsBlk W bs #[.pointer (some ⟨sb,0,none⟩)] 79) (hl : IsBlk W bl #[.string lo] 9) (hh : IsBlk W bh #[.string hi] 9) (hs : SSnap W sb t ver) (h0 : J [] W) :
 Calls Tryz.prog 149 #[.func (.yield l) #[] #[],.pointer (some ⟨bs,0,none⟩),.pointer (some ⟨bl,0,none⟩),.pointer (some ⟨bh,0,none⟩)] W (SeqPost J Jx (t.ino.filter (fun x => !slt x.1 lo && slt x.1 hi))):=by
 obtain ⟨root,hsb,ht⟩:=hs.ex
 have c0 : W.cell? ⟨bs,0,none⟩ = some (.pointer (some ⟨sb,0,none⟩)):=blk_cell hb 0
 have c1 : W.cell? ⟨sb,0,none⟩ = some (.pointer root):=blk_cell hsb 0
 have c2 : W.cell? ⟨bl,0,none⟩ = some (.string lo):=blk_cell hl 0
 have c3 : W.cell? ⟨bh,0,none⟩ = some (.string hi):=blk_cell hh 0
 have l0:=lt_of_block hb
 have l1:=lt_of_block hsb
 have l2:=lt_of_block hl
 have l3:=lt_of_block hh
 have HQ : Hid (Calls Tryz.prog 151 #[.string lo,.string hi] W.drew fun e w' =>
  e = .returned (.func (.func 181) #[] #[.pointer (some ⟨W.heap.size,0,none⟩),.pointer (some ⟨W.heap.size + 1,0,none⟩)]) ∧ Below W.heap.size W w' ∧ IsBlk w' W.heap.size #[.string lo] 9 ∧ IsBlk w' (W.heap.size + 1) #[.string hi] 9) :=
  hid ((q_btw W.drew lo hi).mono fun e w' ⟨he,hw⟩ => ⟨he,hw ▸ (((Below.refl _ _).drew.alloc (Nat.le_refl _) _).alloc (by simp) _),
    hw ▸ blk_alloc (blk_new W.drew _),by rw [hw]; have:=blk_new (W.drew.alloc (.cells #[.string lo] 9)) (.cells #[.string hi] 9); rw [World.size_alloc] at this; exact this⟩)
 have HW : Hid (∀ W',Below W.heap.size W W' → IsBlk W' W.heap.size #[.string lo] 9 → IsBlk W' (W.heap.size + 1) #[.string hi] 9 →
     Calls Tryz.prog 150 #[.pointer root,.func (.func 181) #[] #[.pointer (some ⟨W.heap.size,0,none⟩),.pointer (some ⟨W.heap.size + 1,0,none⟩)],.func (.yield l) #[] #[]] W' (fun e W2 => (∃ v,e = .returned v) ∧ (IsBlk W2 bs #[.pointer (some ⟨sb,0,none⟩)] 79 ∧ IsBlk W2 sb #[.pointer root,.int .i64 ver] 150 ∧ IsBlk W2 bl #[.string lo] 9 ∧ IsBlk W2 bh #[.string hi] 9) ∧ (J (t.ino.filter (fun x => !slt x.1 lo && slt x.1 hi)) W2 ∨ ∃ q,q <+: (t.ino.filter (fun x => !slt x.1 lo && slt x.1 hi)) ∧ Jx q W2))) :=
   hid (fun W' hk h1 h2 => (q_walk_btw l J Jx hr lo hi H root W' (ht.below hk) (H.grow _ _ _ h0 hk) _ _ h1 h2).mono fun _ _ h => ⟨h.seq.1,⟨h.seq.2.1.psnap _ _ ((hk.block _ l0).trans hb),h.seq.2.1.snap _ _ ((hk.block _ l1).trans hsb),h.seq.2.1.str _ _ ((hk.block _ l2).trans hl),h.seq.2.1.str _ _ ((hk.block _ l3).trans hh)⟩,h.seq.2.2⟩)
 clear H hb hs hsb ht h0 hl hh hr
 go_enter Tryz.func149,Tryz.ntmps149
 go_wp2_with fail
 go_region_held3 (fun w' => w'.cell? ⟨bs,0,none⟩ = some (.pointer (some ⟨sb,0,none⟩)) ∧ w'.cell? ⟨sb,0,none⟩ = some (.pointer root) ∧ w'.cell? ⟨bl,0,none⟩ = some (.string lo) ∧ w'.cell? ⟨bh,0,none⟩ = some (.string hi))
   (first
     | go_keep
     | exact ⟨blk_cell i3 0,blk_cell i4 0,blk_cell i5 0,blk_cell i6 0⟩
     | exact ⟨(g1.cell (p:=⟨bs,0,none⟩) l0).trans c0,(g1.cell (p:=⟨sb,0,none⟩) l1).trans c1,(g1.cell (p:=⟨bl,0,none⟩) l2).trans c2,(g1.cell (p:=⟨bh,0,none⟩) l3).trans c3⟩)
   (first
     | (go_at_call 151; (with_reducible refine HQ.out.mono ?_); rintro e w1 ⟨rfl,g1,i1,i2⟩)
     | (go_at_call 150; (with_reducible refine (HW.out _ g1 i1 i2).mono ?_); rintro e w2 ⟨⟨v,rfl⟩,⟨i3,i4,i5,i6⟩,h2⟩; have H2:=hid h2; clear h2))
 go_wp2
 go_end0
 exact ⟨⟨_,rfl⟩,H2.out⟩
end
end Ss
section
variable (l : Nat) (J Jx : List (ByteArray × ByteArray) → World → Prop) {sb : Nat} {c : StC} {m : Prs} {n : Nat}
theorem eg_srange1 : ∀ args w,(callFunc 149 args).run Tryz.prog w = .ok (.enter 149 args) w:=enters_of Tryz.func149 (P:=Tryz.prog) (by kernel_rfl) rfl
set_option maxHeartbeats 4000000 in
theorem q_soRange (lo hi : ByteArray) (hr : Rise slt m) (H : Ss.SeqIn l J Jx (Ss.rangeL lo hi m)) (bb bl bh : Nat) (W : World) (hb : IsBlk W bb #[.pointer (some ⟨sb,0,none⟩)] 49) (hl : IsBlk W bl #[.string lo] 9) (hh : IsBlk W bh #[.string hi] 9)
 (hJ : ∀ ys B,J ys B ∨ Jx ys B → IsBlk B bb #[.pointer (some ⟨sb,0,none⟩)] 49 ∧ IsBlk B bl #[.string lo] 9 ∧ IsBlk B bh #[.string hi] 9) (hs : StB W sb c m n) (h0 : J [] W) :
 Calls Tryz.prog 98 #[.func (.yield l) #[] #[],.pointer (some ⟨bb,0,none⟩),.pointer (some ⟨bl,0,none⟩),.pointer (some ⟨bh,0,none⟩)] W (Ss.SeqPost J Jx (Ss.rangeL lo hi m)):=by
 have c0 : W.cell? ⟨bb,0,none⟩ = some (.pointer (some ⟨sb,0,none⟩)):=blk_cell hb 0
 have c2 : W.cell? ⟨bl,0,none⟩ = some (.string lo):=blk_cell hl 0
 have c3 : W.cell? ⟨bh,0,none⟩ = some (.string hi):=blk_cell hh 0
 have l0:=lt_of_block hb
 have l2:=lt_of_block hl
 have l3:=lt_of_block hh
 have HS : Hid (∀ W',Below W.heap.size W W' → Calls Tryz.prog 42 #[.pointer (some ⟨sb,0,none⟩)] W' fun e w' => ∃ pb t ver,e = .returned (.pointer (some ⟨pb,0,none⟩)) ∧ Hid (Ss.SSnap w' pb t ver ∧ t.ino = m) ∧ Below W.heap.size W w') :=
  hid fun W' hk => (so_snapshot (hs.below hk)).mono fun e w' ⟨pb,t,ver,he,h1,h2,_,h4⟩ => ⟨pb,t,ver,he,hid ⟨h1,h2⟩,hk.trans (h4.mono hk.size)⟩
 have eg:=eg_srange1
 have HR : Hid (∀ W1 pb (t : Tr ByteArray ByteArray) (ver : Int),Below W.heap.size W W1 → Hid (Ss.SSnap W1 pb t ver ∧ t.ino = m) → Calls Tryz.prog 99 #[.pointer (some ⟨pb,0,none⟩),.string lo,.string hi] W1 fun e w' => ∃ b1,e = .returned (.func (.func 149) #[] #[.pointer (some ⟨b1,0,none⟩),.pointer (some ⟨b1 + 1,0,none⟩),.pointer (some ⟨b1 + 2,0,none⟩)]) ∧
     Below W.heap.size W w' ∧ Hid (IsBlk w' b1 #[.pointer (some ⟨pb,0,none⟩)] 79 ∧ IsBlk w' (b1 + 1) #[.string lo] 9 ∧ IsBlk w' (b1 + 2) #[.string hi] 9 ∧ Ss.SSnap w' pb t ver ∧ t.ino = m)) :=
   hid (fun W1 pb t ver hk h1 => (Ss.q_sRange W1 pb lo hi).mono fun e w' ⟨he,hw⟩ => by
    have hB : Below W1.heap.size W1 w':=by rw [hw]; exact (((Below.refl _ _).alloc (Nat.le_refl _) _).alloc (by simp) _).alloc (by simp; omega) _
    refine ⟨W1.heap.size,he,hk.trans (hB.mono hk.size),hid ⟨?_,?_,?_,h1.out.1.below hB,h1.out.2⟩⟩
    ·rw [hw]; exact blk_alloc (blk_alloc (blk_new W1 _))
    ·rw [hw]; have:=blk_new (W1.alloc (.cells #[.pointer (some ⟨pb,0,none⟩)] 79)) (.cells #[.string lo] 9); rw [World.size_alloc] at this; exact blk_alloc this
    ·rw [hw]; have:=blk_new ((W1.alloc (.cells #[.pointer (some ⟨pb,0,none⟩)] 79)).alloc (.cells #[.string lo] 9)) (.cells #[.string hi] 9); rw [World.size_alloc,World.size_alloc] at this; exact this)
 have HQ : Hid (∀ W1 b1 pb (t : Tr ByteArray ByteArray) (ver : Int),Below W.heap.size W W1 → Hid (IsBlk W1 b1 #[.pointer (some ⟨pb,0,none⟩)] 79 ∧ IsBlk W1 (b1 + 1) #[.string lo] 9 ∧ IsBlk W1 (b1 + 2) #[.string hi] 9 ∧ Ss.SSnap W1 pb t ver ∧ t.ino = m) →
     Calls Tryz.prog 149 #[.func (.yield l) #[] #[],.pointer (some ⟨b1,0,none⟩),.pointer (some ⟨b1 + 1,0,none⟩),.pointer (some ⟨b1 + 2,0,none⟩)] W1 fun e w' => (∃ v,e = .returned v) ∧ Hid (IsBlk w' bb #[.pointer (some ⟨sb,0,none⟩)] 49 ∧ IsBlk w' bl #[.string lo] 9 ∧ IsBlk w' bh #[.string hi] 9) ∧ Hid (J (Ss.rangeL lo hi m) w' ∨ ∃ q,q <+: Ss.rangeL lo hi m ∧ Jx q w')) :=
   hid fun W1 b1 pb t ver hk h => by
    obtain ⟨h1,h2,h3,h4,h5⟩:=h.out
    subst h5
    refine (Ss.q_srange l J Jx lo hi hr H b1 (b1 + 1) (b1 + 2) pb W1 h1 h2 h3 h4 (H.grow _ _ _ h0 hk)).mono fun e w' ⟨he,h6⟩ => ⟨he,hid ?_,hid h6⟩
    rcases h6 with h6 | ⟨q,_,h6⟩
    ·exact hJ _ _ (.inl h6)
    ·exact hJ _ _ (.inr h6)
 clear H hb hs h0 hl hh hr hJ
 go_enter Tryz.func98,Tryz.ntmps98
 go_wp2_with fail
 go_region_held3 (fun w' => w'.cell? ⟨bb,0,none⟩ = some (.pointer (some ⟨sb,0,none⟩)) ∧ w'.cell? ⟨bl,0,none⟩ = some (.string lo) ∧ w'.cell? ⟨bh,0,none⟩ = some (.string hi))
   (first
     | go_keep
     | exact ⟨blk_cell i3.out.1 0,blk_cell i3.out.2.1 0,blk_cell i3.out.2.2 0⟩
     | exact ⟨(g2.cell (p:=⟨bb,0,none⟩) l0).trans c0,(g2.cell (p:=⟨bl,0,none⟩) l2).trans c2,(g2.cell (p:=⟨bh,0,none⟩) l3).trans c3⟩
     | exact ⟨(g1.cell (p:=⟨bb,0,none⟩) l0).trans c0,(g1.cell (p:=⟨bl,0,none⟩) l2).trans c2,(g1.cell (p:=⟨bh,0,none⟩) l3).trans c3⟩)
   (first
     | (go_at_call 42; (with_reducible refine (HS.out _ ?_).mono ?_); exact (Below.refl _ _).drew; rintro e w1 ⟨pb,t,ver,rfl,s1,g1⟩)
     | (go_at_call 99; (with_reducible refine (HR.out _ _ _ _ g1 s1).mono ?_); rintro e w2 ⟨b1,rfl,g2,s2⟩)
     | (go_at_call 149; (with_reducible refine (HQ.out _ _ _ _ _ g2 s2).mono ?_); rintro e w3 ⟨⟨v,rfl⟩,i3,h3⟩))
 go_wp2
 go_end0
 exact ⟨⟨_,rfl⟩,h3.out⟩
end
end Go.Proofs.YtagdchgkjjpacaaGreat
namespace Go.Proofs.YtagdchgkjjpacaaGreat
open Go.RowKit Go.Shelf
def KeepQ (w w' : World) : Prop:=∀ b cs T,IsBlk w b cs T → T ∈ [85,64,9,4,3,188,150,43] → IsBlk w' b cs T
section
variable {w0 w w' wr W : World} {fb k n c V lb sb tb q N : Nat} {size : Int} {F G : FsS} {S T : Nat → Prop} {s : StS} {m M : Prs} {l : List Chg} {v : Value}
theorem KeepQ.below (h : Below w.heap.size w w') : KeepQ w w':=fun _ _ _ hb _ => (h.block _ (lt_of_block hb)).trans hb
theorem KeepQ.pure (hp : PureS S w) (hk : Keeps S w w') : KeepQ w w':=fun b cs T hb hT => hp.obj hk hb (fun e => by subst e; revert hT; decide) (fun e => by subst e; revert hT; decide) (fun e => by subst e; revert hT; decide)
theorem Db.keepQ (h : Db w0 w fb F k S lb sb tb s N) (hk : Keeps (StoU S lb sb tb) w w') : KeepQ w w':=fun b cs T hb hT => hk.obj hb (h.notU hb (fun e => by subst e; revert hT; decide) (fun e => by subst e; revert hT; decide) (fun e => by subst e; revert hT; decide) (fun e => by subst e; revert hT; decide) (fun e => by subst e; revert hT; decide) (fun e => by subst e; revert hT; decide))
theorem KeepQ.sl (h : KeepQ w w') (hs : SlAt prKind 85 w v m) : SlAt prKind 85 w' v m:=hs.block fun g hg => by
 obtain ⟨cs,hcs⟩:=hs.own g hg
 exact (h g cs _ hcs (by decide)).trans hcs.symm
theorem KeepQ.snap {pb : Nat} {t : Tr ByteArray ByteArray} {ver : Int} (h : KeepQ w w') (hs : Ss.SSnap w pb t ver) : Ss.SSnap w' pb t ver:=by
 obtain ⟨root,hb,ht⟩:=hs.ex
 exact ⟨root,h _ _ _ hb (by decide),ht.keepT fun b cs hb => h b cs _ hb (by decide)⟩
theorem KeepQ.chs (h : KeepQ w w') (hs : SlAt chgKind 43 w v l) : SlAt chgKind 43 w' v l:=hs.block fun g hg => by
 obtain ⟨cs,hcs⟩:=hs.own g hg
 exact (h g cs _ hcs (by decide)).trans hcs.symm
def WtUp (w0 : World) (fb : Nat) (size : Int) (n c V sb q : Nat) (M : Prs) (wr : World) : Prop:=∃ F S s lb tb,Sto w0 wr fb nmDb size n c V F S lb sb tb s ∧ s.all = M ∧ s.seq = q ∧ F.armed = 0 ∧ F.room = 67108864
def WtCr (w0 : World) (fb n c V q : Nat) (M : Prs) (wr : World) : Prop :=
 ∃ F S,Hd w0 wr fb F (1600 * c) S ∧ PureS S wr ∧ Disk F nmDb n q M ∧ F.down = false ∧ F.armed = 0 ∧ F.room = 67108864 ∧ F.files.length ≤ 4 * n + 2 ∧ F.used ≤ 810000 * (n : Int) ∧ wgt M ≤ V
theorem WtUp.below (h : WtUp w0 fb size n c V sb q M wr) (hb : Below wr.heap.size wr W) : WtUp w0 fb size n c V sb q M W:=by
 obtain ⟨F,S,s,lb,tb,h1,h2⟩:=h
 exact ⟨F,S,s,lb,tb,h1.below hb,h2⟩
theorem WtUp.low (h : WtUp w0 fb size n c V sb q M wr) : Below w0.heap.size w0 wr:=by
 obtain ⟨F,S,s,lb,tb,h1,h2⟩:=h
 exact h1.db.lg.hd.below
theorem WtUp.more (h : WtUp w0 fb size n c V sb q M wr) {n' c' V' : Nat} (hn : n ≤ n') (hc : c ≤ c') (hV : V ≤ V') (h9 : n' ≤ 900) : WtUp w0 fb size n' c' V' sb q M wr:=by
 obtain ⟨F,S,s,lb,tb,h1,h2⟩:=h
 exact ⟨F,S,s,lb,tb,h1.more hn hc hV h9,h2⟩
theorem WtUp.rise (h : WtUp w0 fb size n c V sb q M wr) : Rise slt M ∧ M.length ≤ 450000 ∧ q ≤ 900:=by
 obtain ⟨F,S,s,lb,tb,h1,h2,h3,_⟩:=h
 have h4:=h1.on.fit
 have h5:=h1.on.nq
 have h6:=h1.on.n1
 have h7:=h4.len
 rw [h2] at h4 h7
 exact ⟨h4.ok.1,by omega,by omega⟩
theorem WtUp.same (h : WtUp w0 fb size n c V sb q M wr) (hv : RdAt prKind wr v M) :
 Calls Tryz.prog 34 #[.pointer (some ⟨sb,0,none⟩),v] wr fun e w' => e = .returned (.bool true) ∧ Below wr.heap.size wr w':=by
 have hr:=h.rise.2.1
 obtain ⟨F,S,s,lb,tb,h1,h2,_⟩:=h
 have:=x_same h1.db.st hv (by rw [h2]; omega) (by omega)
 rwa [decide_eq_true h2] at this
theorem WtUp.seq (h : WtUp w0 fb size n c V sb q M wr) :
 Calls Tryz.prog 32 #[.pointer (some ⟨sb,0,none⟩)] wr fun e w' => e = .returned (.int .i64 (q : Int)) ∧ Below wr.heap.size wr w':=by
 obtain ⟨F,S,s,lb,tb,h1,h2,h3,_⟩:=h
 have:=so_seq h1.db.st.blk
 rw [← h3]
 exact this
theorem WtUp.snapshot (h : WtUp w0 fb size n c V sb q M wr) :
 Calls Tryz.prog 42 #[.pointer (some ⟨sb,0,none⟩)] wr fun e w' => ∃ bb t ver,e = .returned (.pointer (some ⟨bb,0,none⟩)) ∧ Hid (Ss.SSnap w' bb t ver ∧ t.size = M.length) ∧ Below wr.heap.size wr w':=by
 obtain ⟨F,S,s,lb,tb,h1,h2,_⟩:=h
 refine (so_snapshot h1.db.st).mono ?_
 rintro e w' ⟨bb,t,ver,he,k1,k2,-,k3⟩
 exact ⟨bb,t,ver,he,hid ⟨k1,by rw [← Tr.ino_length,k2,h2]⟩,k3⟩
theorem WtUp.st (h : WtUp w0 fb size n c V sb q M wr) : ∃ cc N,StB wr sb cc M N:=by
 obtain ⟨F,S,s,lb,tb,h1,h2,_⟩:=h
 have:=h1.db.st
 rw [h2] at this
 exact ⟨_,_,this⟩
theorem WtUp.chk (h : WtUp w0 fb size n c V sb q M wr) (hn : n ≤ 80) (hc : c ≤ 400) (hV : V ≤ 200000) :
 Calls Tryz.prog 26 #[.pointer (some ⟨sb,0,none⟩)] wr fun e w' => e = .returned (.int .i64 0) ∧ WtUp w0 fb size (n + 1) (c + 1) V sb q M w' ∧ KeepQ wr w':=by
 obtain ⟨F,S,s,lb,tb,g1,g2,g3,g4,g5⟩:=h
 refine (g1.chk dirS_db (by omega) hc hV).mono ?_
 rintro e w' ⟨rfl,ho,hp⟩
 obtain ⟨⟨T,k1,-⟩,k2,k3,k4,k5,k6⟩:=g1.ckpt (by omega) hV ho hp (ho.calm g4)
 rcases k6 with ⟨k6,-⟩ | ⟨-,k6⟩
 ·exact ⟨by rw [k6],⟨_,T,_,lb,tb,k1,k4.trans g2,k5.trans g3,k2 g4,k3.trans g5⟩,g1.db.keepQ hp.keeps⟩
 ·have:=g1.used
  omega
theorem WtUp.write (h : WtUp w0 fb size n c V sb q M wr) (hn : n ≤ 80) (hc : c ≤ 400) (hB : batW l ≤ 80000) {a : Option Addr} {cap : Nat} (hr : RdAt chgKind w0 (.slice a l.length cap) l) (hl : l.length ≤ 1048576) :
 Calls Tryz.prog 25 #[.pointer (some ⟨sb,0,none⟩),.slice a l.length cap] wr fun e w' => e = .returned (.int .i64 ((encB ((q : Int) + 1) l).2 : Int)) ∧
   Hid (WtUp w0 fb size (n + 1) (c + 1) (V + batV l) sb (if (encB ((q : Int) + 1) l).2 = 0 ∧ l ≠ [] then q + 1 else q) (if (encB ((q : Int) + 1) l).2 = 0 ∧ l ≠ [] then applyB M l else M) w') ∧ KeepQ wr w':=by
 obtain ⟨F,S,s,lb,tb,g1,g2,g3,g4,g5⟩:=h
 refine (g1.write dirS_db (by omega) hc hr hl).mono ?_
 rintro e w' ⟨rfl,ho,hp⟩
 obtain ⟨⟨T,k1,-⟩,k2,k3,k4⟩:=g1.wrote (by omega) hB ho hp (ho.calm g4)
 rw [← g3,← g2]
 have hu:=g1.used
 have hbv : batV l = 3000 + batW l:=rfl
 rcases k4 with ⟨k4,k5,k6,k7⟩ | ⟨k4,k5,k6,k7⟩ | ⟨k4,k5,k6,k7,k8⟩
 ·have hz : ¬ (encB ((s.seq : Int) + 1) l).2 = 0:=by omega
  refine ⟨by rw [k4],hid ?_,g1.db.keepQ hp.keeps⟩
  rw [if_neg (fun e => hz e.1),if_neg (fun e => hz e.1)]
  exact ⟨_,T,_,lb,tb,k1,k6,k7,k2 g4,k3.trans g5⟩
 ·refine ⟨by rw [k4,k5]; rfl,hid ?_,g1.db.keepQ hp.keeps⟩
  by_cases hl0 : l = []
  ·rw [if_neg (fun e => e.2 hl0),if_neg (fun e => e.2 hl0)]
   rw [if_pos hl0] at k7
   exact ⟨_,T,_,lb,tb,k1,by rw [k6,hl0]; rfl,k7,k2 g4,k3.trans g5⟩
  ·rw [if_pos ⟨k5,hl0⟩,if_pos ⟨k5,hl0⟩]
   rw [if_neg hl0] at k7
   exact ⟨_,T,_,lb,tb,k1,k6,k7,k2 g4,k3.trans g5⟩
 ·omega
theorem WtUp.other (h : WtUp w0 fb size n c V sb q M wr) {b : Nat} {cs : Array Value} {T : TypeId} (hb : IsBlk wr b cs T) (hT : T ∈ [64,3,4]) (hlow : w0.heap.size ≤ b) (hk : Keeps (Only b) wr w') : WtUp w0 fb size n c V sb q M w':=by
 obtain ⟨F,S,s,lb,tb,g1,g2⟩:=h
 obtain ⟨t,ver,⟨root,ht,_⟩,_⟩:=g1.db.st.tab
 have hne : ∀ (b' : Nat) (cs' : Array Value) (T' : TypeId),IsBlk wr b' cs' T' → T' ∉ [64,3,4] → ¬ Only b b':=fun b' cs' T' hb' hn e => by
  have e : b' = b:=e
  subst e
  exact blk_ne_type hb' hb (fun e => hn (e ▸ hT)) rfl
 have hS : ¬ S b:=g1.db.pure.not hb (fun e => by subst e; revert hT; decide) (fun e => by subst e; revert hT; decide) (fun e => by subst e; revert hT; decide)
 exact ⟨F,S,s,lb,tb,g1.moved hk (hne _ _ _ g1.db.lg.log.blk (by decide)) (hne _ _ _ g1.db.st.blk (by decide)) (hne _ _ _ ht (by decide)) (fun b' cs' hb' => hne _ _ _ hb' (by decide))
   (g1.db.lg.hd.keepsOut hk (fun i e => by have e : i = b:=e; rw [e]; exact hS) (fun i e => by have e : i = b:=e; rw [e]; exact hlow))
   (g1.db.pure.keeps g1.db.lg.hd.fs.lt hk (fun i e => by have e : i = b:=e; rw [e]; exact hS)) (fun _ e => .inl e) g1.on.up (fun _ _ => rfl) g1.few g1.used (Nat.le_refl _) (Nat.le_refl _) g1.on.n1,g2⟩
theorem WtUp.crash (h : WtUp w0 fb size n c V sb q M wr) :
 Calls Tryz.prog 35 #[.pointer (some ⟨fb,0,none⟩),.nilFunc] wr fun e w' => e = .returned (.tuple #[]) ∧ WtCr w0 fb n c V q M w' ∧ KeepQ wr w':=by
 obtain ⟨F,S,s,lb,tb,g1,g2,g3,g4,g5⟩:=h
 refine (d_crash_nil g1.db.lg.hd).mono ?_
 rintro e w' ⟨rfl,hd,hk⟩
 have hD:=g1.on.disk
 have hw:=g1.wt
 rw [g1.dir,g2,g3] at hD
 rw [g2] at hw
 exact ⟨rfl,⟨_,_,hd.ps,PS.pure _ _,hD.crash _,rfl,rfl,g5,by rw [crash_len]; exact g1.few,Int.le_trans (crash_used F g1.db.lg.hd.ok _) g1.used,hw⟩,KeepQ.pure g1.db.pure hk⟩
theorem WtCr.open_ (h : WtCr w0 fb n c V q M wr) (h16 : 16 ≤ size) (h20 : size ≤ 1048576) (hc : c ≤ 400) :
 Calls Tryz.prog 24 #[.pointer (some ⟨fb,0,none⟩),.string nmDb,.agg #[.int .i64 size]] wr fun e w' => ∃ sb,e = .returned (.tuple #[.pointer (some ⟨sb,0,none⟩),.int .i64 0]) ∧ Hid (WtUp w0 fb size n (c + 1) V sb q M w') ∧ KeepQ wr w':=by
 obtain ⟨F,S,h1,h2,h3,h4,h5,h6,h7,h8,h9⟩:=h
 refine (open_calm h1 h3 dirS_db h16 h20 h4 hc h5 h7 h8 h9).mono ?_
 rintro e w' ⟨G,T,lb,sb,tb,s,rfl,k1,k2,k3,k4,k5,k6,-,-⟩
 exact ⟨sb,rfl,hid ⟨G,T,s,lb,tb,k1,k2,k3,k4,k5.trans h6⟩,KeepQ.pure (PS.pure _ _) k6⟩
end
open Go.ChangeShapes Go.WideShapes Go.ChangeAt Go.RowKit
theorem Tryz.own : ownKnob Tryz.prog.godebug = none:=by kernel_rfl
theorem Tryz.laidOut : laidOutB Tryz.prog = true:=by kernel_rfl
theorem cellsInt : Tryz.prog.cellsOf 3 = 1:=by kernel_rfl
theorem cellsStr : Tryz.prog.cellsOf 9 = 1:=by kernel_rfl
instance : Inhabited FOp:=⟨⟨0,0,.empty,.empty,[]⟩⟩
section
variable {H : Type} {enc : TypeId × Value → H} {W : World} {base : Nat} {spare : Nat → Bool} {held : Bool}
theorem spot_of_cell {a : Addr} {v : Value} (h : W.cell? a = some v) : a.spot = none:=by
 unfold World.cell? at h
 split at h
 ·split at h
  ·simp at h
  ·rename_i hn; cases hs : a.spot with
   | none => rfl
   | some k => rw [hs] at hn; simp at hn
 ·simp at h
theorem add_plain {a : Addr} (h : a.spot = none) (n : Nat) : a.add n = ⟨a.block,a.off + n,none⟩:=by
 obtain ⟨b,o,sp⟩:=a
 have : sp = none:=h
 subst this
 unfold Addr.add
 split
 ·rename_i h0; subst h0; rfl
 ·rfl
end
def IntsAt (w : World) (v : Value) (xs : List Int) : Prop :=
 ∃ (a : Option Addr) (cap : Nat),v = .slice a xs.length cap ∧ ∀ (j : Nat) (x : Int),xs[j]? = some x → ∃ g off,a = some ⟨g,off,none⟩ ∧ w.cell? ⟨g,off + j,none⟩ = some (.int .i64 x)
theorem ints_open {H : Type} {enc : TypeId × Value → H} {W : World} {base : Nat} {sp : Nat → Bool} {held : Bool} {r : Reach} {b0 : Nat} {v : Value} {d : DataW H} {p : List MemPlace} (hv : Value.okWide Tryz.prog W r b0 78 v) (h : DataW.Trod enc Tryz.prog W base sp held 78 v d p) :
 ∃ xs : List Int,IntsAt W v xs ∧ xs.length ≤ maxLen:=by
 obtain ⟨a0,l0,c0,rfl⟩:=okWide_slice Tryz.underlying78 hv
 obtain ⟨fuel,hf⟩:=h
 rcases open_ints Tryz.underlying78 Tryz.underlying3 cellsInt hf with ⟨hcs,_⟩ | ⟨a,len,cap,zs,hcs,_,hl,hm,hz,_,hc,_⟩
 ·have hcs : [Value.slice a0 l0 c0] = [Value.slice none 0 0]:=hcs
  injection hcs with e _
  injection e with e1 e2 e3
  subst e1 e2 e3
  exact ⟨[],⟨none,0,rfl,fun j x hx => by simp at hx⟩,Nat.zero_le _⟩
 ·have hcs : [Value.slice a0 l0 c0] = [Value.slice (some a) len cap]:=hcs
  injection hcs with e _
  injection e with e1 e2 e3
  subst e1 e2 e3
  have hlz : l0 ≤ zs.length:=by rw [hz]; split <;> omega
  have hlen : (zs.take l0).length = l0:=by rw [List.length_take]; omega
  refine ⟨zs.take l0,⟨some a,c0,by rw [hlen],fun j x hx => ?_⟩,by rw [hlen]; omega⟩
  have hj : j < l0:=by have:=(List.getElem?_eq_some_iff.1 hx).1; omega
  rw [List.getElem?_take_of_lt hj] at hx
  have h1:=hc j (by omega)
  have e : zs.getD j 0 = x:=by rw [List.getD_eq_getElem?_getD,hx]; rfl
  rw [e] at h1
  have sp2 : a.spot = none:=spot_of_cell (hc 0 (by omega) |> fun h => by rw [show a.add 0 = a from rfl] at h; exact h)
  rw [add_plain sp2] at h1
  refine ⟨a.block,a.off,?_,h1⟩
  have:=add_plain sp2 0
  rw [show a.add 0 = a from rfl] at this
  rw [this]
end Go.Proofs.YtagdchgkjjpacaaGreat
