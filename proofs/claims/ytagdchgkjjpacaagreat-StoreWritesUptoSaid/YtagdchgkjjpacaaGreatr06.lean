/- The walks of the file system's writes: Valid, Create, Rename. -/
import Derived.Test.YtagdchgkjjpacaaGreatr04
import Derived.Test.YtagdchgkjjpacaaGreatr05
set_option maxRecDepth 100000
open Go.Lib (hid)
namespace Go.Proofs.YtagdchgkjjpacaaGreat
open Go.RowKit Go.Shelf
set_option maxHeartbeats 4000000 in
theorem f_valid1 (w : World) (r : Nat) : Calls Tryz.prog 102 #[.int .i32 (r : Int)] w fun e w' => e = .returned (.bool (oddR r)) ∧ w' = w:=by
 have key : ∀ b1 b2 b3 b4 b5 b6 b7 : Bool,decide ((r : Int) < 97) = b1 → decide (122 < (r : Int)) = b2 → decide ((r : Int) < 48) = b3 → decide (57 < (r : Int)) = b4 → ((r : Int) != 45) = b5 → ((r : Int) != 46) = b6 → ((r : Int) != 47) = b7 →
     Calls Tryz.prog 102 #[.int .i32 (r : Int)] w fun e w' => e = .returned (.bool ((b1 || b2) && (b3 || b4) && b5 && b6 && b7)) ∧ w' = w:=by
   intro b1 b2 b3 b4 b5 b6 b7 h1 h2 h3 h4 h5 h6 h7
   cases b1 <;> cases b2 <;> cases b3 <;> cases b4 <;> cases b5 <;> cases b6 <;> cases b7
   all_goals
    first
    | (exfalso; simp only [decide_eq_true_eq,decide_eq_false_iff_not,bne_iff_ne,bne_eq_false_iff_eq] at h1 h2 h3 h4 h5 h6 h7; omega)
    | (go_enter Tryz.func102,Tryz.ntmps102
       go_wp2
       go_ret
       exact ⟨rfl,rfl⟩)
 have e : oddR r = ((decide ((r : Int) < 97) || decide (122 < (r : Int))) && (decide ((r : Int) < 48) || decide (57 < (r : Int))) && ((r : Int) != 45) && ((r : Int) != 46) && ((r : Int) != 47)):=by
  unfold oddR
  have a1 : decide (r < 97) = decide ((r : Int) < 97):=by congr 1; apply propext; omega
  have a2 : decide (122 < r) = decide (122 < (r : Int)):=by congr 1; apply propext; omega
  have a3 : decide (r < 48) = decide ((r : Int) < 48):=by congr 1; apply propext; omega
  have a4 : decide (57 < r) = decide (57 < (r : Int)):=by congr 1; apply propext; omega
  have a5 : ∀ k : Nat,(r != k) = ((r : Int) != (k : Int)):=by
   intro k; rw [Bool.eq_iff_iff]; simp only [bne_iff_ne]; omega
  rw [a1,a2,a3,a4,a5,a5,a5]; rfl
 rw [e]
 exact key _ _ _ _ _ _ _ rfl rfl rfl rfl rfl rfl rfl
set_option maxHeartbeats 2000000 in
theorem f_valid (w : World) (n : ByteArray) : Calls Tryz.prog 58 #[.string n] w fun e w' => e = .returned (.bool (okName n)) ∧ Below w.heap.size w w':=by
 have eg:=enters_of Tryz.func102 (P:=Tryz.prog) (by kernel_rfl) rfl
 have HP:=hid (Tryz.strings_ContainsFunc_runes 102 #[] eg oddR n w (by
  intro W x hx hb
  exact (f_valid1 W x).mono (by rintro e w' ⟨rfl,rfl⟩; exact ⟨rfl,0,rfl⟩)))
 by_cases h0 : n.size = 0
 ·have : n = ⟨#[]⟩:=by
   obtain ⟨⟨l⟩⟩:=n
   have : l.length = 0:=h0
   rw [List.length_eq_zero_iff] at this; subst this; rfl
  subst this
  clear HP
  go_enter Tryz.func58,Tryz.ntmps58
  go_wp2_with (fail)
  go_ret
  exact ⟨rfl,Below.refl _ _⟩
 have hE : n.toList.isEmpty = false:=by
  rw [Lib.toList_data]
  cases hl : n.data.toList with
  | nil => exact absurd (by show n.data.toList.length = 0; rw [hl]; rfl) h0
  | cons _ _ => rfl
 by_cases h1 : 100 < n.size
 ·have h1' : (100 : Int) < n.size:=by omega
  have hk : okName n = false:=by unfold okName; rw [decide_eq_false (by omega : ¬ n.size ≤ 100)]; simp
  rw [hk]
  clear HP h0 h1 hk
  go_enter Tryz.func58,Tryz.ntmps58
  go_wp2_with (fail)
  go_ret
  exact ⟨rfl,Below.refl _ _⟩
 have h1' : (n.size : Int) ≤ 100:=by omega
 have h0' : (0 : Int) < n.size:=by omega
 by_cases hi : 0 ≤ Lib.idxFunc oddR true n
 ·have hk : okName n = false:=by unfold okName; rw [decide_eq_true hi]; simp
  rw [hk]
  rw [decide_eq_true hi] at HP
  clear h0 h1 hk hi
  go_enter Tryz.func58,Tryz.ntmps58
  go_wp2_with (fail)
  refine HP.out.mono ?_
  rintro e w' ⟨rfl,hb⟩
  have HB:=hid hb
  clear hb
  go_wp2_with (fail)
  go_ret
  exact ⟨rfl,HB.out⟩
 rw [decide_eq_false hi] at HP
 go_enter Tryz.func58,Tryz.ntmps58
 go_wp2_with (fail)
 refine HP.out.mono ?_
 rintro e w' ⟨rfl,hb⟩
 have HB:=hid hb
 clear hb
 go_wp2_with (fail)
 all_goals
  have gx : ∀ i (hi : i < n.size),n.get! i = n[i]:=fun i hi => getElem!_pos n.data i hi
  have g0 : n.get! 0 = n[0]'(by omega):=gx 0 (by omega)
  have g1 : n.get! (n.size - 1) = n[n.size - 1]'(by omega):=gx _ (by omega)
  have gb : ∀ b : UInt8,(b != 47) = ((b.toNat : Int) != 47):=by
   intro b
   rw [Bool.eq_iff_iff]
   simp only [bne_iff_ne,ne_eq]
   constructor
   ·intro h1 h2; exact h1 (UInt8.toNat.inj (by simpa using (by omega : b.toNat = 47)))
   ·rintro h1 rfl; exact h1 rfl
  go_ret
  refine ⟨?_,HB.out⟩
  unfold okName
  rw [decide_eq_true h0,decide_eq_true (by omega : n.size ≤ 100),decide_eq_false (by omega),g0,g1,gb,gb]
  first
  | rfl
  | (have e : ((n[0]'(by omega)).toNat : Int) = 47:=by assumption
     rw [e]; rfl)
theorem putL_perm {K V : Type} {lt : K → K → Bool} (H : KeyOrd lt) (m : List (K × V)) (k : K) (v : V) : (putL lt m k v).Perm ((k,v) :: dropL lt m k):=by
 unfold putL dropL
 refine List.perm_middle.trans (List.Perm.cons _ ?_)
 induction m with
 | nil => simp
 | cons x m ih =>
   cases h1 : lt x.1 k with
   | true =>
     have h2:=H.asymm h1
     simp only [List.filter_cons,h1,h2,if_true,List.cons_append,Bool.false_eq_true,if_false,Bool.true_or]
     exact ih.cons _
   | false =>
     cases h2 : lt k x.1 with
     | true =>
       simp only [List.filter_cons,h1,h2,if_true,Bool.false_eq_true,if_false,Bool.or_true]
       exact List.perm_middle.trans (ih.cons _)
     | false =>
       simp only [List.filter_cons,h1,h2,Bool.false_eq_true,if_false,Bool.or_false]
       exact ih
theorem putL_self {K V : Type} {lt : K → K → Bool} (H : KeyOrd lt) {m : List (K × V)} (hr : Rise lt m) {k : K} {v : V} (hf : findL lt m k = some v) : m.Perm ((k,v) :: dropL lt m k):=by
 obtain ⟨a,b,rfl⟩:=findL_split H hf
 have:=putL_perm H (a ++ (k,v) :: b) k v
 rwa [putL_eq H hr] at this
theorem apart_perm {a b : List (ByteArray × Pl)} (h : Apart a) (hp : b.Perm a) : Apart b :=
 (hp.pairwise_iff (fun {_ _} hxy => ⟨fun e => hxy.1 e.symm,fun k e1 e2 => hxy.2 k e2 e1⟩)).2 h
section
variable {w : World} {fb mb : Nat} {F : FsS} {S : Nat → Prop} {rs : List (ByteArray × Pl)}
theorem FsAt.newFile (h : FsAt w fb F S mb rs) {w1 w' : World} {n : ByteArray} {p : Pl} (hk1 : Below w.heap.size w w1) (hp : PlAt w1 p) (hg : w.heap.size ≤ p.g) (hv : p.v.ownBlock = none) (hm : MapAt strKind evP w' mb (putL slt rs n p)) (hk : Keeps (fun i => i = mb) w1 w') :
 FsPost w fb (F.set n p.fl) S w':=by
 have hs : ∀ x ∈ putL slt rs n p,x ∈ rs ∨ x = (n,p):=by
  intro x hx
  unfold putL at hx
  rcases List.mem_append.1 hx with hx | hx
  ·exact .inl (List.mem_filter.1 hx).1
  rcases List.mem_cons.1 hx with hx | hx
  ·exact .inr hx
  ·exact .inl (List.mem_filter.1 hx).1
 have h1:=h.below hk1
 have hpg : p.g < w'.heap.size:=Nat.lt_of_lt_of_le (lt_of_block hp.blk) hk.size
 have hold : ∀ x ∈ rs,∀ k,blocksOf x.2 k → k < w.heap.size:=fun x hx k hb => h.lt k (h.sp x hx k hb)
 have hnew : ∀ k,blocksOf p k → k = p.g:=by
  rintro k (e | e)
  ·exact e
  ·rw [hv] at e; simp at e
 refine ⟨⟨mb,putL slt rs n p,hk.obj h1.blk (fun e => h1.map.not_blk h1.blk e),hm,?_,?_,?_,.inl h.sfb,.inl h.smb,?_,new_lt h.lt (Nat.le_trans hk1.size hk.size)⟩,?_⟩
 ·show putL slt F.files n p.fl = _
  rw [h.files]; exact (putL_map (fun q : Pl => q.fl) rs n p).symm
 ·intro x hx
  rcases hs x hx with hx | rfl
  ·refine (h1.pl x hx).keeps hk ?_
   rintro k (rfl | e) rfl
   ·exact h1.map.not_blk (h1.pl x hx).blk rfl
   ·obtain ⟨cur,hc⟩:=(h1.pl x hx).bytes.own _ e
    exact h1.map.not_blk hc rfl
  ·refine hp.keeps hk ?_
   rintro k hk1 rfl
   have:=hnew _ hk1
   exact h1.map.not_blk hp.blk this.symm
 ·refine apart_perm ?_ (putL_perm slt_ord rs n p)
  show List.Pairwise _ _
  rw [List.pairwise_cons]
  have hne : ∀ x ∈ rs,x.2.g ≠ p.g ∧ ∀ k,x.2.v.ownBlock = some k → p.v.ownBlock ≠ some k:=fun x hx => ⟨fun e => by have:=hold x hx x.2.g (.inl rfl); omega,fun k _ e => by rw [hv] at e; simp at e⟩
  refine ⟨fun x hx => ?_,h.apart.sublist List.filter_sublist⟩
  have:=hne x (List.mem_filter.1 hx).1
  exact ⟨fun e => this.1 e.symm,fun k e => by rw [hv] at e; simp at e⟩
 ·intro x hx k hk1
  rcases hs x hx with hx | rfl
  ·exact .inl (h.sp x hx k hk1)
  ·have:=hnew _ hk1
   subst this
   exact .inr ⟨hg,hpg⟩
 ·exact ((Keeps.of_below hk1).mono (fun _ _ e => e.elim)).trans' (hk.mono (fun i _ e => by rw [e]; exact h.smb))
theorem FsAt.relist (h : FsAt w fb F S mb rs) {w' : World} {rs' : List (ByteArray × Pl)} (hm : MapAt strKind evP w' mb rs') (hk : Keeps (fun i => i = mb) w w') (hs : ∀ x ∈ rs',∃ y ∈ rs,y.2 = x.2) (ha : Apart rs') : FsAt w' fb { F with files:=flOf rs' } S mb rs':=by
 refine ⟨hk.obj h.blk (fun e => h.map.not_blk h.blk e),hm,rfl,fun x hx => ?_,ha,h.sfb,h.smb,fun x hx => ?_,fun k hk1 => Nat.lt_of_lt_of_le (h.lt k hk1) hk.size⟩
 ·obtain ⟨y,hy,e⟩:=hs x hx
  rw [← e]
  refine (h.pl y hy).keeps hk ?_
  rintro k (rfl | e) rfl
  ·exact h.map.not_blk (h.pl y hy).blk rfl
  ·obtain ⟨cur,hc⟩:=(h.pl y hy).bytes.own _ e
   exact h.map.not_blk hc rfl
 ·obtain ⟨y,hy,e⟩:=hs x hx
  rw [← e]
  exact h.sp y hy
theorem FsAt.moved (h : FsAt w fb F S mb rs) {w' : World} {a b : ByteArray} {p : Pl} (hf : findL slt rs a = some p) (hne : a ≠ b) (hm : MapAt strKind evP w' mb (dropL slt (putL slt rs b p) a)) (hk : Keeps (fun i => i = mb) w w') :
 FsAt w' fb { F with files:=dropL slt (putL slt F.files b p.fl) a } S mb (dropL slt (putL slt rs b p) a):=by
 have e : flOf (dropL slt (putL slt rs b p) a) = dropL slt (putL slt F.files b p.fl) a:=by
  rw [h.files]
  exact (dropL_map (fun q : Pl => q.fl) _ a).trans (by rw [putL_map (fun q : Pl => q.fl) rs b p])
 rw [← e]
 refine h.relist hm hk ?_ ?_
 ·intro x hx
  have hx:=(List.mem_filter.1 hx).1
  rcases List.mem_cons.1 ((putL_perm slt_ord rs b p).mem_iff.1 hx) with rfl | hx
  ·exact ⟨_,findL_mem slt_ord hf,rfl⟩
  ·exact ⟨x,(List.mem_filter.1 hx).1,rfl⟩
 ·have h1 : (dropL slt (putL slt rs b p) a).Perm (dropL slt ((b,p) :: dropL slt rs b) a):=(putL_perm slt_ord rs b p).filter _
  have h2 : dropL slt ((b,p) :: dropL slt rs b) a = (b,p) :: dropL slt (dropL slt rs a) b:=by
   have hb : (slt b a || slt a b) = true:=by
    cases h1 : slt b a with
    | true => rfl
    | false =>
      cases h2 : slt a b with
      | true => rfl
      | false => exact absurd (slt_ord.eq _ _ h2 h1) hne
   unfold dropL
   rw [List.filter_cons,if_pos hb,List.filter_filter,List.filter_filter]
   congr 2
   funext x
   exact Bool.and_comm _ _
  refine apart_perm ?_ (h1.trans (by rw [h2]))
  have h3:=apart_perm h.apart (putL_self slt_ord h.map.rise hf).symm
  have h4:=List.pairwise_cons.1 h3
  exact List.pairwise_cons.2 ⟨fun x hx => h4.1 x (List.mem_filter.1 hx).1,h4.2.sublist List.filter_sublist⟩
end
section
variable {w : World} {fb mb : Nat} {F : FsS} {S : Nat → Prop} {rs : List (ByteArray × Pl)}
set_option maxHeartbeats 1000000 in
theorem f_create1 (h : FsAt w fb F S mb rs) {n : ByteArray} (_ : findL slt rs n = none) {bf bn : Nat} (hbf : IsBlk w bf #[.pointer (some ⟨fb,0,none⟩)] 45) (hbn : IsBlk w bn #[.string n] 9) :
 Calls Tryz.prog 60 #[.pointer (some ⟨bf,0,none⟩),.pointer (some ⟨bn,0,none⟩)] w fun e w' => e = .returned (.tuple #[]) ∧ FsPost w fb (F.set n ⟨[],0⟩) S w':=by
 have c0 : w.cell? ⟨bf,0,none⟩ = some (.pointer (some ⟨fb,0,none⟩)):=blk_cell hbf 0
 have c1 : w.cell? ⟨bn,0,none⟩ = some (.string n):=blk_cell hbn 0
 have c2 : w.cell? ⟨fb,2,none⟩ = some (.map (some mb)):=blk_cell h.blk 2
 obtain ⟨W1,hW1⟩ : ∃ W1,W1 = (w.alloc (.cells #[.slice none 0 0,.int .i64 0] 107)).drew:=⟨_,rfl⟩
 have hk1 : Below w.heap.size w W1:=by rw [hW1]; exact ((Below.refl _ _).alloc (Nat.le_refl _) _).drew
 have hb1 : IsBlk W1 w.heap.size #[.slice none 0 0,.int .i64 0] 107:=by rw [hW1]; exact heap_alloc_new w _
 have h1:=h.below hk1
 have gbf:=(Keeps.of_below hk1).obj hbf (fun e => e.elim)
 have gbn:=(Keeps.of_below hk1).obj hbn (fun e => e.elim)
 obtain ⟨w',hrun,hm,hk,hz⟩:=h1.map.update (P:=Tryz.prog) (t:=100) Tryz.underlying100 Tryz.underlying9 n ⟨w.heap.size,.slice none 0 0,⟨[],0⟩⟩
 have hpost:=h.newFile (p:=⟨w.heap.size,.slice none 0 0,⟨[],0⟩⟩) hk1 ⟨hb1,SlAt.nil⟩ (Nat.le_refl _) rfl hm hk
 have HP:=hid hpost
 have d0 : w'.cell? ⟨bf,0,none⟩ = some (.pointer (some ⟨fb,0,none⟩)):=blk_cell (hk.obj gbf (fun e => h1.map.not_blk gbf e)) 0
 have d1 : w'.cell? ⟨bn,0,none⟩ = some (.string n):=blk_cell (hk.obj gbn (fun e => h1.map.not_blk gbn e)) 0
 have d2 : w'.cell? ⟨fb,2,none⟩ = some (.map (some mb)):=blk_cell (hk.obj h1.blk (fun e => h1.map.not_blk h1.blk e)) 2
 rw [hW1] at hrun
 replace hrun : (Instr.mapUpdate 100 (.map (some mb)) (.string n) (.pointer (some ⟨w.heap.size,0,none⟩))).run Tryz.prog (w.alloc (.cells #[.slice none 0 0,.int .i64 0] 107)).drew = .ok () w':=hrun
 clear h hbf hbn gbf gbn hk1 hb1 h1 hm hk hz hpost hW1
 go_enter Tryz.func60,Tryz.ntmps60
 go_region_held3 (fun w' => w'.cell? ⟨bf,0,none⟩ = some (.pointer (some ⟨fb,0,none⟩)) ∧ w'.cell? ⟨bn,0,none⟩ = some (.string n) ∧ w'.cell? ⟨fb,2,none⟩ = some (.map (some mb)))
   (go_keep)
   (fail)
 go_wp2
 go_end0
 exact ⟨rfl,HP.out⟩
set_option maxHeartbeats 2000000 in
theorem f_create (h : FsAt w fb F S mb rs) {k : Nat} (ho : FsOk F k) (hk : k < 1000000) (n : ByteArray) :
 Calls Tryz.prog 22 #[.pointer (some ⟨fb,0,none⟩),.string n] w fun e w' => e = .returned (.int .i64 (F.create n).2) ∧ FsPost w fb (F.create n).1 S w':=by
 have H:=hid h
 have HO:=hid ho
 have eg:=enters_of Tryz.func60 (P:=Tryz.prog) (by kernel_rfl) rfl
 have hr0 : F.create n = if F.down then (F,5) else if okName n = false then (F,1) else if (F.find n).isSome then (F,3) else if 400 ≤ F.files.length then (F,4) else F.write fun G => G.set n ⟨[],0⟩:=rfl
 obtain ⟨hkx,hbf,hbn,hsz⟩:=alloc2 w (.cells #[.pointer (some ⟨fb,0,none⟩)] 45) (.cells #[.string n] 9)
 have h1:=h.below hkx
 have c5 : ((w.alloc (.cells #[.pointer (some ⟨fb,0,none⟩)] 45)).alloc (.cells #[.string n] 9)).cell? ⟨fb,5,none⟩ = some (.bool F.down):=blk_cell h1.blk 5
 have c0 : ((w.alloc (.cells #[.pointer (some ⟨fb,0,none⟩)] 45)).alloc (.cells #[.string n] 9)).cell? ⟨w.heap.size,0,none⟩ = some (.pointer (some ⟨fb,0,none⟩)):=blk_cell hbf 0
 have c1 : ((w.alloc (.cells #[.pointer (some ⟨fb,0,none⟩)] 45)).alloc (.cells #[.string n] 9)).cell? ⟨w.heap.size + 1,0,none⟩ = some (.string n):=blk_cell hbn 0
 have HB:=hid (And.intro hkx (And.intro hbf hbn))
 cases hd : F.down with
 | true =>
   rw [if_pos hd] at hr0
   rw [hd] at c5
   have hr:=hid hr0
   clear h h1 ho hkx hbf hbn hsz hr0 hd
   go_enter Tryz.func22,Tryz.ntmps22
   go_wp2_with fail
   go_ret
   rw [hr.out]
   exact ⟨rfl,FsIs.post ⟨mb,rs,H.out⟩ HB.out.1⟩
 | false =>
   rw [if_neg (by rw [hd]; simp)] at hr0
   rw [hd] at c5
   have hr:=hid hr0
   clear h h1 ho hkx hbf hbn hsz hr0 hd
   go_enter Tryz.func22,Tryz.ntmps22
   go_wp2_with fail
   refine (f_valid _ n).mono ?_
   rintro e W ⟨rfl,hW⟩
   have HW:=hid (HB.out.1.trans (hW.mono HB.out.1.size))
   have hbf : IsBlk W w.heap.size #[.pointer (some ⟨fb,0,none⟩)] 45:=(Keeps.of_below hW).obj HB.out.2.1 (fun e => e.elim)
   have hbn : IsBlk W (w.heap.size + 1) #[.string n] 9:=(Keeps.of_below hW).obj HB.out.2.2 (fun e => e.elim)
   clear hW c0 c1 c5 HB
   cases hv : okName n with
   | false =>
     have hr:=hid (show F.create n = (F,1) by rw [hr.out,if_pos hv])
     clear hv
     go_wp2_with fail
     go_ret
     rw [hr.out]
     exact ⟨rfl,FsIs.post ⟨mb,rs,H.out⟩ HW.out⟩
   | true =>
     have h2:=H.out.below HW.out
     have h3:=h2.below (Below.refl _ _).drew
     have hl:=fs_look h3 n
     have c0 : W.cell? ⟨w.heap.size,0,none⟩ = some (.pointer (some ⟨fb,0,none⟩)):=blk_cell hbf 0
     have c1 : W.cell? ⟨w.heap.size + 1,0,none⟩ = some (.string n):=blk_cell hbn 0
     have c2 : W.cell? ⟨fb,2,none⟩ = some (.map (some mb)):=blk_cell h2.blk 2
     have hfl : F.files.length = rs.length:=by rw [H.out.files]; simp
     cases hf : findL slt rs n with
     | some p =>
       have hr:=hid (show F.create n = (F,3) by rw [hr.out,if_neg (by rw [hv]; simp),if_pos (by rw [H.out.find,hf]; rfl)])
       rw [hf] at hl
       replace hl : (Instr.lookup 100 (.map (some mb)) (.string n) false).run Tryz.prog W.drew = .ok (.pointer (some ⟨p.g,0,none⟩)) W.drew:=hl
       clear hv hf h2 h3 hbf hbn
       go_wp2_with fail
       refine wp_region_still_tail 5 (by kernel_rfl) (by kernel_rfl) ?_
       simp only [List.take_succ_cons,List.take_zero,List.drop_succ_cons,List.drop_zero]
       repeat still_step
       refine wpStill_nil ?_
       go_wp2_with fail
       go_ret
       rw [hr.out]
       exact ⟨rfl,FsIs.post ⟨mb,rs,H.out⟩ HW.out.drew⟩
     | none =>
       rw [hf] at hl
       replace hl : (Instr.lookup 100 (.map (some mb)) (.string n) false).run Tryz.prog W.drew = .ok (.pointer none) W.drew:=hl
       have hlen:=h3.map.len (P:=Tryz.prog) (t:=100) Tryz.underlying100 3
       have hr:=hid (show F.create n = if 400 ≤ rs.length then (F,4) else F.write fun G => G.set n ⟨[],0⟩ by rw [hr.out,if_neg (by rw [hv]; simp),if_neg (by rw [H.out.find,hf]; simp),hfl])
       have HF:=hid hf
       have HB2:=hid (And.intro hbf hbn)
       have h400 : (rs.length : Int) ≤ 1000000:=by have:=HO.out.few; omega
       by_cases hfull : 400 ≤ rs.length
       ·have hfull2 : (400 : Int) ≤ rs.length:=by omega
        clear hv hf h2 h3 hbf hbn hfl
        go_wp2_with fail
        refine wp_region_still_tail 5 (by kernel_rfl) (by kernel_rfl) ?_
        simp only [List.take_succ_cons,List.take_zero,List.drop_succ_cons,List.drop_zero]
        repeat still_step
        refine wpStill_nil ?_
        go_wp2_with fail
        go_ret
        rw [hr.out,if_pos hfull]
        exact ⟨rfl,FsIs.post ⟨mb,rs,H.out⟩ HW.out.drew⟩
       ·have hfull2 : ¬ (400 : Int) ≤ rs.length:=by omega
        clear hv hf h2 h3 hbf hbn hfl
        go_wp2_with fail
        refine wp_region_still_tail 5 (by kernel_rfl) (by kernel_rfl) ?_
        simp only [List.take_succ_cons,List.take_zero,List.drop_succ_cons,List.drop_zero]
        repeat still_step
        refine wpStill_nil ?_
        go_wp2_with fail
        have HD:=H.out.below HW.out.drew
        refine (f_write HD 60 #[.pointer (some ⟨w.heap.size,0,none⟩),.pointer (some ⟨w.heap.size + 1,0,none⟩)] eg (fun G => G.set n ⟨[],0⟩) HO.out.armed1 ?_ ?_).mono ?_
        ·intro w1 a h1 hk1 hz1
         exact f_create1 h1 HF.out (HD.unkept hk1 HB2.out.1 (by decide)) (HD.unkept hk1 HB2.out.2 (by decide))
        ·intro a
         have:=HO.out.steps0
         have:=HO.out.steps1
         show 0 ≤ F.steps ∧ F.steps < 1000000000
         omega
        ·rintro e w2 ⟨rfl,hp⟩
         have HP:=hid (FsPost.trans_keeps HW.out.drew H.out.lt hp)
         clear hp HD
         go_wp2_with fail
         go_ret
         rw [hr.out,if_neg hfull]
         exact ⟨rfl,HP.out⟩
end
section
variable {w : World} {fb mb : Nat} {F : FsS} {S : Nat → Prop} {rs : List (ByteArray × Pl)}
theorem FsAt.unmap {W w1 : World} (hk : Keeps (fun k => k = mb) W w1) (h : FsAt W fb F S mb rs) {b : Nat} {cs : Array Value} {T : TypeId} (hb : IsBlk W b cs T) : IsBlk w1 b cs T :=
 hk.obj hb fun e => h.map.not_blk hb e
theorem rename_tail {V : World} {G : FsS} (h : FsAt V fb G S mb rs) {a b : ByteArray} {p : Pl} (hf : findL slt rs a = some p) (hne : a ≠ b) : ∃ W3 W4,(Instr.mapUpdate 100 (.map (some mb)) (.string b) (.pointer (some ⟨p.g,0,none⟩))).run Tryz.prog V.drew = .ok () W3 ∧ Keeps (fun k => k = mb) V W3 ∧
 (Builtin.delete_ #[100,9] 0 #[.map (some mb),.string a]).run Tryz.prog W3.drew = .ok (.tuple #[]) W4 ∧ FsAt W4 fb { G with files:=dropL slt (putL slt G.files b p.fl) a } S mb (dropL slt (putL slt rs b p) a) ∧ Keeps (fun k => k = mb) V W4:=by
 have h1:=h.below (Below.refl _ _).drew
 obtain ⟨W3,hrun,hm,hk,hz⟩:=h1.map.update (P:=Tryz.prog) (t:=100) Tryz.underlying100 Tryz.underlying9 b p
 have hm1 : MapAt strKind evP W3.drew mb (putL slt rs b p):=hm.keeps (Keeps.of_below (Below.refl _ _).drew) (fun e => e.elim)
 obtain ⟨W4,hrun2,hm2,hk2,hz2⟩:=hm1.drop (P:=Tryz.prog) (t:=100) Tryz.underlying100 Tryz.underlying9 a 0
 have k3 : Keeps (fun k => k = mb) V W3:=((Keeps.refl _ V).drew).trans' hk
 have k4 : Keeps (fun k => k = mb) V W4:=k3.drew.trans' hk2
 exact ⟨W3,W4,hrun,k3,hrun2,h.moved hf hne hm2 k4,k4⟩
set_option maxHeartbeats 2000000 in
theorem f_rename1 (h : FsAt w fb F S mb rs) {a b : ByteArray} {p : Pl} (hf : findL slt rs a = some p) {ba bb bf bx : Nat} (hba : IsBlk w ba #[.string a] 9) (hbb : IsBlk w bb #[.string b] 9) (hbf : IsBlk w bf #[.pointer (some ⟨fb,0,none⟩)] 45) (hbx : IsBlk w bx #[.pointer (some ⟨p.g,0,none⟩)] 104)
 (hl : ∀ x ∈ rs,x.2.fl.data.length ≤ 1000000000) (hF0 : 0 ≤ F.used) (hF1 : F.used ≤ 1000000000) :
 Calls Tryz.prog 140 #[.pointer (some ⟨ba,0,none⟩),.pointer (some ⟨bb,0,none⟩),.pointer (some ⟨bf,0,none⟩),.pointer (some ⟨bx,0,none⟩)] w fun e w' => e = .returned (.tuple #[]) ∧ FsPost w fb (F.moved a b p.fl) S w':=by
 have c0 : w.cell? ⟨ba,0,none⟩ = some (.string a):=blk_cell hba 0
 have c1 : w.cell? ⟨bb,0,none⟩ = some (.string b):=blk_cell hbb 0
 by_cases hne : a = b
 ·subst hne
  have HF : Hid (FsPost w fb (F.moved a a p.fl) S w):=hid (by unfold FsS.moved; rw [if_pos rfl]; exact FsIs.post ⟨mb,rs,h⟩ (Below.refl _ _))
  have e : (a.toList == a.toList) = true:=by simp
  clear h hf hba hbb hbf hbx hl hF0 hF1
  go_enter Tryz.func140,Tryz.ntmps140
  go_wp2_with fail
  refine bodyPost_ret (results_none rfl _ _ _) rfl ?_
  exact ⟨rfl,HF.out⟩
 ·have hne2 : (a.toList == b.toList) = false:=by
   rw [Lib.toList_data,Lib.toList_data,beq_eq_false_iff_ne]
   intro e
   exact hne (by cases a; cases b; simp at e ⊢; exact e)
  have c2 : w.cell? ⟨bf,0,none⟩ = some (.pointer (some ⟨fb,0,none⟩)):=blk_cell hbf 0
  have c4 : w.cell? ⟨fb,2,none⟩ = some (.map (some mb)):=blk_cell h.blk 2
  have hlo:=fs_look (h.below (Below.refl _ _).drew) b
  have HL:=hid h.lt
  have HF:=hid hf
  cases hb : findL slt rs b with
  | none =>
    rw [hb] at hlo
    replace hlo : (Instr.lookup 100 (.map (some mb)) (.string b) false).run Tryz.prog w.drew = .ok (.pointer none) w.drew:=hlo
    have HM : Hid (F.moved a b p.fl = { F with files:=dropL slt (putL slt F.files b p.fl) a }):=hid (by unfold FsS.moved; rw [if_neg hne,h.find,hb]; simp)
    have hW : Below w.heap.size w w.drew:=(Below.refl _ _).drew
    have HB : Hid (IsBlk w.drew ba #[.string a] 9 ∧ IsBlk w.drew bb #[.string b] 9 ∧ IsBlk w.drew bf #[.pointer (some ⟨fb,0,none⟩)] 45 ∧ IsBlk w.drew bx #[.pointer (some ⟨p.g,0,none⟩)] 104):=hid ⟨hba,hbb,hbf,hbx⟩
    have HV:=hid (h.below hW)
    have KV : Hid (Keeps S w w.drew):=hid ((Keeps.refl S w).drew)
    clear h hf hba hbb hbf hbx hl hF0 hF1 hb hW
    go_enter Tryz.func140,Tryz.ntmps140
    go_wp2_with fail
    refine wp_region_still_tail 5 (by kernel_rfl) (by kernel_rfl) ?_
    simp only [List.take_succ_cons,List.take_zero,List.drop_succ_cons,List.drop_zero]
    repeat still_step
    refine wpStill_nil ?_
    go_wp2_with fail
    clear hlo c0 c1 c2 c4
    generalize w.drew = V at HB HV KV ⊢
    have a0 : V.cell? ⟨ba,0,none⟩ = some (.string a):=blk_cell HB.out.1 0
    have a1 : V.cell? ⟨bb,0,none⟩ = some (.string b):=blk_cell HB.out.2.1 0
    have a2 : V.cell? ⟨bf,0,none⟩ = some (.pointer (some ⟨fb,0,none⟩)):=blk_cell HB.out.2.2.1 0
    have a3 : V.cell? ⟨bx,0,none⟩ = some (.pointer (some ⟨p.g,0,none⟩)):=blk_cell HB.out.2.2.2 0
    have a4 : V.cell? ⟨fb,2,none⟩ = some (.map (some mb)):=blk_cell HV.out.blk 2
    go_wp2_with (fail)
    refine wp_region_still_tail 6 (by kernel_rfl) (by kernel_rfl) ?_
    simp only [List.take_succ_cons,List.take_zero,List.drop_succ_cons,List.drop_zero]
    repeat still_step
    refine wpStill_nil ?_
    obtain ⟨W3,W4,hrun,k3,hrun2,h4,k4⟩:=rename_tail HV.out HF.out hne
    refine wpList_mapUpdate_run rfl (.tmp 31) (.tmp 32) (.tmp 33) 100 rfl _ _ _ rfl rfl rfl _ hrun ?_
    have d0 : W3.cell? ⟨ba,0,none⟩ = some (.string a):=blk_cell (HV.out.unmap k3 HB.out.1) 0
    have d2 : W3.cell? ⟨bf,0,none⟩ = some (.pointer (some ⟨fb,0,none⟩)):=blk_cell (HV.out.unmap k3 HB.out.2.2.1) 0
    have d4 : W3.cell? ⟨fb,2,none⟩ = some (.map (some mb)):=blk_cell (HV.out.unmap k3 HV.out.blk) 2
    have H4:=hid h4
    have K4:=hid k4
    clear hrun k3 h4 k4 a0 a1 a2 a3 a4
    go_wp2_with (fail)
    refine wp_region_still_tail 5 (by kernel_rfl) (by kernel_rfl) ?_
    simp only [List.take_succ_cons,List.take_zero,List.drop_succ_cons,List.drop_zero]
    repeat still_step
    refine wpStill_nil ?_
    refine wpList_delete_run rfl (.tmp 37) (.tmp 38) 100 9 rfl _ _ rfl rfl _ _ hrun2 ?_
    clear hrun2
    go_wp2
    go_end0
    refine ⟨rfl,⟨mb,dropL slt (putL slt rs b p) a,?_⟩,KV.out.trans' (K4.out.mono (fun i _ e => by rw [e]; exact HV.out.smb))⟩
    rw [HM.out]
    exact H4.out.mono (fun _ e => .inl e) (new_lt HL.out (Nat.le_trans KV.out.size K4.out.size))
  | some q =>
    rw [hb] at hlo
    replace hlo : (Instr.lookup 100 (.map (some mb)) (.string b) false).run Tryz.prog w.drew = .ok (.pointer (some ⟨q.g,0,none⟩)) w.drew:=hlo
    have HM : Hid (F.moved a b p.fl = { ({ F with used:=F.used - q.fl.data.length } : FsS) with files:=dropL slt (putL slt F.files b p.fl) a }):=hid (by unfold FsS.moved; rw [if_neg hne,h.find,hb]; simp)
    have hW : Below w.heap.size w w.drew:=(Below.refl _ _).drew
    have HB : Hid (IsBlk w.drew ba #[.string a] 9 ∧ IsBlk w.drew bb #[.string b] 9 ∧ IsBlk w.drew bf #[.pointer (some ⟨fb,0,none⟩)] 45 ∧ IsBlk w.drew bx #[.pointer (some ⟨p.g,0,none⟩)] 104):=hid ⟨hba,hbb,hbf,hbx⟩
    have HV:=hid (h.below hW)
    have KV : Hid (Keeps S w w.drew):=hid ((Keeps.refl S w).drew)
    have HQ:=hid hb
    have hqm : q.fl.data.length ≤ 1000000000:=hl _ (findL_mem slt_ord hb)
    have HU : Hid ((q.fl.data.length : Int) ≤ 1000000000):=hid (by omega)
    clear h hf hba hbb hbf hbx hl hb hW hqm
    go_enter Tryz.func140,Tryz.ntmps140
    go_wp2_with fail
    refine wp_region_still_tail 5 (by kernel_rfl) (by kernel_rfl) ?_
    simp only [List.take_succ_cons,List.take_zero,List.drop_succ_cons,List.drop_zero]
    repeat still_step
    refine wpStill_nil ?_
    go_wp2_with fail
    clear hlo c0 c1 c2 c4
    generalize w.drew = V at HB HV KV ⊢
    have a2 : V.cell? ⟨bf,0,none⟩ = some (.pointer (some ⟨fb,0,none⟩)):=blk_cell HB.out.2.2.1 0
    have u1 : V.cell? ⟨fb,1,none⟩ = some (.int .i64 F.used):=blk_cell HV.out.blk 1
    have uz : V.frozen? ⟨fb,1,none⟩ = false:=blk_free HV.out.blk 1
    obtain ⟨va,cap,hv⟩:=(HV.out.at_file HQ.out).1.bytes.shape
    have q0 : V.cell? ⟨q.g,0,none⟩ = some (.slice va q.fl.data.length cap):=by rw [← hv]; exact blk_cell (HV.out.at_file HQ.out).1.blk 0
    have hq1:=HU.out
    refine wp_region_still_tail 12 (by kernel_rfl) (by kernel_rfl) ?_
    simp only [List.take_succ_cons,List.take_zero,List.drop_succ_cons,List.drop_zero]
    repeat still_step
    refine wpStill_nil ?_
    go_wp2_with fail
    have HB : Hid (IsBlk (V.setCell ⟨fb,1,none⟩ (.int .i64 (F.used - q.fl.data.length))).drew ba #[.string a] 9 ∧ IsBlk (V.setCell ⟨fb,1,none⟩ (.int .i64 (F.used - q.fl.data.length))).drew bb #[.string b] 9 ∧ IsBlk (V.setCell ⟨fb,1,none⟩ (.int .i64 (F.used - q.fl.data.length))).drew bf #[.pointer (some ⟨fb,0,none⟩)] 45 ∧
        IsBlk (V.setCell ⟨fb,1,none⟩ (.int .i64 (F.used - q.fl.data.length))).drew bx #[.pointer (some ⟨p.g,0,none⟩)] 104):=by
      have k:=keeps_set V fb 1 (.int .i64 (F.used - q.fl.data.length))
      exact hid ⟨HV.out.unkept k HB.out.1 (by decide),HV.out.unkept k HB.out.2.1 (by decide),HV.out.unkept k HB.out.2.2.1 (by decide),HV.out.unkept k HB.out.2.2.2 (by decide)⟩
    have KV : Hid (Keeps S w (V.setCell ⟨fb,1,none⟩ (.int .i64 (F.used - q.fl.data.length))).drew):=hid ((KV.out.setCell (p:=⟨fb,1,none⟩) (fun _ => HV.out.sfb) _).drew)
    have HV : Hid (FsAt (V.setCell ⟨fb,1,none⟩ (.int .i64 (F.used - q.fl.data.length))).drew fb { F with used:=F.used - q.fl.data.length } S mb rs):=hid ((HV.out.setCell (F':={ F with used:=F.used - q.fl.data.length }) (i:=1) (u:=.int .i64 (F.used - q.fl.data.length)) rfl rfl).below (Below.refl _ _).drew)
    clear a2 u1 uz q0 hq1 hv hF0 hF1 HU
    generalize (V.setCell ⟨fb,1,none⟩ (.int .i64 (F.used - q.fl.data.length))).drew = V at HB HV KV ⊢
    have a0 : V.cell? ⟨ba,0,none⟩ = some (.string a):=blk_cell HB.out.1 0
    have a1 : V.cell? ⟨bb,0,none⟩ = some (.string b):=blk_cell HB.out.2.1 0
    have a2 : V.cell? ⟨bf,0,none⟩ = some (.pointer (some ⟨fb,0,none⟩)):=blk_cell HB.out.2.2.1 0
    have a3 : V.cell? ⟨bx,0,none⟩ = some (.pointer (some ⟨p.g,0,none⟩)):=blk_cell HB.out.2.2.2 0
    have a4 : V.cell? ⟨fb,2,none⟩ = some (.map (some mb)):=blk_cell HV.out.blk 2
    go_wp2_with (fail)
    refine wp_region_still_tail 6 (by kernel_rfl) (by kernel_rfl) ?_
    simp only [List.take_succ_cons,List.take_zero,List.drop_succ_cons,List.drop_zero]
    repeat still_step
    refine wpStill_nil ?_
    obtain ⟨W3,W4,hrun,k3,hrun2,h4,k4⟩:=rename_tail HV.out HF.out hne
    refine wpList_mapUpdate_run rfl (.tmp 31) (.tmp 32) (.tmp 33) 100 rfl _ _ _ rfl rfl rfl _ hrun ?_
    have d0 : W3.cell? ⟨ba,0,none⟩ = some (.string a):=blk_cell (HV.out.unmap k3 HB.out.1) 0
    have d2 : W3.cell? ⟨bf,0,none⟩ = some (.pointer (some ⟨fb,0,none⟩)):=blk_cell (HV.out.unmap k3 HB.out.2.2.1) 0
    have d4 : W3.cell? ⟨fb,2,none⟩ = some (.map (some mb)):=blk_cell (HV.out.unmap k3 HV.out.blk) 2
    have H4:=hid h4
    have K4:=hid k4
    clear hrun k3 h4 k4 a0 a1 a2 a3 a4
    go_wp2_with (fail)
    refine wp_region_still_tail 5 (by kernel_rfl) (by kernel_rfl) ?_
    simp only [List.take_succ_cons,List.take_zero,List.drop_succ_cons,List.drop_zero]
    repeat still_step
    refine wpStill_nil ?_
    refine wpList_delete_run rfl (.tmp 37) (.tmp 38) 100 9 rfl _ _ rfl rfl _ _ hrun2 ?_
    clear hrun2
    go_wp2
    go_end0
    refine ⟨rfl,⟨mb,dropL slt (putL slt rs b p) a,?_⟩,KV.out.trans' (K4.out.mono (fun i _ e => by rw [e]; exact HV.out.smb))⟩
    rw [HM.out]
    exact H4.out.mono (fun _ e => .inl e) (new_lt HL.out (Nat.le_trans KV.out.size K4.out.size))
set_option maxHeartbeats 2000000 in
theorem f_rename (h : FsAt w fb F S mb rs) {k : Nat} (ho : FsOk F k) (hk : k < 1000000) (n n2 : ByteArray) :
 Calls Tryz.prog 86 #[.pointer (some ⟨fb,0,none⟩),.string n,.string n2] w fun e w' => e = .returned (.int .i64 (F.rename n n2).2) ∧ FsPost w fb (F.rename n n2).1 S w':=by
 have HOF:=f_ofH h n
 have H:=hid h
 have HO:=hid ho
 have eg:=enters_of Tryz.func140 (P:=Tryz.prog) (by kernel_rfl) rfl
 have hr0 : F.rename n n2 = _:=fs_on h n fun x => if okName n2 = false then (F,1) else F.write fun G => G.moved n n2 x
 cases hd : F.down with
 | true =>
   have hr : Hid (F.rename n n2 = (F,5)):=hid (by rw [hd,if_pos rfl] at hr0; exact hr0)
   rw [hd] at HOF
   clear h ho hd hr0
   go_enter Tryz.func86,Tryz.ntmps86
   go_wp2_with fail
   refine (HOF.out _ (alloc3 _ _ _ _).1).mono ?_
   rintro e w' ⟨rfl,rfl⟩
   simp only [ofRes,if_true]
   go_wp2_with fail
   go_ret
   rw [hr.out]
   exact ⟨rfl,FsIs.post ⟨mb,rs,H.out⟩ (alloc4 _ _ _ _ _).1⟩
 | false =>
   rw [hd] at HOF hr0
   rw [if_neg (by simp)] at hr0
   cases hf : findL slt rs n with
   | none =>
     rw [hf] at HOF hr0
     have hr : Hid (F.rename n n2 = (F,2)):=hid hr0
     clear h ho hd hf hr0
     go_enter Tryz.func86,Tryz.ntmps86
     go_wp2_with fail
     refine (HOF.out _ (alloc3 _ _ _ _).1).mono ?_
     rintro e w' ⟨rfl,rfl⟩
     simp only [ofRes,Bool.false_eq_true,if_false]
     go_wp2_with fail
     go_ret
     rw [hr.out]
     exact ⟨rfl,FsIs.post ⟨mb,rs,H.out⟩ (alloc4 _ _ _ _ _).1⟩
   | some p =>
     rw [hf] at HOF hr0
     have HF:=hid hf
     have HLEN : Hid (∀ x ∈ rs,x.2.fl.data.length ≤ 1000000000):=hid (fun x hx => by
      have h1 : (x.1,x.2.fl) ∈ F.files:=by rw [h.files]; exact List.mem_map_of_mem hx
      have h2:=sumLen_mem h1
      have:=ho.used; have:=ho.fits; have:=ho.room1
      simp only at h2
      omega)
     have hr : Hid (F.rename n n2 = if okName n2 = false then (F,1) else F.write fun G => G.moved n n2 p.fl):=hid hr0
     have HU : Hid (0 ≤ F.used ∧ F.used ≤ 1000000000):=hid (by have:=ho.used0; have:=ho.fits; have:=ho.room1; omega)
     clear h ho hd hf hr0
     go_enter Tryz.func86,Tryz.ntmps86
     go_wp2_with fail
     refine (HOF.out _ (alloc3 _ _ _ _).1).mono ?_
     rintro e w' ⟨rfl,rfl⟩
     simp only [ofRes,Bool.false_eq_true,if_false]
     go_wp2_with fail
     obtain ⟨hkx,hbf,hba,hbb,hbx,hsz⟩:=alloc4 w (.cells #[.pointer (some ⟨fb,0,none⟩)] 45) (.cells #[.string n] 9) (.cells #[.string n2] 9) (.cells #[.pointer (some ⟨p.g,0,none⟩)] 104)
     refine (f_valid _ n2).mono ?_
     rintro e W ⟨rfl,hW⟩
     have HW:=hid (hkx.trans (hW.mono hkx.size))
     have HB2 : Hid (IsBlk W w.heap.size #[.pointer (some ⟨fb,0,none⟩)] 45 ∧ IsBlk W (w.heap.size + 1) #[.string n] 9 ∧ IsBlk W (w.heap.size + 1 + 1) #[.string n2] 9 ∧ IsBlk W (w.heap.size + 1 + 1 + 1) #[.pointer (some ⟨p.g,0,none⟩)] 104) :=
      hid ⟨(Keeps.of_below hW).obj hbf (fun e => e.elim),(Keeps.of_below hW).obj hba (fun e => e.elim),(Keeps.of_below hW).obj hbb (fun e => e.elim),(Keeps.of_below hW).obj hbx (fun e => e.elim)⟩
     clear hkx hbf hba hbb hbx hsz hW
     cases hv : okName n2 with
     | false =>
       have hr:=hid (show F.rename n n2 = (F,1) by rw [hr.out,if_pos hv])
       clear hv
       go_wp2_with fail
       go_ret
       rw [hr.out]
       exact ⟨rfl,FsIs.post ⟨mb,rs,H.out⟩ HW.out⟩
     | true =>
       have hr:=hid (show F.rename n n2 = F.write fun G => G.moved n n2 p.fl by rw [hr.out,if_neg (by rw [hv]; simp)])
       have c0 : W.cell? ⟨w.heap.size,0,none⟩ = some (.pointer (some ⟨fb,0,none⟩)):=blk_cell HB2.out.1 0
       have H2:=hid (H.out.below HW.out)
       clear hv
       go_wp2_with fail
       refine (f_write H2.out 140 #[.pointer (some ⟨w.heap.size + 1,0,none⟩),.pointer (some ⟨w.heap.size + 1 + 1,0,none⟩),.pointer (some ⟨w.heap.size,0,none⟩),.pointer (some ⟨w.heap.size + 1 + 1 + 1,0,none⟩)] eg (fun G => G.moved n n2 p.fl) HO.out.armed1 ?_ ?_).mono ?_
       ·intro w1 a h1 hk1 hz1
        exact f_rename1 h1 HF.out (H2.out.unkept hk1 HB2.out.2.1 (by decide)) (H2.out.unkept hk1 HB2.out.2.2.1 (by decide)) (H2.out.unkept hk1 HB2.out.1 (by decide)) (H2.out.unkept hk1 HB2.out.2.2.2 (by decide)) HLEN.out HU.out.1 HU.out.2
       ·intro a
        have:=HO.out.steps0
        have:=HO.out.steps1
        have : (FsS.moved { F with armed:=a } n n2 p.fl).steps = F.steps:=by unfold FsS.moved; split <;> rfl
        rw [this]
        omega
       ·rintro e w2 ⟨rfl,hp⟩
        have HP:=hid (FsPost.trans_keeps HW.out H.out.lt hp)
        clear hp
        go_wp2_with fail
        go_ret
        rw [hr.out]
        exact ⟨rfl,HP.out⟩
end
theorem make_bytes (w : World) (n : Nat) (hn : n ≤ 1000000000) : ∃ W1,(Instr.makeSlice 23 (.int .i64 0) (.int .i64 (n : Int))).run Tryz.prog w = .ok (.slice (some ⟨w.heap.size,0,none⟩) 0 n) W1 ∧ SlAt byteKind 5 W1 (.slice (some ⟨w.heap.size,0,none⟩) 0 n) ([] : List UInt8) ∧ Below w.heap.size w W1:=by
 obtain ⟨i0,hi,hz0,hz1,hz2⟩:=info_parts infoU8
 have hr:=run_make (P:=Tryz.prog) w 23 5 i0 _ Tryz.underlying23 hi hz0 .i64 .i64 0 (n : Int) (Int.le_refl _) (by omega) (by rw [hz2]; omega) (by omega)
 simp only [Int.toNat_zero,Int.toNat_natCast] at hr
 refine ⟨_,hr,.inr ⟨w.heap.size,0,n,_,rfl,heap_alloc_new w _,by simp,by unfold maxLen; omega,?_,fun i hi => by simp at hi⟩,(Below.refl _ _).alloc (Nat.le_refl _) _⟩
 rw [size_madeCells,hz1]
 show 0 + n * 1 ≤ n * 1
 omega
section
variable {w : World}
structure FreshAt (w w' : World) (v : Value) (ys : List UInt8) : Prop where
 sl : SlAt byteKind 5 w' v ys
 new : ∀ k,v.ownBlock = some k → w.heap.size ≤ k
 below : Below w.heap.size w w'
set_option maxHeartbeats 1000000 in
theorem f_fresh {u : Value} {ys : List UInt8} (hu : RdAt byteKind w u ys) (hn : ys.length ≤ 1000000000) :
 Calls Tryz.prog 91 #[u] w fun e w' => ∃ v,e = .returned v ∧ FreshAt w w' v ys:=by
 obtain ⟨W1,hmk,hs1,hk1⟩:=make_bytes w ys.length hn
 obtain ⟨v',w2,hrun,hs2,hk2,ho2,_⟩:=append_bytes hs1 (hu.below hk1) (by simp; omega) 23
 obtain ⟨a,cap,rfl,_⟩:=hu
 have HF : Hid (FreshAt w w2 v' ys):=hid ⟨hs2,fun k hk => by
  rcases ho2 k hk with e | e
  ·simp [Value.ownBlock] at e; omega
  ·exact Nat.le_trans hk1.size e,below_keeps hk1 hk2 (fun i e => by simp [Value.ownBlock] at e; omega) hk1.size⟩
 clear hs1 hk1 hs2 hk2 ho2
 have hn' : (ys.length : Int) ≤ 1000000000:=by omega
 go_enter Tryz.func91,Tryz.ntmps91
 go_wp2_with (at_builtin; refine wpList_append_run rfl (.tmp 5) (.tmp 6) 23 rfl _ _ rfl rfl _ _ hrun ?_)
 go_ret
 exact ⟨_,rfl,HF.out⟩
def ReadRes (w : World) (o : Option FileS) (e : Ending) (w' : World) : Prop:=match o with
 | none => e = .returned (.tuple #[.slice none 0 0,.int .i64 2]) ∧ w' = w
 | some x => ∃ v,e = .returned (.tuple #[v,.int .i64 0]) ∧ FreshAt w w' v x.data
variable {fb mb : Nat} {F : FsS} {S : Nat → Prop} {rs : List (ByteArray × Pl)}
set_option maxHeartbeats 1000000 in
theorem f_read (h : FsAt w fb F S mb rs) (n : ByteArray) (hl : ∀ x,F.find n = some x → x.data.length ≤ 1000000000) :
 Calls Tryz.prog 30 #[.pointer (some ⟨fb,0,none⟩),.string n] w fun e w' => ReadRes w (F.find n) e w':=by
 have hlo:=fs_look h n
 have c2 : w.cell? ⟨fb,2,none⟩ = some (.map (some mb)):=blk_cell h.blk 2
 rw [h.find] at hl ⊢
 cases hf : findL slt rs n with
 | none =>
   rw [hf] at hlo
   replace hlo : (Instr.lookup 100 (.map (some mb)) (.string n) false).run Tryz.prog w = .ok (.pointer none) w:=hlo
   clear hf h hl
   go_enter Tryz.func30,Tryz.ntmps30
   go_wp2
   go_ret2
   exact ⟨rfl,rfl⟩
 | some p =>
   rw [hf] at hlo hl
   replace hlo : (Instr.lookup 100 (.map (some mb)) (.string n) false).run Tryz.prog w = .ok (.pointer (some ⟨p.g,0,none⟩)) w:=hlo
   have hp:=h.pl _ (findL_mem slt_ord hf)
   have d0 : w.cell? ⟨p.g,0,none⟩ = some p.v:=blk_cell hp.blk 0
   have HR:=hid (f_fresh hp.bytes.rd (hl p.fl rfl))
   clear hf h hp hl
   go_enter Tryz.func30,Tryz.ntmps30
   go_wp2_with (fail)
   refine HR.out.mono ?_
   rintro e w' ⟨v,rfl,hv⟩
   have HV:=hid hv
   clear hv
   go_wp2_with (fail)
   go_ret2
   show ∃ v,_ ∧ FreshAt w _ v p.fl.data
   exact ⟨v,rfl,HV.out⟩
theorem mapNil {K V : Type} (kk : KeyKind K) (ev : V → Value) (w : World) (b : Nat) (h : w.heap[b]? = some (.map #[] 0)) : MapAt kk ev w b ([] : List (K × V)):=by
 refine ⟨List.Pairwise.nil,#[],0,h,⟨by simp,by simp,by simp⟩,by simp⟩
set_option maxHeartbeats 1000000 in
theorem f_new (m : Int) (_ : -9223372036854775808 ≤ m) (_ : m ≤ 9223372036854775807) :
 Calls Tryz.prog 21 #[.int .i64 m] w fun e w' => ∃ fb,e = .returned (.pointer (some ⟨fb,0,none⟩)) ∧ FsIs w' fb ⟨min (max m 0) 67108864,0,[],0,0,false⟩ (New w w' fun _ => False) ∧ Below w.heap.size w w':=by
 have hmm:=run_makeMap (P:=Tryz.prog) 100 w
 obtain ⟨hk,hb0,hb1,hsz⟩:=alloc2 w (.map #[] 0) (.cells #[.int .i64 (min (max m 0) 67108864),.int .i64 0,.map (some w.heap.size),.int .i64 0,.int .i64 0,.bool false] 102)
 go_enter Tryz.func21,Tryz.ntmps21
 go_wp2_with (fail)
 go_ret
 refine ⟨w.heap.size + 1,rfl,⟨w.heap.size,[],hb1,mapNil _ _ _ _ hb0,rfl,fun x hx => by simp at hx,List.Pairwise.nil,?_,?_,fun x hx => by simp at hx,new_lt (fun _ e => e.elim) hk.size⟩,hk⟩
 ·exact .inr ⟨by omega,by omega⟩
 ·exact .inr ⟨by omega,by omega⟩
end
end Go.Proofs.YtagdchgkjjpacaaGreat
