/- Plain laws of a store: what writes leave of a file system; a file written anew, removed, given another name. No program. -/
import Derived.Test.YtagdchgkjjpacaaGreatr27
set_option linter.unusedSimpArgs false
set_option linter.unusedVariables false
namespace Go.Proofs.YtagdchgkjjpacaaGreat
structure Step (P : ByteArray → Prop) (n : Nat) (u : Int) (F G : FsS) : Prop where
 rise : Rise slt F.files → Rise slt G.files
 others : ∀ m,¬ P m → G.find m = F.find m
 few : G.files.length ≤ F.files.length + n
 used : G.used ≤ F.used + u
 room : G.room = F.room
 calm : F.armed = 0 → G.armed = 0 ∧ G.down = F.down
def Out1 (F : FsS) (R : FsS × Int) (n : ByteArray) (o : Option FileS) : Prop :=
 (R.2 = 0 ∧ R.1.down = false ∧ ∀ m,R.1.find m = if m = n then o else F.find m) ∨ (R.2 = 5 ∧ R.1.down = true ∧ F.armed ≠ 0 ∧ ∀ m,R.1.find m = F.find m)
section
variable {P Q : ByteArray → Prop} {i j : Nat} {u v : Int} {F G H : FsS} {R : FsS × Int} {n a b : ByteArray} {x y : FileS}
theorem Step.refl (P : ByteArray → Prop) (F : FsS) : Step P 0 0 F F:=⟨fun h => h,fun _ _ => rfl,by omega,by omega,rfl,fun h => ⟨h,rfl⟩⟩
theorem Step.trans (h : Step P i u F G) (k : Step P j v G H) : Step P (i + j) (u + v) F H :=
 ⟨fun e => k.rise (h.rise e),fun m e => (k.others m e).trans (h.others m e),by have:=h.few; have:=k.few; omega,by have:=h.used; have:=k.used; omega,k.room.trans h.room,fun e => by
  have h1:=h.calm e
  have h2:=k.calm h1.1
  exact ⟨h2.1,h2.2.trans h1.2⟩⟩
theorem Step.mono (h : Step P i u F G) (hp : ∀ m,P m → Q m) (hi : i ≤ j) (hu : u ≤ v) : Step Q j v F G :=
 ⟨h.rise,fun m e => h.others m (fun e2 => e (hp m e2)),by have:=h.few; omega,by have:=h.used; omega,h.room,h.calm⟩
theorem find_same (h : G.files = F.files) (m : ByteArray) : G.find m = F.find m:=by unfold FsS.find; rw [h]
theorem step_wr {files : List (ByteArray × FileS)} {used : Int} (hd : F.down = false) (h : Wr F R files used) (h1 : Rise slt F.files → Rise slt files) (h2 : Rise slt F.files → ∀ (G : FsS),G.files = files → ∀ m,m ≠ n → G.find m = F.find m) (hr : Rise slt F.files)
 (h3 : files.length ≤ F.files.length + i) (h4 : used ≤ F.used + u) (hu : 0 ≤ u) : Step (fun m => m = n) i u F R.1:=by
 rcases h with ⟨-,h⟩ | ⟨-,h⟩
 ·exact ⟨fun e => by rw [h.files]; exact h1 e,fun m e => h2 hr _ h.files m e,by rw [h.files]; exact h3,by rw [h.used]; exact h4,h.room,fun e => ⟨h.calm e,h.down⟩⟩
 ·exact ⟨fun e => by rw [h.files]; exact e,fun m _ => find_same h.files m,by rw [h.files]; omega,by rw [h.used]; omega,h.room,fun e => absurd e h.arm⟩
theorem out_put {used : Int} (hd : F.down = false) (hr : Rise slt F.files) (h : Wr F R (putL slt F.files n y) used) : Out1 F R n (some y):=by
 rcases h with ⟨e,h⟩ | ⟨e,h⟩
 ·exact .inl ⟨e,h.down.trans hd,fun m => find_put hr h.files m⟩
 ·exact .inr ⟨e,h.down,h.arm,fun m => find_same h.files m⟩
theorem out_drop {used : Int} (hd : F.down = false) (hr : Rise slt F.files) (h : Wr F R (dropL slt F.files n) used) : Out1 F R n none:=by
 rcases h with ⟨e,h⟩ | ⟨e,h⟩
 ·exact .inl ⟨e,h.down.trans hd,fun m => find_drop_ hr h.files m⟩
 ·exact .inr ⟨e,h.down,h.arm,fun m => find_same h.files m⟩
theorem step_put {used : Int} (hd : F.down = false) (hr : Rise slt F.files) (h : Wr F R (putL slt F.files n y) used) (hl : (putL slt F.files n y).length ≤ F.files.length + i) (h4 : used ≤ F.used + u) (hu : 0 ≤ u) : Step (fun m => m = n) i u F R.1 :=
 step_wr hd h (fun e => rise_putL slt_ord e _ _) (fun e G hf m hm => by rw [find_put e hf,if_neg hm]) hr hl h4 hu
theorem drop_len (l : List (ByteArray × FileS)) (n : ByteArray) : (dropL slt l n).length ≤ l.length:=List.length_filter_le _ _
theorem step_drop {used : Int} (hd : F.down = false) (hr : Rise slt F.files) (h : Wr F R (dropL slt F.files n) used) (h4 : used ≤ F.used) : Step (fun m => m = n) 0 0 F R.1 :=
 step_wr hd h (fun e => rise_dropL e _) (fun e G hf m hm => by rw [find_drop_ e hf,if_neg hm]) hr (by have:=drop_len F.files n; omega) (by omega) (by omega)
theorem create_1 (hd : F.down = false) (hr : Rise slt F.files) (hn : okName n = true) (hx : F.find n = none) (hf : F.files.length < 400) : Step (fun m => m = n) 1 0 F (F.create n).1 ∧ Out1 F (F.create n) n (some (fl [])):=by
 have h:=create_wr hd hn hx hf
 exact ⟨step_put hd hr h (put_len_le hr _ _) (by omega) (by omega),out_put hd hr h⟩
theorem append_1 (hd : F.down = false) (hr : Rise slt F.files) (hx : F.find n = some x) {b : List UInt8} (hb : ¬ F.room - F.used < b.length) : Step (fun m => m = n) 0 (b.length : Int) F (F.append n b).1 ∧ Out1 F (F.append n b) n (some ⟨x.data ++ b,x.synced⟩):=by
 have h:=append_wr hd hx hb
 exact ⟨step_put hd hr h (by rw [put_len hx hr]; omega) (by omega) (by omega),out_put hd hr h⟩
theorem sync_1 (hd : F.down = false) (hr : Rise slt F.files) (hx : F.find n = some x) : Step (fun m => m = n) 0 0 F (F.sync n).1 ∧ Out1 F (F.sync n) n (some (fl x.data)):=by
 have h:=sync_wr hd hx
 exact ⟨step_put hd hr h (by rw [put_len hx hr]; omega) (by omega) (by omega),out_put hd hr h⟩
theorem trunc_1 (hd : F.down = false) (hr : Rise slt F.files) (hx : F.find n = some x) {k : Nat} (hk : k ≤ x.data.length) : Step (fun m => m = n) 0 0 F (F.truncate n (k : Int)).1 ∧ Out1 F (F.truncate n (k : Int)) n (some ⟨x.data.take k,min x.synced k⟩):=by
 have h:=trunc_wr hd hx hk
 exact ⟨step_put hd hr h (by rw [put_len hx hr]; omega) (by omega) (by omega),out_put hd hr h⟩
theorem remove_1 (hd : F.down = false) (hr : Rise slt F.files) (hx : F.find n = some x) : Step (fun m => m = n) 0 0 F (F.remove n).1 ∧ Out1 F (F.remove n) n none:=by
 have h:=remove_wr hd hx
 exact ⟨step_drop hd hr h (by omega),out_drop hd hr h⟩
theorem rename_wr (hd : F.down = false) (hx : F.find a = some x) (hb : okName b = true) (hne : a ≠ b) : Wr F (F.rename a b) (dropL slt (putL slt F.files b x) a) (F.used - (match F.find b with | none => 0 | some y => (y.data.length : Int))):=by
 unfold FsS.rename
 rw [on_some hd hx,if_neg (by simp [hb])]
 refine wr_write (fun c => ?_) (fun c => ?_) (fun c => ?_) (fun c => ?_) (fun c => ?_) <;> (unfold FsS.moved; rw [if_neg hne])
 rfl
theorem rename_1 (hd : F.down = false) (hr : Rise slt F.files) (hx : F.find a = some x) (hb : okName b = true) (hne : a ≠ b) : Step (fun m => m = a ∨ m = b) 1 0 F (F.rename a b).1 ∧
 (((F.rename a b).2 = 0 ∧ (F.rename a b).1.down = false ∧ ∀ m,(F.rename a b).1.find m = if m = a then none else if m = b then some x else F.find m) ∨ ((F.rename a b).2 = 5 ∧ (F.rename a b).1.down = true ∧ F.armed ≠ 0 ∧ ∀ m,(F.rename a b).1.find m = F.find m)):=by
 have h:=rename_wr hd hx hb hne
 have hp:=rise_putL slt_ord hr b x
 have hf : ∀ G : FsS,G.files = dropL slt (putL slt F.files b x) a → ∀ m,G.find m = if m = a then none else if m = b then some x else F.find m:=fun G hG m => by
  have h1:=find_drop_ (F:={ F with files:=putL slt F.files b x }) (G:=G) (n:=a) hp hG m
  rw [h1]
  have h2:=find_put (F:=F) (G:={ F with files:=putL slt F.files b x }) (n:=b) (y:=x) hr rfl m
  rw [h2]
 have hu : (0 : Int) ≤ (match F.find b with | none => 0 | some y => (y.data.length : Int)):=by
  cases F.find b with
  | none => exact Int.le_refl 0
  | some y => exact Int.natCast_nonneg _
 rcases h with ⟨e,h⟩ | ⟨e,h⟩
 ·refine ⟨⟨fun _ => by rw [h.files]; exact rise_dropL hp _,fun m hm => ?_,?_,by rw [h.used]; omega,h.room,fun e => ⟨h.calm e,h.down⟩⟩,.inl ⟨e,h.down.trans hd,hf _ h.files⟩⟩
  ·rw [hf _ h.files m,if_neg (fun e => hm (.inl e)),if_neg (fun e => hm (.inr e))]
  ·rw [h.files]
   have h1:=drop_len (putL slt F.files b x) a
   have h2:=put_len_le hr b x
   omega
 ·exact ⟨⟨fun e => by rw [h.files]; exact e,fun m _ => find_same h.files m,by rw [h.files]; omega,by rw [h.used]; omega,h.room,fun e => absurd e h.arm⟩,.inr ⟨e,h.down,h.arm,fun m => find_same h.files m⟩⟩
theorem lays_out (hd : F.down = false) (hr : Rise slt F.files) (hn : okName n = true) (hx : F.find n = none) (hf : F.files.length < 400) (b : List UInt8) : Step (fun m => m = n) 1 (b.length : Int) F (laysR F n b).1 ∧
 (((laysR F n b).2 = 0 ∧ (laysR F n b).1.down = false ∧ (laysR F n b).1.find n = some (fl b)) ∨
   ((laysR F n b).2 = 4 ∧ (laysR F n b).1.down = false ∧ F.room - F.used < b.length ∧ (laysR F n b).1.find n = some (fl [])) ∨
   ((laysR F n b).2 = 5 ∧ (laysR F n b).1.down = true ∧ F.armed ≠ 0)):=by
 obtain ⟨s1,o1⟩:=create_1 hd hr hn hx hf
 unfold laysR
 have hb0 : (0 : Int) ≤ (b.length : Int):=by omega
 rcases o1 with ⟨e1,d1,f1⟩ | ⟨e1,d1,a1,f1⟩
 ·rw [if_neg (by rw [e1]; decide)]
  have hr1:=s1.rise hr
  have x1 : (F.create n).1.find n = some (fl []):=by rw [f1,if_pos rfl]
  generalize F.create n = R1 at *
  by_cases hfull : R1.1.room - R1.1.used < b.length
  ·rw [append_full d1 x1 hfull,if_pos (show (4 : Int) ≠ 0 by decide)]
   refine ⟨s1.mono (fun _ e => e) (Nat.le_refl _) hb0,.inr (.inl ⟨rfl,d1,?_,x1⟩)⟩
   have:=s1.room
   have:=s1.used
   omega
  ·obtain ⟨s2,o2⟩:=append_1 d1 hr1 x1 hfull
   rcases o2 with ⟨e2,d2,f2⟩ | ⟨e2,d2,a2,f2⟩
   ·rw [if_neg (by rw [e2]; decide)]
    have hr2:=s2.rise hr1
    have x2 : (R1.1.append n b).1.find n = some ⟨b,0⟩:=by rw [f2,if_pos rfl]; rfl
    generalize R1.1.append n b = R2 at *
    obtain ⟨s3,o3⟩:=sync_1 d2 hr2 x2
    have s:=(s1.trans s2).trans s3
    refine ⟨s.mono (fun _ e => e) (by omega) (by omega),?_⟩
    rcases o3 with ⟨e3,d3,f3⟩ | ⟨e3,d3,a3,f3⟩
    ·exact .inl ⟨e3,d3,by rw [f3,if_pos rfl]⟩
    ·exact .inr (.inr ⟨e3,d3,fun e => a3 ((s1.trans s2).calm e).1⟩)
   ·rw [if_pos (by rw [e2]; decide)]
    exact ⟨(s1.trans s2).mono (fun _ e => e) (by omega) (by omega),.inr (.inr ⟨e2,d2,fun e => a2 (s1.calm e).1⟩)⟩
 ·rw [if_pos (by rw [e1]; decide)]
  exact ⟨s1.mono (fun _ e => e) (Nat.le_refl _) hb0,.inr (.inr ⟨e1,d1,a1⟩)⟩
theorem undo_out (hd : F.down = false) (hr : Rise slt F.files) (st : Bool) (n : ByteArray) : Step (fun m => m = n) 0 0 F (undoR (F,st) n).1 ∧
 (((undoR (F,st) n).1.down = false ∧ (undoR (F,st) n).2 = st ∧ (undoR (F,st) n).1.find n = none) ∨ ((undoR (F,st) n).1.down = true ∧ (undoR (F,st) n).2 = true ∧ F.armed ≠ 0)):=by
 unfold undoR
 simp only
 cases hx : F.find n with
 | none => exact ⟨Step.refl _ _,.inl ⟨hd,rfl,hx⟩⟩
 | some x =>
   obtain ⟨s1,o1⟩:=remove_1 hd hr hx
   refine ⟨s1,?_⟩
   rcases o1 with ⟨e1,d1,f1⟩ | ⟨e1,d1,a1,f1⟩
   ·exact .inl ⟨d1,by rw [e1]; simp,by rw [f1,if_pos rfl]⟩
   ·exact .inr ⟨d1,by rw [e1]; simp,a1⟩
theorem undo_down (hd : F.down = true) (n : ByteArray) : (undoR (F,true) n).1 = F ∧ (undoR (F,true) n).2 = true:=by
 unfold undoR
 simp only
 cases hx : F.find n with
 | none => exact ⟨rfl,rfl⟩
 | some x =>
   have e : F.remove n = (F,5):=by unfold FsS.remove FsS.on; rw [if_pos hd]
   simp only [e]
   exact ⟨trivial,by simp⟩
end
section
variable {F G : FsS} {dir : ByteArray} {size : Int} {first sy : Nat} {ds : List FileS} {pre segs old cur want ro rc : List (List UInt8)} {c t : List UInt8}
theorem Segs.ext (h : Segs F dir first ds) (hr : Rise slt G.files) (hf : ∀ m,segNum dir m ≠ 0 → G.find m = F.find m) : Segs G dir first ds :=
 ⟨hr,h.pos,h.top,fun i d hd => by
  have h1:=h.name_lt (List.getElem?_eq_some_iff.1 hd).1
  rw [hf _ (by rw [segNum_name dir h1]; have:=h.pos; omega)]
  exact h.at_ i d hd,fun n x hx hn => h.only n x (by rw [← hf n hn]; exact hx) hn⟩
theorem Holds.join (h : Holds old ro) (k : Holds cur rc) : Holds (old ++ cur) (ro ++ rc):=by
 obtain ⟨a,h1,h2,h3⟩:=h
 obtain ⟨b,k1,k2,k3⟩:=k
 refine ⟨a ++ b,by rw [h1,k1,List.map_append],by rw [List.flatten_append,h2,k2],fun p hp => ?_⟩
 rcases List.mem_append.1 hp with e | e
 ·exact h3 p e
 ·exact k3 p e
theorem Holds.last (h : Holds (pre ++ [c]) want) (ht : headOf t = none) : (∀ d ∈ pre.map fl,Whole_ d) ∧ ∃ rs,scanOf (c ++ t) = rs ∧ endOf rs = c.length ∧ recsOf (pre.map fl) ++ rs = want:=by
 have hw:=h.whole
 obtain ⟨rss,rs,h1,h2,h3,h4⟩:=h.split
 have hrs : ∀ q ∈ rs,q.length ≤ 1048576:=fun q hq => h4 q (by rw [← h3]; simp [hq])
 refine ⟨fun d hd => hw.1 d (by rw [List.map_append]; exact List.mem_append_left _ hd),rs,by rw [h2,scan_frames rs _ hrs,scanOf_none ht,List.append_nil],by rw [h2,endOf_frames],?_⟩
 have e:=hw.2
 rw [List.map_append] at e
 simp only [recsOf,List.flatMap_append,List.map_cons,List.map_nil,List.flatMap_cons,List.flatMap_nil,List.append_nil] at e ⊢
 rw [← e,h2,scan_of_frames hrs]
structure LogOut (F : FsS) (dir : ByteArray) (size : Int) (first : Nat) (pre want : List (List UInt8)) (c t : List UInt8) (R : FsS × LogS × List (List UInt8) × Int) : Prop where
 step : Step (fun m => segNum dir m ≠ 0) 0 0 F R.1
 out : (∃ cut,R = (R.1,⟨dir,size,first,first + pre.length,cut,false⟩,want,0) ∧ R.1.down = false ∧ Segs R.1 dir first ((pre ++ [c]).map fl) ∧ (t = [] → R.1 = F)) ∨
   (R.2.2.2 = 5 ∧ R.1.down = true ∧ F.armed ≠ 0 ∧ ∃ t' sy',Segs R.1 dir first (pre.map fl ++ [⟨c ++ t',sy'⟩]) ∧ c.length ≤ sy' ∧ sy' ≤ c.length + t'.length ∧ headOf t' = none)
theorem open_log (hs : Segs F dir first (pre.map fl ++ [⟨c ++ t,sy⟩])) (h1 : c.length ≤ sy) (h2 : sy ≤ c.length + t.length) (hh : Holds (pre ++ [c]) want) (ht : headOf t = none) (hok : okName (segName dir 1) = true) (h16 : 16 ≤ size) (h20 : size ≤ 1048576) (hd : F.down = false) :
 LogOut F dir size first pre want c t (openL F dir size):=by
 obtain ⟨hw,rs,hsc,hend,hrec⟩:=hh.last ht
 have hpos:=hs.pos
 have hn:=hs.nums (by simp)
 have hlen : (pre.map fl ++ [(⟨c ++ t,sy⟩ : FileS)]).length = pre.length + 1:=by simp
 rw [hlen] at hn
 have hlast : first + (pre.length + 1) - 1 = first + pre.length:=by omega
 rw [hlast] at hn
 have hO : openL F dir size = openR F dir size first (first + pre.length):=by
  unfold openL
  rw [if_neg (by simp [hok]),if_neg (by omega),if_neg (by simp [hd]),hn]
  simp only
  rw [if_neg (by omega)]
 have hrd:=read_whole (F:=F) (dir:=dir) (last:=first + pre.length) (cut:=0) (pre.map fl) first [] (fun i d hi => ⟨hs.at_ i d (by rw [List.getElem?_append_left (List.getElem?_eq_some_iff.1 hi).1]; exact hi),hw d (List.mem_of_getElem? hi)⟩) 1
 rw [List.nil_append,List.length_map] at hrd
 have hx : F.find (segName dir (first + pre.length)) = some ⟨c ++ t,sy⟩:=by
  have:=hs.at_ pre.length ⟨c ++ t,sy⟩ (by rw [List.getElem?_append_right (by simp)]; simp)
  exact this
 have hrec2 : (pre.map fl).flatMap (fun d => scanOf d.data) ++ rs = want:=hrec
 have hnm : segNum dir (segName dir (first + pre.length)) ≠ 0:=by
  rw [segNum_name dir (hs.name_lt (i:=pre.length) (by simp))]
  omega
 unfold openR at hO
 rw [show first + pre.length + 1 - first = pre.length + 1 by omega,hrd] at hO
 by_cases he : t = []
 ·subst he
  have he2 : endOf (scanOf (c ++ [])) = (c ++ []).length:=by rw [hsc,hend,List.append_nil]
  have hsy : sy = c.length:=by simp at h2; omega
  rw [readF_whole rfl hx he2] at hO
  simp only at hO
  rw [hsc,hrec2] at hO
  simp only [readF] at hO
  rw [hO]
  refine ⟨Step.refl _ _,.inl ⟨0,rfl,hd,?_,fun _ => rfl⟩⟩
  rw [hsy,List.append_nil] at hs
  simpa using hs
 ·have hne : endOf (scanOf (c ++ t)) ≠ (c ++ t).length:=by
   rw [hsc,hend,List.length_append]
   have:=List.length_pos_iff.2 he
   omega
  have htk : (c ++ t).take c.length = c:=List.take_left' rfl
  have hmin : min sy c.length = c.length:=by omega
  obtain ⟨s1,o1⟩:=trunc_1 hd hs.rise hx (k:=c.length) (by simp)
  have w1:=trunc_wr hd hx (k:=c.length) (by simp)
  simp only [htk,hmin] at o1 w1
  obtain ⟨n,hnn⟩ : ∃ n,n = segName dir (first + pre.length):=⟨_,rfl⟩
  rw [← hnn] at s1 o1 w1 hx hnm
  have hcut:=fun e1 e2 => readF_cut (c:=0) (last:=first + pre.length) (cut:=0) (out:=(pre.map fl).flatMap fun d => scanOf d.data) (F:=F) hnn hx hne (by omega) e1 e2
  have hsyn:=fun e1 e2 => readF_sync (c:=0) (last:=first + pre.length) (cut:=0) (out:=(pre.map fl).flatMap fun d => scanOf d.data) (F:=F) hnn hx hne (by omega) e1 e2
  have htru:=fun e1 => readF_trunc (c:=0) (last:=first + pre.length) (cut:=0) (out:=(pre.map fl).flatMap fun d => scanOf d.data) (F:=F) hnn hx hne (by omega) e1
  simp only at hcut hsyn htru hO
  rw [hsc,hend] at hcut hsyn htru
  obtain ⟨R1,hR1⟩ : ∃ R1,R1 = F.truncate n (c.length : Int):=⟨_,rfl⟩
  rw [← hR1] at hcut hsyn htru o1 s1 w1
  have hmono : ∀ m,m = n → segNum dir m ≠ 0:=fun m e => by rw [e]; exact hnm
  have hset : ((pre.map fl ++ [(⟨c ++ t,sy⟩ : FileS)]).set pre.length (fl c)) = (pre ++ [c]).map fl:=by
   rw [List.set_append_right _ _ (by simp)]
   simp
  have hsg1 : R1.1.files = putL slt F.files n (fl c) → Segs R1.1 dir first ((pre ++ [c]).map fl):=fun hf => by
   rw [hnn] at hf
   have:=hs.put (i:=pre.length) (by simp) hf
   rw [hset] at this
   exact this
  rcases w1 with ⟨e1,D1⟩ | ⟨e1,D1⟩
  ·have d1 : R1.1.down = false:=D1.down.trans hd
   have x1 : R1.1.find n = some (fl c):=by rw [find_put hs.rise D1.files,if_pos rfl]
   have sg1:=hsg1 D1.files
   obtain ⟨s2,-⟩:=sync_1 d1 sg1.rise x1
   have w2:=sync_wr d1 x1
   have s12:=((s1.trans s2).mono hmono (Nat.le_refl _) (Int.le_refl _))
   rcases w2 with ⟨e2,D2⟩ | ⟨e2,D2⟩
   ·rw [hcut e1 e2] at hO
    simp only [readF] at hO
    rw [hrec2] at hO
    rw [hO]
    refine ⟨s12,.inl ⟨_,rfl,D2.down.trans d1,?_,fun e => absurd e he⟩⟩
    have:=sg1.put (i:=pre.length) (G:=(R1.1.sync n).1) (y:=fl c) (by simp) (by rw [D2.files,← hnn])
    rw [show ((pre ++ [c]).map fl).set pre.length (fl c) = (pre ++ [c]).map fl from by simp] at this
    exact this
   ·rw [hsyn e1 (by rw [e2]; decide)] at hO
    rw [hO]
    refine ⟨s12,.inr ⟨e2,D2.down,fun e => D2.arm (D1.calm e),[],c.length,?_,Nat.le_refl _,by simp,by unfold headOf; simp⟩⟩
    have:=sg1.congr D2.files
    rw [List.append_nil]
    simpa using this
  ·rw [htru (by rw [e1]; decide)] at hO
   rw [hO]
   exact ⟨s1.mono hmono (Nat.le_refl _) (Int.le_refl _),.inr ⟨e1,D1.down,D1.arm,t,sy,hs.congr D1.files,h1,h2,ht⟩⟩
end
end Go.Proofs.YtagdchgkjjpacaaGreat
