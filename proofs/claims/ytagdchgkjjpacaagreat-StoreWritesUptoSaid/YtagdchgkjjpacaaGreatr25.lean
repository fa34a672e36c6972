/- Plain laws of the names of segments: their order, their numbers. -/
import Derived.Test.YtagdchgkjjpacaaGreatr03
import Derived.Test.YtagdchgkjjpacaaGreatr24
import Derived.Test.YtagdchgkjjpacaaGreatr11
import Derived.Test.YtagdchgkjjpacaaGreatr22
namespace Go.Proofs.YtagdchgkjjpacaaGreat
open Go.RowKit
theorem bless_app (p a b : List UInt8) : Op.bytesLess (p ++ a) (p ++ b) = Op.bytesLess a b:=by
 induction p with
 | nil => rfl
 | cons x p ih => simp [Op.bytesLess,ih]
theorem bless_snoc (x y : UInt8) : ∀ a b : List UInt8,a.length = b.length → Op.bytesLess (a ++ [x]) (b ++ [y]) = (Op.bytesLess a b || (decide (a = b) && decide (x < y)))
 | [],[],_ => by simp [Op.bytesLess]
 | [],_ :: _,h => by simp at h
 | _ :: _,[],h => by simp at h
 | c :: a,d :: b,h => by
   have ih:=bless_snoc x y a b (by simpa using h)
   simp only [List.cons_append,Op.bytesLess,ih]
   by_cases hcd : c = d
   ·subst hcd; simp
   ·have : (c == d) = false:=by simpa using hcd
    simp [this,hcd]
theorem bless_digs : ∀ k n m,n < 10 ^ k → m < 10 ^ k → Op.bytesLess (digs k n) (digs k m) = decide (n < m)
 | 0,n,m,hn,hm => by
   have h1 : n = 0:=by simpa using hn
   have h2 : m = 0:=by simpa using hm
   subst h1 h2; rfl
 | k + 1,n,m,hn,hm => by
   rw [Nat.pow_succ] at hn hm
   have ih:=bless_digs k (n / 10) (m / 10) (by omega) (by omega)
   simp only [digs]
   rw [bless_snoc _ _ _ _ (by rw [digs_len,digs_len]),ih]
   have e1 : decide (digs k (n / 10) = digs k (m / 10)) = decide (n / 10 = m / 10):=by
    rw [decide_eq_decide]
    exact ⟨digs_inj k (by omega) (by omega),fun e => by rw [e]⟩
   have e2 : decide (UInt8.ofNat (48 + n % 10) < UInt8.ofNat (48 + m % 10)) = decide (n % 10 < m % 10):=by
    rw [decide_eq_decide,UInt8.lt_iff_toNat_lt,UInt8.toNat_ofNat',UInt8.toNat_ofNat']
    omega
   rw [e1,e2,Bool.eq_iff_iff]
   simp only [Bool.or_eq_true,Bool.and_eq_true,decide_eq_true_eq]
   omega
theorem segName_split (dir : ByteArray) (n : Nat) : (segName dir n).data.toList = (dir.data.toList ++ [47]) ++ digs 8 n:=by rw [segName_list]; simp
theorem slt_seg (dir : ByteArray) {n m : Nat} (hn : n < 100000000) (hm : m < 100000000) : slt (segName dir n) (segName dir m) = decide (n < m):=by
 unfold slt
 rw [Lib.toList_data,Lib.toList_data,segName_split,segName_split,bless_app]
 exact bless_digs 8 n m (by omega) (by omega)
theorem dir_front (dir : ByteArray) (n : Nat) : Lib.hasPrefix (segName dir n).data.toList (dirOf dir).data.toList = true:=by
 unfold Lib.hasPrefix
 rw [List.isPrefixOf_iff_prefix,segName_split,dirOf_list]
 exact List.prefix_append _ _
theorem segNum_name (dir : ByteArray) {n : Nat} (hn : n < 100000000) : segNum dir (segName dir n) = n:=by
 unfold segNum
 rw [if_pos (dir_front dir n),segName_split,List.drop_append_of_le_length (by simp),List.drop_of_length_le (by simp),List.nil_append]
 unfold numTail
 rw [if_pos ⟨digs_len 8 n,digs_all 8 n⟩]
 exact numDigs_digs 8 n (by omega)
theorem segName_inj (dir : ByteArray) {n m : Nat} (hn : n < 100000000) (hm : m < 100000000) (h : segName dir n = segName dir m) : n = m:=by
 rw [← segNum_name dir hn,← segNum_name dir hm,h]
theorem name_of_num (dir name : ByteArray) (h : segNum dir name ≠ 0) : name = segName dir (segNum dir name):=by
 unfold segNum at h
 by_cases hp : Lib.hasPrefix name.data.toList (dirOf dir).data.toList = true
 ·rw [if_pos hp] at h
  unfold numTail at h
  by_cases hd : (name.data.toList.drop (dir.data.toList.length + 1)).length = 8 ∧ (name.data.toList.drop (dir.data.toList.length + 1)).all isDig = true
  ·rw [if_pos hd] at h
   have e : segNum dir name = numDigs (name.data.toList.drop (dir.data.toList.length + 1)):=by
    unfold segNum numTail
    rw [if_pos hp,if_pos hd]
   rw [e]
   unfold Lib.hasPrefix at hp
   rw [List.isPrefixOf_iff_prefix,dirOf_list] at hp
   obtain ⟨t,ht⟩:=hp
   have et : name.data.toList.drop (dir.data.toList.length + 1) = t:=by
    rw [← ht,List.drop_append_of_le_length (by simp),List.drop_of_length_le (by simp),List.nil_append]
   rw [et] at hd ⊢
   have : name.data.toList = (segName dir (numDigs t)).data.toList:=by
    rw [segName_split,← ht]
    have:=digs_numDigs t hd.2
    rw [hd.1] at this
    rw [this]
   obtain ⟨⟨l⟩⟩:=name
   unfold segName at this ⊢
   simp only at this
   rw [this,← segName_list]
  ·rw [if_neg hd] at h; exact absurd rfl h
 ·rw [if_neg hp] at h; exact absurd rfl h
theorem sorted_range : ∀ (c f : Nat) (ns : List Nat),ns.Pairwise (· < ·) → (∀ n,n ∈ ns ↔ f ≤ n ∧ n < f + c) → ns = List.range' f c
 | 0,f,ns,_,h => by
   cases ns with
   | nil => rfl
   | cons a r => have:=(h a).1 (by simp); omega
 | c + 1,f,ns,hp,h => by
   cases ns with
   | nil => have:=(h f).2 ⟨Nat.le_refl _,by omega⟩; simp at this
   | cons a r =>
     rw [List.pairwise_cons] at hp
     have ha:=(h a).1 (by simp)
     have hf:=(h f).2 ⟨Nat.le_refl _,by omega⟩
     have ea : a = f:=by
      rcases List.mem_cons.1 hf with e | e
      ·exact e.symm
      ·have:=hp.1 f e; omega
     subst ea
     rw [List.range'_succ,sorted_range c (a + 1) r hp.2 fun n => ?_]
     constructor
     ·intro hn
      have h1:=(h n).1 (by simp [hn])
      have h2:=hp.1 n hn
      omega
     ·intro hn
      have h1:=(h n).2 (by omega)
      rcases List.mem_cons.1 h1 with e | e
      ·omega
      ·exact e
theorem scanNums_filter : ∀ (ns : List Nat) (f l : Nat),scanNums ns f l = scanNums (ns.filter (fun n => decide (n ≠ 0))) f l
 | [],_,_ => rfl
 | n :: r,f,l => by
   by_cases hn : n = 0
   ·rw [scanNums_zero r hn,List.filter_cons_of_neg (by simp [hn])]
    exact scanNums_filter r f l
   ·rw [List.filter_cons_of_pos (by simp [hn])]
    by_cases hf : f = 0
    ·rw [scanNums_first _ hn hf,scanNums_first _ hn hf]; exact scanNums_filter r n n
    ·by_cases hg : n = l + 1
     ·rw [scanNums_next _ hn hf hg,scanNums_next _ hn hf hg]; exact scanNums_filter r f n
     ·rw [scanNums_gap _ hn hf hg,scanNums_gap _ hn hf hg]
theorem scanNums_on : ∀ (c f l : Nat),f ≠ 0 → scanNums (List.range' (l + 1) c) f l = some (f,l + c)
 | 0,_,_,_ => rfl
 | c + 1,f,l,hf => by
   rw [List.range'_succ,scanNums_next _ (by omega) hf rfl,scanNums_on c f (l + 1) hf]
   congr 2; omega
theorem scanNums_range (f c : Nat) (hf : 1 ≤ f) : scanNums (List.range' f (c + 1)) 0 0 = some (f,f + c):=by
 rw [List.range'_succ,scanNums_first _ (by omega) rfl,scanNums_on c f f (by omega)]
structure Segs (F : FsS) (dir : ByteArray) (first : Nat) (ds : List FileS) : Prop where
 rise : Rise slt F.files
 pos : 1 ≤ first
 top : first + ds.length ≤ 100000000
 at_ : ∀ i d,ds[i]? = some d → F.find (segName dir (first + i)) = some d
 only : ∀ n x,F.find n = some x → segNum dir n ≠ 0 → first ≤ segNum dir n ∧ segNum dir n < first + ds.length
section
variable {F G : FsS} {dir : ByteArray} {first : Nat} {ds : List FileS} {d : FileS}
theorem mem_files {F : FsS} (hr : Rise slt F.files) {n : ByteArray} {x : FileS} : (n,x) ∈ F.files ↔ F.find n = some x :=
 ⟨fun h => findL_of_mem hr h,fun h => FsOk.find_mem h⟩
theorem Segs.names (h : Segs F dir first ds) : (namesL (dirOf dir) F.files).filter (fun n => decide (segNum dir n ≠ 0)) = (List.range' first ds.length).map (segName dir):=by
 have hs : (namesL (dirOf dir) F.files).Pairwise fun a b => slt a b = true:=by
  unfold namesL
  rw [List.pairwise_map]
  exact h.rise.filter _
 obtain ⟨ns,hns⟩ : ∃ ns,ns = (namesL (dirOf dir) F.files).filter (fun n => decide (segNum dir n ≠ 0)):=⟨_,rfl⟩
 have hm : ∀ a,a ∈ ns → segNum dir a ≠ 0 ∧ (∃ x,F.find a = some x):=by
  intro a ha
  rw [hns,List.mem_filter] at ha
  obtain ⟨h1,h2⟩:=ha
  refine ⟨by simpa using h2,?_⟩
  unfold namesL at h1
  obtain ⟨y,hy,rfl⟩:=List.mem_map.1 h1
  exact ⟨y.2,(mem_files h.rise).1 (List.mem_filter.1 hy).1⟩
 have hp : (ns.map (segNum dir)).Pairwise (· < ·):=by
  rw [List.pairwise_map]
  have h1 : ns.Pairwise fun a b => slt a b = true:=by rw [hns]; exact hs.filter _
  refine h1.imp_of_mem fun {a b} ha hb hab => ?_
  have ea:=name_of_num dir a (hm a ha).1
  have eb:=name_of_num dir b (hm b hb).1
  rw [ea,eb,slt_seg dir (segNum_lt dir a) (segNum_lt dir b)] at hab
  exact of_decide_eq_true hab
 have hr : ns.map (segNum dir) = List.range' first ds.length:=by
  refine sorted_range _ _ _ hp fun n => ⟨fun hn => ?_,fun hn => ?_⟩
  ·obtain ⟨a,ha,rfl⟩:=List.mem_map.1 hn
   obtain ⟨h1,x,h2⟩:=hm a ha
   exact h.only a x h2 h1
  ·have hi : n - first < ds.length:=by omega
   have hf:=h.at_ (n - first) _ (List.getElem?_eq_getElem hi)
   rw [show first + (n - first) = n by omega] at hf
   have hn8 : n < 100000000:=by have:=h.top; omega
   refine List.mem_map.2 ⟨segName dir n,?_,segNum_name dir hn8⟩
   rw [hns,List.mem_filter]
   refine ⟨?_,by rw [segNum_name dir hn8]; have:=h.pos; simp; omega⟩
   unfold namesL
   exact List.mem_map.2 ⟨_,List.mem_filter.2 ⟨(mem_files h.rise).2 hf,dir_front dir n⟩,rfl⟩
 rw [← hns,← hr,List.map_map]
 conv => lhs; rw [← List.map_id ns]
 refine List.map_congr_left fun a ha => ?_
 exact name_of_num dir a (hm a ha).1
theorem Segs.nums (h : Segs F dir first ds) (hne : ds ≠ []) : scanNums (segNums F dir) 0 0 = some (first,first + ds.length - 1):=by
 have e : (segNums F dir).filter (fun n => decide (n ≠ 0)) = List.range' first ds.length:=by
  unfold segNums
  rw [List.filter_map]
  have:=h.names
  have e2 : ((fun n => decide (n ≠ 0)) ∘ segNum dir) = fun n => decide (segNum dir n ≠ 0):=rfl
  rw [e2,this,List.map_map]
  conv => rhs; rw [← List.map_id (List.range' first ds.length)]
  refine List.map_congr_left fun n hn => ?_
  rw [List.mem_range'_1] at hn
  exact segNum_name dir (by have:=h.top; omega)
 rw [scanNums_filter,e]
 cases ds with
 | nil => exact absurd rfl hne
 | cons a r =>
   rw [List.length_cons,scanNums_range first r.length h.pos]
   congr 2
theorem Segs.empty (h : Segs F dir first []) : scanNums (segNums F dir) 0 0 = some (0,0):=by
 have e : (segNums F dir).filter (fun n => decide (n ≠ 0)) = []:=by
  rw [List.filter_eq_nil_iff]
  intro n hn
  unfold segNums namesL at hn
  obtain ⟨a,ha,rfl⟩:=List.mem_map.1 hn
  obtain ⟨y,hy,rfl⟩:=List.mem_map.1 ha
  have:=h.only y.1 y.2 ((mem_files h.rise).1 (List.mem_filter.1 hy).1)
  simp only [List.length_nil,Nat.add_zero] at this
  simp only [ne_eq,decide_not,Bool.not_eq_eq_eq_not,Bool.not_true,decide_eq_false_iff_not,Classical.not_not]
  apply Classical.byContradiction
  intro hc
  have:=this hc
  omega
 rw [scanNums_filter,e]; rfl
def Whole_ (d : FileS) : Prop:=endOf (scanOf d.data) = d.data.length
theorem read_whole {last cut : Nat} : ∀ (ds : List FileS) (n : Nat) (out : List (List UInt8)),(∀ i d,ds[i]? = some d → F.find (segName dir (n + i)) = some d ∧ Whole_ d) → ∀ c,readF dir last (ds.length + c) n F cut out = readF dir last c (n + ds.length) F cut (out ++ ds.flatMap fun d => scanOf d.data)
 | [],n,out,_,c => by simp
 | d :: r,n,out,h,c => by
   have h0:=h 0 d rfl
   rw [Nat.add_zero] at h0
   rw [show (d :: r).length + c = (r.length + c) + 1 by simp; omega,readF_whole rfl h0.1 h0.2,read_whole r (n + 1) _ (fun i e hi => by have:=h (i + 1) e (by simpa using hi); rwa [show n + 1 + i = n + (i + 1) by omega]) c]
   congr 1
   ·simp; omega
   ·simp
theorem Segs.read_all (h : Segs F dir first ds) (hw : ∀ d ∈ ds,Whole_ d) (last cut : Nat) : readF dir last ds.length first F cut [] = (F,cut,ds.flatMap fun d => scanOf d.data,0):=by
 have:=read_whole (F:=F) (dir:=dir) (last:=last) (cut:=cut) ds first [] (fun i d hd => ⟨h.at_ i d hd,hw d (List.mem_of_getElem? hd)⟩) 0
 rw [Nat.add_zero] at this
 rw [this]
 simp [readF]
end
abbrev fl (b : List UInt8) : FileS:=⟨b,b.length⟩
structure WrDone (F G : FsS) (files : List (ByteArray × FileS)) (used : Int) : Prop where
 files : G.files = files
 used : G.used = used
 room : G.room = F.room
 down : G.down = F.down
 calm : F.armed = 0 → G.armed = 0
structure WrDown (F G : FsS) : Prop where
 files : G.files = F.files
 used : G.used = F.used
 room : G.room = F.room
 down : G.down = true
 arm : F.armed ≠ 0
def Wr (F : FsS) (R : FsS × Int) (files : List (ByteArray × FileS)) (used : Int) : Prop:=(R.2 = 0 ∧ WrDone F R.1 files used) ∨ (R.2 = 5 ∧ WrDown F R.1)
section
variable {F G : FsS} {n : ByteArray} {x y : FileS} {dir : ByteArray} {first : Nat} {ds : List FileS} {d : FileS}
theorem wr_write {eff : FsS → FsS} {files : List (ByteArray × FileS)} {used : Int} (h1 : ∀ a,(eff { F with armed:=a }).files = files) (h2 : ∀ a,(eff { F with armed:=a }).used = used)
 (h3 : ∀ a,(eff { F with armed:=a }).room = F.room) (h4 : ∀ a,(eff { F with armed:=a }).down = F.down) (h5 : ∀ a,(eff { F with armed:=a }).armed = a) : Wr F (F.write eff) files used:=by
 unfold FsS.write
 split
 ·rename_i ha
  split
  ·exact .inr ⟨rfl,rfl,rfl,rfl,rfl,by omega⟩
  ·exact .inl ⟨rfl,h1 _,h2 _,h3 _,h4 _,fun e => by omega⟩
 ·have e : ({ F with armed:=F.armed } : FsS) = F:=rfl
  have g1:=h1 F.armed; have g2:=h2 F.armed; have g3:=h3 F.armed; have g4:=h4 F.armed; have g5:=h5 F.armed
  rw [e] at g1 g2 g3 g4 g5
  exact .inl ⟨rfl,g1,g2,g3,g4,fun e => by rw [← e]; exact g5⟩
theorem append_wr (hd : F.down = false) (hx : F.find n = some x) {b : List UInt8} (hr : ¬ F.room - F.used < b.length) : Wr F (F.append n b) (putL slt F.files n ⟨x.data ++ b,x.synced⟩) (F.used + b.length):=by
 unfold FsS.append
 rw [on_some hd hx,if_neg hr]
 exact wr_write (fun _ => rfl) (fun _ => rfl) (fun _ => rfl) (fun _ => rfl) (fun _ => rfl)
theorem append_full (hd : F.down = false) (hx : F.find n = some x) {b : List UInt8} (hr : F.room - F.used < b.length) : F.append n b = (F,4):=by
 unfold FsS.append
 rw [on_some hd hx,if_pos hr]
theorem sync_wr (hd : F.down = false) (hx : F.find n = some x) : Wr F (F.sync n) (putL slt F.files n (fl x.data)) F.used:=by
 unfold FsS.sync
 rw [on_some hd hx]
 exact wr_write (fun _ => rfl) (fun _ => rfl) (fun _ => rfl) (fun _ => rfl) (fun _ => rfl)
theorem trunc_wr (hd : F.down = false) (hx : F.find n = some x) {k : Nat} (hk : k ≤ x.data.length) : Wr F (F.truncate n (k : Int)) (putL slt F.files n ⟨x.data.take k,min x.synced k⟩) (F.used - ((x.data.length : Int) - k)):=by
 unfold FsS.truncate
 rw [on_some hd hx,if_neg (by omega),Int.toNat_natCast]
 exact wr_write (fun _ => rfl) (fun _ => rfl) (fun _ => rfl) (fun _ => rfl) (fun _ => rfl)
theorem remove_wr (hd : F.down = false) (hx : F.find n = some x) : Wr F (F.remove n) (dropL slt F.files n) (F.used - x.data.length):=by
 unfold FsS.remove
 rw [on_some hd hx]
 exact wr_write (fun _ => rfl) (fun _ => rfl) (fun _ => rfl) (fun _ => rfl) (fun _ => rfl)
theorem create_wr (hd : F.down = false) (hn : okName n = true) (hx : F.find n = none) (hf : F.files.length < 400) : Wr F (F.create n) (putL slt F.files n (fl [])) F.used:=by
 unfold FsS.create
 rw [if_neg (by simp [hd]),if_neg (by simp [hn]),if_neg (by simp [hx]),if_neg (by omega)]
 exact wr_write (fun _ => rfl) (fun _ => rfl) (fun _ => rfl) (fun _ => rfl) (fun _ => rfl)
theorem Segs.congr (h : Segs F dir first ds) (hf : G.files = F.files) : Segs G dir first ds:=by
 have e : ∀ n,G.find n = F.find n:=fun n => by unfold FsS.find; rw [hf]
 exact ⟨by rw [hf]; exact h.rise,h.pos,h.top,fun i d hd => by rw [e]; exact h.at_ i d hd,fun n x hx => by rw [e] at hx; exact h.only n x hx⟩
theorem Segs.name_lt (h : Segs F dir first ds) {i : Nat} (hi : i < ds.length) : first + i < 100000000:=by have:=h.top; omega
theorem find_put (hr : Rise slt F.files) (hf : G.files = putL slt F.files n y) (m : ByteArray) : G.find m = if m = n then some y else F.find m:=by
 unfold FsS.find
 rw [hf]
 split
 ·rename_i e; subst e; exact findL_putL hr
 ·rename_i e; exact findL_putL_ne hr e
theorem find_drop_ (hr : Rise slt F.files) (hf : G.files = dropL slt F.files n) (m : ByteArray) : G.find m = if m = n then none else F.find m:=by
 unfold FsS.find
 rw [hf]
 split
 ·rename_i e; subst e; exact findL_dropL hr
 ·rename_i e; exact findL_dropL_ne hr e
theorem Segs.put (h : Segs F dir first ds) {i : Nat} (hi : i < ds.length) (hf : G.files = putL slt F.files (segName dir (first + i)) y) : Segs G dir first (ds.set i y):=by
 have hfp:=find_put h.rise hf
 refine ⟨by rw [hf]; exact rise_putL slt_ord h.rise _ _,h.pos,by rw [List.length_set]; exact h.top,fun j d hd => ?_,fun n x hx hn => ?_⟩
 ·rw [List.getElem?_set] at hd
  have hj : j < ds.length:=by
   split at hd
   ·rename_i e; omega
   ·exact (List.getElem?_eq_some_iff.1 hd).1
  rw [hfp]
  split at hd
  ·rename_i e
   subst e
   rw [if_pos rfl,hd]
  ·rename_i e
   rw [if_neg (fun e2 => e (by have:=segName_inj dir (h.name_lt hj) (h.name_lt hi) e2; omega))]
   exact h.at_ j d hd
 ·rw [List.length_set]
  rw [hfp] at hx
  split at hx
  ·rename_i e
   subst e
   rw [segNum_name dir (h.name_lt hi)]
   omega
  ·exact h.only n x hx hn
theorem Segs.more (h : Segs F dir first ds) (ht : first + ds.length < 100000000) (hf : G.files = putL slt F.files (segName dir (first + ds.length)) y) : Segs G dir first (ds ++ [y]):=by
 have hfp:=find_put h.rise hf
 refine ⟨by rw [hf]; exact rise_putL slt_ord h.rise _ _,h.pos,by rw [List.length_append,List.length_singleton]; omega,fun j d hd => ?_,fun n x hx hn => ?_⟩
 ·rw [hfp]
  by_cases hj : j < ds.length
  ·rw [List.getElem?_append_left hj] at hd
   rw [if_neg (fun e2 => by have:=segName_inj dir (h.name_lt hj) ht e2; omega)]
   exact h.at_ j d hd
  ·have hj2:=(List.getElem?_eq_some_iff.1 hd).1
   rw [List.length_append,List.length_singleton] at hj2
   obtain rfl : j = ds.length:=by omega
   rw [if_pos rfl]
   simpa using hd
 ·rw [List.length_append,List.length_singleton]
  rw [hfp] at hx
  split at hx
  ·rename_i e
   subst e
   rw [segNum_name dir ht]
   omega
  ·have:=h.only n x hx hn; omega
theorem Segs.free (h : Segs F dir first ds) (ht : first + ds.length < 100000000) : F.find (segName dir (first + ds.length)) = none:=by
 cases hx : F.find (segName dir (first + ds.length)) with
 | none => rfl
 | some x =>
   have:=h.only _ x hx
   rw [segNum_name dir ht] at this
   have hp:=h.pos
   have:=this (by omega)
   omega
theorem Segs.crash (h : Segs F dir first ds) (kf : ByteArray → Int → Int) (es : List FileS) (hl : es.length = ds.length) (he : ∀ i d,ds[i]? = some d → es[i]? = some (crashFile kf (segName dir (first + i)) d)) : Segs (F.crash kf) dir first es:=by
 have hfiles:=crash_files (F:=F) kf
 have hr : Rise slt (F.crash kf).files:=by
  rw [hfiles]
  unfold Rise
  rw [List.pairwise_map]
  exact h.rise
 have hm : ∀ n x,F.find n = some x → (F.crash kf).find n = some (crashFile kf n x):=fun n x hx => by
  refine (mem_files hr).1 ?_
  rw [hfiles]
  exact List.mem_map.2 ⟨(n,x),(mem_files h.rise).2 hx,rfl⟩
 refine ⟨hr,h.pos,by rw [hl]; exact h.top,fun i e hi => ?_,fun n x hx hn => ?_⟩
 ·have hil:=(List.getElem?_eq_some_iff.1 hi).1
  have hd:=List.getElem?_eq_getElem (l:=ds) (i:=i) (by omega)
  have h1:=he i _ hd
  rw [hi] at h1
  rw [Option.some.inj h1]
  exact hm _ _ (h.at_ i _ hd)
 ·rw [hl]
  have h1:=(mem_files hr).2 hx
  rw [hfiles] at h1
  obtain ⟨⟨m,z⟩,hz,e⟩:=List.mem_map.1 h1
  simp only [Prod.mk.injEq] at e
  obtain ⟨rfl,-⟩:=e
  exact h.only m z ((mem_files h.rise).1 hz) hn
theorem put_len (hx : F.find n = some x) (hr : Rise slt F.files) (y : FileS) : (putL slt F.files n y).length = F.files.length:=by
 obtain ⟨a,b,e⟩:=findL_split slt_ord hx
 rw [e] at hr ⊢
 rw [putL_eq slt_ord hr]
 simp
theorem put_len_le {l : List (ByteArray × FileS)} (hr : Rise slt l) (n : ByteArray) (y : FileS) : (putL slt l n y).length ≤ l.length + 1:=by
 rcases find_split slt_ord l hr n with ⟨_,h2⟩ | ⟨a,v,b,e,_⟩
 ·have:=(putL_new slt_ord l n y (fun x hx => h2 x hx)).length_eq
  simp only [List.length_cons] at this
  omega
 ·rw [e] at hr ⊢
  rw [putL_eq slt_ord hr]
  simp
end
structure LogOn (F : FsS) (L : LogS) (segs : List (List UInt8)) : Prop where
 sg : Segs F L.dir L.first (segs.map fl)
 ne : segs ≠ []
 last : L.last + 1 = L.first + segs.length
 free : L.stuck = false
 up : F.down = false
 name : ∀ n,n < 100000000 → okName (segName L.dir n) = true
structure Calm (dir : ByteArray) (F G : FsS) (du : Int) : Prop where
 others : ∀ m,segNum dir m = 0 → G.find m = F.find m
 used : G.used = F.used + du
 room : G.room = F.room
 calm : F.armed = 0 → G.armed = 0
 few : G.files.length ≤ F.files.length + 1
structure Torn (F : FsS) (L : LogS) (segs : List (List UInt8)) (p : List UInt8) (G : FsS) (L' : LogS) : Prop where
 arm : F.armed ≠ 0
 down : G.down = true
 stuck : L'.stuck = true
 ex : ∃ pre c t,(pre ++ [c] = segs ∨ pre ++ [c] = segs ++ [[]]) ∧ (t = [] ∨ t = frameOf p) ∧ Segs G L.dir L.first (pre.map fl ++ [⟨c ++ t,c.length⟩])
 few : G.files.length ≤ F.files.length + 1
 used : G.used ≤ F.used + ((8 + p.length : Nat) : Int)
section
variable {F G : FsS} {L : LogS} {segs pre : List (List UInt8)} {b p : List UInt8}
theorem after_four (h : L.stuck = false) : L.after 4 = L:=by
 unfold LogS.after
 rw [if_neg (by decide)]
 cases L
 simp_all
theorem LogOn.find_last (h : LogOn F L (pre ++ [b])) : F.find (segName L.dir L.last) = some (fl b):=by
 have:=h.sg.at_ pre.length (fl b) (by simp)
 have e:=h.last
 rw [List.length_append,List.length_singleton] at e
 rwa [show L.first + pre.length = L.last by omega] at this
theorem LogOn.setLast (h : LogOn F L (pre ++ [b])) {y : FileS} (hf : G.files = putL slt F.files (segName L.dir L.last) y) : Segs G L.dir L.first (pre.map fl ++ [y]):=by
 have e:=h.last
 rw [List.length_append,List.length_singleton] at e
 have hi : pre.length < ((pre ++ [b]).map fl).length:=by simp
 have:=h.sg.put (i:=pre.length) (y:=y) (G:=G) hi (by rw [show L.first + pre.length = L.last by omega]; exact hf)
 simpa using this
theorem LogOn.pos (h : LogOn F L segs) : 1 ≤ L.last ∧ L.last < 100000000:=by
 have h1:=h.sg.pos
 have h2:=h.last
 have h3:=h.sg.top
 rw [List.length_map] at h3
 have h4 : 0 < segs.length:=List.length_pos_iff.2 h.ne
 omega
theorem put_others {n : Nat} {y : FileS} (hr : Rise slt F.files) (hf : G.files = putL slt F.files (segName L.dir n) y) (h1 : 1 ≤ n) (h2 : n < 100000000) : ∀ m,segNum L.dir m = 0 → G.find m = F.find m:=fun m hm => by
 rw [find_put hr hf,if_neg]
 intro e
 rw [e,segNum_name L.dir h2] at hm
 omega
theorem rotate_out (h : LogOn F L segs) (ht : L.last < 99999999) (hf : F.files.length < 400) :
 ((rotateL L F).2.2 = 0 ∧ Calm L.dir F (rotateL L F).2.1 0 ∧ (rotateL L F).1 = { L with last:=L.last + 1 } ∧ LogOn (rotateL L F).2.1 (rotateL L F).1 (segs ++ [[]])) ∨
 ((rotateL L F).2.2 = 5 ∧ F.armed ≠ 0 ∧ (rotateL L F).1 = { L with stuck:=true } ∧ (rotateL L F).2.1.down = true ∧ (rotateL L F).2.1.files = F.files ∧ (rotateL L F).2.1.used = F.used):=by
 have el:=h.last
 have htop : L.first + (segs.map fl).length < 100000000:=by rw [List.length_map]; omega
 have hn : segName L.dir (L.last + 1) = segName L.dir (L.first + (segs.map fl).length):=by rw [List.length_map,← h.last]
 have hw:=create_wr (n:=segName L.dir (L.last + 1)) h.up (h.name _ (by omega)) (by rw [hn]; exact h.sg.free htop) hf
 unfold rotateL
 rw [if_neg (by simp [h.free]),if_neg (by omega)]
 rcases hw with ⟨h0,hD⟩ | ⟨h5,hD⟩
 ·rw [if_pos h0]
  refine .inl ⟨rfl,⟨put_others h.sg.rise hD.files (by omega) (by omega),by rw [hD.used]; omega,hD.room,hD.calm,by rw [hD.files]; exact put_len_le h.sg.rise _ _⟩,rfl,?_⟩
  refine ⟨?_,by simp,by simp; omega,h.free,by rw [← h.up]; exact hD.down,h.name⟩
  have:=h.sg.more (y:=fl []) (G:=(F.create (segName L.dir (L.last + 1))).1) htop (by rw [hD.files,hn])
  simpa using this
 ·rw [if_neg (by rw [h5]; decide)]
  exact .inr ⟨h5,hD.arm,by rw [h5,h.free]; rfl,hD.down,hD.files,hD.used⟩
theorem write_out (h : LogOn F L (pre ++ [b])) (p : List UInt8) :
 ((writeL L F p) = (L,F,4) ∧ F.room - F.used < ((8 + p.length : Nat) : Int)) ∨
 (¬ F.room - F.used < ((8 + p.length : Nat) : Int) ∧ (((writeL L F p).2.2 = 0 ∧ (writeL L F p).1 = L ∧ (Calm L.dir F (writeL L F p).2.1 ((8 + p.length : Nat) : Int) ∧ (writeL L F p).2.1.files.length = F.files.length) ∧ LogOn (writeL L F p).2.1 L (pre ++ [b ++ frameOf p])) ∨
   ((writeL L F p).2.2 = 5 ∧ (writeL L F p).1 = { L with stuck:=true } ∧ F.armed ≠ 0 ∧ (writeL L F p).2.1.down = true ∧ ((writeL L F p).2.1.files.length = F.files.length ∧ (writeL L F p).2.1.used ≤ F.used + ((8 + p.length : Nat) : Int)) ∧ ∃ t,(t = [] ∨ t = frameOf p) ∧ Segs (writeL L F p).2.1 L.dir L.first (pre.map fl ++ [⟨b ++ t,b.length⟩])))):=by
 have hx:=h.find_last
 have hlen : ((frameOf p).length : Int) = ((8 + p.length : Nat) : Int):=by rw [frameOf_len]
 by_cases hr : F.room - F.used < ((8 + p.length : Nat) : Int)
 ·left
  refine ⟨?_,hr⟩
  unfold writeL writeR twoRes
  rw [append_full h.up hx (by rw [hlen]; exact hr),if_neg (by simp)]
  simp only
  rw [after_four h.free]
 ·right
  refine ⟨hr,?_⟩
  have h1:=append_wr (n:=segName L.dir L.last) (b:=frameOf p) h.up hx (by rw [hlen]; exact hr)
  unfold writeL writeR twoRes
  rcases h1 with ⟨e1,D1⟩ | ⟨e1,D1⟩
  ·rw [if_pos e1]
   have hf1:=find_put h.sg.rise D1.files (segName L.dir L.last)
   rw [if_pos rfl] at hf1
   have hr1 : Rise slt (F.append (segName L.dir L.last) (frameOf p)).1.files:=by rw [D1.files]; exact rise_putL slt_ord h.sg.rise _ _
   have h2:=sync_wr (F:=(F.append (segName L.dir L.last) (frameOf p)).1) (by rw [D1.down]; exact h.up) hf1
   have hs1 : Segs (F.append (segName L.dir L.last) (frameOf p)).1 L.dir L.first (pre.map fl ++ [⟨b ++ frameOf p,b.length⟩]):=h.setLast D1.files
   have hl1 : (F.append (segName L.dir L.last) (frameOf p)).1.files.length = F.files.length:=by rw [D1.files]; exact put_len hx h.sg.rise _
   have ho1:=put_others (L:=L) h.sg.rise D1.files h.pos.1 h.pos.2
   have el:=h.last
   rw [List.length_append,List.length_singleton] at el
   generalize (F.append (segName L.dir L.last) (frameOf p)).1 = G1 at D1 hf1 hr1 h2 hs1 hl1 ho1
   rcases h2 with ⟨e2,D2⟩ | ⟨e2,D2⟩
   ·left
    rw [e2]
    have hl2 : (G1.sync (segName L.dir L.last)).1.files.length = F.files.length:=by rw [D2.files,put_len hf1 hr1,hl1]
    refine ⟨rfl,rfl,⟨⟨fun m hm => (put_others hr1 D2.files h.pos.1 h.pos.2 m hm).trans (ho1 m hm),by rw [D2.used,D1.used,hlen],by rw [D2.room,D1.room],fun e => D2.calm (D1.calm e),Nat.le_trans (Nat.le_of_eq hl2) (Nat.le_succ _)⟩,hl2⟩,?_⟩
    ·refine ⟨?_,by simp,by simp; omega,h.free,by rw [D2.down,D1.down]; exact h.up,h.name⟩
     have:=hs1.put (i:=pre.length) (G:=(G1.sync (segName L.dir L.last)).1) (y:=fl (b ++ frameOf p)) (by simp) (by rw [show L.first + pre.length = L.last by omega]; exact D2.files)
     simpa using this
   ·right
    rw [e2]
    refine ⟨rfl,by unfold LogS.after; rw [if_neg (by decide),h.free]; rfl,fun e => D2.arm (D1.calm e),D2.down,⟨by rw [D2.files,hl1],by rw [D2.used,D1.used,hlen]; exact Int.le_refl _⟩,frameOf p,.inr rfl,hs1.congr D2.files⟩
  ·right
   rw [if_neg (by rw [e1]; decide)]
   simp only
   rw [e1]
   refine ⟨rfl,by unfold LogS.after; rw [if_neg (by decide),h.free]; rfl,D1.arm,D1.down,⟨by rw [D1.files],by rw [D1.used]; omega⟩,[],.inl rfl,?_⟩
   have:=h.sg.congr D1.files
   simpa using this
theorem append_out (h : LogOn F L (pre ++ [b])) (hp : p.length ≤ 1048576) (ht : L.last < 99999999) (hf : F.files.length < 400) :
 ((appendL L F p).2.2 = 0 ∧ ¬ F.room - F.used < ((8 + p.length : Nat) : Int) ∧ Calm L.dir F (appendL L F p).2.1 ((8 + p.length : Nat) : Int) ∧ (appendL L F p).1 = { L with last:=(appendL L F p).1.last } ∧ LogOn (appendL L F p).2.1 (appendL L F p).1 (if L.size ≤ (b.length : Int) then pre ++ [b] ++ [frameOf p] else pre ++ [b ++ frameOf p])) ∨
 ((appendL L F p).2.2 = 4 ∧ F.room - F.used < ((8 + p.length : Nat) : Int) ∧ Calm L.dir F (appendL L F p).2.1 0 ∧ (appendL L F p).1 = { L with last:=(appendL L F p).1.last } ∧ LogOn (appendL L F p).2.1 (appendL L F p).1 (if L.size ≤ (b.length : Int) then pre ++ [b] ++ [[]] else pre ++ [b])) ∨
 ((appendL L F p).2.2 = 5 ∧ Torn F L (pre ++ [b]) p (appendL L F p).2.1 (appendL L F p).1):=by
 have hx:=h.find_last
 have hA : appendL L F p = if L.size ≤ (b.length : Int) then (if (rotateL L F).2.2 = 0 then writeL (rotateL L F).1 (rotateL L F).2.1 p else rotateL L F) else writeL L F p:=by
  unfold appendL
  rw [if_neg (by simp [h.free]),if_neg (by omega),hx]
  rfl
 rw [hA]
 by_cases hs : L.size ≤ (b.length : Int)
 ·simp only [if_pos hs]
  rcases rotate_out h ht hf with ⟨e0,hC,eL,hL⟩ | ⟨e5,ha,eL,hdn,hfl,hus⟩
  ·simp only [if_pos e0]
   have hdir : (rotateL L F).1.dir = L.dir:=by rw [eL]
   have hfst : (rotateL L F).1.first = L.first:=by rw [eL]
   generalize rotateL L F = R at e0 hC eL hL hdir hfst
   have hL2 : LogOn R.2.1 R.1 ((pre ++ [b]) ++ [[]]):=hL
   have eL2 : ∀ q : LogS,q = R.1 → q = { L with last:=q.last }:=fun q hq => by rw [hq,eL]
   have hz : (R.2.1.files.length : Nat) ≤ F.files.length + 1:=hC.few
   rcases write_out hL2 p with ⟨ew,hr⟩ | ⟨hr,⟨ew,eW,hCW,hLW⟩ | ⟨ew,eW,ha,hdn,hln,t,ht2,hS⟩⟩
   ·right; left
    rw [ew]
    rw [hC.room,hC.used] at hr
    exact ⟨rfl,by omega,hC,eL2 _ rfl,hL⟩
   ·left
    rw [hC.room,hC.used] at hr
    refine ⟨ew,by omega,⟨fun m hm => (hCW.1.others m (by rw [hdir]; exact hm)).trans (hC.others m hm),by rw [hCW.1.used,hC.used]; omega,by rw [hCW.1.room,hC.room],fun e => hCW.1.calm (hC.calm e),by rw [hCW.2]; exact hz⟩,eL2 _ eW,?_⟩
    rw [eW]
    simpa using hLW
   ·right; right
    rw [hdir,hfst] at hS
    exact ⟨ew,fun e => ha (hC.calm e),hdn,by rw [eW],⟨pre ++ [b],[],t,.inr rfl,ht2,hS⟩,by rw [hln.1]; exact hz,by have h1:=hln.2; rw [hC.used] at h1; omega⟩
  ·simp only [if_neg (show ¬ (rotateL L F).2.2 = 0 by rw [e5]; decide)]
   right; right
   refine ⟨e5,ha,hdn,by rw [eL],⟨pre,b,[],.inl rfl,.inl rfl,?_⟩,by rw [hfl]; omega,by rw [hus]; omega⟩
   have:=h.sg.congr hfl
   simpa using this
 ·simp only [if_neg hs]
  rcases write_out h p with ⟨ew,hr⟩ | ⟨hr,⟨ew,eW,hCW,hLW⟩ | ⟨ew,eW,ha,hdn,hln,t,ht2,hS⟩⟩
  ·right; left
   rw [ew]
   exact ⟨rfl,hr,⟨fun _ _ => rfl,(Int.add_zero _).symm,rfl,fun e => e,Nat.le_succ _⟩,rfl,h⟩
  ·left
   exact ⟨ew,hr,hCW.1,by rw [eW],by rw [eW]; exact hLW⟩
  ·right; right
   exact ⟨ew,ha,hdn,by rw [eW],⟨pre,b,t,.inl rfl,ht2,hS⟩,by rw [hln.1]; omega,hln.2⟩
end
end Go.Proofs.YtagdchgkjjpacaaGreat
