/- Maps as lists of pairs by rising keys: what a block that is a map reads as; look-up, store, delete, len, range. Over whatever program. -/
import Derived.Test.YtagdchgkjjpacaaGreatr00
import Derived.Maps.RangeRun
import Derived.MapKept
import Derived.OwnWalk
import Derived.OwnWalkIn
namespace Go.Proofs.YtagdchgkjjpacaaGreat
open Go.RowKit Go.MapKept
open Go.ChangeMaps (setBlock)
structure KeyKind (K : Type) where
 d : TypeDesc
 ek : K → Value
 lt : K → K → Bool
 ord : KeyOrd lt
 isKey : ∀ k,IsKey d (ek k)
 inj : ∀ a b,ek a = ek b → a = b
def strKind : KeyKind ByteArray:=⟨.string,.string,slt,slt_ord,fun _ => trivial,fun _ _ h => by injection h⟩
section
variable {K V : Type} (kk : KeyKind K) (ev : V → Value)
def MapAt (w : World) (b : Nat) (m : List (K × V)) : Prop :=
 Rise kk.lt m ∧ ∃ es clock,w.heap[b]? = some (.map es clock) ∧ Stamped es clock ∧ (es.toList.map fun e => (e.key,e.val)).Perm (m.map fun x => (kk.ek x.1,ev x.2))
variable {kk : KeyKind K} {ev : V → Value} {w : World} {b : Nat} {m : List (K × V)}
theorem MapAt.rise (h : MapAt kk ev w b m) : Rise kk.lt m:=h.1
theorem MapAt.lt (h : MapAt kk ev w b m) : b < w.heap.size:=by obtain ⟨_,es,c,hb,_⟩:=h; exact lt_of_block hb
theorem MapAt.block {w' : World} (h : MapAt kk ev w b m) (hb : w'.heap[b]? = w.heap[b]?) : MapAt kk ev w' b m:=by
 obtain ⟨h1,es,c,h2,r⟩:=h; exact ⟨h1,es,c,hb.trans h2,r⟩
theorem MapAt.keeps {S : Nat → Prop} {w' : World} (h : MapAt kk ev w b m) (hk : Keeps S w w') (hn : ¬ S b) : MapAt kk ev w' b m:=h.block (hk.block b h.lt hn)
theorem MapAt.below {w' : World} (h : MapAt kk ev w b m) (hk : Below w.heap.size w w') : MapAt kk ev w' b m:=h.block (hk.block b h.lt)
theorem MapAt.not_blk {cs : Array Value} {T : TypeId} (h : MapAt kk ev w b m) {c : Nat} (hc : IsBlk w c cs T) : c ≠ b:=by
 rintro rfl
 obtain ⟨_,es,cl,hb,_⟩:=h
 have:=hb.symm.trans hc
 simp at this
theorem mapAt_made (w : World) : MapAt kk ev (w.alloc (.map #[] 0)) w.heap.size ([] : List (K × V)) :=
 ⟨by simp [Rise],#[],0,by simpa using (MapKept.heap_alloc w (.map #[] 0)).1,stamped_empty 0,by simp⟩
theorem find_split {lt : K → K → Bool} (H : KeyOrd lt) (m : List (K × V)) (hr : Rise lt m) (k : K) :
 (findL lt m k = none ∧ ∀ x ∈ m,x.1 ≠ k) ∨ ∃ a v b,m = a ++ (k,v) :: b ∧ findL lt m k = some v:=by
 cases hf : m.find? (fun x => !lt x.1 k && !lt k x.1) with
 | none =>
   left
   refine ⟨by simp [findL,hf],fun x hx e => ?_⟩
   have:=List.find?_eq_none.1 hf x hx
   rw [e,H.irr] at this
   simp at this
 | some x =>
   right
   have h1:=List.find?_some hf
   obtain ⟨a,c,rfl⟩:=List.append_of_mem (List.mem_of_find?_eq_some hf)
   simp only [Bool.and_eq_true,Bool.not_eq_true'] at h1
   have e:=H.eq _ _ h1.1 h1.2
   subst e
   exact ⟨a,x.2,c,rfl,by simp [findL,hf]⟩
theorem ent_isKey {es : Array MapEntry} (hp : (es.toList.map fun e => (e.key,e.val)).Perm (m.map fun x => (kk.ek x.1,ev x.2))) : ∀ x ∈ es.toList,IsKey kk.d x.key:=by
 intro x hx
 have : (x.key,x.val) ∈ m.map fun x => (kk.ek x.1,ev x.2):=hp.mem_iff.1 (List.mem_map.2 ⟨x,hx,rfl⟩)
 obtain ⟨y,_,e⟩:=List.mem_map.1 this
 have e1 : kk.ek y.1 = x.key:=congrArg Prod.fst e
 rw [← e1]; exact kk.isKey _
theorem map_find {es : Array MapEntry} {clock : Nat} (hs : Stamped es clock) (hr : Rise kk.lt m) (hp : (es.toList.map fun e => (e.key,e.val)).Perm (m.map fun x => (kk.ek x.1,ev x.2))) (k : K) :
 (findL kk.lt m k = none ∧ Instr.findNow kk.d (kk.ek k) es.toList 0 = some none ∧ (∀ x ∈ es.toList,x.key ≠ kk.ek k) ∧ ∀ x ∈ m,x.1 ≠ k) ∨
 ∃ a v c j e,m = a ++ (k,v) :: c ∧ findL kk.lt m k = some v ∧ Instr.findNow kk.d (kk.ek k) es.toList 0 = some (some (j,ev v)) ∧ es.toList[j]? = some e ∧ e.key = kk.ek k ∧ e.val = ev v:=by
 have hk:=kk.isKey k
 rcases find_split kk.ord m hr k with ⟨h1,h2⟩ | ⟨a,v,c,hm,hv⟩
 ·left
  have hne : ∀ x ∈ es.toList,x.key ≠ kk.ek k:=by
   intro x hx e
   have : (x.key,x.val) ∈ m.map fun x => (kk.ek x.1,ev x.2):=hp.mem_iff.1 (List.mem_map.2 ⟨x,hx,rfl⟩)
   obtain ⟨y,hy,e2⟩:=List.mem_map.1 this
   have e3 : kk.ek y.1 = x.key:=congrArg Prod.fst e2
   exact h2 y hy (kk.inj _ _ (e3.trans e))
  rcases findNow_spec hk es.toList 0 (ent_isKey hp) with ⟨h3,_⟩ | ⟨j,e,_,h4,h5⟩
  ·exact ⟨h1,h3,hne,h2⟩
  ·exact absurd h5 (hne e (List.mem_of_getElem? h4))
 ·right
  have hmem : (kk.ek k,ev v) ∈ es.toList.map fun e => (e.key,e.val):=hp.mem_iff.2 (List.mem_map.2 ⟨(k,v),by rw [hm]; simp,rfl⟩)
  obtain ⟨x,hx,ex⟩:=List.mem_map.1 hmem
  have ex1 : x.key = kk.ek k:=congrArg Prod.fst ex
  have ex2 : x.val = ev v:=congrArg Prod.snd ex
  rcases findNow_spec hk es.toList 0 (ent_isKey hp) with ⟨_,h4⟩ | ⟨j,e,h3,h4,h5⟩
  ·exact absurd ex1 (h4 x hx)
  ·have hxe : x = e:=by
    have hd:=((stamped_iff es clock).1 hs).2.2
    obtain ⟨i,hi⟩:=List.getElem?_of_mem hx
    by_cases hij : i = j
    ·subst hij; rw [h4] at hi; exact (Option.some.inj hi).symm
    ·exfalso
     obtain ⟨hi1,hi2⟩:=List.getElem?_eq_some_iff.1 hi
     obtain ⟨hj1,hj2⟩:=List.getElem?_eq_some_iff.1 h4
     rcases Nat.lt_or_gt_of_ne hij with hl | hl
     ·exact (List.pairwise_iff_getElem.1 hd i j hi1 hj1 hl) (by rw [hi2,hj2,ex1,h5])
     ·exact (List.pairwise_iff_getElem.1 hd j i hj1 hi1 hl) (by rw [hi2,hj2,ex1,h5])
   subst hxe
   exact ⟨a,v,c,j,x,hm,hv,by rw [← ex2]; simpa using h3,h4,h5,ex2⟩
variable {P : Program} {t kt et : TypeId}
theorem MapAt.lookup (h : MapAt kk ev w b m) (ht : P.underlying t = some (.map kt et)) (hk : P.underlying kt = some kk.d) {z : Value} (hz : (zeroValue et).run P w = .ok z w) (k : K) (ok : Bool) :
 (Instr.lookup t (.map (some b)) (kk.ek k) ok).run P w = .ok (if ok then .tuple #[((findL kk.lt m k).map ev).getD z,.bool (findL kk.lt m k).isSome] else ((findL kk.lt m k).map ev).getD z) w:=by
 obtain ⟨hr,es,clock,hb,hs,hp⟩:=h
 rcases map_find hs hr hp k with ⟨h1,h2,_,_⟩ | ⟨a,v,c,j,e,_,h1,h2,_,_,_⟩
 ·simp [Instr.lookup,run_underlying ht,MapKept.run_getObj_map hb,run_checkKey hk (kk.isKey k),run_findKey hk h2,hz,h1,Result.andThen]
 ·simp [Instr.lookup,run_underlying ht,MapKept.run_getObj_map hb,run_checkKey hk (kk.isKey k),run_findKey hk h2,h1,Result.andThen]
theorem heap_setBlock_same {o : Obj} (hb : w.heap[b]? = some o) (o' : Obj) : (setBlock w b o').heap[b]? = some o':=by
 have:=lt_of_block hb
 show (w.heap.setIfInBounds b o')[b]? = _
 simp [this]
theorem keeps_setBlock (w : World) (b : Nat) (o : Obj) : Keeps (fun k => k = b) w (setBlock w b o) :=
 ⟨rfl,rfl,rfl,by simp [setBlock],fun k _ hn => by
  show (w.heap.setIfInBounds b o)[k]? = _
  rw [Array.getElem?_setIfInBounds,if_neg (fun e => hn e.symm)]⟩
theorem putL_new {lt : K → K → Bool} (H : KeyOrd lt) (m : List (K × V)) (k : K) (v : V) (hn : ∀ x ∈ m,x.1 ≠ k) : (putL lt m k v).Perm ((k,v) :: m):=by
 unfold putL
 refine List.perm_middle.trans (List.Perm.cons _ ?_)
 induction m with
 | nil => simp
 | cons x m ih =>
   have ih:=ih (fun y hy => hn y (by simp [hy]))
   have hx:=hn x (by simp)
   cases h1 : lt x.1 k with
   | true =>
     have h2:=H.asymm h1
     simp only [List.filter_cons,h1,h2,if_true,List.cons_append,Bool.false_eq_true,if_false]
     exact ih.cons _
   | false =>
     cases h2 : lt k x.1 with
     | true =>
       simp only [List.filter_cons,h1,h2,if_true,Bool.false_eq_true,if_false]
       exact List.perm_middle.trans (ih.cons _)
     | false => exact absurd (H.eq _ _ h1 h2) hx
theorem MapAt.update (h : MapAt kk ev w b m) (ht : P.underlying t = some (.map kt et)) (hk : P.underlying kt = some kk.d) (k : K) (v : V) :
 ∃ w',(Instr.mapUpdate t (.map (some b)) (kk.ek k) (ev v)).run P w = .ok () w' ∧ MapAt kk ev w' b (putL kk.lt m k v) ∧ Keeps (fun i => i = b) w w' ∧ w'.heap.size = w.heap.size:=by
 obtain ⟨hr,es,clock,hb,hs,hp⟩:=h
 have hkey:=kk.isKey k
 rcases map_find hs hr hp k with ⟨h1,h2,h3,h4⟩ | ⟨a,v0,c,j,e,hm,h1,h2,h3,h4,h5⟩
 ·refine ⟨setBlock w b (.map (es.push { key:=kk.ek k,val:=ev v,born:=clock }) (clock + 1)),?_,⟨rise_putL kk.ord hr k v,_,_,heap_setBlock_same hb _,stamped_push hs h3,?_⟩,keeps_setBlock _ _ _,by simp [setBlock]⟩
  ·simp [Instr.mapUpdate,run_underlying ht,MapKept.run_getObj_map hb,run_checkKey hk hkey,run_findKey hk h2,MapKept.run_setObj_map _ hb,Result.andThen,setBlock]
  ·simp only [Array.toList_push,List.map_append,List.map_cons,List.map_nil]
   refine List.perm_append_comm.trans ?_
   refine ((hp.cons (kk.ek k,ev v)).trans ?_)
   exact ((putL_new kk.ord m k v h4).map (fun x => (kk.ek x.1,ev x.2))).symm
 ·have hj : es[j]? = some e:=by simpa using h3
  refine ⟨setBlock w b (.map (es.modify j fun e => { e with key:=kk.ek k,val:=ev v }) clock),?_,⟨rise_putL kk.ord hr k v,_,_,heap_setBlock_same hb _,
    stamped_modify hs _ _ (fun _ _ => rfl) (fun e' _ he' => by rw [hj] at he'; cases he'; exact h4.symm),?_⟩,keeps_setBlock _ _ _,by simp [setBlock]⟩
  ·simp [Instr.mapUpdate,run_underlying ht,MapKept.run_getObj_map hb,run_checkKey hk hkey,run_findKey hk h2,hj,h4,run_keyThatStays hkey,MapKept.run_setObj_map _ hb,Result.andThen,setBlock]
  ·have hjl:=(List.getElem?_eq_some_iff.1 h3).1
   have hje:=(List.getElem?_eq_some_iff.1 h3).2
   have e1 : es.toList = es.toList.take j ++ e :: es.toList.drop (j + 1):=by
    have:=List.take_append_drop j es.toList
    rw [List.drop_eq_getElem_cons hjl,hje] at this
    exact this.symm
   have e2 : (es.modify j fun e => { e with key:=kk.ek k,val:=ev v }).toList = es.toList.take j ++ { e with key:=kk.ek k,val:=ev v } :: es.toList.drop (j + 1):=by
    apply List.ext_getElem?
    intro i
    rw [Array.getElem?_toList,Array.getElem?_modify]
    have hl : (es.toList.take j).length = j:=by simp only [List.length_take]; omega
    rcases Nat.lt_trichotomy i j with hi | hi | hi
    ·rw [if_neg (by omega),List.getElem?_append_left (by omega),List.getElem?_take_of_lt hi,Array.getElem?_toList]
    ·subst hi
     rw [if_pos rfl,hj,List.getElem?_append_right (by omega),hl]
     simp
    ·rw [if_neg (by omega),List.getElem?_append_right (by omega),hl]
     obtain ⟨q,rfl⟩ : ∃ q,i = j + 1 + q:=⟨i - (j + 1),by omega⟩
     rw [show j + 1 + q - j = q + 1 by omega,List.getElem?_cons_succ,List.getElem?_drop,Array.getElem?_toList]
   rw [e2]
   rw [e1,hm] at hp
   rw [hm] at hr ⊢
   rw [putL_eq kk.ord hr]
   simp only [List.map_append,List.map_cons] at hp ⊢
   rw [show (e.key,e.val) = (kk.ek k,ev v0) by rw [h4,h5]] at hp
   have hp2:=(List.perm_middle.symm.trans (hp.trans List.perm_middle)).cons_inv
   exact List.perm_middle.trans ((hp2.cons _).trans List.perm_middle.symm)
theorem dropL_new {lt : K → K → Bool} (H : KeyOrd lt) (m : List (K × V)) (k : K) (hn : ∀ x ∈ m,x.1 ≠ k) : dropL lt m k = m:=by
 refine filt_all fun x hx => ?_
 cases h1 : lt x.1 k with
 | true => rfl
 | false =>
   cases h2 : lt k x.1 with
   | true => rfl
   | false => exact absurd (H.eq _ _ h1 h2) (hn x hx)
theorem MapAt.drop (h : MapAt kk ev w b m) (ht : P.underlying t = some (.map kt et)) (hk : P.underlying kt = some kk.d) (k : K) (ty : TypeId) :
 ∃ w',(Builtin.delete_ #[t,kt] ty #[.map (some b),kk.ek k]).run P w = .ok (.tuple #[]) w' ∧ MapAt kk ev w' b (dropL kk.lt m k) ∧ Keeps (fun i => i = b) w w' ∧ w'.heap.size = w.heap.size:=by
 obtain ⟨hr,es,clock,hb,hs,hp⟩:=h
 have hkey:=kk.isKey k
 rcases map_find hs hr hp k with ⟨h1,h2,h3,h4⟩ | ⟨a,v0,c,j,e,hm,h1,h2,h3,h4,h5⟩
 ·refine ⟨setBlock w b (.map es clock),?_,⟨rise_dropL hr k,_,_,heap_setBlock_same hb _,hs,?_⟩,keeps_setBlock _ _ _,by simp [setBlock]⟩
  ·simp [Builtin.delete_,run_underlying ht,MapKept.run_getObj_map hb,run_checkKey hk hkey,run_findKey hk h2,MapKept.run_setObj_map _ hb,Result.andThen,setBlock]
  ·rw [dropL_new kk.ord m k h4]; exact hp
 ·have hjl:=(List.getElem?_eq_some_iff.1 h3).1
  have hje:=(List.getElem?_eq_some_iff.1 h3).2
  refine ⟨setBlock w b (.map (es.eraseIdxIfInBounds j) clock),?_,⟨rise_dropL hr k,_,_,heap_setBlock_same hb _,stamped_erase hs j,?_⟩,keeps_setBlock _ _ _,by simp [setBlock]⟩
  ·simp [Builtin.delete_,run_underlying ht,MapKept.run_getObj_map hb,run_checkKey hk hkey,run_findKey hk h2,MapKept.run_setObj_map _ hb,Result.andThen,setBlock]
  ·have hjs : j < es.size:=by simpa using hjl
   have e1 : es.toList = es.toList.take j ++ e :: es.toList.drop (j + 1):=by
    have:=List.take_append_drop j es.toList
    rw [List.drop_eq_getElem_cons hjl,hje] at this
    exact this.symm
   have e2 : (es.eraseIdxIfInBounds j).toList = es.toList.take j ++ es.toList.drop (j + 1):=by
    unfold Array.eraseIdxIfInBounds
    rw [dif_pos hjs]
    simp [List.eraseIdx_eq_take_drop_succ]
   rw [e2]
   rw [e1,hm] at hp
   rw [hm] at hr ⊢
   rw [dropL_eq kk.ord hr]
   simp only [List.map_append,List.map_cons] at hp ⊢
   rw [show (e.key,e.val) = (kk.ek k,ev v0) by rw [h4,h5]] at hp
   exact (List.perm_middle.symm.trans (hp.trans List.perm_middle)).cons_inv
theorem MapAt.len (h : MapAt kk ev w b m) (ht : P.underlying t = some (.map kt et)) (ty : TypeId) : (Builtin.len_ #[t] ty #[.map (some b)]).run P w = .ok (.int .i64 (m.length : Int)) w:=by
 obtain ⟨hr,es,clock,hb,hs,hp⟩:=h
 have:=hp.length_eq
 simp only [List.length_map,Array.length_toList] at this
 simp [Builtin.len_,run_underlying ht,MapKept.run_getObj_map hb,Result.andThen,this,goInt]
end
section
variable {K V : Type} (kk : KeyKind K) (ev : V → Value)
def RangeAt (w : World) (b r : Nat) (m left : List (K × V)) : Prop :=
 Rise kk.lt m ∧ ∃ es clock since seen c0,w.heap[b]? = some (.map es clock) ∧ Stamped es clock ∧ (es.toList.map fun e => (e.key,e.val)).Perm (m.map fun x => (kk.ek x.1,ev x.2)) ∧
   w.heap[r]? = some (.mapIter (some b) since seen c0) ∧ (∀ x ∈ es.toList,x.born < since) ∧ since ≤ c0 ∧ since ≤ clock ∧ ((leftOf es seen).toList.map fun e => (e.key,e.val)).Perm (left.map fun x => (kk.ek x.1,ev x.2))
variable {kk : KeyKind K} {ev : V → Value} {w : World} {b r : Nat} {m left : List (K × V)}
theorem RangeAt.map (h : RangeAt kk ev w b r m left) : MapAt kk ev w b m:=by
 obtain ⟨hr,es,clock,since,seen,c0,hb,hs,hp,_⟩:=h; exact ⟨hr,es,clock,hb,hs,hp⟩
theorem RangeAt.ne (h : RangeAt kk ev w b r m left) : r ≠ b:=by
 obtain ⟨hr,es,clock,since,seen,c0,hb,hs,hp,hi,_⟩:=h
 rintro rfl
 rw [hb] at hi
 cases hi
theorem RangeAt.lt (h : RangeAt kk ev w b r m left) : r < w.heap.size:=by
 obtain ⟨hr,es,clock,since,seen,c0,hb,hs,hp,hi,_⟩:=h
 exact (Array.getElem?_eq_some_iff.1 hi).1
theorem RangeAt.block {w' : World} (h : RangeAt kk ev w b r m left) (h1 : w'.heap[b]? = w.heap[b]?) (h2 : w'.heap[r]? = w.heap[r]?) : RangeAt kk ev w' b r m left:=by
 obtain ⟨hr,es,clock,since,seen,c0,hb,hs,hp,hi,rest⟩:=h
 exact ⟨hr,es,clock,since,seen,c0,h1.trans hb,hs,hp,h2.trans hi,rest⟩
theorem RangeAt.keeps {S : Nat → Prop} {w' : World} (h : RangeAt kk ev w b r m left) (hk : Keeps S w w') (hn : ¬ S b) (hr : ¬ S r) : RangeAt kk ev w' b r m left :=
 h.block (hk.block b h.map.lt hn) (hk.block r h.lt hr)
theorem RangeAt.below {w' : World} (h : RangeAt kk ev w b r m left) (hk : Below w.heap.size w w') : RangeAt kk ev w' b r m left:=h.block (hk.block b h.map.lt) (hk.block r h.lt)
variable {P : Program} {t kt et : TypeId}
theorem MapAt.range (h : MapAt kk ev w b m) (ht : P.underlying t = some (.map kt et)) :
 ∃ w',(Instr.range t (.map (some b))).run P w = .ok (.pointer (some ⟨w.heap.size,0,none⟩)) w' ∧ RangeAt kk ev w' b w.heap.size m m ∧ Below w.heap.size w w' ∧ w'.heap.size = w.heap.size + 1:=by
 have hlt:=h.lt
 obtain ⟨hr,es,clock,hb,hs,hp⟩:=h
 refine ⟨_,run_range_map w t kt et b es clock ht hb,⟨hr,es,clock,clock,#[],clock,((MapKept.heap_alloc w _).2 b hlt).trans hb,hs,hp,(MapKept.heap_alloc w _).1,hs.1,Nat.le_refl _,Nat.le_refl _,?_⟩,(Below.refl _ _).alloc (Nat.le_refl _) _,by simp⟩
 have : leftOf es #[] = es:=by unfold leftOf; simp
 rw [this]; exact hp
theorem left_push (es : Array MapEntry) (seen : Array Nat) (e : MapEntry) : (leftOf es (seen.push e.born)).toList = (leftOf es seen).toList.filter (fun x => x.born != e.born):=by
 unfold leftOf
 rw [Array.toList_filter,Array.toList_filter,List.filter_filter]
 congr 1
 funext x
 rw [Bool.eq_iff_iff]
 simp [Array.contains_eq_mem]
 exact And.comm
theorem RangeAt.next (h : RangeAt kk ev w b r m left) (ty : TypeId) :
 (left = [] ∧ (Instr.next (.pointer (some ⟨r,0,none⟩)) false ty).run P w = .ok (.tuple #[.bool false]) w) ∨
 ∃ x rest w',left.Perm (x :: rest) ∧ (Instr.next (.pointer (some ⟨r,0,none⟩)) false ty).run P w = .ok (.tuple #[.bool true,kk.ek x.1,ev x.2]) w' ∧
   RangeAt kk ev w' b r m rest ∧ Keeps (fun i => i = r) w w' ∧ w'.heap.size = w.heap.size ∧ (Instr.entry (.pointer (some ⟨r,0,none⟩))).run P w' = .ok (.tuple #[kk.ek x.1,ev x.2]) w':=by
 have hne:=h.ne
 obtain ⟨hrise,es,clock,since,seen,c0,hb,hs,hp,hr,hold,hsc,hsk,hl⟩:=h
 rcases run_next_at (P:=P) w ty r b since c0 seen es clock hr hb hold hsc with ⟨h0,hrun⟩ | ⟨e,he,w1,hal,hrun⟩
 ·left
  refine ⟨?_,hrun⟩
  have h1:=hl.length_eq
  simp only [List.length_map,Array.length_toList,h0] at h1
  exact List.length_eq_zero_iff.1 h1.symm
 ·right
  have hnd:=((stamped_iff es clock).1 hs).2.1
  have hem : e ∈ es.toList:=by
   unfold leftOf at he; rw [Array.toList_filter] at he; exact (List.mem_filter.1 he).1
  have hmem : (e.key,e.val) ∈ left.map fun x => (kk.ek x.1,ev x.2):=hl.mem_iff.1 (List.mem_map.2 ⟨e,he,rfl⟩)
  obtain ⟨x,hx,ex⟩:=List.mem_map.1 hmem
  have ex1 : e.key = kk.ek x.1:=(congrArg Prod.fst ex).symm
  have ex2 : e.val = ev x.2:=(congrArg Prod.snd ex).symm
  obtain ⟨l1,l2,rfl⟩:=List.append_of_mem hx
  obtain ⟨a1,a2,ha⟩:=List.append_of_mem he
  have hr1 : w1.heap[r]? = some (.mapIter (some b) since seen c0):=by rcases hal with rfl | rfl <;> exact hr
  have hb1 : w1.heap[b]? = some (.map es clock):=by rcases hal with rfl | rfl <;> exact hb
  have hset:=MapKept.heap_set (o':=.mapIter (some b) since (seen.push e.born) clock) hr1
  have hb' : (setBlock w1 r (.mapIter (some b) since (seen.push e.born) clock)).heap[b]? = some (.map es clock):=(hset.2 b (fun e1 => hne e1.symm)).trans hb1
  refine ⟨x,l1 ++ l2,_,List.perm_middle,by rw [← ex1,← ex2]; exact hrun,⟨hrise,es,clock,since,seen.push e.born,clock,hb',hs,hp,hset.1,hold,hsk,hsk,?_⟩,?_,?_,?_⟩
  ·have hln : ((leftOf es seen).toList.map (·.born)).Nodup:=by
    have : (leftOf es seen).toList.Sublist es.toList:=by unfold leftOf; rw [Array.toList_filter]; exact List.filter_sublist
    exact (this.map _).nodup hnd
   have e3 : (leftOf es (seen.push e.born)).toList = a1 ++ a2:=by
    rw [left_push,ha,List.filter_append,List.filter_cons]
    rw [ha,List.map_append,List.map_cons,List.nodup_append] at hln
    obtain ⟨_,h2,h3⟩:=hln
    have h2':=(List.nodup_cons.1 h2).1
    rw [List.filter_eq_self.2 (fun y hy => by
        have:=h3 y.born (List.mem_map.2 ⟨y,hy,rfl⟩) e.born (by simp)
        simpa using this),List.filter_eq_self.2 (fun y hy => by
        have : y.born ≠ e.born:=fun e5 => h2' (List.mem_map.2 ⟨y,hy,e5⟩)
        simpa using this)]
    simp
   rw [e3]
   rw [ha] at hl
   simp only [List.map_append,List.map_cons] at hl ⊢
   rw [ex1,ex2] at hl
   exact (List.perm_middle.symm.trans (hl.trans List.perm_middle)).cons_inv
  ·rcases hal with rfl | rfl
   ·exact keeps_setBlock _ _ _
   ·exact ((Keeps.refl _ w).drew).trans' (keeps_setBlock _ _ _)
  ·rcases hal with rfl | rfl <;> simp [setBlock]
  ·rw [← ex1,← ex2]
   exact run_entry_at _ r b since seen es clock e hset.1 hb' hem hnd
end
end Go.Proofs.YtagdchgkjjpacaaGreat
