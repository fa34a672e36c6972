/- Slices: what they hold, where their array may be written to; append onto them, from whatever place of an array on. Over whatever program. -/
import Derived.Test.YtagdchgkjjpacaaGreatr00
import Derived.Laws.AppendOwn
import Derived.OwnWalk
import Derived.OwnWalkIn
import Derived.Test.YtagdchgkjjpacaaGreatr01
import Derived.Shelf.GgClosure.StringsIndexFunc
namespace Go.Proofs.YtagdchgkjjpacaaGreat
open Go.RowKit
structure ElKind (α : Type) where
 enc : α → List Value
 size : Nat
 len : ∀ x,(enc x).length = size
 pos : 0 < size
 one : ∀ x,∀ u ∈ enc x,u.oneCell' = true
def byteKind : ElKind UInt8:=⟨fun b => [.int .u8 (b.toNat : Int)],1,fun _ => rfl,Nat.one_pos,fun _ u hu => by
 simp only [List.mem_cons,List.not_mem_nil,or_false] at hu; subst hu; rfl⟩
def textKind : ElKind ByteArray:=⟨fun b => [.string b],1,fun _ => rfl,Nat.one_pos,fun _ u hu => by
 simp only [List.mem_cons,List.not_mem_nil,or_false] at hu; subst hu; rfl⟩
theorem flat_len {α : Type} {enc : α → List Value} {size : Nat} (h : ∀ x,(enc x).length = size) (xs : List α) : (xs.flatMap enc).length = xs.length * size:=by
 induction xs with
 | nil => simp
 | cons x xs ih => simp [ih,h x,Nat.add_mul]; omega
theorem flat_at {α : Type} {enc : α → List Value} {size : Nat} (h : ∀ x,(enc x).length = size) : ∀ (xs : List α) (j i : Nat) (x : α),xs[j]? = some x → i < size → (xs.flatMap enc)[j * size + i]? = (enc x)[i]?
 | [],_,_,_,hx,_ => by simp at hx
 | y :: xs,0,i,x,hx,hi => by
   simp only [List.getElem?_cons_zero,Option.some.injEq] at hx
   subst hx
   simp only [List.flatMap_cons,Nat.zero_mul,Nat.zero_add]
   rw [List.getElem?_append_left (by rw [h]; exact hi)]
 | y :: xs,j + 1,i,x,hx,hi => by
   simp only [List.getElem?_cons_succ] at hx
   have:=flat_at h xs j i x hx hi
   simp only [List.flatMap_cons]
   rw [List.getElem?_append_right (by rw [h,Nat.add_mul]; omega),h]
   rw [show (j + 1) * size + i - size = j * size + i by rw [Nat.add_mul]; omega]
   exact this
theorem add_lit (g off j : Nat) : (⟨g,off,none⟩ : Addr).add j = ⟨g,off + j,none⟩:=by unfold Addr.add; split <;> simp_all
section
variable {α : Type} (ek : ElKind α) (e : TypeId)
def SlAt (w : World) (v : Value) (xs : List α) : Prop :=
 (v = .slice none 0 0 ∧ xs = []) ∨ ∃ g off cap cur,v = .slice (some ⟨g,off,none⟩) xs.length cap ∧ IsBlk w g cur e ∧ xs.length ≤ cap ∧ cap ≤ maxLen ∧ off + cap * ek.size ≤ cur.size ∧
   ∀ i,i < xs.length * ek.size → cur[off + i]? = (xs.flatMap ek.enc)[i]?
def RdAt (w : World) (v : Value) (xs : List α) : Prop :=
 ∃ a cap,v = .slice a xs.length cap ∧ ∀ j x,xs[j]? = some x → ∃ g off,a = some ⟨g,off,none⟩ ∧ ∀ i,i < ek.size → w.cell? ⟨g,off + j * ek.size + i,none⟩ = (ek.enc x)[i]?
variable {ek : ElKind α} {e : TypeId} {w w' : World} {v : Value} {xs : List α}
theorem SlAt.nil : SlAt ek e w (.slice none 0 0) ([] : List α):=.inl ⟨rfl,rfl⟩
theorem SlAt.block (h : SlAt ek e w v xs) (hb : ∀ g,v.ownBlock = some g → w'.heap[g]? = w.heap[g]?) : SlAt ek e w' v xs:=by
 rcases h with h | ⟨g,off,cap,cur,hv,hg,r⟩
 ·exact .inl h
 ·exact .inr ⟨g,off,cap,cur,hv,(hb g (by rw [hv]; rfl)).trans hg,r⟩
theorem SlAt.own (h : SlAt ek e w v xs) : ∀ g,v.ownBlock = some g → ∃ cur,IsBlk w g cur e:=by
 intro g hg
 rcases h with ⟨h,_⟩ | ⟨g',off,cap,cur,hv,hb,_⟩
 ·rw [h] at hg; simp [Value.ownBlock] at hg
 ·rw [hv] at hg
  obtain rfl : g' = g:=by simpa [Value.ownBlock] using hg
  exact ⟨_,hb⟩
theorem SlAt.keeps {S : Nat → Prop} (h : SlAt ek e w v xs) (hk : Keeps S w w') (hn : ∀ g,v.ownBlock = some g → ¬ S g) : SlAt ek e w' v xs :=
 h.block fun g hg => by obtain ⟨cur,hb⟩:=h.own g hg; exact hk.block g (lt_of_block hb) (hn g hg)
theorem SlAt.below (h : SlAt ek e w v xs) (hk : Below w.heap.size w w') : SlAt ek e w' v xs:=h.keeps (Keeps.of_below hk) (fun _ _ h => h)
theorem RdAt.keeps {S : Nat → Prop} (h : RdAt ek w v xs) (hk : Keeps S w w') (hn : ∀ g,v.ownBlock = some g → ¬ S g) : RdAt ek w' v xs:=by
 obtain ⟨a,cap,rfl,hr⟩:=h
 refine ⟨a,cap,rfl,fun j x hx => ?_⟩
 obtain ⟨g,off,rfl,hc⟩:=hr j x hx
 refine ⟨g,off,rfl,fun i hi => ?_⟩
 have h0 : ∃ u,w.cell? ⟨g,off + j * ek.size + i,none⟩ = some u:=by
  rw [hc i hi,List.getElem?_eq_getElem (by rw [ek.len]; exact hi)]; exact ⟨_,rfl⟩
 obtain ⟨u,hu⟩:=h0
 exact (hk.cell (p:=⟨g,off + j * ek.size + i,none⟩) (World.block_lt_of_cell? w _ hu) (hn g rfl)).trans (hc i hi)
theorem RdAt.keeps' {S : Nat → Prop} (h : RdAt ek w v xs) (hk : Keeps S w w') (hn : ∀ g,v.ownBlock = some g → xs ≠ [] → ¬ S g) : RdAt ek w' v xs:=by
 by_cases hx : xs = []
 ·obtain ⟨a,cap,e,_⟩:=h
  subst hx
  exact ⟨a,cap,e,fun j x hx => by simp at hx⟩
 ·exact h.keeps hk fun g hg => hn g hg hx
theorem RdAt.first (h : RdAt ek w v xs) (hx : xs ≠ []) {g : Nat} (hg : v.ownBlock = some g) : ∃ off x,w.cell? ⟨g,off,none⟩ = (ek.enc x)[0]?:=by
 obtain ⟨a,cap,rfl,hr⟩:=h
 cases xs with
 | nil => exact absurd rfl hx
 | cons x xs =>
   obtain ⟨g',off,rfl,hc⟩:=hr 0 x rfl
   obtain rfl : g' = g:=by simpa [Value.ownBlock] using hg
   have:=hc 0 ek.pos
   simp only [Nat.zero_mul,Nat.add_zero] at this
   exact ⟨off,x,this⟩
theorem RdAt.below (h : RdAt ek w v xs) (hk : Below w.heap.size w w') : RdAt ek w' v xs:=h.keeps (Keeps.of_below hk) (fun _ _ h => h)
theorem SlAt.rd (h : SlAt ek e w v xs) : RdAt ek w v xs:=by
 rcases h with ⟨rfl,rfl⟩ | ⟨g,off,cap,cur,rfl,hb,hc,hm,hs,hr⟩
 ·exact ⟨none,0,rfl,fun j x hx => by simp at hx⟩
 ·refine ⟨_,_,rfl,fun j x hx => ⟨g,off,rfl,fun i hi => ?_⟩⟩
  have hj:=(List.getElem?_eq_some_iff.1 hx).1
  have hlt : j * ek.size + i < xs.length * ek.size:=by
   have:=Nat.mul_le_mul_right ek.size (Nat.succ_le_of_lt hj)
   rw [Nat.succ_mul] at this; omega
  rw [blk_cell hb,Nat.add_assoc,hr _ hlt,flat_at ek.len xs j i x hx hi]
theorem SlAt.shape (h : SlAt ek e w v xs) : ∃ a cap,v = .slice a xs.length cap:=by
 obtain ⟨a,cap,hv,_⟩:=h.rd; exact ⟨a,cap,hv⟩
theorem RdAt.cells (h : RdAt ek w v xs) : ∃ a cap,v = .slice a xs.length cap ∧ (a = none → xs = []) ∧ ∀ b,a = some b → ∀ j u,(xs.flatMap ek.enc)[j]? = some u → w.cell? (b.add j) = some u:=by
 obtain ⟨a,cap,rfl,hr⟩:=h
 refine ⟨a,cap,rfl,fun ha => ?_,fun b hb j u hu => ?_⟩
 ·cases xs with
  | nil => rfl
  | cons x xs => obtain ⟨g,off,h1,_⟩:=hr 0 x rfl; rw [ha] at h1; cases h1
 ·have hj:=(List.getElem?_eq_some_iff.1 hu).1
  rw [flat_len ek.len] at hj
  have hq : j / ek.size < xs.length:=Nat.div_lt_of_lt_mul (by rw [Nat.mul_comm]; exact hj)
  have hx : xs[j / ek.size]? = some xs[j / ek.size]:=List.getElem?_eq_getElem hq
  obtain ⟨g,off,h1,hc⟩:=hr _ _ hx
  have e1 : j = j / ek.size * ek.size + j % ek.size:=(Nat.div_add_mod' j ek.size).symm
  have hm:=Nat.mod_lt j ek.pos
  have h2:=flat_at ek.len xs (j / ek.size) (j % ek.size) _ hx hm
  rw [← e1,hu] at h2
  have h3:=hc _ hm
  rw [← h2] at h3
  rw [h1] at hb
  cases hb
  rw [Nat.add_assoc,← e1] at h3
  have e2:=add_lit g off j
  rw [e2]; exact h3
variable {P : Program}
theorem run_append_sl (t ty : TypeId) (i : TypeInfo) (z : Value) (bytes : Nat) (ht : P.underlying t = some (.slice e)) (hi : P.info? e = some i) (hz : i.zero = some z) (hsize : i.size = ek.size) (hby : i.bytes = bytes) (hzs : z.cells.size = ek.size)
 {u : Value} {ys : List α} (hv : SlAt ek e w v xs) (hu : RdAt ek w u ys) (h63 : xs.length + ys.length ≤ maxLen) (hbytes : (xs.length + ys.length) * bytes ≤ 140737488355328) :
 ∃ v' w',(Builtin.append_ #[t,t] ty #[v,u]).run P w = .ok v' w' ∧ SlAt ek e w' v' (xs ++ ys) ∧ Keeps (fun k => v.ownBlock = some k) w w' ∧
   (∀ k,v'.ownBlock = some k → v.ownBlock = some k ∨ w.heap.size ≤ k) ∧ (v' = .slice none 0 0 ↔ v = .slice none 0 0 ∧ ys = []):=by
 subst hby
 obtain ⟨a,c,rfl,ha,hcell⟩:=hu.cells
 have hsmall : xs.length + ys.length ≤ 9223372036854775807:=by unfold maxLen at h63; omega
 have hly : (ys.flatMap ek.enc).length = ys.length * i.size:=by rw [flat_len ek.len,hsize]
 have hlx : (xs.flatMap ek.enc).length = xs.length * i.size:=by rw [flat_len ek.len,hsize]
 have h1 : ∀ u ∈ ys.flatMap ek.enc,u.oneCell' = true:=by
  intro u hu
  obtain ⟨x,_,hx⟩:=List.mem_flatMap.1 hu
  exact ek.one x u hx
 have grown : ∀ (old : Nat),SlAt ek e (w.drew.alloc (.cells ((xs.flatMap ek.enc).toArray ++ (ys.flatMap ek.enc).toArray ++ Builtin.zeroCells z.cells (grownCap w (xs.length + ys.length) old e - (xs.length + ys.length))) e))
     (.slice (some ⟨w.heap.size,0,none⟩) (xs.length + ys.length) (grownCap w (xs.length + ys.length) old e)) (xs ++ ys):=by
   intro old
   have hge:=grownCap_ge w (xs.length + ys.length) old e
   have hcm : grownCap w (xs.length + ys.length) old e ≤ maxLen:=grownCap_le_maxLen w (xs.length + ys.length) old e h63
   refine .inr ⟨w.heap.size,0,_,_,by rw [List.length_append],heap_alloc_new w.drew _,by rw [List.length_append]; exact hge,hcm,?_,?_⟩
   ·simp only [Array.size_append,List.size_toArray,size_zeroCells,hzs,hlx,hly,hsize,← Nat.add_mul,Nat.zero_add]
    apply Nat.mul_le_mul_right
    omega
   ·intro j hj
    rw [List.length_append,Nat.add_mul,← hsize] at hj
    rw [Nat.zero_add,List.flatMap_append]
    rw [← Array.getElem?_toList,Array.toList_append,Array.toList_append,List.getElem?_append_left]
    rw [List.length_append,hlx,hly]; exact hj
 have grownK : ∀ (old : Nat) (S : Nat → Prop),Keeps S w (w.drew.alloc (.cells ((xs.flatMap ek.enc).toArray ++ (ys.flatMap ek.enc).toArray ++ Builtin.zeroCells z.cells (grownCap w (xs.length + ys.length) old e - (xs.length + ys.length))) e)) :=
  fun old S => ((Keeps.refl S w).drew).alloc _
 rcases hv with ⟨rfl,rfl⟩ | ⟨g,off,cap,cur,rfl,hg,hnc,hcm,hcs,htake⟩
 ·cases a with
  | none =>
    obtain rfl:=ha rfl
    refine ⟨.slice none 0 0,w,?_,.inl ⟨rfl,rfl⟩,Keeps.refl _ _,fun k hk => .inl hk,by simp⟩
    simp [Builtin.append_,run_underlying ht,sizeOf,typeInfo,hi,Builtin.lenOf,Builtin.firstCells]
  | some b =>
    by_cases hm : ys.length = 0
    ·have : ys = []:=List.length_eq_zero_iff.1 hm
     subst this
     refine ⟨.slice none 0 0,w,?_,.inl ⟨rfl,rfl⟩,Keeps.refl _ _,fun k hk => .inl hk,by simp⟩
     simp [Builtin.append_,run_underlying ht,sizeOf,typeInfo,hi,Builtin.lenOf,Builtin.firstCells,loadCells,loadCellsFrom]
    ·have hr:=run_append_nil (P:=P) w t ty e i z ht hi hz b ys.length c _ hly (fun j u hu => hcell b rfl j u hu) (by omega) (by simp at hsmall; omega) (by have hb:=hbytes; simp only [List.length_nil,Nat.zero_add] at hb; omega)
     have hgr:=grown 0
     have hgk:=grownK 0 (fun k => (Value.slice none 0 0).ownBlock = some k)
     simp only [List.length_nil,Nat.zero_add,List.nil_append,List.flatMap_nil,Array.empty_append] at hgr hgk ⊢
     refine ⟨_,_,hr,hgr,hgk,fun k hk => .inr ?_,?_⟩
     ·have : w.heap.size = k:=by simpa [Value.ownBlock] using hk
      omega
     ·simp only [reduceCtorEq,Value.slice.injEq,false_and,true_and,false_iff]
      intro h; exact hm (by rw [h]; rfl)
 ·have holds : ∀ j u,(xs.flatMap ek.enc)[j]? = some u → w.cell? ((⟨g,off,none⟩ : Addr).add j) = some u:=by
   intro j u hu
   have hj:=(List.getElem?_eq_some_iff.1 hu).1
   rw [flat_len ek.len] at hj
   have e2:=add_lit g off j
   rw [e2,blk_cell hg,htake j hj,hu]
  by_cases hroom : xs.length + ys.length ≤ cap
  ·have hfit : off + xs.length * i.size + 0 + (ys.flatMap ek.enc).length ≤ cur.size:=by
    have:=Nat.mul_le_mul_right ek.size hroom
    rw [Nat.add_mul] at this
    rw [hly,hsize]; omega
   have e3:=add_lit g off (xs.length * i.size)
   have hst:=run_storeCells_at P g (off + xs.length * i.size) e (ys.flatMap ek.enc) 0 cur w hg hfit h1
   have hcz : (cur.toList.take (off + xs.length * i.size) ++ (ys.flatMap ek.enc) ++ cur.toList.drop (off + xs.length * i.size + (ys.flatMap ek.enc).length)).toArray.size = cur.size:=by
    simp only [List.size_toArray,List.length_append,List.length_take,List.length_drop,Array.length_toList]
    omega
   have hf : (Builtin.firstCells i.size ys.length (.slice a ys.length c)).run P w = .ok (ys.flatMap ek.enc).toArray w:=by
    cases a with
    | none => obtain rfl:=ha rfl; simp [Builtin.firstCells]
    | some b => exact run_firstCells_some (P:=P) w i.size ys.length b ys.length c _ hly (hcell b rfl)
   simp only [Nat.add_zero] at hst
   refine ⟨.slice (some ⟨g,off,none⟩) (xs.length + ys.length) cap,w.setRow g (cur.toList.take (off + xs.length * i.size) ++ (ys.flatMap ek.enc) ++ cur.toList.drop (off + xs.length * i.size + (ys.flatMap ek.enc).length)).toArray,?_,
     .inr ⟨g,off,cap,_,by rw [List.length_append],setRow_heap w g cur _ e _ hg,by rw [List.length_append]; exact hroom,hcm,?_,?_⟩,
     ⟨rfl,rfl,rfl,by simp,fun k _ hk => setRow_other w g k _ (fun e => hk (by simp [Value.ownBlock,e]))⟩,fun k hk => .inl hk,by simp⟩
   ·simp [Builtin.append_,run_underlying ht,sizeOf,typeInfo,hi,Builtin.lenOf,hroom,hf,e3,hst]
   ·rw [hcz]; exact hcs
   ·intro j hj
    rw [List.length_append,Nat.add_mul] at hj
    simp only [List.getElem?_toArray]
    rw [List.append_assoc]
    have hl0 : (cur.toList.take (off + xs.length * i.size)).length = off + xs.length * i.size:=by
     have h8 : cur.toList.length = cur.size:=Array.length_toList
     have h9:=hfit
     rw [List.length_take]; omega
    rw [List.flatMap_append]
    by_cases hjx : j < xs.length * ek.size
    ·rw [List.getElem?_append_left (by rw [hl0,hsize]; omega),List.getElem?_take_of_lt (by rw [hsize]; omega),Array.getElem?_toList,htake j hjx,
       List.getElem?_append_left (by rw [flat_len ek.len]; exact hjx)]
    ·rw [List.getElem?_append_right (by rw [hl0,hsize]; omega),hl0,List.getElem?_append_left (by rw [flat_len ek.len,hsize]; omega),
       List.getElem?_append_right (by rw [flat_len ek.len]; omega),flat_len ek.len]
     congr 1
     rw [hsize]; omega
  ·cases a with
   | none =>
     obtain rfl:=ha rfl
     exact absurd hnc (by simpa using hroom)
   | some b =>
     have hr:=run_append_grow (P:=P) w t ty e i z ht hi hz ⟨g,off,none⟩ xs.length cap _ hlx holds b ys.length c _ hly (hcell b rfl) (by omega) (by omega) (growslice_fits (by omega) hbytes)
     refine ⟨_,_,hr,grown cap,grownK cap _,fun k hk => .inr ?_,by simp⟩
     have : w.heap.size = k:=by simpa [Value.ownBlock] using hk
     omega
end
section
variable {P : Program} {w : World} {ops : Array Oper} {rest : List Oper} {o : Oper} {a : Act}
theorem wp_append_run {K : Act → World → Prop} {Q : Exit → Act → World → Prop} (s x : Operand) (t : TypeId) (ho : o.op = .call { callee:=.builtin .append,args:=#[s,x],argTypes:=#[t,t] })
 (v u : Value) (hs : a.eval s = v) (hx : a.eval x = u) (v' : Value) (w' : World) (hrun : (Builtin.append_ #[t,t] o.type #[v,u]).run P w = .ok v' w') (h : K (a.put o.dst v') w') : Oper.wp P o a w K Q:=by
 unfold Oper.wp
 simp [execOp,ho,resolve,invoke,builtin,hs,hx,hrun,Result.andThen]
 exact h
theorem step_append_run {K : Act → World → Prop} {Q : Exit → Act → World → Prop} {E : Prop} (hgd : o.guard = none) (s x : Operand) (t : TypeId) (ho : o.op = .call { callee:=.builtin .append,args:=#[s,x],argTypes:=#[t,t] })
 (v u : Value) (hs : a.eval s = v) (hx : a.eval x = u) (v' : Value) (w' : World) (hrun : (Builtin.append_ #[t,t] o.type #[v,u]).run P w = .ok v' w') (h : K (a.put o.dst v') w') :
 if Region.wanted o (yielded ops a.tmps) = true then Oper.wp P o a w K Q else E:=by
 have hw : Region.wanted o (yielded ops a.tmps) = true:=by simp [Region.wanted,hgd]
 rw [if_pos hw]
 exact wp_append_run s x t ho v u hs hx v' w' hrun h
theorem wpList_append_run {Q : Exit → Act → World → Prop} (hgd : o.guard = none) (s x : Operand) (t : TypeId) (ho : o.op = .call { callee:=.builtin .append,args:=#[s,x],argTypes:=#[t,t] })
 (v u : Value) (hs : a.eval s = v) (hx : a.eval x = u) (v' : Value) (w' : World) (hrun : (Builtin.append_ #[t,t] o.type #[v,u]).run P w = .ok v' w') (h : wpList P ops Q rest (a.put o.dst v') w') : wpList P ops Q (o :: rest) a w :=
 wpList_plain hgd fun _ hK => wp_append_run s x t ho v u hs hx v' w' hrun (hK _ _ h)
theorem wpList_delete_run {Q : Exit → Act → World → Prop} (hgd : o.guard = none) (s x : Operand) (t k : TypeId) (ho : o.op = .call { callee:=.builtin .delete,args:=#[s,x],argTypes:=#[t,k] })
 (v u : Value) (hs : a.eval s = v) (hx : a.eval x = u) (v' : Value) (w' : World) (hrun : (Builtin.delete_ #[t,k] o.type #[v,u]).run P w = .ok v' w') (h : wpList P ops Q rest (a.put o.dst v') w') : wpList P ops Q (o :: rest) a w:=by
 refine wpList_plain hgd fun _ hK => ?_
 unfold Oper.wp
 simp [execOp,ho,resolve,invoke,builtin,hs,hx,hrun,Result.andThen]
 exact hK _ _ h
theorem wp_mapUpdate_run {K : Act → World → Prop} {Q : Exit → Act → World → Prop} (m x v : Operand) (t : TypeId) (ho : o.op = .mapUpdate t m x v) (mv kv vv : Value) (hm : a.eval m = mv) (hx : a.eval x = kv) (hv : a.eval v = vv) (w' : World)
 (hrun : (Instr.mapUpdate t mv kv vv).run P w = .ok () w') (h : K (a.put o.dst undef) w') : Oper.wp P o a w K Q:=by
 unfold Oper.wp
 simp [execOp,ho,hm,hx,hv,hrun,Result.andThen]
 exact h
theorem wpList_mapUpdate_run {Q : Exit → Act → World → Prop} (hgd : o.guard = none) (m x v : Operand) (t : TypeId) (ho : o.op = .mapUpdate t m x v) (mv kv vv : Value) (hm : a.eval m = mv) (hx : a.eval x = kv) (hv : a.eval v = vv) (w' : World)
 (hrun : (Instr.mapUpdate t mv kv vv).run P w = .ok () w') (h : wpList P ops Q rest (a.put o.dst undef) w') : wpList P ops Q (o :: rest) a w :=
 wpList_plain hgd fun _ hK => wp_mapUpdate_run m x v t ho mv kv vv hm hx hv w' hrun (hK _ _ h)
end
structure FileS where
 data : List UInt8
 synced : Nat
structure FsS where
 room : Int
 used : Int
 files : List (ByteArray × FileS)
 steps : Int
 armed : Int
 down : Bool
namespace FsS
def find (F : FsS) (n : ByteArray) : Option FileS:=findL slt F.files n
def set (F : FsS) (n : ByteArray) (x : FileS) : FsS:={ F with files:=putL slt F.files n x }
def write (F : FsS) (eff : FsS → FsS) : FsS × Int :=
 if 0 < F.armed then
  if F.armed = 1 then ({ F with armed:=0,down:=true },5)
  else ({ eff { F with armed:=F.armed - 1 } with steps:=(eff { F with armed:=F.armed - 1 }).steps + 1 },0)
 else ({ eff F with steps:=(eff F).steps + 1 },0)
end FsS
structure Pl where
 g : Nat
 v : Value
 fl : FileS
abbrev evP (p : Pl) : Value:=.pointer (some ⟨p.g,0,none⟩)
structure PlAt (w : World) (p : Pl) : Prop where
 blk : IsBlk w p.g #[p.v,.int .i64 (p.fl.synced : Int)] 107
 bytes : SlAt byteKind 5 w p.v p.fl.data
def blocksOf (p : Pl) (k : Nat) : Prop:=k = p.g ∨ p.v.ownBlock = some k
abbrev fsCells (F : FsS) (mb : Nat) : Array Value:=#[.int .i64 F.room,.int .i64 F.used,.map (some mb),.int .i64 F.steps,.int .i64 F.armed,.bool F.down]
abbrev Apart (rs : List (ByteArray × Pl)) : Prop:=rs.Pairwise fun a b => a.2.g ≠ b.2.g ∧ ∀ k,a.2.v.ownBlock = some k → b.2.v.ownBlock ≠ some k
abbrev flOf (rs : List (ByteArray × Pl)) : List (ByteArray × FileS):=rs.map fun x => (x.1,x.2.fl)
structure FsAt (w : World) (fb : Nat) (F : FsS) (S : Nat → Prop) (mb : Nat) (rs : List (ByteArray × Pl)) : Prop where
 blk : IsBlk w fb (fsCells F mb) 102
 map : MapAt strKind evP w mb rs
 files : F.files = flOf rs
 pl : ∀ x ∈ rs,PlAt w x.2
 apart : Apart rs
 sfb : S fb
 smb : S mb
 sp : ∀ x ∈ rs,∀ k,blocksOf x.2 k → S k
 lt : ∀ k,S k → k < w.heap.size
def FsIs (w : World) (fb : Nat) (F : FsS) (S : Nat → Prop) : Prop:=∃ mb rs,FsAt w fb F S mb rs
def New (w w' : World) (S : Nat → Prop) (k : Nat) : Prop:=S k ∨ (w.heap.size ≤ k ∧ k < w'.heap.size)
def FsPost (w : World) (fb : Nat) (F : FsS) (S : Nat → Prop) (w' : World) : Prop:=FsIs w' fb F (New w w' S) ∧ Keeps S w w'
theorem blk_ne_type {w : World} {b c : Nat} {cs ds : Array Value} {T U : TypeId} (h : IsBlk w b cs T) (k : IsBlk w c ds U) (hne : T ≠ U) : b ≠ c:=by
 rintro rfl
 have : some (Obj.cells cs T (0,0)) = some (Obj.cells ds U (0,0)):=h.symm.trans k
 simp only [Option.some.injEq,Obj.cells.injEq] at this
 exact hne this.2.1
section
variable {w w' : World} {fb mb : Nat} {F : FsS} {S T : Nat → Prop} {rs : List (ByteArray × Pl)}
theorem PlAt.keeps {p : Pl} (h : PlAt w p) (hk : Keeps T w w') (hn : ∀ k,blocksOf p k → ¬ T k) : PlAt w' p :=
 ⟨hk.obj h.blk (hn _ (.inl rfl)),h.bytes.keeps hk (fun g hg => hn g (.inr hg))⟩
theorem FsAt.keeps (h : FsAt w fb F S mb rs) (hk : Keeps T w w') (hT : ∀ k,T k → ¬ S k) : FsAt w' fb F S mb rs :=
 ⟨hk.obj h.blk (fun e => hT _ e h.sfb),h.map.keeps hk (fun e => hT _ e h.smb),h.files,fun x hx => (h.pl x hx).keeps hk (fun k hk e => hT k e (h.sp x hx k hk)),h.apart,h.sfb,h.smb,h.sp,fun k hs => Nat.lt_of_lt_of_le (h.lt k hs) hk.size⟩
theorem FsAt.below (h : FsAt w fb F S mb rs) (hk : Below w.heap.size w w') : FsAt w' fb F S mb rs:=h.keeps (Keeps.of_below hk) (fun _ e => e.elim)
theorem FsAt.mono (h : FsAt w fb F S mb rs) (hs : ∀ k,S k → T k) (hl : ∀ k,T k → k < w.heap.size) : FsAt w fb F T mb rs :=
 ⟨h.blk,h.map,h.files,h.pl,h.apart,hs _ h.sfb,hs _ h.smb,fun x hx k hk => hs k (h.sp x hx k hk),hl⟩
theorem FsIs.keeps (h : FsIs w fb F S) (hk : Keeps T w w') (hT : ∀ k,T k → ¬ S k) : FsIs w' fb F S:=by obtain ⟨mb,rs,h⟩:=h; exact ⟨mb,rs,h.keeps hk hT⟩
theorem FsIs.below (h : FsIs w fb F S) (hk : Below w.heap.size w w') : FsIs w' fb F S:=by obtain ⟨mb,rs,h⟩:=h; exact ⟨mb,rs,h.below hk⟩
theorem FsIs.mono (h : FsIs w fb F S) (hs : ∀ k,S k → T k) (hl : ∀ k,T k → k < w.heap.size) : FsIs w fb F T:=by obtain ⟨mb,rs,h⟩:=h; exact ⟨mb,rs,h.mono hs hl⟩
theorem FsIs.lt (h : FsIs w fb F S) : ∀ k,S k → k < w.heap.size:=by obtain ⟨mb,rs,h⟩:=h; exact h.lt
theorem new_lt (h : ∀ k,S k → k < w.heap.size) (hk : w.heap.size ≤ w'.heap.size) : ∀ k,New w w' S k → k < w'.heap.size:=by
 rintro k (h1 | h1)
 ·have:=h k h1; omega
 ·exact h1.2
theorem FsIs.post (h : FsIs w fb F S) (hk : Below w.heap.size w w') : FsPost w fb F S w' :=
 ⟨(h.below hk).mono (fun _ h => .inl h) (new_lt h.lt hk.size),(Keeps.of_below hk).mono (fun _ _ e => e.elim)⟩
theorem keeps_new {a b c : World} (h : Keeps S a b) (k : Keeps (New a b S) b c) : Keeps S a c :=
 h.trans k (fun i hi e => by rcases e with e | e; exact e; exact absurd e.1 (by omega))
theorem FsPost.trans {a b c : World} {F G : FsS} (h : FsPost a fb F S b) (k : FsPost b fb G (New a b S) c) : FsPost a fb G S c :=
 ⟨k.1.mono (fun i e => by
  rcases e with (e | e) | e
  ·exact .inl e
  ·exact .inr ⟨e.1,by have:=k.2.size; omega⟩
  ·exact .inr ⟨by have:=h.2.size; omega,e.2⟩) (by
  rintro i (e | e)
  ·have:=h.1.lt i (.inl e); have:=k.2.size; omega
  ·exact e.2),keeps_new h.2 k.2⟩
theorem FsPost.trans_keeps {a b c : World} (h : Below a.heap.size a b) (hS : ∀ k,S k → k < a.heap.size) (k : FsPost b fb F S c) : FsPost a fb F S c :=
 ⟨k.1.mono (fun i e => by
  rcases e with e | e
  ·exact .inl e
  ·exact .inr ⟨by have:=h.size; omega,e.2⟩) (by
  rintro i (e | e)
  ·have:=hS i e; have:=h.size; have:=k.2.size; omega
  ·exact e.2),(Keeps.of_below h).mono (fun _ _ e => e.elim) |>.trans' k.2⟩
theorem FsAt.setCell (h : FsAt w fb F S mb rs) {F' : FsS} {i : Nat} {u : Value} (hF : F'.files = F.files) (hc : (fsCells F mb).setIfInBounds i u = fsCells F' mb) : FsAt (w.setCell ⟨fb,i,none⟩ u) fb F' S mb rs:=by
 have k : Keeps (fun k => k = fb) w (w.setCell ⟨fb,i,none⟩ u):=(Keeps.refl (fun k => k = fb) w).setCell (p:=⟨fb,i,none⟩) (fun _ => rfl) u
 refine ⟨hc ▸ blk_set h.blk i u,h.map.keeps k (fun e => h.map.not_blk h.blk e.symm),hF.trans h.files,fun x hx => (h.pl x hx).keeps k ?_,h.apart,h.sfb,h.smb,h.sp,fun k hs => by simpa using h.lt k hs⟩
 rintro j (rfl | e) rfl
 ·exact blk_ne_type (h.pl x hx).blk h.blk (by decide) rfl
 ·obtain ⟨cur,hb⟩:=(h.pl x hx).bytes.own _ e
  exact blk_ne_type hb h.blk (by decide) rfl
theorem FsAt.find (h : FsAt w fb F S mb rs) (n : ByteArray) : F.find n = (findL slt rs n).map (·.fl):=by
 unfold FsS.find; rw [h.files]
 unfold findL flOf
 rw [List.find?_map,Option.map_map,Option.map_map]
 rfl
theorem putL_map {K V W : Type} {lt : K → K → Bool} (f : V → W) (m : List (K × V)) (k : K) (v : V) : (putL lt m k v).map (fun x => (x.1,f x.2)) = putL lt (m.map fun x => (x.1,f x.2)) k (f v):=by
 unfold putL
 rw [List.map_append,List.map_cons,List.filter_map,List.filter_map]
 rfl
theorem dropL_map {K V W : Type} {lt : K → K → Bool} (f : V → W) (m : List (K × V)) (k : K) : (dropL lt m k).map (fun x => (x.1,f x.2)) = dropL lt (m.map fun x => (x.1,f x.2)) k:=by
 unfold dropL
 rw [List.filter_map]
 rfl
theorem MapAt.congr {K V : Type} {kk : KeyKind K} {ev : V → Value} {b : Nat} {m m' : List (K × V)} (h : MapAt kk ev w b m) (e : m.map (fun x => (x.1,ev x.2)) = m'.map (fun x => (x.1,ev x.2))) : MapAt kk ev w b m':=by
 obtain ⟨hr,es,c,hb,hs,hp⟩:=h
 refine ⟨?_,es,c,hb,hs,?_⟩
 ·unfold Rise at hr ⊢
  have h1 : (m.map (fun x => (x.1,ev x.2))).Pairwise (fun a b => kk.lt a.1 b.1 = true):=by rw [List.pairwise_map]; exact hr
  rw [e,List.pairwise_map] at h1
  exact h1
 ·have e2 : m.map (fun x => (kk.ek x.1,ev x.2)) = (m.map (fun x => (x.1,ev x.2))).map (fun x => (kk.ek x.1,x.2)):=by rw [List.map_map]; rfl
  have e3 : m'.map (fun x => (kk.ek x.1,ev x.2)) = (m'.map (fun x => (x.1,ev x.2))).map (fun x => (kk.ek x.1,x.2)):=by rw [List.map_map]; rfl
  rw [e3,← e,← e2]; exact hp
theorem findL_split {K V : Type} {lt : K → K → Bool} (H : KeyOrd lt) {m : List (K × V)} {k : K} {v : V} (h : findL lt m k = some v) : ∃ a b,m = a ++ (k,v) :: b:=by
 unfold findL at h
 obtain ⟨x,hx,rfl⟩:=Option.map_eq_some_iff.1 h
 have h1:=List.find?_some hx
 simp only [Bool.and_eq_true,Bool.not_eq_true'] at h1
 obtain ⟨a,b,e⟩:=List.append_of_mem (List.mem_of_find?_eq_some hx)
 have:=H.eq _ _ h1.1 h1.2
 subst this
 exact ⟨a,b,e⟩
theorem FsAt.setFile (h : FsAt w fb F S mb rs) {n : ByteArray} {p q : Pl} (hf : findL slt rs n = some p) (hg : q.g = p.g) (hk : Keeps (blocksOf p) w w') (hq : PlAt w' q) (ho : ∀ k,q.v.ownBlock = some k → p.v.ownBlock = some k ∨ w.heap.size ≤ k) :
 FsAt w' fb (F.set n q.fl) (New w w' S) mb (putL slt rs n q) ∧ Keeps S w w':=by
 obtain ⟨a,c,e⟩:=findL_split slt_ord hf
 have hm : (n,p) ∈ rs:=by rw [e]; simp
 have hr:=h.map.rise
 have hp : putL slt rs n q = a ++ (n,q) :: c:=by rw [e]; rw [e] at hr; exact putL_eq slt_ord hr
 have hS : ∀ k,blocksOf p k → S k:=h.sp _ hm
 have nfb : ¬ blocksOf p fb:=by
  rintro (e1 | e1)
  ·exact blk_ne_type (h.pl _ hm).blk h.blk (by decide) e1.symm
  ·obtain ⟨cur,hb⟩:=(h.pl _ hm).bytes.own _ e1
   exact blk_ne_type hb h.blk (by decide) rfl
 have nmb : ¬ blocksOf p mb:=by
  rintro (e1 | e1)
  ·exact h.map.not_blk (h.pl _ hm).blk e1.symm
  ·obtain ⟨cur,hb⟩:=(h.pl _ hm).bytes.own _ e1
   exact h.map.not_blk hb rfl
 have hap:=h.apart
 rw [e] at hap
 have hap':=List.pairwise_append.1 hap
 have hap2:=List.pairwise_cons.1 hap'.2.1
 have oth : ∀ x ∈ a ++ c,x ∈ rs ∧ x.2.g ≠ p.g ∧ ∀ k,x.2.v.ownBlock = some k → p.v.ownBlock ≠ some k:=by
  intro x hx
  rcases List.mem_append.1 hx with hx | hx
  ·have:=hap'.2.2 x hx (n,p) (by simp)
   exact ⟨by rw [e]; simp [hx],this.1,this.2⟩
  ·have:=hap2.1 x hx
   exact ⟨by rw [e]; simp [hx],fun e1 => this.1 e1.symm,fun k e1 e2 => this.2 k e2 e1⟩
 have nx : ∀ x ∈ a ++ c,∀ k,blocksOf x.2 k → ¬ blocksOf p k:=by
  intro x hx k hk1 hk2
  obtain ⟨hx1,hx2,hx3⟩:=oth x hx
  rcases hk1 with rfl | hk1
  ·rcases hk2 with hk2 | hk2
   ·exact hx2 hk2
   ·obtain ⟨cur,hb⟩:=(h.pl _ hm).bytes.own _ hk2
    exact blk_ne_type hb (h.pl _ hx1).blk (by decide) rfl
  ·rcases hk2 with rfl | hk2
   ·obtain ⟨cur,hb⟩:=(h.pl _ hx1).bytes.own _ hk1
    exact blk_ne_type hb (h.pl _ hm).blk (by decide) rfl
   ·exact hx3 k hk1 hk2
 have hlt : ∀ x ∈ a ++ c,∀ k,blocksOf x.2 k → k < w.heap.size:=fun x hx k hk1 => h.lt k (h.sp x (oth x hx).1 k hk1)
 refine ⟨⟨hk.obj h.blk nfb,?_,?_,?_,?_,.inl h.sfb,.inl h.smb,?_,new_lt h.lt hk.size⟩,hk.mono (fun k _ e => hS k e)⟩
 ·rw [hp]
  refine (h.map.keeps hk nmb).congr ?_
  rw [e]; simp [evP,hg]
 ·show putL slt F.files n q.fl = _
  rw [h.files]; exact (putL_map (fun q : Pl => q.fl) rs n q).symm
 ·intro x hx
  rw [hp] at hx
  have hx' : x ∈ a ++ c ∨ x = (n,q):=by
   rcases List.mem_append.1 hx with hx | hx
   ·exact .inl (by simp [hx])
   rcases List.mem_cons.1 hx with hx | hx
   ·exact .inr hx
   ·exact .inl (by simp [hx])
  rcases hx' with hx' | rfl
  ·exact (h.pl x (oth x hx').1).keeps hk (nx x hx')
  ·exact hq
 ·rw [hp]
  show List.Pairwise _ _
  rw [List.pairwise_append,List.pairwise_cons]
  refine ⟨hap'.1,⟨?_,hap2.2⟩,?_⟩
  ·intro x hx
   have h1:=oth x (by simp [hx])
   refine ⟨fun e1 => h1.2.1 (by rw [← e1,hg]),fun k e1 e2 => ?_⟩
   rcases ho k e1 with e3 | e3
   ·exact h1.2.2 k e2 e3
   ·have:=hlt x (by simp [hx]) k (.inr e2); omega
  ·intro x hx y hy
   rcases List.mem_cons.1 hy with rfl | hy
   ·have h1:=oth x (by simp [hx])
    refine ⟨fun e1 => h1.2.1 (by rw [e1,hg]),fun k e1 e2 => ?_⟩
    rcases ho k e2 with e3 | e3
    ·exact h1.2.2 k e1 e3
    ·have:=hlt x (by simp [hx]) k (.inr e1); omega
   ·exact hap'.2.2 x hx y (by simp [hy])
 ·intro x hx k hk1
  rw [hp] at hx
  have hx' : x ∈ a ++ c ∨ x = (n,q):=by
   rcases List.mem_append.1 hx with hx | hx
   ·exact .inl (by simp [hx])
   rcases List.mem_cons.1 hx with hx | hx
   ·exact .inr hx
   ·exact .inl (by simp [hx])
  rcases hx' with hx' | rfl
  ·exact .inl (h.sp x (oth x hx').1 k hk1)
  ·rcases hk1 with rfl | hk1
   ·exact .inl (hS _ (.inl hg))
   ·rcases ho k hk1 with e3 | e3
    ·exact .inl (hS _ (.inr e3))
    ·obtain ⟨cur,hb⟩:=hq.bytes.own _ hk1
     exact .inr ⟨e3,lt_of_block hb⟩
end
def oddR (r : Nat) : Bool:=(decide (r < 97) || decide (122 < r)) && (decide (r < 48) || decide (57 < r)) && r != 45 && r != 46 && r != 47
def okName (n : ByteArray) : Bool :=
 decide (n.size ≠ 0) && decide (n.size ≤ 100) && !decide (0 ≤ Lib.idxFunc oddR true n) && (n.get! 0 != 47) && (n.get! (n.size - 1) != 47)
namespace FsS
def on (F : FsS) (n : ByteArray) (k : FileS → FsS × Int) : FsS × Int:=if F.down then (F,5) else match F.find n with | none => (F,2) | some x => k x
def sync (F : FsS) (n : ByteArray) : FsS × Int:=F.on n fun x => F.write fun G => G.set n ⟨x.data,x.data.length⟩
def append (F : FsS) (n : ByteArray) (b : List UInt8) : FsS × Int:=F.on n fun x => if F.room - F.used < b.length then (F,4) else F.write fun G => { G.set n ⟨x.data ++ b,x.synced⟩ with used:=G.used + b.length }
def cut (F : FsS) (n : ByteArray) (x : FileS) (k : Nat) : FsS:={ F.set n ⟨x.data.take k,min x.synced k⟩ with used:=F.used - (x.data.length - k) }
def truncate (F : FsS) (n : ByteArray) (k : Int) : FsS × Int:=F.on n fun x => if k < 0 ∨ (x.data.length : Int) < k then (F,6) else F.write fun G => G.cut n x k.toNat
def remove (F : FsS) (n : ByteArray) : FsS × Int:=F.on n fun x => F.write fun G => { G with used:=G.used - x.data.length,files:=dropL slt G.files n }
def create (F : FsS) (n : ByteArray) : FsS × Int :=
 if F.down then (F,5) else if okName n = false then (F,1) else if (F.find n).isSome then (F,3) else if 400 ≤ F.files.length then (F,4) else F.write fun G => G.set n ⟨[],0⟩
def moved (G : FsS) (a b : ByteArray) (x : FileS) : FsS :=
 if a = b then G else { G with used:=G.used - (match G.find b with | none => 0 | some y => (y.data.length : Int)),files:=dropL slt (putL slt G.files b x) a }
def rename (F : FsS) (a b : ByteArray) : FsS × Int:=F.on a fun x => if okName b = false then (F,1) else F.write fun G => G.moved a b x
end FsS
def sumLen (l : List (ByteArray × FileS)) : Int:=(l.map fun x => (x.2.data.length : Int)).sum
structure FsOk (F : FsS) (k : Nat) : Prop where
 rise : Rise slt F.files
 room0 : 0 ≤ F.room
 room1 : F.room ≤ 67108864
 used : F.used = sumLen F.files
 fits : F.used ≤ F.room
 synced : ∀ x ∈ F.files,x.2.synced ≤ x.2.data.length
 armed0 : 0 ≤ F.armed
 armed1 : F.armed ≤ 9223372036854775807
 steps0 : 0 ≤ F.steps
 steps1 : F.steps ≤ k
 few : F.files.length ≤ 400
 valid : ∀ x ∈ F.files,okName x.1 = true
theorem sumLen_nonneg (l : List (ByteArray × FileS)) : 0 ≤ sumLen l:=by
 induction l with
 | nil => simp [sumLen]
 | cons x l ih => simp only [sumLen,List.map_cons,List.sum_cons] at ih ⊢; omega
theorem sumLen_append (a b : List (ByteArray × FileS)) : sumLen (a ++ b) = sumLen a + sumLen b:=by simp [sumLen]
theorem sumLen_cons (x : ByteArray × FileS) (b : List (ByteArray × FileS)) : sumLen (x :: b) = x.2.data.length + sumLen b:=by simp [sumLen]
theorem sumLen_mem {l : List (ByteArray × FileS)} {x : ByteArray × FileS} (h : x ∈ l) : (x.2.data.length : Int) ≤ sumLen l:=by
 obtain ⟨a,b,rfl⟩:=List.append_of_mem h
 rw [sumLen_append,sumLen_cons]
 have:=sumLen_nonneg a
 have:=sumLen_nonneg b
 omega
section
variable {F : FsS} {k : Nat}
theorem FsOk.used0 (h : FsOk F k) : 0 ≤ F.used:=by rw [h.used]; exact sumLen_nonneg _
theorem FsOk.find_mem {n : ByteArray} {x : FileS} (hx : F.find n = some x) : (n,x) ∈ F.files:=by
 obtain ⟨a,b,e⟩:=findL_split slt_ord hx
 rw [e]; simp
theorem FsOk.len (h : FsOk F k) {n : ByteArray} {x : FileS} (hx : F.find n = some x) : (x.data.length : Int) ≤ 67108864 ∧ x.synced ≤ x.data.length ∧ (x.data.length : Int) ≤ F.used:=by
 have hm:=FsOk.find_mem hx
 have h1:=sumLen_mem hm
 have h2:=h.used
 have h3:=h.fits
 have h4:=h.room1
 have h5:=h.synced _ hm
 simp only at h1 h5
 omega
end
end Go.Proofs.YtagdchgkjjpacaaGreat
