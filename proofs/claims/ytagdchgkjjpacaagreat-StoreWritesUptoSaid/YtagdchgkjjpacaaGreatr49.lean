/- What the arguments of the store's statements give: changes, batches, crashes, texts. -/
import Derived.Test.YtagdchgkjjpacaaGreatr47
import Derived.Test.YtagdchgkjjpacaaGreatr07
import Derived.Test.YtagdchgkjjpacaaGreatr38
set_option maxRecDepth 100000
namespace Go.Proofs.YtagdchgkjjpacaaGreat
open Go.ChangeShapes Go.WideShapes Go.ChangeAt Go.RowKit
theorem cellsChg : Tryz.prog.cellsOf 42 = 3:=by kernel_rfl
theorem cellsChgs : Tryz.prog.cellsOf 22 = 1:=by kernel_rfl
theorem cellsBool : Tryz.prog.cellsOf 4 = 1:=by kernel_rfl
instance instSlV2 : Inhabited SlV:=⟨⟨none,0,0⟩⟩
instance : Inhabited Chg:=⟨⟨.empty,.empty,false⟩⟩
theorem bulkPos {H : Type} (d : DataW H) : 1 ≤ Rows.uptoBulk d:=by
 cases d with
 | lit l => cases l <;> simp [Rows.uptoBulk]
 | nil => simp [Rows.uptoBulk]
 | ptr d => simp [Rows.uptoBulk]
 | slice a b => simp [Rows.uptoBulk]
 | agg a => simp [Rows.uptoBulk]
 | iface a b => simp [Rows.uptoBulk]
 | map a => simp [Rows.uptoBulk]
 | held a => simp [Rows.uptoBulk]
theorem bulkLen {H : Type} : ∀ l : List (DataW H),l.length ≤ Rows.uptoBulkAll l
 | [] => by simp [Rows.uptoBulkAll]
 | d :: l => by
   have:=bulkPos d
   have:=bulkLen l
   simp only [Rows.uptoBulkAll,List.length_cons]
   omega
theorem bulkMem {H : Type} {d : DataW H} : ∀ {l : List (DataW H)},d ∈ l → Rows.uptoBulk d ≤ Rows.uptoBulkAll l
 | x :: l,h => by
   simp only [Rows.uptoBulkAll]
   rcases List.mem_cons.1 h with e | e
   ·subst e; omega
   ·have:=bulkMem e; omega
section
variable {H : Type} {enc : TypeId × Value → H} {W : World} {base : Nat} {spare : Nat → Bool} {held : Bool}
theorem chg_open {n : Nat} {cs : List Value} {x : DataW H × List MemPlace} (h : DataW.trod enc Tryz.prog W base spare held n 42 cs = some x) :
 ∃ c : Chg,cs = [.string c.key,.string c.val,.bool c.drop] ∧ c.key.size ≤ Rows.uptoBulk x.1 ∧ c.val.size ≤ Rows.uptoBulk x.1:=by
 obtain ⟨xs,m,_,ex,hl,hx,hf⟩:=DataW.trod_struct Tryz.underlying42 h
 have hl : cs.length = 3:=hl.trans cellsChg
 have hx : xs.length = 3:=hx
 obtain ⟨c0,c1,c2,rfl⟩ : ∃ c0 c1 c2,cs = [c0,c1,c2]:=by
  match cs,hl with
  | [c0,c1,c2],_ => exact ⟨_,_,_,rfl⟩
 obtain ⟨y0,y1,y2,rfl⟩ : ∃ y0 y1 y2,xs = [y0,y1,y2]:=by
  match xs,hx with
  | [c0,c1,c2],_ => exact ⟨_,_,_,rfl⟩
 have g0 : DataW.trod enc Tryz.prog W base spare held m 9 (([c0,c1,c2].drop 0).take (Tryz.prog.cellsOf 9)) = some y0:=hf 0 _ rfl
 rw [cellsStr] at g0
 have g1 : DataW.trod enc Tryz.prog W base spare held m 9 (([c0,c1,c2].drop 1).take (Tryz.prog.cellsOf 9)) = some y1:=hf 1 _ rfl
 rw [cellsStr] at g1
 have g2 : DataW.trod enc Tryz.prog W base spare held m 4 (([c0,c1,c2].drop 2).take (Tryz.prog.cellsOf 4)) = some y2:=hf 2 _ rfl
 rw [cellsBool] at g2
 obtain ⟨k,e0,z0,_⟩:=DataW.trod_string Tryz.underlying9 (x:=y0) g0
 obtain ⟨v,e1,z1,_⟩:=DataW.trod_string Tryz.underlying9 (x:=y1) g1
 obtain ⟨d,e2,z2⟩:=DataW.trod_bool Tryz.underlying4 (x:=y2) g2
 injection e0 with e0 _
 injection e1 with e1 _
 injection e2 with e2 _
 subst e0 e1 e2
 refine ⟨⟨k,v,d⟩,rfl,?_,?_⟩
 ·rw [ex]
  have h1:=bulkMem (d:=y0.1) (l:=([y0,y1,y2].map (·.1))) (by simp)
  rw [z0] at h1
  have e : (Rows.uptoBulk (.lit (.string k.data.toList) : DataW H)) = k.data.toList.length + 1:=by simp [Rows.uptoBulk]
  rw [e] at h1
  have e2 : k.data.toList.length = k.size:=rfl
  show k.size ≤ Rows.uptoBulk (.agg _)
  simp only [Rows.uptoBulk]
  rw [z0]
  omega
 ·rw [ex]
  have h1:=bulkMem (d:=y1.1) (l:=([y0,y1,y2].map (·.1))) (by simp)
  rw [z1] at h1
  have e : (Rows.uptoBulk (.lit (.string v.data.toList) : DataW H)) = v.data.toList.length + 1:=by simp [Rows.uptoBulk]
  rw [e] at h1
  have e2 : v.data.toList.length = v.size:=rfl
  show v.size ≤ Rows.uptoBulk (.agg _)
  simp only [Rows.uptoBulk]
  rw [z1]
  omega
theorem chgs_open {n : Nat} {cs : List Value} {x : DataW H × List MemPlace} (h : DataW.trod enc Tryz.prog W base spare held n 22 cs = some x) :
 ∃ (a : Option Addr) (cap : Nat) (l : List Chg),cs = [.slice a l.length cap] ∧ RdAt chgKind W (.slice a l.length cap) l ∧ l.length ≤ Rows.uptoBulk x.1 ∧ ∀ c ∈ l,c.key.size ≤ Rows.uptoBulk x.1 ∧ c.val.size ≤ Rows.uptoBulk x.1:=by
 rcases Go.Deep.open_slice Tryz.underlying22 h with ⟨hcs,_⟩ | ⟨a,len,cap,m,nn,D,Pl,hcs,_,hl,hm,hmm,hx,hi⟩
 ·exact ⟨none,0,[],hcs,⟨none,0,rfl,fun j x hx => by simp at hx⟩,Nat.zero_le _,fun c hc => by simp at hc⟩
 ·have hlm : len ≤ m:=by rw [hmm]; split <;> omega
  have cell : ∀ i,i < len → ∃ c : Chg,W.cell? ((a.add (i * 3)).add 0) = some (.string c.key) ∧ W.cell? ((a.add (i * 3)).add 1) = some (.string c.val) ∧ W.cell? ((a.add (i * 3)).add 2) = some (.bool c.drop) ∧ c.key.size ≤ Rows.uptoBulk (D i) ∧ c.val.size ≤ Rows.uptoBulk (D i):=by
   intro i hil
   obtain ⟨cs',hc,ht⟩:=hi i (by omega)
   rw [cellsChg] at hc
   obtain ⟨c,rfl,b1,b2⟩:=chg_open ht
   obtain ⟨_,_,hat⟩:=World.cells?_some hc
   exact ⟨c,hat 0 (by omega),hat 1 (by omega),hat 2 (by omega),b1,b2⟩
  obtain ⟨f,hf⟩:=Go.Deep.choose_lt cell
  have hlen : ((List.range len).map f).length = len:=by rw [List.length_map,List.length_range]
  have hbulk : Rows.uptoBulkAll ((List.range len).map D) ≤ Rows.uptoBulk x.1:=by
   rw [hx]
   simp only [Rows.uptoBulk]
   omega
  refine ⟨some a,cap,(List.range len).map f,by rw [hlen]; exact hcs,⟨some a,cap,by rw [hlen],fun j x hxj => ?_⟩,?_,fun c hc => ?_⟩
  ·have hj : j < len:=by
    have:=(List.getElem?_eq_some_iff.1 hxj).1
    omega
   have ex : x = f j:=by
    rw [List.getElem?_map,List.getElem?_range hj] at hxj
    exact (Option.some.inj hxj).symm
   subst ex
   obtain ⟨z0,_⟩:=hf 0 (by omega)
   have sp : a.spot = none:=spot_of_cell z0
   obtain ⟨k0,k1,k2,_⟩:=hf j hj
   have e : ∀ u,(a.add (j * 3)).add u = ⟨a.block,a.off + j * 3 + u,none⟩:=fun u => by
    rw [add_plain sp (j * 3)]
    exact add_plain rfl u
   rw [e] at k0 k1 k2
   refine ⟨a.block,a.off,?_,fun i hi3 => ?_⟩
   ·have:=add_plain sp 0
    rw [show a.add 0 = a from rfl] at this
    rw [this]
   ·have hi3 : i < 3:=hi3
    match i,hi3 with
    | 0,_ => exact k0
    | 1,_ => exact k1
    | 2,_ => exact k2
  ·have h1:=bulkLen ((List.range len).map D)
   rw [List.length_map,List.length_range] at h1
   rw [hlen]
   omega
  ·obtain ⟨j,hj⟩:=List.getElem?_of_mem hc
   have hj2 : j < len:=by
    have:=(List.getElem?_eq_some_iff.1 hj).1
    omega
   have ex : c = f j:=by
    rw [List.getElem?_map,List.getElem?_range hj2] at hj
    exact (Option.some.inj hj).symm
   obtain ⟨_,_,_,b1,b2⟩:=hf j hj2
   have h2:=bulkMem (d:=D j) (l:=(List.range len).map D) (List.mem_map.2 ⟨j,List.mem_range.2 hj2,rfl⟩)
   rw [ex]
   omega
theorem bats_open {r : Reach} {b0 : Nat} {v : Value} {d : DataW H} {p : List MemPlace} (hv : Value.okWide Tryz.prog W r b0 26 v) (h : DataW.Trod enc Tryz.prog W base spare held 26 v d p) (hb : Rows.uptoBulk d ≤ 1048576) :
 ∃ ls : List (List Chg),BatsAt W v ls:=by
 obtain ⟨a0,l0,c0,rfl⟩:=okWide_slice Tryz.underlying26 hv
 obtain ⟨fuel,hf⟩:=h
 rcases Go.Deep.open_slice1 Tryz.underlying26 cellsChgs hf with ⟨hcs,_⟩ | ⟨a,len,cap,m,n,V,D,Pl,hcs,_,hl,hm,hmm,hx,hi⟩
 ·have hcs : [Value.slice a0 l0 c0] = [Value.slice none 0 0]:=hcs
  injection hcs with e _
  injection e with e1 e2 e3
  subst e1 e2 e3
  exact ⟨[],⟨[],⟨none,0,rfl,fun j x hx => by simp at hx⟩,rfl,fun j s r hs => by simp at hs⟩,Nat.zero_le _,fun l hl => by simp at hl⟩
 ·have hcs : [Value.slice a0 l0 c0] = [Value.slice (some a) len cap]:=hcs
  injection hcs with e _
  injection e with e1 e2 e3
  subst e1 e2 e3
  have hlm : l0 ≤ m:=by rw [hmm]; split <;> omega
  have hd : d = .slice ((List.range l0).map D) ((List.range (m - l0)).map fun i => D (l0 + i)):=congrArg (·.1) hx
  have hbulk : Rows.uptoBulkAll ((List.range l0).map D) ≤ 1048576:=by
   rw [hd] at hb
   simp only [Rows.uptoBulk] at hb
   omega
  have cell : ∀ i,i < l0 → ∃ x : SlV × List Chg,W.cell? (a.add i) = some x.1.val ∧ x.1.len = x.2.length ∧ RdAt chgKind W x.1.val x.2 ∧ x.2.length ≤ 1048576 ∧ ∀ c ∈ x.2,c.key.size ≤ 1048576 ∧ c.val.size ≤ 1048576:=by
   intro i hil
   obtain ⟨hc,ht⟩:=hi i (by omega)
   obtain ⟨ba,bc,l,e,hr,h1,h2⟩:=chgs_open ht
   injection e with e _
   rw [e] at hc
   have h3:=bulkMem (d:=D i) (l:=(List.range l0).map D) (List.mem_map.2 ⟨i,List.mem_range.2 hil,rfl⟩)
   have h1 : l.length ≤ Rows.uptoBulk (D i):=h1
   have h2 : ∀ c ∈ l,c.key.size ≤ Rows.uptoBulk (D i) ∧ c.val.size ≤ Rows.uptoBulk (D i):=h2
   exact ⟨(⟨ba,l.length,bc⟩,l),hc,rfl,hr,by show l.length ≤ 1048576; omega,fun c hc => by have:=h2 c hc; omega⟩
  obtain ⟨f,hf'⟩:=Go.Deep.choose_lt cell
  have at1 : ∀ {α : Type} (g : Nat → α) (j : Nat) (x : α),((List.range l0).map g)[j]? = some x → j < l0 ∧ x = g j:=by
   intro α g j x hx
   have hj : j < l0:=by
    have:=(List.getElem?_eq_some_iff.1 hx).1
    rwa [List.length_map,List.length_range] at this
   rw [List.getElem?_map,List.getElem?_range hj] at hx
   exact ⟨hj,(Option.some.inj hx).symm⟩
  refine ⟨(List.range l0).map fun i => (f i).2,⟨(List.range l0).map fun i => (f i).1,⟨some a,c0,by simp,fun j x hx => ?_⟩,by simp,fun j s r hs hr => ?_⟩,?_,fun l hl => ?_⟩
  ·obtain ⟨hj,rfl⟩:=at1 _ _ _ hx
   have sp : a.spot = none:=spot_of_cell (hf' 0 (by omega)).1
   have z:=(hf' j hj).1
   rw [add_plain sp] at z
   refine ⟨a.block,a.off,by have:=add_plain sp 0; rw [show a.add 0 = a from rfl] at this; rw [this],fun i hi => ?_⟩
   have hi0 : i = 0:=by have : i < 1:=hi; omega
   subst hi0
   show W.cell? ⟨a.block,a.off + j * 1 + 0,none⟩ = some _
   rw [Nat.mul_one,Nat.add_zero]
   exact z
  ·obtain ⟨hj,rfl⟩:=at1 _ _ _ hs
   obtain ⟨_,rfl⟩:=at1 _ _ _ hr
   exact ⟨(hf' j hj).2.1,(hf' j hj).2.2.1⟩
  ·have h1:=bulkLen ((List.range l0).map D)
   rw [List.length_map,List.length_range] at h1
   rw [List.length_map,List.length_range]
   omega
  ·obtain ⟨j,hj⟩:=List.getElem?_of_mem hl
   obtain ⟨hj2,e⟩:=at1 _ _ _ hj
   rw [e]
   exact (hf' j hj2).2.2.2
end
end Go.Proofs.YtagdchgkjjpacaaGreat
