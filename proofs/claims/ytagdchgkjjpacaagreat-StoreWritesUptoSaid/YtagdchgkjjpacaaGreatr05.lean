/- Appending a string's bytes. -/
import Derived.Test.YtagdchgkjjpacaaGreatr03
import Derived.Test.YtagdchgkjjpacaaGreatr04
import Derived.Lib.AppendStr
import Derived.Shelf.Small.Bits
import Derived.Shelf.Small.Wraps
import Derived.Shelf.Strconv.Itoa0
import Derived.Shelf.Sort.Plain
import Derived.Shelf.GgClosure.StringsIndexFunc
import Derived.Ground.GgwProg
import Derived.Shelf.GgClosure.StringsIndexFuncTop
import Derived.Shelf.GgClosure.StringsRunes
import Derived.Shelf.Strings.Prefix
import Derived.Shelf.Strings.FuncGrows
import Derived.Shelf.Slices.In.SortNone
import Derived.Shelf.Bytes.SlSearch0
import Derived.Shelf.Bytes.SlEqualAll
import Derived.Shelf.Bytes.Small
import Derived.Test.YtagdchgkjjpacaaGreatProg
set_option linter.unusedSimpArgs false
set_option linter.unusedVariables false
namespace Go.Proofs.YtagdchgkjjpacaaGreat
open Go.RowKit Go.Shelf
theorem str_cells (s : ByteArray) : Lib.strCells s = (tx s).flatMap byteKind.enc:=by
 unfold Lib.strCells
 show List.map _ (tx s) = _
 induction tx s with
 | nil => rfl
 | cons b l ih => rw [List.map_cons,ih]; rfl
theorem append_str {w : World} {v : Value} {xs : List UInt8} (hv : SlAt byteKind 5 w v xs) (s : ByteArray) (hn : xs.length + s.size ≤ 140737488355328) (ty : TypeId) :
 ∃ v' w',(Builtin.append_ #[23,9] ty #[v,.string s]).run Tryz.prog w = .ok v' w' ∧ SlAt byteKind 5 w' v' (xs ++ tx s) ∧ Keeps (fun k => v.ownBlock = some k) w w' ∧
   (∀ k,v'.ownBlock = some k → v.ownBlock = some k ∨ w.heap.size ≤ k):=by
 obtain ⟨i,hi,hz,hsize,hby⟩:=info_parts infoU8
 have ht:=Tryz.underlying23
 have hu:=Tryz.underlying9
 have hly : ((tx s).flatMap byteKind.enc).length = s.size:=by rw [flat_len byteKind.len]; exact Nat.mul_one _
 have hlx : (xs.flatMap byteKind.enc).length = xs.length:=by rw [flat_len byteKind.len]; exact Nat.mul_one _
 have h1 : ∀ u ∈ (tx s).flatMap byteKind.enc,u.oneCell' = true:=by
  intro u hu
  obtain ⟨x,_,hx⟩:=List.mem_flatMap.1 hu
  exact byteKind.one x u hx
 have grown : ∀ (old : Nat),SlAt byteKind 5 (w.drew.alloc (.cells ((xs.flatMap byteKind.enc).toArray ++ (Lib.strCells s).toArray ++ Builtin.zeroCells (Value.int .u8 0).cells (grownCap w (xs.length + s.size) old 5 - (xs.length + s.size))) 5))
     (.slice (some ⟨w.heap.size,0,none⟩) (xs.length + s.size) (grownCap w (xs.length + s.size) old 5)) (xs ++ tx s):=by
   intro old
   have hge:=grownCap_ge w (xs.length + s.size) old 5
   have hcm : grownCap w (xs.length + s.size) old 5 ≤ maxLen:=grownCap_le_maxLen w (xs.length + s.size) old 5 (by unfold maxLen; omega)
   have hl : (xs ++ tx s).length = xs.length + s.size:=by rw [List.length_append]; rfl
   refine .inr ⟨w.heap.size,0,_,_,by rw [hl],heap_alloc_new w.drew _,by rw [hl]; exact hge,hcm,?_,?_⟩
   ·rw [str_cells]
    simp only [Array.size_append,List.size_toArray,size_zeroCells,hlx,hly,Nat.zero_add]
    show grownCap w (xs.length + s.size) old 5 * 1 ≤ xs.length + s.size + _ * 1
    omega
   ·intro j hj
    rw [hl] at hj
    have hj : j < (xs.length + s.size) * 1:=hj
    rw [Nat.zero_add,List.flatMap_append,← Array.getElem?_toList,Array.toList_append,Array.toList_append,str_cells,List.getElem?_append_left]
    rw [List.length_append,hlx,hly]; omega
 have grownK : ∀ (old : Nat) (S : Nat → Prop),Keeps S w (w.drew.alloc (.cells ((xs.flatMap byteKind.enc).toArray ++ (Lib.strCells s).toArray ++ Builtin.zeroCells (Value.int .u8 0).cells (grownCap w (xs.length + s.size) old 5 - (xs.length + s.size))) 5)) :=
  fun old S => ((Keeps.refl S w).drew).alloc _
 have hsize' : i.size = 1:=hsize
 have hf:=fun (w : World) => Lib.run_firstCells_string (P:=Tryz.prog) w i.size s
 rw [hsize'] at hf
 rcases hv with ⟨rfl,rfl⟩ | ⟨g,off,cap,cur,rfl,hg,hnc,hcm,hcs,htake⟩
 ·by_cases h0 : s.size = 0
  ·have hs0 : tx s = []:=List.length_eq_zero_iff.1 h0
   refine ⟨.slice none 0 0,w,?_,.inl ⟨rfl,by rw [hs0]; rfl⟩,Keeps.refl _ _,fun k hk => .inl hk⟩
   simp [Builtin.append_,run_underlying ht,run_underlying hu,sizeOf,typeInfo,hi,Builtin.lenOf,Builtin.firstCells,h0]
  ·have hr:=run_append_nil_string (P:=Tryz.prog) w 23 9 ty 5 i _ ht hu hi hz s (by omega) (by omega) (by rw [hby]; omega)
   have hgr:=grown 0
   have hgk:=grownK 0 (fun k => (Value.slice none 0 0).ownBlock = some k)
   simp only [List.length_nil,Nat.zero_add,List.nil_append,List.flatMap_nil,Array.empty_append] at hgr hgk ⊢
   have ec : (Lib.strCells s).toArray = s.data.map (fun b => Value.int .u8 (b.toNat : Int)):=by
    apply Array.ext'
    simp [Lib.strCells]
   rw [ec] at hgr hgk
   refine ⟨_,_,hr,hgr,hgk,fun k hk => .inr ?_⟩
   have : w.heap.size = k:=by simpa [Value.ownBlock] using hk
   omega
 ·have holds : ∀ j u,(xs.flatMap byteKind.enc)[j]? = some u → w.cell? ((⟨g,off,none⟩ : Addr).add j) = some u:=by
   intro j u hu
   have hj:=(List.getElem?_eq_some_iff.1 hu).1
   rw [hlx] at hj
   have e2:=add_lit g off j
   rw [e2,blk_cell hg,htake j (by show j < xs.length * 1; omega),hu]
  have hcs1 : off + cap ≤ cur.size:=by have h : off + cap * 1 ≤ cur.size:=hcs; omega
  have hl : (xs ++ tx s).length = xs.length + s.size:=by rw [List.length_append]; rfl
  by_cases hroom : xs.length + s.size ≤ cap
  ·have e3:=add_lit g off xs.length
   have hst:=run_storeCells_at Tryz.prog g (off + xs.length) 5 (Lib.strCells s) 0 cur w hg (by rw [Lib.strCells_length]; omega) (Lib.strCells_oneCell s)
   have hcz : (cur.toList.take (off + xs.length) ++ Lib.strCells s ++ cur.toList.drop (off + xs.length + (Lib.strCells s).length)).toArray.size = cur.size:=by
    simp only [List.size_toArray,List.length_append,List.length_take,List.length_drop,Array.length_toList,Lib.strCells_length]
    omega
   simp only [Nat.add_zero] at hst
   refine ⟨.slice (some ⟨g,off,none⟩) (xs.length + s.size) cap,w.setRow g (cur.toList.take (off + xs.length) ++ Lib.strCells s ++ cur.toList.drop (off + xs.length + (Lib.strCells s).length)).toArray,?_,
     .inr ⟨g,off,cap,_,by rw [hl],setRow_heap w g cur _ 5 _ hg,by rw [hl]; exact hroom,hcm,?_,?_⟩,
     ⟨rfl,rfl,rfl,by simp,fun k _ hk => setRow_other w g k _ (fun e => hk (by simp [Value.ownBlock,e]))⟩,fun k hk => .inl hk⟩
   ·simp [Builtin.append_,run_underlying ht,run_underlying hu,sizeOf,typeInfo,hi,hsize',Builtin.lenOf,hroom,hf,e3,hst]
   ·rw [hcz]; exact hcs
   ·intro j hj
    rw [hl] at hj
    have hj : j < (xs.length + s.size) * 1:=hj
    simp only [List.getElem?_toArray]
    rw [List.append_assoc]
    have hl0 : (cur.toList.take (off + xs.length)).length = off + xs.length:=by
     have h8 : cur.toList.length = cur.size:=Array.length_toList
     rw [List.length_take]; omega
    rw [List.flatMap_append]
    by_cases hjx : j < xs.length
    ·rw [List.getElem?_append_left (by rw [hl0]; omega),List.getElem?_take_of_lt (by omega),Array.getElem?_toList,htake j (by show j < xs.length * 1; omega),
       List.getElem?_append_left (by rw [hlx]; exact hjx)]
    ·rw [List.getElem?_append_right (by rw [hl0]; omega),hl0,List.getElem?_append_left (by rw [Lib.strCells_length]; omega),
       List.getElem?_append_right (by rw [hlx]; omega),hlx,str_cells]
     rw [Nat.add_sub_add_left]
  ·have hr:=Lib.run_append_grow_string (P:=Tryz.prog) w 23 9 ty 5 i _ ht hu hi hz ⟨g,off,none⟩ xs.length cap _ (by rw [hlx,hsize]; exact (Nat.mul_one _).symm) holds s (by omega) (by omega) (by rw [hby]; have:=growslice_fits (need:=xs.length + s.size) (old:=cap) (bytes:=1) (by omega) (by omega); omega)
   refine ⟨_,_,hr,grown cap,grownK cap _,fun k hk => .inr ?_⟩
   have : w.heap.size = k:=by simpa [Value.ownBlock] using hk
   omega
section
variable {P : Program} {w : World} {ops : Array Oper} {rest : List Oper} {o : Oper} {a : Act}
theorem wp_append_run2 {K : Act → World → Prop} {Q : Exit → Act → World → Prop} (s x : Operand) (t t2 : TypeId) (ho : o.op = .call { callee:=.builtin .append,args:=#[s,x],argTypes:=#[t,t2] })
 (v u : Value) (hs : a.eval s = v) (hx : a.eval x = u) (v' : Value) (w' : World) (hrun : (Builtin.append_ #[t,t2] o.type #[v,u]).run P w = .ok v' w') (h : K (a.put o.dst v') w') : Oper.wp P o a w K Q:=by
 unfold Oper.wp
 simp [execOp,ho,resolve,invoke,builtin,hs,hx,hrun,Result.andThen]
 exact h
theorem wpList_append_run2 {Q : Exit → Act → World → Prop} (hgd : o.guard = none) (s x : Operand) (t t2 : TypeId) (ho : o.op = .call { callee:=.builtin .append,args:=#[s,x],argTypes:=#[t,t2] })
 (v u : Value) (hs : a.eval s = v) (hx : a.eval x = u) (v' : Value) (w' : World) (hrun : (Builtin.append_ #[t,t2] o.type #[v,u]).run P w = .ok v' w') (h : wpList P ops Q rest (a.put o.dst v') w') : wpList P ops Q (o :: rest) a w :=
 wpList_plain hgd fun _ hK => wp_append_run2 s x t t2 ho v u hs hx v' w' hrun (hK _ _ h)
theorem step_append_run2 {K : Act → World → Prop} {Q : Exit → Act → World → Prop} {E : Prop} (hgd : o.guard = none) (s x : Operand) (t t2 : TypeId) (ho : o.op = .call { callee:=.builtin .append,args:=#[s,x],argTypes:=#[t,t2] })
 (v u : Value) (hs : a.eval s = v) (hx : a.eval x = u) (v' : Value) (w' : World) (hrun : (Builtin.append_ #[t,t2] o.type #[v,u]).run P w = .ok v' w') (h : K (a.put o.dst v') w') :
 if Region.wanted o (yielded ops a.tmps) = true then Oper.wp P o a w K Q else E:=by
 have hw : Region.wanted o (yielded ops a.tmps) = true:=by simp [Region.wanted,hgd]
 rw [if_pos hw]
 exact wp_append_run2 s x t t2 ho v u hs hx v' w' hrun h
end
end Go.Proofs.YtagdchgkjjpacaaGreat
namespace Go.Proofs
open Go.Shelf
def Tryz.lays210_ren : Go.Shelf.Ren:=⟨fun | 210 => 165 | 206 => 141 | n => n,fun | 9 => 9 | 4 => 4 | 3 => 3 | n => n,fun | n => n⟩
open Go.RowKit in
def Tryz.lays103_ren : Go.Shelf.Ren:=⟨fun | 103 => 130 | 210 => 165 | 206 => 141 | n => n,fun | 9 => 9 | 4 => 4 | 24 => 87 | 3 => 3 | n => n,fun | n => n⟩
theorem Tryz.lays103 : Go.Proofs.Lays.n103 Tryz.prog Tryz.lays103_ren:={
 mixed:=by kernel_rfl
 f103:=Tryz.func130.trans (congrArg some (by kernel_rfl))
 f206:=Tryz.func141.trans (congrArg some (by kernel_rfl))
 f210:=Tryz.func165.trans (congrArg some (by kernel_rfl))
 t3:=Tryz.underlying3
 a3:=Tryz.isAgg3
 z3:=Tryz.sizeOf3
 v3:=Tryz.zeroValue3
 t4:=Tryz.underlying4
 a4:=Tryz.isAgg4
 z4:=Tryz.sizeOf4
 v4:=Tryz.zeroValue4
 t9:=Tryz.underlying9
 a9:=Tryz.isAgg9
 z9:=Tryz.sizeOf9
 v9:=Tryz.zeroValue9
 t24:=Tryz.underlying87
 a24:=Tryz.isAgg87
 z24:=Tryz.sizeOf87
 v24:=Tryz.zeroValue87 }
open Go.RowKit in
theorem Tryz.strings_CutPrefix (s p : ByteArray) (w : World) :
 Calls Tryz.prog 130 #[.string s,.string p] w fun e w' => e = .returned (.tuple #[.string ⟨(Lib.trimPrefix s.data.toList p.data.toList).toArray⟩,.bool (Lib.hasPrefix s.data.toList p.data.toList)]) ∧ w' = w:=Any.strings_CutPrefix Tryz.lays103 s p w
def Tryz.lays190_ren : Go.Shelf.Ren:=⟨fun | 190 => 88 | 125 => 143 | 258 => 142 | 128 => 176 | 129 => 177 | 302 => 167 | 303 => 168 | 304 => 169 | 305 => 170 | 306 => 171 | 307 => 172 | 308 => 173 | 309 => 174 | 310 => 175 | 333 => 191 | 329 => 192 | 330 => 193 | 334 => 194 | 335 => 195 | 336 => 196 | 344 => 207 | n => n,fun | 31 => 56 | 9 => 9 | 3 => 3 | 46 => 152 | 0 => 0 | 51 => 115 | 53 => 209 | 4 => 4 | 183 => 202 | 182 => 201 | 131 => 130 | 5 => 5 | 218 => 223 | 222 => 227 | 228 => 231 | 229 => 232 | n => n,fun | n => n⟩
theorem Tryz.lays190 : Go.Proofs.Lays.n190 Tryz.prog Tryz.lays190_ren:={
 mixed:=by kernel_rfl
 f125:=Tryz.func143.trans (congrArg some (by kernel_rfl))
 f128:=Tryz.func176.trans (congrArg some (by kernel_rfl))
 f129:=Tryz.func177.trans (congrArg some (by kernel_rfl))
 f190:=Tryz.func88.trans (congrArg some (by kernel_rfl))
 f258:=Tryz.func142.trans (congrArg some (by kernel_rfl))
 f302:=Tryz.func167.trans (congrArg some (by kernel_rfl))
 f303:=Tryz.func168.trans (congrArg some (by kernel_rfl))
 f304:=Tryz.func169.trans (congrArg some (by kernel_rfl))
 f305:=Tryz.func170.trans (congrArg some (by kernel_rfl))
 f306:=Tryz.func171.trans (congrArg some (by kernel_rfl))
 f307:=Tryz.func172.trans (congrArg some (by kernel_rfl))
 f308:=Tryz.func173.trans (congrArg some (by kernel_rfl))
 f309:=Tryz.func174.trans (congrArg some (by kernel_rfl))
 f310:=Tryz.func175.trans (congrArg some (by kernel_rfl))
 f329:=Tryz.func192.trans (congrArg some (by kernel_rfl))
 f330:=Tryz.func193.trans (congrArg some (by kernel_rfl))
 f333:=Tryz.func191.trans (congrArg some (by kernel_rfl))
 f334:=Tryz.func194.trans (congrArg some (by kernel_rfl))
 f335:=Tryz.func195.trans (congrArg some (by kernel_rfl))
 f336:=Tryz.func196.trans (congrArg some (by kernel_rfl))
 f344:=Tryz.func207.trans (congrArg some (by kernel_rfl))
 t0:=Tryz.underlying0
 a0:=Tryz.isAgg0
 z0:=Tryz.sizeOf0
 v0:=Tryz.zeroValue0
 t3:=Tryz.underlying3
 a3:=Tryz.isAgg3
 z3:=Tryz.sizeOf3
 v3:=Tryz.zeroValue3
 t4:=Tryz.underlying4
 a4:=Tryz.isAgg4
 z4:=Tryz.sizeOf4
 v4:=Tryz.zeroValue4
 t5:=Tryz.underlying5
 a5:=Tryz.isAgg5
 z5:=Tryz.sizeOf5
 v5:=Tryz.zeroValue5
 t9:=Tryz.underlying9
 a9:=Tryz.isAgg9
 z9:=Tryz.sizeOf9
 v9:=Tryz.zeroValue9
 t31:=Tryz.underlying56
 a31:=Tryz.isAgg56
 z31:=Tryz.sizeOf56
 v31:=Tryz.zeroValue56
 t46:=Tryz.underlying152
 a46:=Tryz.isAgg152
 z46:=Tryz.sizeOf152
 v46:=Tryz.zeroValue152
 t51:=Tryz.underlying115
 a51:=Tryz.isAgg115
 z51:=Tryz.sizeOf115
 v51:=Tryz.zeroValue115
 t53:=Tryz.underlying209
 a53:=Tryz.isAgg209
 z53:=Tryz.sizeOf209
 v53:=Tryz.zeroValue209
 t131:=Tryz.underlying130
 a131:=Tryz.isAgg130
 z131:=Tryz.sizeOf130
 v131:=Tryz.zeroValue130
 t182:=Tryz.underlying201
 a182:=Tryz.isAgg201
 z182:=Tryz.sizeOf201
 v182:=Tryz.zeroValue201
 t183:=Tryz.underlying202
 a183:=Tryz.isAgg202
 z183:=Tryz.sizeOf202
 v183:=Tryz.zeroValue202
 t218:=Tryz.underlying223
 a218:=Tryz.isAgg223
 z218:=Tryz.sizeOf223
 v218:=Tryz.zeroValue223
 t222:=Tryz.underlying227
 a222:=Tryz.isAgg227
 z222:=Tryz.sizeOf227
 v222:=Tryz.zeroValue227
 t228:=Tryz.underlying231
 a228:=Tryz.isAgg231
 z228:=Tryz.sizeOf231
 v228:=Tryz.zeroValue231
 t229:=Tryz.underlying232
 a229:=Tryz.isAgg232
 z229:=Tryz.sizeOf232
 v229:=Tryz.zeroValue232 }
open Go.Sort Go.RowKit in
theorem Tryz.slices_Sort_string (blk off cap : Nat) (ss : List (List UInt8)) (w : World) (hH : Holds encStr w blk off ss.toArray) (hblk : blk < w.heap.size) (hsz : ss.length < 4611686018427387904) :
 Calls Tryz.prog 88 #[.slice (some ⟨blk,off,none⟩) ss.length cap] w fun e w' =>
  e = .returned (.tuple #[]) ∧ ∃ n os,w' = grow (putRow encStr (Sort.ahead w n) blk off (ss.mergeSort fun x y => decide (x ≤ y)).toArray) os:=Any.slices_Sort_string Tryz.lays190 blk off cap ss w hH hblk hsz
open Go.RowKit Go.Lib in
open Go.RowKit Go.Lib in
def Tryz.laysGw17_ren : Go.Shelf.Ren:=⟨fun | 17 => 103 | 15 => 153 | 20 => 182 | n => n,fun | 9 => 9 | 23 => 154 | 4 => 4 | 3 => 3 | 0 => 0 | 21 => 21 | n => n,fun | n => n⟩
theorem Tryz.laysGw17 : Go.Proofs.LaysGw.n17 Tryz.prog Tryz.laysGw17_ren:={
 mixed:=by kernel_rfl
 f15:=Tryz.func153.trans (congrArg some (by kernel_rfl))
 f17:=Tryz.func103.trans (congrArg some (by kernel_rfl))
 f20:=Tryz.func182.trans (congrArg some (by kernel_rfl))
 t0:=Tryz.underlying0
 a0:=Tryz.isAgg0
 z0:=Tryz.sizeOf0
 v0:=Tryz.zeroValue0
 i0:=by kernel_rfl
 t3:=Tryz.underlying3
 a3:=Tryz.isAgg3
 z3:=Tryz.sizeOf3
 v3:=Tryz.zeroValue3
 i3:=by kernel_rfl
 t4:=Tryz.underlying4
 a4:=Tryz.isAgg4
 z4:=Tryz.sizeOf4
 v4:=Tryz.zeroValue4
 i4:=by kernel_rfl
 t9:=Tryz.underlying9
 a9:=Tryz.isAgg9
 z9:=Tryz.sizeOf9
 v9:=Tryz.zeroValue9
 i9:=by kernel_rfl
 t21:=Tryz.underlying21
 a21:=Tryz.isAgg21
 z21:=Tryz.sizeOf21
 v21:=Tryz.zeroValue21
 i21:=by kernel_rfl
 t23:=Tryz.underlying154
 a23:=Tryz.isAgg154
 z23:=Tryz.sizeOf154
 v23:=Tryz.zeroValue154
 i23:=by kernel_rfl }
open Go.RowKit Go.Lib in
open Go.RowKit Go.Lib in
open Go.RowKit Go.Lib in
open Go.RowKit Go.Lib in
theorem Tryz.strings_ContainsFunc_runes (g : Nat) (lb : Array Value) (eg : ∀ args w,(callFunc g args).run Tryz.prog w = .ok (.enter g args) w) (p : Nat → Bool) (s : ByteArray) (w : World) (hp : PredAtRunes Tryz.prog g lb p w) :
 Calls Tryz.prog 103 #[.string s,.func (.func g) #[] lb] w fun e w' => e = .returned (.bool (decide (0 ≤ Lib.idxFunc p true s))) ∧ Below w.heap.size w w':=Any.strings_ContainsFunc_runes Tryz.laysGw17 g lb eg p s w hp
open Go.RowKit Go.Lib in
def Tryz.lays99_ren : Go.Shelf.Ren:=⟨fun | 99 => 87 | 206 => 141 | n => n,fun | 9 => 9 | 4 => 4 | 3 => 3 | n => n,fun | n => n⟩
theorem Tryz.lays99 : Go.Proofs.Lays.n99 Tryz.prog Tryz.lays99_ren:={
 mixed:=by kernel_rfl
 f99:=Tryz.func87.trans (congrArg some (by kernel_rfl))
 f206:=Tryz.func141.trans (congrArg some (by kernel_rfl))
 t3:=Tryz.underlying3
 a3:=Tryz.isAgg3
 z3:=Tryz.sizeOf3
 v3:=Tryz.zeroValue3
 t4:=Tryz.underlying4
 a4:=Tryz.isAgg4
 z4:=Tryz.sizeOf4
 v4:=Tryz.zeroValue4
 t9:=Tryz.underlying9
 a9:=Tryz.isAgg9
 z9:=Tryz.sizeOf9
 v9:=Tryz.zeroValue9 }
open Go.RowKit Go.Lib in
theorem Tryz.strings_HasPrefix (s p : ByteArray) (w : World) :
 Calls Tryz.prog 87 #[.string s,.string p] w fun e w' => e = .returned (.bool (Lib.hasPrefix s.data.toList p.data.toList)) ∧ w' = w:=Any.strings_HasPrefix Tryz.lays99 s p w
open Go.RowKit Go.Lib in
def Tryz.lays101_ren : Go.Shelf.Ren:=⟨fun | 101 => 104 | 208 => 154 | 206 => 141 | n => n,fun | 9 => 9 | 4 => 4 | 3 => 3 | n => n,fun | n => n⟩
theorem Tryz.lays101 : Go.Proofs.Lays.n101 Tryz.prog Tryz.lays101_ren:={
 mixed:=by kernel_rfl
 f101:=Tryz.func104.trans (congrArg some (by kernel_rfl))
 f206:=Tryz.func141.trans (congrArg some (by kernel_rfl))
 f208:=Tryz.func154.trans (congrArg some (by kernel_rfl))
 t3:=Tryz.underlying3
 a3:=Tryz.isAgg3
 z3:=Tryz.sizeOf3
 v3:=Tryz.zeroValue3
 t4:=Tryz.underlying4
 a4:=Tryz.isAgg4
 z4:=Tryz.sizeOf4
 v4:=Tryz.zeroValue4
 t9:=Tryz.underlying9
 a9:=Tryz.isAgg9
 z9:=Tryz.sizeOf9
 v9:=Tryz.zeroValue9 }
open Go.RowKit Go.Lib in
theorem Tryz.strings_TrimPrefix (s p : ByteArray) (w : World) :
 Calls Tryz.prog 104 #[.string s,.string p] w fun e w' => e = .returned (.string ⟨(Lib.trimPrefix s.data.toList p.data.toList).toArray⟩) ∧ w' = w:=Any.strings_TrimPrefix Tryz.lays101 s p w
open Go.RowKit Go.Lib in
open Go.RowKit Go.Lib in
open Go.RowKit Go.Lib in
open Go.RowKit Go.Sort in
theorem Tryz.slices_Sort_string_none (p : Option Addr) (cap : Nat) (w : World) :
 Calls Tryz.prog 88 #[.slice p 0 cap] w fun e w' => e = .returned (.tuple #[]) ∧ w' = w:=Any.slices_Sort_string_none Tryz.lays190 p cap w
def Tryz.lays115_ren : Go.Shelf.Ren:=⟨fun | 115 => 156 | n => n,fun | 37 => 23 | 4 => 4 | 9 => 9 | 5 => 5 | n => n,fun | n => n⟩
theorem Tryz.lays115 : Go.Proofs.Lays.n115 Tryz.prog Tryz.lays115_ren:={
 mixed:=by kernel_rfl
 f115:=Tryz.func156.trans (congrArg some (by kernel_rfl))
 t4:=Tryz.underlying4
 a4:=Tryz.isAgg4
 z4:=Tryz.sizeOf4
 v4:=Tryz.zeroValue4
 t9:=Tryz.underlying9
 a9:=Tryz.isAgg9
 z9:=Tryz.sizeOf9
 v9:=Tryz.zeroValue9
 t37:=Tryz.underlying23
 a37:=Tryz.isAgg23
 z37:=Tryz.sizeOf23
 v37:=Tryz.zeroValue23 }
open Go.Proofs Go.RowKit Go.Lib in
theorem Tryz.bytes_Equal_strs (v1 v2 : Value) (t1 t2 : ByteArray) (w : World) (h1 : (convert 23 9 v1).run Tryz.prog w = .ok (.string t1) w) (h2 : (convert 23 9 v2).run Tryz.prog w = .ok (.string t2) w) :
 Calls Tryz.prog 156 #[v1,v2] w fun e w' => e = .returned (.bool (t1.toList == t2.toList)) ∧ w' = w:=Any.bytes_Equal_strs Tryz.lays115 v1 v2 t1 t2 w h1 h2
end Go.Proofs
