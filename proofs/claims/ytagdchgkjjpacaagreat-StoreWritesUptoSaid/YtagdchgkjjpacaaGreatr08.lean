/- The walks of package store's numbers: laid, read; a change's size. -/
import Derived.Test.YtagdchgkjjpacaaGreatr05
import Derived.Test.YtagdchgkjjpacaaGreatr07
import Derived.Test.YtagdchgkjjpacaaGreatr01
import Derived.Deep.RegionHeld
set_option maxRecDepth 100000
open Go.Lib (hid)
set_option linter.unusedSimpArgs false
set_option linter.unusedVariables false
set_option linter.unusedSectionVars false
namespace Go.Proofs.YtagdchgkjjpacaaGreat
open Go.RowKit Go.Shelf
section
variable {w : World}
set_option maxHeartbeats 1000000 in
theorem st_number {v : Value} {xs : List UInt8} (hv : SlAt byteKind 5 w v xs) (hx : xs.length ≤ 90000000) (n : Nat) (hn : n < 9223372036854775808) (k : Nat) (hk : k ≤ 8) :
 Calls Tryz.prog 48 #[v,.int .i64 (n : Int),.int .i64 (k : Int)] w fun e w' => ∃ v',e = .returned v' ∧ GrowAt w v w' v' (xs ++ lowN k n):=by
 have HV:=hid (GrowAt.refl hv)
 have hkI : (k : Int) ≤ 8:=by omega
 clear hv
 go_enter Tryz.func48,Tryz.ntmps48
 go_wp2_with (fail)
 go_loopw [0,1,8] (fun b c i wr => ∃ (j m : Nat) (zs : List UInt8),j ≤ k ∧ i = .int .i64 ((k : Int) - (j : Int)) ∧ c = .int .i64 (m : Int) ∧ m < 9223372036854775808 ∧ Hid (zs ++ lowN j m = lowN k n) ∧ Hid (GrowAt w v wr b (xs ++ zs))) (fun _ _ i _ => k - (intOf i).toNat)
 case atStart => exact ⟨k,n,[],Nat.le_refl _,by rw [Int.sub_self],rfl,hn,hid rfl,by rw [List.append_nil]; exact HV⟩
 case round =>
  obtain ⟨j,m,zs,hj,rfl,rfl,hm,HE,HG⟩:=hrel
  cases j with
  | zero =>
    have hj0 : ¬ (k : Int) - ((0 : Nat) : Int) < (k : Int):=by omega
    go_wp2_with (fail)
    go_ret
    refine ⟨_,rfl,?_⟩
    rw [← HE.out]
    simpa [lowN] using HG.out
  | succ j =>
    obtain ⟨v',w',hrun,hg⟩:=grow_one HG.out (by have:=congrArg List.length HE.out; rw [List.length_append,lowN_len,lowN_len] at this; rw [List.length_append]; omega) (UInt8.ofNat m) 23
    rw [byteOf] at hrun
    have HG':=hid hg
    have hj1 : (k : Int) - ((j + 1 : Nat) : Int) < (k : Int):=by omega
    have hj2 : (k : Int) - ((j + 1 : Nat) : Int) + 1 ≤ 8:=by omega
    have hj3 : 0 ≤ (k : Int) - ((j + 1 : Nat) : Int):=by omega
    have HM:=hid hm
    have hm2 : (m : Int) ≤ 9223372036854775807:=by omega
    clear hg hm
    go_wp2_with (at_builtin; refine wpList_append_run rfl (.tmp 10) (.tmp 13) 23 rfl _ _ rfl rfl _ _ hrun ?_)
    go_roundw
    case rel => exact ⟨j,m / 256,zs ++ [UInt8.ofNat m],by omega,by go_num,by congr 1,by have:=HM.out; omega,hid (by rw [List.append_assoc]; exact HE.out),by rw [← List.append_assoc]; exact HG'⟩
    case measure => simp [intOf]; omega
theorem wrapEq (x : Int) : IntKind.i64.wrap x = wrap64 x:=by rw [IntKind.wrap_i64]; unfold wrap64; omega
theorem or_next8 {ys : List UInt8} {k : Nat} {x : UInt8} (h : ys[k]? = some x) (hk : k < 8) : bits .or .i64 (numOf (ys.take k) : Int) (wrap64 ((x.toNat * 256 ^ k : Nat) : Int)) = wrap64 (numOf (ys.take (k + 1)) : Int):=by
 have h1 : numOf (ys.take k) < 256 ^ k:=by
  have:=numOf_lt (ys.take k)
  have h2 : 256 ^ (ys.take k).length ≤ 256 ^ k:=Nat.pow_le_pow_right (by omega) (by rw [List.length_take]; omega)
  omega
 have hx:=x.toNat_lt
 have h3 : 256 ^ k ≤ 256 ^ 7:=Nat.pow_le_pow_right (by omega) (by omega)
 have h4 : x.toNat * 256 ^ k ≤ 255 * 256 ^ 7:=Nat.mul_le_mul (by omega) h3
 have e1 : (BitVec.ofInt 64 (numOf (ys.take k) : Int)).toNat = numOf (ys.take k):=ofInt_u64 _ (by omega)
 have e2 : (BitVec.ofInt 64 (wrap64 ((x.toNat * 256 ^ k : Nat) : Int))).toNat = x.toNat * 256 ^ k:=by
  have : BitVec.ofInt 64 (wrap64 ((x.toNat * 256 ^ k : Nat) : Int)) = BitVec.ofInt 64 ((x.toNat * 256 ^ k : Nat) : Int):=by
   generalize x.toNat * 256 ^ k = A
   apply BitVec.eq_of_toNat_eq
   rw [BitVec.toNat_ofInt,BitVec.toNat_ofInt]
   congr 1
   unfold wrap64
   omega
  rw [this]
  exact ofInt_u64 _ (by omega)
 show IntKind.i64.wrap ((BitVec.ofInt 64 (numOf (ys.take k) : Int) ||| BitVec.ofInt 64 (wrap64 ((x.toNat * 256 ^ k : Nat) : Int))).toNat : Int) = _
 rw [BitVec.toNat_or,e1,e2,numOf_take h]
 have e : (256 : Nat) ^ k = 2 ^ (8 * k):=by rw [show (256 : Nat) = 2 ^ 8 from rfl,← Nat.pow_mul]
 rw [e] at h1 ⊢
 rw [Nat.or_comm,Nat.mul_comm x.toNat,← Nat.two_pow_add_eq_or_of_lt h1,Nat.add_comm]
 exact wrapEq _
theorem shl_in8 (x : UInt8) {k : Nat} : wrap64 (wrap64 (x.toNat : Int) * 2 ^ (8 * k)) = wrap64 ((x.toNat * 256 ^ k : Nat) : Int):=by
 have hx:=x.toNat_lt
 have e1 : wrap64 (x.toNat : Int) = (x.toNat : Int):=IntWalk.wrap64_in _ (by omega)
 have e2 : (x.toNat : Int) * 2 ^ (8 * k) = ((x.toNat * 256 ^ k : Nat) : Int):=by
  rw [show (256 : Nat) = 2 ^ 8 from rfl,← Nat.pow_mul]; push_cast; rfl
 rw [e1,e2]
set_option maxHeartbeats 1000000 in
theorem st_value {a : Option Addr} {len cap : Nat} {ys : List UInt8} (hu : RdAt byteKind w (.slice a len cap) ys) (hn : ys.length ≤ 8) :
 Calls Tryz.prog 54 #[.slice a len cap] w fun e w' => e = .returned (.int .i64 (wrap64 (numOf ys : Int))) ∧ w = w':=by
 have HR:=hid hu
 obtain rfl : len = ys.length:=by obtain ⟨_,_,e,_⟩:=hu; injection e
 clear hu
 have hm2 : (ys.length : Int) ≤ 8:=by omega
 go_enter Tryz.func54,Tryz.ntmps54
 go_wp2_with (fail)
 go_loopw [3,8] (fun c i wr => ∃ k : Nat,k ≤ ys.length ∧ i = .int .i64 k ∧ c = .int .i64 (wrap64 (numOf (ys.take k) : Int)) ∧ wr = w) (fun _ i _ => ys.length - (intOf i).toNat)
 case atStart => exact ⟨0,Nat.zero_le _,rfl,by simp [numOf,wrap64],rfl⟩
 case round =>
  obtain ⟨k,hk,rfl,rfl,rfl⟩:=hrel
  by_cases hlt : k < ys.length
  ·have hx : ys[k]? = some ys[k]:=List.getElem?_eq_getElem (by omega)
   generalize ys[k] = x at hx
   obtain ⟨g,off,rfl,hc⟩:=byte_cell HR.out hx
   have HO:=hid (or_next8 hx (by omega))
   have HS:=hid (shl_in8 x (k:=k))
   have hk0 : (0 : Int) ≤ (k : Int):=by omega
   have hk1 : (k : Int) < 8:=by omega
   have hk2 : (k : Int) < (ys.length : Int):=by omega
   have h1 : numOf (ys.take k) < 72057594037927936:=by
    have h1:=numOf_lt (ys.take k)
    have h2 : 256 ^ (ys.take k).length ≤ 256 ^ 7:=Nat.pow_le_pow_right (by omega) (by rw [List.length_take]; omega)
    omega
   rw [IntWalk.wrap64_in (numOf (ys.take k) : Int) (by omega)]
   have HLT:=hid hlt
   clear hx h1 hlt hk
   go_wp2_with (fail)
   go_roundw
   case rel => exact ⟨k + 1,HLT.out,by go_num,by rw [HS.out,HO.out],by first | rfl | trivial⟩
   case measure => have:=HLT.out; simp [intOf]; omega
  ·have hk1 : ¬ ((k : Int) < (ys.length : Int)):=by omega
   obtain rfl : k = ys.length:=by omega
   rw [List.take_length]
   clear hlt hk
   go_wp2_with (fail)
   go_ret
   exact ⟨rfl,rfl⟩
theorem st_chgSize (c : Chg) (hk : c.key.size ≤ 1000000) (hv : c.val.size ≤ 1000000) :
 Calls Tryz.prog 136 #[.agg #[.string c.key,.string c.val,.bool c.drop]] w fun e w' => e = .returned (.int .i64 ((chgB c).length : Int)) ∧ Below w.heap.size w w':=by
 obtain ⟨k,v,d⟩:=c
 obtain ⟨w1,hw1⟩ : ∃ x,x = w.alloc (.cells #[.string k,.string v,.bool d] 42):=⟨_,rfl⟩
 have hb : Below w.heap.size w w1:=by rw [hw1]; exact (Below.refl _ _).alloc (Nat.le_refl _) _
 have hblk : IsBlk w1 w.heap.size #[.string k,.string v,.bool d] 42:=by rw [hw1]; exact blk_new _ _
 have b0 : w1.cell? ⟨w.heap.size,0,none⟩ = some (.string k):=blk_cell hblk 0
 have b1 : w1.cell? ⟨w.heap.size,1,none⟩ = some (.string v):=blk_cell hblk 1
 have b2 : w1.cell? ⟨w.heap.size,2,none⟩ = some (.bool d):=blk_cell hblk 2
 have HB:=hid hb
 have HL:=hid (chgB_len ⟨k,v,d⟩)
 have HW:=hid hw1
 simp only at hk hv
 have k1 : (k.size : Int) ≤ 1000000:=by omega
 have v1 : (v.size : Int) ≤ 1000000:=by omega
 clear hb hw1 hblk hk hv
 cases d with
 | true =>
   go_enter Tryz.func136,Tryz.ntmps136
   go_upto_region 1 with (fail)
   rw [← HW.out]
   go_wp2_with (fail)
   go_ret
   exact ⟨by rw [HL.out]; rfl,HB.out⟩
 | false =>
   go_enter Tryz.func136,Tryz.ntmps136
   go_upto_region 1 with (fail)
   rw [← HW.out]
   go_wp2_with (fail)
   go_ret
   exact ⟨by rw [HL.out]; simp,HB.out⟩
end
end Go.Proofs.YtagdchgkjjpacaaGreat
namespace Go.Proofs.YtagdchgkjjpacaaGreat.Kv
section
variable {V : Type} {n : ByteArray} {y : V} {l : List (ByteArray × V)}
theorem find_mem (h : findL slt l n = some y) (hr : Rise slt l) : (n,y) ∈ l:=by
 rcases find_split slt_ord l hr n with ⟨h1,_⟩ | ⟨a,v,b,e,h1⟩
 ·rw [h1] at h; cases h
 ·rw [h1] at h; cases h; rw [e]; simp
theorem find_of_mem (hr : Rise slt l) (h : (n,y) ∈ l) : findL slt l n = some y:=by
 obtain ⟨a,b,e⟩:=List.append_of_mem h
 rw [e] at hr ⊢
 exact findL_eq slt_ord hr
theorem find_congr {l l' : List (ByteArray × V)} (hr : Rise slt l) (hr' : Rise slt l') (h : ∀ y,(n,y) ∈ l ↔ (n,y) ∈ l') : findL slt l n = findL slt l' n:=by
 cases h1 : findL slt l n with
 | some v => rw [find_of_mem hr' ((h v).1 (find_mem h1 hr))]
 | none =>
   cases h2 : findL slt l' n with
   | none => rfl
   | some v => rw [find_of_mem hr ((h v).2 (find_mem h2 hr'))] at h1; cases h1
theorem mem_put {m : ByteArray} {z : V} (hne : n ≠ m) : (n,z) ∈ putL slt l m y ↔ (n,z) ∈ l:=by
 unfold putL
 have hb : (slt n m || slt m n) = true:=by
  cases h1 : slt n m with
  | true => rfl
  | false =>
    cases h2 : slt m n with
    | true => rfl
    | false => exact absurd (slt_ord.eq _ _ h1 h2) hne
 simp only [List.mem_append,List.mem_cons,List.mem_filter,Prod.mk.injEq]
 constructor
 ·rintro (⟨h,_⟩ | ⟨h,_⟩ | ⟨h,_⟩)
  ·exact h
  ·exact absurd h hne
  ·exact h
 ·intro h
  rcases Bool.or_eq_true_iff.1 hb with hb | hb
  ·exact .inl ⟨h,hb⟩
  ·exact .inr (.inr ⟨h,hb⟩)
theorem find_put (hr : Rise slt l) : findL slt (putL slt l n y) n = some y:=by
 obtain ⟨a,b,e,hr⟩ : ∃ a b,putL slt l n y = a ++ (n,y) :: b ∧ Rise slt (a ++ (n,y) :: b):=⟨_,_,rfl,rise_putL slt_ord hr n y⟩
 rw [e]
 exact findL_eq slt_ord hr
theorem find_put_ne (hr : Rise slt l) {m : ByteArray} (hne : n ≠ m) : findL slt (putL slt l m y) n = findL slt l n:=find_congr (rise_putL slt_ord hr m y) hr fun _ => mem_put hne
end
end Go.Proofs.YtagdchgkjjpacaaGreat.Kv
namespace Go.Proofs.YtagdchgkjjpacaaGreat
open Go.RowKit Go.Shelf
abbrev evI : Int → Value:=fun c => .int .i64 c
def chgKind : ElKind Chg:=⟨fun c => [.string c.key,.string c.val,.bool c.drop],3,fun _ => rfl,by decide,fun c u hu => by
 simp only [List.mem_cons,List.not_mem_nil,or_false] at hu
 rcases hu with rfl | rfl | rfl <;> rfl⟩
theorem chg_cells {w : World} {a : Option Addr} {n cap : Nat} {xs : List Chg} (h : RdAt chgKind w (.slice a n cap) xs) {i : Nat} {c : Chg} (hc : xs[i]? = some c) :
 ∃ g off,a = some ⟨g,off,none⟩ ∧ w.cell? ⟨g,off + i * 3,none⟩ = some (.string c.key) ∧ w.cell? ⟨g,off + i * 3 + 1,none⟩ = some (.string c.val) ∧ w.cell? ⟨g,off + i * 3 + 2,none⟩ = some (.bool c.drop):=by
 obtain ⟨a',cap',e,hh⟩:=h
 injection e with e1 _ _
 subst e1
 obtain ⟨g,off,ea,hc⟩:=hh i c hc
 exact ⟨g,off,ea,hc 0 (by decide),hc 1 (by decide),hc 2 (by decide)⟩
def SeenI (seen : List ByteArray) (m : List (ByteArray × Int)) : Prop:=∀ k,(findL slt m k).getD 0 = if (seen.any fun q => decide (tx q = tx k)) = true then 1 else 0
theorem SeenI.nil : SeenI [] []:=fun k => rfl
theorem tx_inj {a b : ByteArray} (h : tx a = tx b) : a = b:=by rw [← st_tx a,← st_tx b]; exact congrArg st h
theorem find_putI {m : List (ByteArray × Int)} (hr : Rise slt m) (k q : ByteArray) (v : Int) : findL slt (putL slt m k v) q = if q = k then some v else findL slt m q:=by
 by_cases h : q = k
 ·subst h; rw [if_pos rfl]; exact Kv.find_put hr
 ·rw [if_neg h]; exact Kv.find_put_ne hr h
theorem SeenI.more {seen : List ByteArray} {m : List (ByteArray × Int)} (hr : Rise slt m) (h : SeenI seen m) {k : ByteArray} (hk : (seen.any fun q => decide (tx q = tx k)) = false) : SeenI (k :: seen) (putL slt m k 1):=fun q => by
 rw [find_putI hr]
 by_cases e : q = k
 ·subst e; simp
 ·rw [if_neg e,h q]
  have hne : decide (tx k = tx q) = false:=decide_eq_false fun h => e (tx_inj h).symm
  rw [List.any_cons,hne,Bool.false_or]
section
variable {w : World}
structure ChkI (w : World) (l : List Chg) (i : Nat) (wr : World) : Prop where
 ex : ∃ seen m,chkFrom seen (l.drop i) = chkFrom [] l ∧ SeenI seen m ∧ MapAt strKind evI wr w.heap.size m
 below : Below w.heap.size w wr
 lt : w.heap.size < wr.heap.size
set_option maxHeartbeats 8000000 in
theorem st_check {v : Value} {l : List Chg} (h : RdAt chgKind w v l) (hl : l.length ≤ 1000000000) :
 Calls Tryz.prog 47 #[v] w fun e w' => e = .returned (.int .i64 (chkB l : Int)) ∧ Below w.heap.size w w':=by
 have HR:=hid h
 obtain ⟨a,cap,rfl,-⟩:=h
 have hlI : (l.length : Int) ≤ 1000000000:=by omega
 by_cases h5 : 500 < l.length
 ·have t0 : decide ((500 : Int) < (l.length : Int)) = true:=by simp; omega
  have t1 : (500 : Int) < (l.length : Int):=by omega
  have HC : Hid (chkB l = 9):=hid (by unfold chkB; rw [if_pos h5])
  clear h5
  go_enter Tryz.func47,Tryz.ntmps47
  go_wp2_with (fail)
  go_ret
  rw [HC.out]
  exact ⟨rfl,Below.refl _ _⟩
 have t0 : decide ((500 : Int) < (l.length : Int)) = false:=by simp; omega
 have t1 : ¬ (500 : Int) < (l.length : Int):=by omega
 have HC : Hid (chkB l = chkFrom [] l):=hid (by unfold chkB; rw [if_neg h5])
 have hmm:=run_makeMap (P:=Tryz.prog) 151 w
 clear h5 hl
 go_enter Tryz.func47,Tryz.ntmps47
 go_upto_region 4 with (fail)
 obtain ⟨W0,hW0⟩ : ∃ x,x = w.alloc (.map #[] 0):=⟨_,rfl⟩
 rw [← hW0]
 have HI0 : Hid (ChkI w l 0 W0):=hid (by
  rw [hW0]
  exact ⟨⟨[],[],rfl,SeenI.nil,mapAt_made w⟩,(Below.refl _ _).alloc (Nat.le_refl _) _,by simp⟩)
 obtain ⟨mb,hmb⟩ : ∃ x,x = w.heap.size:=⟨_,rfl⟩
 rw [← hmb]
 have HMB:=hid hmb
 clear hW0 hmm t0 t1 hmb
 go_wp2_with (fail)
 go_loopw [12] (fun iv wr => ∃ i : Nat,i ≤ l.length ∧ iv = .int .i64 (i : Int) ∧ Hid (ChkI w l i wr)) (fun iv _ => l.length - (intOf iv).toNat)
 case atStart => exact ⟨0,Nat.zero_le _,rfl,HI0⟩
 case round =>
  obtain ⟨i,hi,rfl,HI⟩:=hrel
  by_cases hlt : i < l.length
  ·have q1 : (0 : Int) ≤ (i : Int):=by omega
   have q2 : (i : Int) < (l.length : Int):=by omega
   obtain ⟨c,hc⟩ : ∃ c,l[i]? = some c:=⟨_,List.getElem?_eq_getElem hlt⟩
   obtain ⟨g,off,rfl,d0,d1,d2⟩:=chg_cells (HR.out.below HI.out.below) hc
   have hdr : l.drop i = c :: l.drop (i + 1):=by
    rw [List.drop_eq_getElem_cons hlt]
    have:=List.getElem?_eq_getElem hlt
    rw [hc] at this
    rw [Option.some.inj this]
   have HDR:=hid hdr
   have HLT:=hid hlt
   obtain ⟨k,u,dr⟩:=c
   simp only at d0 d1 d2
   clear hc hdr hlt hi
   go_upto_region 7 with (fail)
   obtain ⟨W1,hW1⟩ : ∃ x,x = wr.alloc (.cells #[.string k,.string u,.bool dr] 42):=⟨_,rfl⟩
   rw [← hW1]
   have hb1 : Below wr.heap.size wr W1:=by rw [hW1]; exact (Below.refl _ _).alloc (Nat.le_refl _) _
   have hx1 : IsBlk W1 wr.heap.size #[.string k,.string u,.bool dr] 42:=by rw [hW1]; exact blk_new _ _
   have hz1 : W1.heap.size = wr.heap.size + 1:=by rw [hW1]; simp
   obtain ⟨xb,hxb⟩ : ∃ x,x = wr.heap.size:=⟨_,rfl⟩
   rw [← hxb]
   rw [← hxb] at hx1
   obtain ⟨seen,m,hch,hsn,hmp⟩:=HI.out.ex
   have hmp1:=hmp.below hb1
   have hcnt:=hsn k
   obtain ⟨n,hn⟩ : ∃ n,n = (findL slt m k).getD 0:=⟨_,rfl⟩
   have hlk : (Instr.lookup 151 (.map (some mb)) (.string k) false).run Tryz.prog W1 = .ok (.int .i64 n) W1:=by
    have:=hmp1.lookup (P:=Tryz.prog) (t:=151) Tryz.underlying151 Tryz.underlying9 (Tryz.zeroValue3 W1) k false
    rw [if_neg (by simp)] at this
    have e : ((findL strKind.lt m k).map evI).getD (.int .i64 0) = .int .i64 n:=by
     rw [hn]
     show ((findL slt m k).map evI).getD (.int .i64 0) = _
     cases findL slt m k <;> rfl
    rw [e] at this
    rw [HMB.out]
    exact this
   obtain ⟨W2,hup,hmp2,hk2,hz2⟩:=hmp1.update (P:=Tryz.prog) (t:=151) Tryz.underlying151 Tryz.underlying9 k (n + 1)
   replace hup : (Instr.mapUpdate 151 (.map (some mb)) (.string k) (.int .i64 (n + 1))).run Tryz.prog W1 = .ok () W2:=by rw [HMB.out]; exact hup
   have hlk2 : (Instr.lookup 151 (.map (some mb)) (.string k) false).run Tryz.prog W2 = .ok (.int .i64 (n + 1)) W2:=by
    have:=hmp2.lookup (P:=Tryz.prog) (t:=151) Tryz.underlying151 Tryz.underlying9 (Tryz.zeroValue3 W2) k false
    rw [if_neg (by simp)] at this
    have e : ((findL strKind.lt (putL strKind.lt m k (n + 1)) k).map evI).getD (.int .i64 0) = .int .i64 (n + 1):=by
     have h1 : findL slt (putL slt m k (n + 1)) k = some (n + 1):=by rw [find_putI hmp.rise,if_pos rfl]
     show ((findL slt (putL slt m k (n + 1)) k).map evI).getD (.int .i64 0) = _
     rw [h1]; rfl
    rw [e] at this
    rw [HMB.out]
    exact this
   have hlow : w.heap.size < xb:=by rw [hxb]; exact HI.out.lt
   have hx2 : IsBlk W2 xb #[.string k,.string u,.bool dr] 42:=hk2.obj hx1 (by omega)
   have hb2 : Below w.heap.size w W2:=below_keeps (HI.out.below.trans (hb1.mono HI.out.below.size)) hk2 (fun i e => by omega) (by have:=HI.out.below.size; omega)
   have x0 : W1.cell? ⟨xb,0,none⟩ = some (.string k):=blk_cell hx1 0
   have y0 : W2.cell? ⟨xb,0,none⟩ = some (.string k):=blk_cell hx2 0
   have y1 : W2.cell? ⟨xb,1,none⟩ = some (.string u):=blk_cell hx2 1
   have y2 : W2.cell? ⟨xb,2,none⟩ = some (.bool dr):=blk_cell hx2 2
   have HB2:=hid hb2
   have HCH:=hid hch
   have HCF:=hid (show chkFrom seen (⟨k,u,dr⟩ :: l.drop (i + 1)) = chkFrom [] l by rw [← HDR.out]; exact HCH.out)
   have hn2 : n = 0 ∨ n = 1:=by rw [hn,hcnt]; split <;> simp
   have n0 : 0 ≤ n:=by omega
   have n1 : n ≤ 1:=by omega
   have HN : Hid (n = if (seen.any fun q => decide (tx q = tx k)) = true then 1 else 0):=hid (by rw [hn,hcnt])
   have HNX : Hid ((seen.any fun q => decide (tx q = tx k)) = false → n = 0 → chkFrom (k :: seen) (l.drop (i + 1)) = chkFrom [] l → ChkI w l (i + 1) W2):=hid fun e e0 hc => by
    refine ⟨⟨k :: seen,_,hc,hsn.more hmp.rise e,?_⟩,HB2.out,by rw [hz2,hz1]; have:=HI.out.lt; omega⟩
    have h2:=hmp2
    rw [e0] at h2
    exact h2
   have ks : (0 : Int) ≤ (k.size : Int):=by omega
   clear hW1 hb1 hx1 hz1 hmp hmp1 hcnt hn hmp2 hk2 hz2 hx2 hb2 hch hsn hn2 hlow hxb d0 d1 d2 HI
   by_cases hk1 : k.size < 1
   ·have t1 : (k.size : Int) < 1:=by omega
    have t2 : decide ((k.size : Int) < 1) = true:=by simp; omega
    have HE : Hid (chkB l = 1):=hid (by rw [HC.out,← HCF.out]; unfold chkFrom; rw [if_pos (.inl hk1)])
    clear hk1
    go_wp2_with (fail)
    go_ret
    rw [HE.out]
    exact ⟨rfl,HB2.out⟩
   have t1 : ¬ (k.size : Int) < 1:=by omega
   have t2 : decide ((k.size : Int) < 1) = false:=by simp; omega
   by_cases hk2 : 200 < k.size
   ·have t3 : (200 : Int) < (k.size : Int):=by omega
    have t4 : decide ((200 : Int) < (k.size : Int)) = true:=by simp; omega
    have HE : Hid (chkB l = 1):=hid (by rw [HC.out,← HCF.out]; unfold chkFrom; rw [if_pos (.inr hk2)])
    clear hk1 hk2
    go_wp2_with (fail)
    go_ret
    rw [HE.out]
    exact ⟨rfl,HB2.out⟩
   have t3 : ¬ (200 : Int) < (k.size : Int):=by omega
   have t4 : decide ((200 : Int) < (k.size : Int)) = false:=by simp; omega
   have HK : Hid (¬ (k.size < 1 ∨ 200 < k.size)):=hid (by omega)
   by_cases hv : dr = false ∧ 65536 < u.size
   ·obtain ⟨rfl,hv2⟩:=hv
    have t5 : (65536 : Int) < (u.size : Int):=by omega
    have t6 : decide ((65536 : Int) < (u.size : Int)) = true:=by simp; omega
    have HE : Hid (chkB l = 8):=hid (by rw [HC.out,← HCF.out]; unfold chkFrom; rw [if_neg HK.out,if_pos ⟨rfl,hv2⟩])
    clear hk1 hk2 hv2
    go_wp2_with (fail)
    go_ret
    rw [HE.out]
    exact ⟨rfl,HB2.out⟩
   have HVV : Hid (¬ (dr = false ∧ 65536 < u.size)):=hid hv
   by_cases hs : (seen.any fun q => decide (tx q = tx k)) = true
   ·have t7 : (1 : Int) < n + 1:=by have:=HN.out; rw [if_pos hs] at this; omega
    have t8 : decide ((1 : Int) < n + 1) = true:=by simp; omega
    have HE : Hid (chkB l = 12):=hid (by rw [HC.out,← HCF.out]; unfold chkFrom; rw [if_neg HK.out,if_neg HVV.out,if_pos hs])
    clear hk1 hk2 hs HNX
    cases dr with
    | true =>
      clear hv
      go_wp2_with (fail)
      go_ret
      rw [HE.out]
      exact ⟨rfl,HB2.out⟩
    | false =>
      have t5 : ¬ (65536 : Int) < (u.size : Int):=by intro e; exact hv ⟨rfl,by omega⟩
      have t6 : decide ((65536 : Int) < (u.size : Int)) = false:=by simp; omega
      clear hv
      go_wp2_with (fail)
      go_ret
      rw [HE.out]
      exact ⟨rfl,HB2.out⟩
   ·have hs2 : (seen.any fun q => decide (tx q = tx k)) = false:=by simpa using hs
    have t7 : ¬ (1 : Int) < n + 1:=by have:=HN.out; rw [if_neg hs] at this; omega
    have t8 : decide ((1 : Int) < n + 1) = false:=by simp; omega
    have HX : Hid (ChkI w l (i + 1) W2):=hid (HNX.out hs2 (by rw [HN.out,if_neg hs]) (by
     rw [← HCF.out]
     conv => rhs; unfold chkFrom
     rw [if_neg HK.out,if_neg HVV.out,if_neg hs]))
    clear hk1 hk2 hs hs2 HNX
    cases dr with
    | true =>
      clear hv
      go_wp2_with (fail)
      go_roundw
      case rel => exact ⟨i + 1,HLT.out,by go_num,HX⟩
      case measure => have:=HLT.out; simp [intOf]; omega
    | false =>
      have t5 : ¬ (65536 : Int) < (u.size : Int):=by intro e; exact hv ⟨rfl,by omega⟩
      have t6 : decide ((65536 : Int) < (u.size : Int)) = false:=by simp; omega
      clear hv
      go_wp2_with (fail)
      go_roundw
      case rel => exact ⟨i + 1,HLT.out,by go_num,HX⟩
      case measure => have:=HLT.out; simp [intOf]; omega
  ·have q2 : ¬ (i : Int) < (l.length : Int):=by omega
   have HE : Hid (chkB l = 0):=hid (by
    obtain ⟨seen,m,hch,-,-⟩:=HI.out.ex
    rw [HC.out,← hch,List.drop_eq_nil_of_le (by omega)]
    rfl)
   clear hlt hi
   go_wp2_with (fail)
   go_ret
   rw [HE.out]
   exact ⟨rfl,HI.out.below⟩
end
section
variable {P : Program} {ops : Array Oper} {Q : Exit → Act → World → Prop} {md : Region.Mode} {T : World → Prop} {B : Nat → Bool}
def wpAnyB (P : Program) (md : Region.Mode) (ops : Array Oper) (Q : Exit → Act → World → Prop) (T : World → Prop) (B : Nat → Bool) : Nat → Array Bool → Act → World → Prop
 | 0,listed,a,w => Region.ready md ops listed = [] ∧ Q .normal a w
 | fuel + 1,listed,a,w =>
   (Region.ready md ops listed = [] → Q .normal a w) ∧
   ∀ i ∈ Region.ready md ops listed,wpOp P ops Q i (fun a' w' => (B i = true → T w → T w') ∧ wpAnyB P md ops Q T B fuel (listed.setIfInBounds i true) a' w') a w
theorem wpAny_of_B : ∀ (fuel : Nat) (listed : Array Bool) (a : Act) (w : World),wpAnyB P md ops Q T B fuel listed a w → wpAny P md ops Q fuel listed a w
 | 0,_,_,_,h => h
 | fuel + 1,_,_,_,h => ⟨h.1,fun i hi => wpOp_mono (fun a' w' h' => wpAny_of_B fuel _ a' w' h'.2) (h.2 i hi)⟩
def aheadB (md : Region.Mode) (ops : Array Oper) (B : Nat → Bool) (i : Nat) : Bool :=
 (List.range ops.size).all fun j => B j || match ops[j]? with
   | some o => o.after.any fun e => Region.binds md e && e.on == i
   | none => true
theorem aheadB_spec {i : Nat} (h : aheadB md ops B i = true) {j : Nat} {oj : Oper} (hj : ops[j]? = some oj) (hn : ∀ e ∈ oj.after,Region.binds md e = true → e.on ≠ i) : B j = true:=by
 have hlt : j < ops.size:=by
  rcases Nat.lt_or_ge j ops.size with h | h
  ·exact h
  ·rw [Array.getElem?_eq_none h] at hj; cases hj
 have:=List.all_eq_true.1 h j (List.mem_range.2 hlt)
 rw [hj] at this
 simp only [Bool.or_eq_true] at this
 rcases this with h | h
 ·exact h
 ·exfalso
  obtain ⟨e,he,hb⟩:=Array.any_eq_true'.1 h
  simp only [Bool.and_eq_true,beq_iff_eq] at hb
  exact hn e he hb.1 hb.2
theorem wpAnyB_first {i : Nat} {oi : Oper} {v : Value} (hi : ops[i]? = some oi) (hsel : ∀ (j : Nat) (o : Oper) cs b,ops[j]? = some o → o.op ≠ .select cs b)
 (hQ : ∀ c a w,Q (.panic c) (a.put oi.dst v) w → Q (.panic c) a w) (hB : aheadB md ops B i = true) :
 ∀ (fuel : Nat) (listed : Array Bool) (a : Act) (w : World),
   (∀ j oj,ops[j]? = some oj → j ≠ i → listed.getD j true = false → (∀ e ∈ oj.after,Region.binds md e = true → e.on ≠ i) → oi.apart ops oj = true) →
   i ∈ Region.ready md ops listed → YieldsIf P ops T oi v a → T w →
   wpAnyB P md ops Q T B fuel (listed.setIfInBounds i true) (a.put oi.dst v) w → wpAnyB P md ops Q T B (fuel + 1) listed a w:=by
 intro fuel
 induction fuel with
 | zero =>
   intro listed a w _ hr hy hS H
   refine ⟨fun h => (by rw [h] at hr; cases hr),fun j hj => ?_⟩
   by_cases hji : j = i
   ·subst hji; exact hy.wpOp hi hS ⟨fun _ h => h,H⟩
   ·have:=ready_mono hj hji
    rw [H.1] at this
    cases this
 | succ fuel ih =>
   intro listed a w hfree hr hy hS H
   refine ⟨fun h => (by rw [h] at hr; cases hr),fun j hj => ?_⟩
   by_cases hji : j = i
   ·subst hji; exact hy.wpOp hi hS ⟨fun _ h => h,H⟩
   ·have h1:=H.2 j (ready_mono hj hji)
    obtain ⟨hjun,oj,hoj,hall⟩:=mem_ready.1 hj
    have hnot : ∀ e ∈ oj.after,Region.binds md e = true → e.on ≠ i:=fun e he hb heq => by
     have h1:=hall e he hb
     have h0:=(mem_ready.1 hr).1
     rw [heq] at h1
     rcases Nat.lt_or_ge i listed.size with h' | h'
     ·simp [h'] at h0 h1; rw [h0] at h1; cases h1
     ·simp [Array.getElem?_eq_none h'] at h1
    have hBj:=aheadB_spec hB hoj hnot
    have h2:=wpOp_putIf hoj (hfree j oj hoj hji hjun hnot) (fun cs b => hsel i oi cs b hi) (fun cs b => hsel j oj cs b hoj) hQ hy h1
    have hfree' : ∀ k ok,ops[k]? = some ok → k ≠ i → (listed.setIfInBounds j true).getD k true = false →
        (∀ e ∈ ok.after,Region.binds md e = true → e.on ≠ i) → oi.apart ops ok = true:=fun k ok hk hki hun hno => by
      refine hfree k ok hk hki ?_ hno
      by_cases hjk : j = k
      ·subst hjk; exact hjun
      ·rw [getD_set_ne true hjk] at hun; exact hun
    refine wpOp_mono (fun a' w' h3 => ⟨h3.2.1,ih (listed.setIfInBounds j true) a' w' hfree' (ready_mono hr (Ne.symm hji)) h3.1 (h3.2.1 hBj hS) ?_⟩) h2
    rw [Array.setIfInBounds_comm _ _ hji]
    exact h3.2.2
theorem wpAnyB_first' {i : Nat} {oi : Oper} {v : Value} (hi : ops[i]? = some oi) (hsel : ∀ (j : Nat) (o : Oper) cs b,ops[j]? = some o → o.op ≠ .select cs b)
 (hQ : ∀ c a w,Q (.panic c) (a.put oi.dst v) w → Q (.panic c) a w) :
 ∀ (fuel : Nat) (listed : Array Bool) (a : Act) (w : World),
   (∀ j oj,ops[j]? = some oj → j ≠ i → listed.getD j true = false → (∀ e ∈ oj.after,Region.binds md e = true → e.on ≠ i) → oi.apart ops oj = true) →
   i ∈ Region.ready md ops listed → YieldsIf P ops (fun _ => True) oi v a →
   wpAnyB P md ops Q T B fuel (listed.setIfInBounds i true) (a.put oi.dst v) w → wpAnyB P md ops Q T B (fuel + 1) listed a w:=by
 intro fuel
 induction fuel with
 | zero =>
   intro listed a w _ hr hy H
   refine ⟨fun h => (by rw [h] at hr; cases hr),fun j hj => ?_⟩
   by_cases hji : j = i
   ·subst hji; exact hy.wpOp hi trivial ⟨fun _ h => h,H⟩
   ·have:=ready_mono hj hji
    rw [H.1] at this
    cases this
 | succ fuel ih =>
   intro listed a w hfree hr hy H
   refine ⟨fun h => (by rw [h] at hr; cases hr),fun j hj => ?_⟩
   by_cases hji : j = i
   ·subst hji; exact hy.wpOp hi trivial ⟨fun _ h => h,H⟩
   ·have h1:=H.2 j (ready_mono hj hji)
    obtain ⟨hjun,oj,hoj,hall⟩:=mem_ready.1 hj
    have hnot : ∀ e ∈ oj.after,Region.binds md e = true → e.on ≠ i:=fun e he hb heq => by
     have h1:=hall e he hb
     have h0:=(mem_ready.1 hr).1
     rw [heq] at h1
     rcases Nat.lt_or_ge i listed.size with h' | h'
     ·simp [h'] at h0 h1; rw [h0] at h1; cases h1
     ·simp [Array.getElem?_eq_none h'] at h1
    have h2:=wpOp_putIf hoj (hfree j oj hoj hji hjun hnot) (fun cs b => hsel i oi cs b hi) (fun cs b => hsel j oj cs b hoj) hQ hy h1
    have hfree' : ∀ k ok,ops[k]? = some ok → k ≠ i → (listed.setIfInBounds j true).getD k true = false →
        (∀ e ∈ ok.after,Region.binds md e = true → e.on ≠ i) → oi.apart ops ok = true:=fun k ok hk hki hun hno => by
      refine hfree k ok hk hki ?_ hno
      by_cases hjk : j = k
      ·subst hjk; exact hjun
      ·rw [getD_set_ne true hjk] at hun; exact hun
    refine wpOp_mono (fun a' w' h3 => ⟨h3.2.1,ih (listed.setIfInBounds j true) a' w' hfree' (ready_mono hr (Ne.symm hji)) h3.1 ?_⟩) h2
    rw [Array.setIfInBounds_comm _ _ hji]
    exact h3.2.2
theorem wpAnyB_load {i : Nat} {oi : Oper} {v : Value} {fuel : Nat} {listed : Array Bool} {a : Act} {w : World} (hi : ops[i]? = some oi)
 (hs : Region.noSelect ops = true) (hB : aheadB md ops B i = true) (hf : Region.free md ops listed i = true) (hr : (Region.ready md ops listed).contains i = true)
 (hQ : ∀ c a w,Q (.panic c) (a.put oi.dst v) w → Q (.panic c) a w) (hy : YieldsIf P ops T oi v a) (hS : T w)
 (h : wpAnyB P md ops Q T B fuel (listed.setIfInBounds i true) (a.put oi.dst v) w) : wpAnyB P md ops Q T B (fuel + 1) listed a w :=
 wpAnyB_first hi (Region.noSelect_spec hs) hQ hB fuel listed a w (Region.free_spec hi hf) (by simpa using hr) hy hS h
theorem wpAnyB_take {i : Nat} {oi : Oper} {v : Value} {fuel : Nat} {listed : Array Bool} {a : Act} {w : World} (hi : ops[i]? = some oi)
 (hs : Region.noSelect ops = true) (hf : Region.free md ops listed i = true) (hr : (Region.ready md ops listed).contains i = true)
 (hQ : ∀ c a w,Q (.panic c) (a.put oi.dst v) w → Q (.panic c) a w) (hy : YieldsIf P ops (fun _ => True) oi v a)
 (h : wpAnyB P md ops Q T B fuel (listed.setIfInBounds i true) (a.put oi.dst v) w) : wpAnyB P md ops Q T B (fuel + 1) listed a w :=
 wpAnyB_first' hi (Region.noSelect_spec hs) hQ fuel listed a w (Region.free_spec hi hf) (by simpa using hr) hy h
theorem wpAnyB_done {listed : Array Bool} {a : Act} {w : World} (hr : Region.ready md ops listed = []) (h : Q .normal a w) : ∀ fuel,wpAnyB P md ops Q T B fuel listed a w
 | 0 => ⟨hr,h⟩
 | _ + 1 => ⟨fun _ => h,by rw [hr]; simp⟩
theorem wp_region_B {id : Nat} {a : Act} {w : World} (hm : P.follows .mixedOrders = true)
 (h : wpAnyB P .any ops Q T B ops.size (Array.replicate ops.size false) a w.drew) : (Code.region id ops true).wp P Q a w :=
 wp_region_any hm (wpAny_of_B _ _ _ _ h)
def AllReadyB (P : Program) (md : Region.Mode) (ops : Array Oper) (Q : Exit → Act → World → Prop) (T : World → Prop) (B : Nat → Bool) (fuel : Nat) (listed : Array Bool) (a : Act) (w : World) (rs : List Nat) : Prop :=
 ∀ i ∈ rs,wpOp P ops Q i (fun a' w' => (B i = true → T w → T w') ∧ wpAnyB P md ops Q T B fuel (listed.setIfInBounds i true) a' w') a w
theorem AllReadyB.nil {fuel : Nat} {listed : Array Bool} {a : Act} {w : World} : AllReadyB P md ops Q T B fuel listed a w []:=fun _ h => by cases h
theorem AllReadyB.cons {fuel : Nat} {listed : Array Bool} {a : Act} {w : World} {i : Nat} {o : Oper} {rs : List Nat} (ho : ops[i]? = some o)
 (h : ∀ K' : Act → World → Prop,Shut (∀ a w',(B i = true → T w → T w') → wpAnyB P md ops Q T B fuel (listed.setIfInBounds i true) a w' → K' a w') → if Region.wanted o (yielded ops a.tmps) = true then Oper.wp P o a w K' Q else K' (a.put o.dst undef) w)
 (hs : AllReadyB P md ops Q T B fuel listed a w rs) : AllReadyB P md ops Q T B fuel listed a w (i :: rs):=fun j hj => by
 rcases List.mem_cons.1 hj with rfl | hj
 ·exact wpOp_step ho (fun K' hK => h K' (fun a w hS hW => hK a w ⟨hS,hW⟩))
 ·exact hs j hj
theorem wpAnyB_ready {rs : List Nat} {fuel : Nat} {listed : Array Bool} {a : Act} {w : World} (hr : Region.ready md ops listed = rs) (hne : rs ≠ [])
 (h : AllReadyB P md ops Q T B fuel listed a w rs) : wpAnyB P md ops Q T B (fuel + 1) listed a w:=⟨fun h0 => absurd (hr ▸ h0) hne,hr ▸ h⟩
end
end Go.Proofs.YtagdchgkjjpacaaGreat
