/- The walks of the log's small functions: Sum, four, value. -/
import Derived.Test.YtagdchgkjjpacaaGreatr04
import Derived.Test.YtagdchgkjjpacaaGreatr03
import Derived.Test.YtagdchgkjjpacaaGreatr06
set_option maxRecDepth 100000
open Go.Lib (hid)
namespace Go.Proofs.YtagdchgkjjpacaaGreat
open Go.RowKit Go.Shelf
theorem byte_cell {w : World} {a : Option Addr} {len cap : Nat} {ys : List UInt8} (h : RdAt byteKind w (.slice a len cap) ys) {k : Nat} {x : UInt8} (hx : ys[k]? = some x) : ∃ g off,a = some ⟨g,off,none⟩ ∧ w.cell? ⟨g,off + k,none⟩ = some (.int .u8 (x.toNat : Int)):=by
 obtain ⟨_,_,e1,hr⟩:=h
 injection e1 with e1 _ e3
 subst e1 e3
 obtain ⟨g,off,rfl,d1⟩:=hr k x hx
 have d1:=d1 0 (by decide)
 exact ⟨g,off,rfl,by simpa [byteKind] using d1⟩
theorem crcOdd {c : Nat} (hc : c < 4294967296) (h : c % 2 = 1) : bits .xor .u32 ((c : Int) / 2) 3988292384 = ((crcBit c : Nat) : Int):=by
 unfold crcBit
 rw [if_pos h]
 exact u32_xor_nat (c / 2) 3988292384 (by omega) (by omega)
theorem crcAnd {c : Nat} (hc : c < 4294967296) : bits .and .u32 (c : Int) 1 = ((c % 2 : Nat) : Int):=by
 rw [show (1 : Int) = ((1 : Nat) : Int) from rfl,u32_and_nat c 1 hc (by omega),Nat.and_one_is_mod]
theorem crcIn {c : Nat} (hc : c < 4294967296) (x : UInt8) : bits .xor .u32 (c : Int) (x.toNat : Int) = ((c ^^^ x.toNat : Nat) : Int):=u32_xor_nat c x.toNat hc (by have:=x.toNat_lt; omega)
theorem crcOut {c : Nat} (hc : c < 4294967296) : bits .xor .u32 4294967295 (c : Int) = ((4294967295 ^^^ c : Nat) : Int):=u32_xor_nat 4294967295 c (by omega) hc
set_option maxHeartbeats 1000000 in
theorem w_sum {w : World} {u : Value} {ys : List UInt8} (hu : RdAt byteKind w u ys) (hn : ys.length ≤ 1000000000) :
 Calls Tryz.prog 139 #[u] w fun e w' => e = .returned (.int .u32 (sumOf ys : Int)) ∧ w = w':=by
 have HR:=hid hu
 obtain ⟨a,cap,rfl,hr⟩:=hu
 clear hr
 have hn2 : (ys.length : Int) ≤ 1000000000:=by omega
 go_enter Tryz.func139,Tryz.ntmps139
 go_wp2_with (fail)
 go_loopw [3,9] (fun c i wr => ∃ k : Nat,k ≤ ys.length ∧ i = .int .i64 k ∧ c = .int .u32 (crcOf (ys.take k) : Int) ∧ wr = w) (fun _ i _ => ys.length - (intOf i).toNat)
 case atStart => exact ⟨0,Nat.zero_le _,rfl,rfl,rfl⟩
 case round =>
  obtain ⟨k,hk,rfl,rfl,rfl⟩:=hrel
  by_cases hlt : k < ys.length
  ·have hx : ys[k]? = some ys[k]:=List.getElem?_eq_getElem hlt
   generalize ys[k] = x at hx
   obtain ⟨g,off,rfl,hc⟩:=byte_cell HR.out hx
   have HS:=hid (crcOf_take hx)
   have hc0:=crcOf_lt (ys.take k)
   generalize crcOf (ys.take k) = c at HS hc0
   have HC:=hid hc0
   have hk0 : (0 : Int) ≤ (k : Int):=by omega
   have hk1 : (k : Int) < (ys.length : Int):=by omega
   clear hx
   have hxm : (x.toNat : Int) % 4294967296 = (x.toNat : Int):=by have:=x.toNat_lt; omega
   have hxi:=crcIn hc0 x
   have HX:=hid (crcXor_lt hc0 x)
   clear hc0
   go_wp2_with (fail)
   obtain ⟨wo,rfl⟩ : ∃ wo : World,wo = wr:=⟨_,rfl⟩
   go_loopw [3,17] (fun d i wx => ∃ j : Nat,j ≤ 8 ∧ i = .int .i64 j ∧ d = .int .u32 (crcBits j (c ^^^ x.toNat) : Int) ∧ wx = wo) (fun _ i _ => 8 - (intOf i).toNat)
   case atStart => exact ⟨0,Nat.zero_le _,rfl,rfl,rfl⟩
   case round =>
    obtain ⟨j,hj,rfl,rfl,rfl⟩:=hrel
    by_cases hj8 : j < 8
    ·have hd0:=crcBits_lt HX.out j
     have HE : Hid (crcBits (j + 1) (c ^^^ x.toNat) = crcBit (crcBits j (c ^^^ x.toNat))):=hid rfl
     generalize crcBits j (c ^^^ x.toNat) = d at HE hd0
     have ha:=crcAnd hd0
     have hj9 : (j : Int) < 8:=by omega
     by_cases hodd : d % 2 = 1
     ·have ho:=crcOdd hd0 hodd
      rw [hodd] at ha
      clear hd0 hodd
      go_wp2_with (fail)
      go_roundw
      case rel => exact ⟨j + 1,by omega,by go_num,by rw [HE.out,← ho],trivial⟩
      case measure => simp [intOf]; omega
     ·have hodd0 : d % 2 = 0:=by omega
      rw [hodd0] at ha
      have ho : crcBit d = d / 2:=by unfold crcBit; rw [if_neg hodd]
      clear hd0 hodd hodd0
      go_wp2_with (fail)
      go_roundw
      case rel => exact ⟨j + 1,by omega,by go_num,by rw [HE.out,ho]; rfl,trivial⟩
      case measure => simp [intOf]; omega
    ·have hj9 : ¬ (j : Int) < 8:=by omega
     obtain rfl : j = 8:=by omega
     go_wp2_with (fail)
     go_roundw
     case rel => exact ⟨k + 1,by omega,by go_num,by rw [HS.out]; rfl,trivial⟩
     case measure => simp [intOf]; omega
  ·have hk1 : ¬ ((k : Int) < (ys.length : Int)):=by omega
   obtain rfl : k = ys.length:=by omega
   have hmx : IntKind.u32.max = 4294967295:=by decide
   have hco:=crcOut (crcOf_lt ys)
   rw [List.take_length] at *
   go_wp2_with (fail)
   go_ret
   exact ⟨rfl,rfl⟩
theorem numOf_take {ys : List UInt8} {k : Nat} {x : UInt8} (h : ys[k]? = some x) : numOf (ys.take (k + 1)) = numOf (ys.take k) + x.toNat * 256 ^ k:=by
 induction ys generalizing k with
 | nil => simp at h
 | cons y ys ih =>
   cases k with
   | zero =>
     simp only [List.getElem?_cons_zero,Option.some.injEq] at h
     subst h
     simp [numOf]
   | succ k =>
     simp only [List.getElem?_cons_succ] at h
     simp only [List.take_succ_cons,numOf,ih h,Nat.pow_succ]
     rw [Nat.mul_add,Nat.add_assoc]
     congr 2
     rw [← Nat.mul_assoc,Nat.mul_comm 256,Nat.mul_assoc,Nat.mul_comm 256]
theorem i64_or_nat (a b : Nat) (ha : a < 9223372036854775808) (hb : b < 9223372036854775808) : bits .or .i64 (a : Int) (b : Int) = ((a ||| b : Nat) : Int):=by
 have ho : a ||| b < 9223372036854775808:=Nat.or_lt_two_pow (n:=63) ha hb
 have e1 : (BitVec.ofInt 64 (a : Int)).toNat = a:=ofInt_u64 a (by omega)
 have e2 : (BitVec.ofInt 64 (b : Int)).toNat = b:=ofInt_u64 b (by omega)
 show IntKind.i64.wrap ((BitVec.ofInt 64 (a : Int) ||| BitVec.ofInt 64 (b : Int)).toNat : Int) = _
 rw [BitVec.toNat_or,e1,e2]
 exact IntWalk.i64_in _ ⟨by omega,by omega⟩
theorem or_next {ys : List UInt8} {k : Nat} {x : UInt8} (h : ys[k]? = some x) (hk : k < 4) : bits .or .i64 (numOf (ys.take k) : Int) ((x.toNat * 256 ^ k : Nat) : Int) = (numOf (ys.take (k + 1)) : Int):=by
 have h1 : numOf (ys.take k) < 256 ^ k:=by
  have:=numOf_lt (ys.take k)
  have h2 : 256 ^ (ys.take k).length ≤ 256 ^ k:=Nat.pow_le_pow_right (by omega) (by rw [List.length_take]; omega)
  omega
 have hx:=x.toNat_lt
 have h3 : 256 ^ k ≤ 256 ^ 3:=Nat.pow_le_pow_right (by omega) (by omega)
 have h4 : x.toNat * 256 ^ k ≤ 255 * 256 ^ 3:=Nat.mul_le_mul (by omega) h3
 rw [i64_or_nat _ _ (by omega) (by omega),numOf_take h]
 have e : (256 : Nat) ^ k = 2 ^ (8 * k):=by rw [show (256 : Nat) = 2 ^ 8 from rfl,← Nat.pow_mul]
 rw [e] at h1 ⊢
 rw [Nat.or_comm,Nat.mul_comm x.toNat,← Nat.two_pow_add_eq_or_of_lt h1,Nat.add_comm]
theorem shl_in (x : UInt8) {k : Nat} (hk : k < 4) : wrap64 (wrap64 (x.toNat : Int) * 2 ^ (8 * k)) = ((x.toNat * 256 ^ k : Nat) : Int):=by
 have hx:=x.toNat_lt
 have h3 : 256 ^ k ≤ 256 ^ 3:=Nat.pow_le_pow_right (by omega) (by omega)
 have h4 : x.toNat * 256 ^ k ≤ 255 * 256 ^ 3:=Nat.mul_le_mul (by omega) h3
 have e1 : wrap64 (x.toNat : Int) = (x.toNat : Int):=IntWalk.wrap64_in _ (by omega)
 have e2 : (x.toNat : Int) * 2 ^ (8 * k) = ((x.toNat * 256 ^ k : Nat) : Int):=by
  rw [show (256 : Nat) = 2 ^ 8 from rfl,← Nat.pow_mul]; push_cast; rfl
 rw [e1,e2]
 exact IntWalk.wrap64_in _ (by omega)
set_option maxHeartbeats 1000000 in
theorem w_value {w : World} {a : Option Addr} {len cap : Nat} {ys : List UInt8} (hu : RdAt byteKind w (.slice a len cap) ys) (hn : 4 ≤ ys.length) (hm : ys.length ≤ 1000000000) :
 Calls Tryz.prog 198 #[.slice a len cap] w fun e w' => e = .returned (.int .i64 (numOf (ys.take 4) : Int)) ∧ w = w':=by
 have HR:=hid hu
 obtain rfl : len = ys.length:=by obtain ⟨_,_,e,_⟩:=hu; injection e
 clear hu
 have hm2 : (ys.length : Int) ≤ 1000000000:=by omega
 have hn2 : (4 : Int) ≤ (ys.length : Int):=by omega
 go_enter Tryz.func198,Tryz.ntmps198
 go_wp2_with (fail)
 go_loopw [3,5] (fun c i wr => ∃ k : Nat,k ≤ 4 ∧ i = .int .i64 k ∧ c = .int .i64 (numOf (ys.take k) : Int) ∧ wr = w) (fun _ i _ => 4 - (intOf i).toNat)
 case atStart => exact ⟨0,Nat.zero_le _,rfl,rfl,rfl⟩
 case round =>
  obtain ⟨k,hk,rfl,rfl,rfl⟩:=hrel
  by_cases hlt : k < 4
  ·have hx : ys[k]? = some ys[k]:=List.getElem?_eq_getElem (by omega)
   generalize ys[k] = x at hx
   obtain ⟨g,off,rfl,hc⟩:=byte_cell HR.out hx
   have HO:=hid (or_next hx hlt)
   have HS:=hid (shl_in x hlt)
   have hk0 : (0 : Int) ≤ (k : Int):=by omega
   have hk1 : (k : Int) < 4:=by omega
   have hk2 : (k : Int) < (ys.length : Int):=by omega
   clear hx
   go_wp2_with (fail)
   go_roundw
   case rel => exact ⟨k + 1,by omega,by go_num,by rw [HS.out,HO.out],trivial⟩
   case measure => simp [intOf]; omega
  ·have hk1 : ¬ ((k : Int) < 4):=by omega
   obtain rfl : k = 4:=by omega
   go_wp2_with (fail)
   go_ret
   exact ⟨rfl,rfl⟩
structure GrowAt (w : World) (v : Value) (w' : World) (v2 : Value) (zs : List UInt8) : Prop where
 sl : SlAt byteKind 5 w' v2 zs
 keeps : Keeps (fun k => v.ownBlock = some k) w w'
 own : ∀ k,v2.ownBlock = some k → v.ownBlock = some k ∨ w.heap.size ≤ k
theorem GrowAt.refl {w : World} {v : Value} {xs : List UInt8} (h : SlAt byteKind 5 w v xs) : GrowAt w v w v xs:=⟨h,Keeps.refl _ _,fun _ hk => .inl hk⟩
theorem GrowAt.below {w w1 w2 : World} {v v1 : Value} {xs : List UInt8} (h : GrowAt w v w1 v1 xs) (k : Below w1.heap.size w1 w2) : GrowAt w v w2 v1 xs :=
 ⟨h.sl.below k,h.keeps.trans' ((Keeps.of_below k).mono (fun _ _ e => e.elim)),h.own⟩
theorem GrowAt.trans {w w1 w2 : World} {v v1 v2 : Value} {xs ys : List UInt8} (h : GrowAt w v w1 v1 xs) (k : GrowAt w1 v1 w2 v2 ys) : GrowAt w v w2 v2 ys :=
 ⟨k.sl,h.keeps.trans k.keeps (fun i hi e => by
  rcases h.own i e with e | e
  ·exact e
  ·omega),fun i hi => by
  rcases k.own i hi with e | e
  ·exact h.own i e
  ·exact .inr (by have:=h.keeps.size; omega)⟩
theorem one_byte (w : World) (x : UInt8) : RdAt byteKind (w.alloc (.cells #[.int .u8 (x.toNat : Int)] 5)) (.slice (some ⟨w.heap.size,0,none⟩) 1 1) [x]:=by
 refine ⟨_,1,rfl,fun j y hy => ⟨w.heap.size,0,rfl,fun i hi => ?_⟩⟩
 match j,hy with
 | 0,hy =>
   simp only [List.getElem?_cons_zero,Option.some.injEq] at hy
   subst hy
   have hi0 : i = 0:=by have : i < 1:=hi; omega
   subst hi0
   exact blk_cell (cs:=#[.int .u8 (x.toNat : Int)]) (heap_alloc_new w _) 0
theorem grow_one {w w1 : World} {v v1 : Value} {zs : List UInt8} (h : GrowAt w v w1 v1 zs) (hz : zs.length ≤ 100000000) (x : UInt8) (ty : TypeId) :
 ∃ v' w',(Builtin.append_ #[23,23] ty #[v1,.slice (some ⟨w1.heap.size,0,none⟩) 1 1]).run Tryz.prog (w1.alloc (.cells #[.int .u8 (x.toNat : Int)] 5)) = .ok v' w' ∧ GrowAt w v w' v' (zs ++ [x]):=by
 have hb : Below w1.heap.size w1 (w1.alloc (.cells #[.int .u8 (x.toNat : Int)] 5)):=(Below.refl _ _).alloc (Nat.le_refl _) _
 obtain ⟨v',w',hr,hs,hk,ho,_⟩:=append_bytes (h.below hb).sl (one_byte w1 x) (by simp only [List.length_cons,List.length_nil]; omega) ty
 exact ⟨v',w',hr,(h.below hb).trans ⟨hs,hk,ho⟩⟩
theorem byteOf (m : Nat) : ((UInt8.ofNat m).toNat : Int) = (m : Int) % 256:=by rw [UInt8.toNat_ofNat']; omega
set_option maxHeartbeats 1000000 in
theorem w_four {w : World} {v : Value} {xs : List UInt8} (hv : SlAt byteKind 5 w v xs) (hx : xs.length ≤ 10000000) (n : Nat) (hn : n < 4294967296) :
 Calls Tryz.prog 138 #[v,.int .u32 (n : Int)] w fun e w' => ∃ v',e = .returned v' ∧ GrowAt w v w' v' (xs ++ lowN 4 n):=by
 have HV:=hid (GrowAt.refl hv)
 clear hv
 go_enter Tryz.func138,Tryz.ntmps138
 go_wp2_with (fail)
 go_loopw [0,1,5] (fun b c i wr => ∃ (j m : Nat) (zs : List UInt8),j ≤ 4 ∧ i = .int .i64 (4 - (j : Int)) ∧ c = .int .u32 (m : Int) ∧ m < 4294967296 ∧ Hid (zs ++ lowN j m = lowN 4 n) ∧ Hid (GrowAt w v wr b (xs ++ zs))) (fun _ _ i _ => 4 - (intOf i).toNat)
 case atStart => exact ⟨4,n,[],Nat.le_refl _,rfl,rfl,hn,hid rfl,by rw [List.append_nil]; exact HV⟩
 case round =>
  obtain ⟨j,m,zs,hj,rfl,rfl,hm,HE,HG⟩:=hrel
  cases j with
  | zero =>
    go_wp2_with (fail)
    go_ret
    refine ⟨_,rfl,?_⟩
    rw [← HE.out]
    simpa [lowN] using HG.out
  | succ j =>
    obtain ⟨v',w',hrun,hg⟩:=grow_one HG.out (by have:=congrArg List.length HE.out; rw [List.length_append,lowN_len,lowN_len] at this; rw [List.length_append]; omega) (UInt8.ofNat m) 23
    rw [byteOf] at hrun
    have HG':=hid hg
    have hj1 : (4 : Int) - ((j + 1 : Nat) : Int) < 4:=by omega
    clear hg
    go_wp2_with (at_builtin; refine wpList_append_run rfl (.tmp 7) (.tmp 10) 23 rfl _ _ rfl rfl _ _ hrun ?_)
    go_roundw
    case rel => exact ⟨j,m / 256,zs ++ [UInt8.ofNat m],by omega,by go_num,by congr 1,by omega,hid (by rw [List.append_assoc]; exact HE.out),by rw [← List.append_assoc]; exact HG'⟩
    case measure => simp [intOf]; omega
theorem GrowAt.new {w w' : World} {v : Value} {ys : List UInt8} (h : GrowAt w (.slice none 0 0) w' v ys) : FreshAt w w' v ys :=
 ⟨h.sl,fun k hk => by rcases h.own k hk with e | e; simp [Value.ownBlock] at e; exact e,h.keeps.to_below (Nat.le_refl _) (fun i hi e => by simp [Value.ownBlock] at e)⟩
theorem FreshAt.read {w w1 w2 : World} {v : Value} {ys : List UInt8} (h : FreshAt w w1 v ys) (k : Below w1.heap.size w1 w2) : FreshAt w w2 v ys:=⟨h.sl.below k,h.new,h.below.trans (k.mono h.below.size)⟩
theorem FreshAt.grow {w w1 w2 : World} {v v2 : Value} {ys zs : List UInt8} (h : FreshAt w w1 v ys) (k : GrowAt w1 v w2 v2 zs) : FreshAt w w2 v2 zs :=
 ⟨k.sl,fun i hi => by
  rcases k.own i hi with e | e
  ·exact h.new i e
  ·have:=h.below.size; omega,below_keeps h.below k.keeps (fun i e => h.new i e) h.below.size⟩
theorem FreshAt.append {w w1 w2 : World} {v u : Value} {xs ys : List UInt8} (h : FreshAt w w1 v xs) (k : Below w1.heap.size w1 w2) (hu : RdAt byteKind w2 u ys) (hn : xs.length + ys.length ≤ 1000000000) (ty : TypeId) :
 ∃ v' w',(Builtin.append_ #[23,23] ty #[v,u]).run Tryz.prog w2 = .ok v' w' ∧ FreshAt w w' v' (xs ++ ys):=by
 have h2:=h.read k
 obtain ⟨v',w',hr,hs,hk,ho,_⟩:=append_bytes h2.sl hu (by omega) ty
 exact ⟨v',w',hr,h2.grow ⟨hs,hk,ho⟩⟩
set_option maxHeartbeats 1000000 in
theorem w_frame {w : World} {u : Value} {ys : List UInt8} (hu : RdAt byteKind w u ys) (hn : ys.length ≤ 100000000) :
 Calls Tryz.prog 85 #[u] w fun e w' => ∃ v,e = .returned v ∧ FreshAt w w' v (frameOf ys):=by
 obtain ⟨W1,hmk,hs1,hk1⟩:=make_bytes w (8 + ys.length) (by omega)
 have HF1 : Hid (FreshAt w W1 (.slice (some ⟨w.heap.size,0,none⟩) 0 (8 + ys.length)) ([] : List UInt8)):=hid ⟨hs1,fun k hk => by simp [Value.ownBlock] at hk; omega,hk1⟩
 rw [Int.natCast_add] at hmk
 have hmk : (Instr.makeSlice 23 (.int .i64 0) (.int .i64 (8 + (ys.length : Int)))).run Tryz.prog w = .ok (.slice (some ⟨w.heap.size,0,none⟩) 0 (8 + ys.length)) W1:=hmk
 have HR:=hid hu
 have HN:=hid hn
 obtain ⟨a,cap,rfl,hr⟩:=hu
 clear hr hs1 hk1
 have hn2 : (ys.length : Int) ≤ 100000000:=by omega
 have hn3 : (0 : Int) ≤ (ys.length : Int):=by omega
 clear hn
 have hm : (ys.length : Int) % 4294967296 = (ys.length : Int):=by omega
 go_enter Tryz.func85,Tryz.ntmps85
 go_wp2_with (fail)
 refine (w_four HF1.out.sl (by simp) ys.length (by have:=HN.out; omega)).mono ?_
 rintro e w2 ⟨v2,rfl,h2⟩
 have HF2:=hid (HF1.out.grow h2)
 clear h2
 go_wp2_with (fail)
 refine (w_sum (HR.out.below HF2.out.below) (by have:=HN.out; omega)).mono ?_
 rintro e w' ⟨rfl,rfl⟩
 go_wp2_with (fail)
 refine (w_four HF2.out.sl (by simp [lowN_len]) (sumOf ys) (sumOf_lt ys)).mono ?_
 rintro e w3 ⟨v3,rfl,h3⟩
 obtain ⟨v4,w4,hrun,h4⟩:=(HF2.out.grow h3).append (Below.refl _ _) (HR.out.below (HF2.out.grow h3).below) (by have:=HN.out; simp only [List.length_append,lowN_len,List.length_nil]; omega) 23
 have HF4 : Hid (FreshAt w w4 v4 (frameOf ys)):=hid (by simpa [frameOf,List.append_assoc] using h4)
 clear h3 h4
 go_wp2_with (at_builtin; refine wpList_append_run rfl (.tmp 16) (.tmp 17) 23 rfl _ _ rfl rfl _ _ hrun ?_)
 go_ret
 exact ⟨_,rfl,HF4.out⟩
structure SlV where
 a : Option Addr
 len : Nat
 cap : Nat
abbrev SlV.val (s : SlV) : Value:=.slice s.a s.len s.cap
def slKind : ElKind SlV:=⟨fun s => [s.val],1,fun _ => rfl,Nat.one_pos,fun _ u hu => by
 simp only [List.mem_cons,List.not_mem_nil,or_false] at hu; subst hu; rfl⟩
theorem infoBytes : (Tryz.prog.info? 23).map (fun i => (i.zero,i.size,i.bytes)) = some (some (.slice none 0 0),1,24):=by kernel_rfl
theorem append_sls {w : World} {v u : Value} {xs ys : List SlV} (hv : SlAt slKind 23 w v xs) (hu : RdAt slKind w u ys) (hn : xs.length + ys.length ≤ 100000000) (ty : TypeId) :
 ∃ v' w',(Builtin.append_ #[132,132] ty #[v,u]).run Tryz.prog w = .ok v' w' ∧ SlAt slKind 23 w' v' (xs ++ ys) ∧ Keeps (fun k => v.ownBlock = some k) w w' ∧
   (∀ k,v'.ownBlock = some k → v.ownBlock = some k ∨ w.heap.size ≤ k) ∧ (v' = .slice none 0 0 ↔ v = .slice none 0 0 ∧ ys = []):=by
 obtain ⟨i0,hi,hz0,hz1,hz2⟩:=info_parts infoBytes
 exact run_append_sl (ek:=slKind) 132 ty i0 _ 24 Tryz.underlying132 hi hz0 hz1 hz2 rfl hv hu (by unfold maxLen; omega) (by omega)
def Hold (w : World) (ss : List SlV) (rs : List (List UInt8)) : Prop:=ss.length = rs.length ∧ ∀ (j : Nat) (s : SlV) (r : List UInt8),ss[j]? = some s → rs[j]? = some r → SlAt byteKind 5 w s.val r
def Reads (w : World) (ss : List SlV) (rs : List (List UInt8)) : Prop:=ss.length = rs.length ∧ ∀ (j : Nat) (s : SlV) (r : List UInt8),ss[j]? = some s → rs[j]? = some r → RdAt byteKind w s.val r
theorem Hold.reads {w : World} {ss : List SlV} {rs : List (List UInt8)} (h : Hold w ss rs) : Reads w ss rs:=⟨h.1,fun j s r hs hr => (h.2 j s r hs hr).rd⟩
theorem Hold.below {w w' : World} {ss : List SlV} {rs : List (List UInt8)} (h : Hold w ss rs) (k : Below w.heap.size w w') : Hold w' ss rs:=⟨h.1,fun j s r hs hr => (h.2 j s r hs hr).below k⟩
theorem Hold.keeps {S : Nat → Prop} {w w' : World} {ss : List SlV} {rs : List (List UInt8)} (h : Hold w ss rs) (k : Keeps S w w') (hn : ∀ s ∈ ss,∀ g,s.val.ownBlock = some g → ¬ S g) : Hold w' ss rs :=
 ⟨h.1,fun j s r hs hr => (h.2 j s r hs hr).keeps k (hn s (List.mem_of_getElem? hs))⟩
theorem hold_nil (w : World) : Hold w [] []:=⟨rfl,fun j s r hs => by simp at hs⟩
theorem Hold.snoc {w : World} {ss : List SlV} {rs : List (List UInt8)} {s : SlV} {r : List UInt8} (h : Hold w ss rs) (k : SlAt byteKind 5 w s.val r) : Hold w (ss ++ [s]) (rs ++ [r]):=by
 refine ⟨by simp [h.1],fun j t q ht hq => ?_⟩
 by_cases hj : j < ss.length
 ·rw [List.getElem?_append_left hj] at ht
  rw [List.getElem?_append_left (by rw [← h.1]; exact hj)] at hq
  exact h.2 j t q ht hq
 ·rw [List.getElem?_append_right (by omega)] at ht
  rw [List.getElem?_append_right (by have:=h.1; omega),← h.1] at hq
  cases hm : j - ss.length with
  | zero => rw [hm] at ht hq; simp only [List.getElem?_cons_zero,Option.some.injEq] at ht hq; subst ht hq; exact k
  | succ m => rw [hm] at ht; simp at ht
theorem Hold.append {w : World} {ss tt : List SlV} {rs qs : List (List UInt8)} (h : Hold w ss rs) (k : Hold w tt qs) : Hold w (ss ++ tt) (rs ++ qs):=by
 refine ⟨by simp [h.1,k.1],fun j t q ht hq => ?_⟩
 by_cases hj : j < ss.length
 ·rw [List.getElem?_append_left hj] at ht
  rw [List.getElem?_append_left (by rw [← h.1]; exact hj)] at hq
  exact h.2 j t q ht hq
 ·rw [List.getElem?_append_right (by omega)] at ht
  rw [List.getElem?_append_right (by have:=h.1; omega),← h.1] at hq
  exact k.2 _ t q ht hq
structure LsAt (B : Nat) (w : World) (v : Value) (rs : List (List UInt8)) : Prop where
 ex : ∃ ss,SlAt slKind 23 w v ss ∧ Hold w ss rs ∧ ∀ s ∈ ss,∀ g,s.val.ownBlock = some g → B ≤ g
 new : ∀ g,v.ownBlock = some g → B ≤ g
def LrAt (w : World) (v : Value) (rs : List (List UInt8)) : Prop:=∃ ss,RdAt slKind w v ss ∧ Reads w ss rs
theorem LsAt.rd {B : Nat} {w : World} {v : Value} {rs : List (List UInt8)} (h : LsAt B w v rs) : LrAt w v rs:=by
 obtain ⟨ss,h1,h2,_⟩:=h.ex
 exact ⟨ss,h1.rd,h2.reads⟩
theorem LsAt.below {B : Nat} {w w' : World} {v : Value} {rs : List (List UInt8)} (h : LsAt B w v rs) (k : Below w.heap.size w w') : LsAt B w' v rs:=by
 obtain ⟨ss,h1,h2,h3⟩:=h.ex
 exact ⟨⟨ss,h1.below k,h2.below k,h3⟩,h.new⟩
theorem LsAt.mono {B C : Nat} {w : World} {v : Value} {rs : List (List UInt8)} (h : LsAt B w v rs) (hC : C ≤ B) : LsAt C w v rs:=by
 obtain ⟨ss,h1,h2,h3⟩:=h.ex
 exact ⟨⟨ss,h1,h2,fun s hs g hg => Nat.le_trans hC (h3 s hs g hg)⟩,fun g hg => Nat.le_trans hC (h.new g hg)⟩
theorem LsAt.keeps {B : Nat} {S : Nat → Prop} {w w' : World} {v : Value} {rs : List (List UInt8)} (h : LsAt B w v rs) (k : Keeps S w w') (hS : ∀ i,S i → i < B) : LsAt B w' v rs:=by
 obtain ⟨ss,h1,h2,h3⟩:=h.ex
 exact ⟨⟨ss,h1.keeps k (fun g hg e => by have:=h.new g hg; have:=hS g e; omega),h2.keeps k (fun s hs g hg e => by have:=h3 s hs g hg; have:=hS g e; omega),h3⟩,h.new⟩
theorem LsAt.nil (B : Nat) (w : World) : LsAt B w (.slice none 0 0) []:=⟨⟨[],SlAt.nil,hold_nil w,fun s hs => by simp at hs⟩,fun g hg => by simp [Value.ownBlock] at hg⟩
theorem LrAt.shape {w : World} {v : Value} {rs : List (List UInt8)} (h : LrAt w v rs) : ∃ a cap,v = .slice a rs.length cap:=by
 obtain ⟨ss,⟨a,cap,hv,_⟩,h2⟩:=h
 exact ⟨a,cap,by rw [hv,h2.1]⟩
theorem one_sl (w : World) (s : SlV) : RdAt slKind (w.alloc (.cells #[s.val] 23)) (.slice (some ⟨w.heap.size,0,none⟩) 1 1) [s]:=by
 refine ⟨_,1,rfl,fun j y hy => ⟨w.heap.size,0,rfl,fun i hi => ?_⟩⟩
 match j,hy with
 | 0,hy =>
   simp only [List.getElem?_cons_zero,Option.some.injEq] at hy
   subst hy
   have hi0 : i = 0:=by have : i < 1:=hi; omega
   subst hi0
   exact blk_cell (cs:=#[s.val]) (heap_alloc_new w _) 0
theorem LsAt.push {B : Nat} {w : World} {v : Value} {rs : List (List UInt8)} (h : LsAt B w v rs) {s : SlV} {r : List UInt8} (hs : SlAt byteKind 5 w s.val r) (hB : ∀ g,s.val.ownBlock = some g → B ≤ g) (hw : B ≤ w.heap.size) (hn : rs.length ≤ 10000000) (ty : TypeId) :
 ∃ v' w',(Builtin.append_ #[132,132] ty #[v,.slice (some ⟨w.heap.size,0,none⟩) 1 1]).run Tryz.prog (w.alloc (.cells #[s.val] 23)) = .ok v' w' ∧ LsAt B w' v' (rs ++ [r]) ∧ Keeps (fun k => v.ownBlock = some k) w w':=by
 obtain ⟨ss,h1,h2,h3⟩:=h.ex
 have hal : Below w.heap.size w (w.alloc (.cells #[s.val] 23)):=(Below.refl _ _).alloc (Nat.le_refl _) _
 obtain ⟨v',w',hr,hs',hk,ho,_⟩:=append_sls (h1.below hal) (one_sl w s) (by rw [h2.1]; simp only [List.length_cons,List.length_nil]; omega) ty
 have hK : Keeps (fun k => v.ownBlock = some k) w w':=((Keeps.of_below hal).mono (fun _ _ e => e.elim)).trans' hk
 have nv : ∀ (t : SlV) (q : List UInt8),SlAt byteKind 5 w t.val q → ∀ g,t.val.ownBlock = some g → ¬ v.ownBlock = some g:=by
  intro t q ht g hg e
  obtain ⟨c1,hb1⟩:=ht.own g hg
  obtain ⟨c2,hb2⟩:=h1.own g e
  exact blk_ne_type hb1 hb2 (by decide) rfl
 refine ⟨v',w',hr,⟨⟨ss ++ [s],hs',?_,fun t ht g hg => ?_⟩,fun g hg => ?_⟩,hK⟩
 ·refine Hold.snoc ⟨h2.1,fun j t q ht hq => (h2.2 j t q ht hq).keeps hK (nv t q (h2.2 j t q ht hq))⟩ (hs.keeps hK (nv s r hs))
 ·rcases List.mem_append.1 ht with ht | ht
  ·exact h3 t ht g hg
  ·simp only [List.mem_cons,List.not_mem_nil,or_false] at ht
   subst ht; exact hB g hg
 ·rcases ho g hg with e | e
  ·exact h.new g e
  ·have:=hal.size; omega
end Go.Proofs.YtagdchgkjjpacaaGreat
