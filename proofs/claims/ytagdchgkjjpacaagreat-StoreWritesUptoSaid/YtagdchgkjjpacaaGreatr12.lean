/- The walks of the segments' names: SegmentName, Name, number. -/
import Derived.Test.YtagdchgkjjpacaaGreatr11
import Derived.Test.YtagdchgkjjpacaaGreatr07
import Derived.Test.YtagdchgkjjpacaaGreatr03
import Derived.Test.YtagdchgkjjpacaaGreatr00
import Derived.RangeFuncNested
import Derived.RangeFuncBound
import Derived.RangeFuncCalls
import Derived.RangeFuncLeaves
import Derived.RangeFuncWrites
import Derived.Shelf.Abstract
import Derived.OwnWalkIn
import Derived.TacticsInMore
import Derived.LoopNIn
import Derived.LoopIn
import Derived.StillTailTactics
set_option maxRecDepth 100000
open Go.Lib (hid)
namespace Go.Proofs.YtagdchgkjjpacaaGreat
open Go.RowKit Go.Shelf
theorem digit_val (m : Nat) : ((UInt8.ofNat (48 + m % 10)).toNat : Int) = 48 + (m : Int) % 10:=by rw [UInt8.toNat_ofNat']; omega
theorem digit_mod (m : Nat) : (48 + (m : Int) % 10) % 256 = 48 + (m : Int) % 10:=by omega
theorem bytes_add (a b : List UInt8) : (⟨a.toArray⟩ : ByteArray) ++ ⟨b.toArray⟩ = ⟨(a ++ b).toArray⟩:=by
 apply ByteArray.ext
 simp
theorem bytes_eta (a : ByteArray) : (⟨a.data.toList.toArray⟩ : ByteArray) = a:=by cases a; rfl
structure NameI (w : World) (n k m : Nat) (wr : World) : Prop where
 ex : ∃ zs,digs k m ++ zs = digs 8 n ∧ IsBlk wr w.heap.size (List.replicate k (Value.int .u8 0) ++ zs.map fun x => Value.int .u8 (x.toNat : Int)).toArray 161
 below : Below w.heap.size w wr
theorem NameI.next {w wr : World} {n k m : Nat} (h : NameI w n (k + 1) m wr) : wr.cell? ⟨w.heap.size,k,none⟩ = some (.int .u8 0) ∧ wr.frozen? ⟨w.heap.size,k,none⟩ = false ∧
 NameI w n k (m / 10) (wr.setCell ⟨w.heap.size,k,none⟩ (.int .u8 (48 + (m : Int) % 10))):=by
 obtain ⟨zs,he,hb⟩:=h.ex
 refine ⟨?_,blk_free hb k,⟨⟨UInt8.ofNat (48 + m % 10) :: zs,by rw [← he]; simp [digs],?_⟩,h.below.setCell (p:=⟨w.heap.size,k,none⟩) (Nat.le_refl _) _⟩⟩
 ·rw [blk_cell hb k]
  simp [List.getElem?_append_left]
 ·have:=blk_set hb k (.int .u8 (48 + (m : Int) % 10))
  have e : (List.replicate (k + 1) (Value.int .u8 0) ++ zs.map fun x => Value.int .u8 (x.toNat : Int)).toArray.setIfInBounds k (.int .u8 (48 + (m : Int) % 10)) = (List.replicate k (Value.int .u8 0) ++ (UInt8.ofNat (48 + m % 10) :: zs).map fun x => Value.int .u8 (x.toNat : Int)).toArray:=by
   apply Array.ext'
   simp only [List.setIfInBounds_toArray,List.map_cons,digit_val]
   rw [List.replicate_succ',List.append_assoc,List.set_append_right _ _ (by simp)]
   simp
  rw [← e]; exact this
theorem NameI.text {w wr : World} {n m : Nat} (h : NameI w n 0 m wr) : (convert 23 9 (.slice (some ⟨w.heap.size,0,none⟩) 8 8)).run Tryz.prog wr = .ok (.string ⟨(digs 8 n).toArray⟩) wr:=by
 obtain ⟨zs,he,hb⟩:=h.ex
 obtain rfl : zs = digs 8 n:=he
 have hl:=digs_len 8 n
 generalize digs 8 n = l at hb hl ⊢
 have h1 : RdAt byteKind wr (.slice (some ⟨w.heap.size,0,none⟩) l.length 8) l:=by
  refine ⟨_,8,rfl,fun j x hx => ⟨w.heap.size,0,rfl,fun i hi => ?_⟩⟩
  have hi0 : i = 0:=by have : i < 1:=hi; omega
  subst hi0
  refine (blk_cell hb _).trans ?_
  show _ = some (Value.int .u8 (x.toNat : Int))
  have e : byteKind.size = 1:=rfl
  simp [e,hx]
 have:=run_text h1
 rwa [hl] at this
theorem segName_add (dir : ByteArray) (n : Nat) : dir ++ (⟨#[47]⟩ : ByteArray) ++ ⟨(digs 8 n).toArray⟩ = segName dir n:=by
 apply ByteArray.ext
 apply Array.ext'
 simp [segName]
set_option maxHeartbeats 1000000 in
theorem w_name (w : World) (dir : ByteArray) (hd : dir.size ≤ 100000) (n : Nat) (hn : n < 100000000) :
 Calls Tryz.prog 64 #[.string dir,.int .i64 (n : Int)] w fun e w' => e = .returned (.string (segName dir n)) ∧ Below w.heap.size w w':=by
 have h0 : Hid (NameI w n 8 n (w.alloc (.cells (List.replicate 8 (Value.int .u8 0)).toArray 161))):=hid ⟨⟨[],by simp,blk_new w _⟩,(Below.refl _ _).alloc (Nat.le_refl _) _⟩
 go_enter Tryz.func64,Tryz.ntmps64
 go_wp2_with (fail)
 go_loopw [1,6] (fun c i wr => ∃ k m : Nat,k ≤ 8 ∧ i = .int .i64 ((k : Int) - 1) ∧ c = .int .i64 (m : Int) ∧ Hid (m ≤ n) ∧ Hid (NameI w n k m wr)) (fun _ i => fun _ => (intOf i + 1).toNat)
 case atStart => exact ⟨8,n,Nat.le_refl _,rfl,rfl,hid (Nat.le_refl _),h0⟩
 case round =>
  obtain ⟨k,m,hk,rfl,rfl,HM,HI⟩:=hrel
  cases k with
  | succ k =>
    obtain ⟨hc,hf,hi⟩:=HI.out.next
    have HI2:=hid hi
    clear hi
    have hm0 : (0 : Int) ≤ (m : Int):=by omega
    have hm1 : (m : Int) < 100000000:=by have:=HM.out; omega
    have hdm:=digit_mod m
    have hk0 : (0 : Int) ≤ (k : Int):=by omega
    have hk1 : (k : Int) < 8:=by omega
    go_wp2_with (fail)
    go_roundw
    case rel => exact ⟨k,m / 10,by omega,rfl,rfl,hid (by have:=HM.out; omega),HI2⟩
    case measure => simp [intOf]
  | zero =>
    have hcv:=HI.out.text
    have hs1 : ((dir ++ (⟨#[47]⟩ : ByteArray)).size : Int) ≤ 8388608:=by rw [ByteArray.size_append]; show ((dir.size + 1 : Nat) : Int) ≤ _; omega
    have hs2 : ((⟨(digs 8 n).toArray⟩ : ByteArray).size : Int) ≤ 8388608:=by show ((digs 8 n).toArray.size : Int) ≤ _; rw [List.size_toArray,digs_len]; omega
    have he:=segName_add dir n
    go_wp2_with (fail)
    go_ret
    exact ⟨rfl,HI.out.below⟩
theorem dirOf_add (dir : ByteArray) : dir ++ (⟨#[47]⟩ : ByteArray) = dirOf dir:=by
 apply ByteArray.ext
 apply Array.ext'
 simp [dirOf]
theorem str_at (s : ByteArray) {k : Nat} (h : k < s.size) : s.data.toList[k]? = some s[k]:=by
 have : k < s.data.toList.length:=h
 rw [List.getElem?_eq_getElem this]
 rfl
theorem numDigs_take {l : List UInt8} {k : Nat} {x : UInt8} (h : l[k]? = some x) : numDigs (l.take (k + 1)) = 10 * numDigs (l.take k) + (x.toNat - 48):=by
 rw [List.take_add_one,h]; exact numDigs_snoc _ _
set_option maxHeartbeats 2000000 in
theorem w_number (w : World) (dir name : ByteArray) (hd : dir.size ≤ 100000) :
 Calls Tryz.prog 108 #[.string dir,.string name] w fun e w' => e = .returned (.int .i64 (segNum dir name : Int)) ∧ w = w':=by
 have he:=dirOf_add dir
 have hd2 : (dir.size : Int) ≤ 100000:=by omega
 have HC:=hid ((Tryz.strings_CutPrefix name (dirOf dir) w).mono fun _ _ (h : _ ∧ _) => And.intro h.1 h.2.symm)
 cases hp : Lib.hasPrefix name.data.toList (dirOf dir).data.toList with
 | false =>
   have HN : Hid (segNum dir name = 0):=hid (by unfold segNum; rw [hp,if_neg (by simp)])
   rw [hp] at HC
   clear hp
   go_enter Tryz.func108,Tryz.ntmps108
   go_wp2_with (fail)
   refine HC.out.mono ?_
   rintro e w' ⟨rfl,rfl⟩
   go_wp2_with (fail)
   go_ret
   rw [HN.out]
   exact ⟨rfl,rfl⟩
 | true =>
   obtain ⟨s,hs⟩ : ∃ s : ByteArray,s = ⟨(Lib.trimPrefix name.data.toList (dirOf dir).data.toList).toArray⟩:=⟨_,rfl⟩
   have HN : Hid (segNum dir name = numTail s.data.toList):=hid (by
    unfold segNum
    rw [hp,if_pos rfl,hs]
    unfold Lib.trimPrefix
    rw [hp,if_pos rfl,dirOf_list,List.length_append,List.length_singleton])
   rw [hp,← hs] at HC
   clear hp hs
   by_cases h8 : s.size = 8
   ·have h8' : (s.size : Int) = 8:=by omega
    have hl8 : s.data.toList.length = 8:=h8
    go_enter Tryz.func108,Tryz.ntmps108
    go_wp2_with (fail)
    refine HC.out.mono ?_
    rintro e w' ⟨rfl,rfl⟩
    go_wp2_with (fail)
    go_loopw [7,23] (fun c i wr => ∃ k : Nat,k ≤ 8 ∧ i = .int .i64 (k : Int) ∧ c = .int .i64 (numDigs (s.data.toList.take k) : Int) ∧ Hid ((s.data.toList.take k).all isDig = true) ∧ wr = w) (fun _ i _ => (8 - intOf i).toNat)
    case atStart => exact ⟨0,Nat.zero_le _,rfl,rfl,hid rfl,rfl⟩
    case round =>
     obtain ⟨k,hk,rfl,rfl,HA,rfl⟩:=hrel
     by_cases hlt : k < 8
     ·have hks : k < s.size:=by omega
      have hx:=str_at s hks
      have HT:=hid (numDigs_take hx)
      have HX:=hid hx
      have hk0 : (0 : Int) ≤ (k : Int):=by omega
      have hk1 : (k : Int) < 8:=by omega
      have hk2 : (k : Int) < (s.size : Int):=by omega
      clear hx
      have HBAD : Hid (isDig s[k] = false → segNum dir name = 0):=hid (fun hb => by
       rw [HN.out]
       unfold numTail
       rw [if_neg]
       rintro ⟨_,h2⟩
       have:=List.all_eq_true.1 h2 _ (List.mem_of_getElem? HX.out)
       rw [hb] at this; cases this)
      go_wp2_with (fail)
      ·rename_i h1 h2
       go_ret
       rw [HBAD.out (by unfold isDig; simp; omega)]
       exact ⟨rfl,rfl⟩
      ·rename_i h1 h2
       have hlt2 : numDigs (s.data.toList.take k) < 10 ^ 8:=by
        have h3:=numDigs_lt _ HA.out
        have h4 : 10 ^ (s.data.toList.take k).length ≤ 10 ^ 8:=Nat.pow_le_pow_right (by omega) (by rw [List.length_take]; omega)
        omega
       have HD : Hid (isDig s[k] = true):=hid (by unfold isDig; simp; omega)
       have HE : Hid (wrap64 (wrap64 (10 * (numDigs (s.data.toList.take k) : Int)) + ((s[k].toNat : Int) - 48)) = (numDigs (s.data.toList.take (k + 1)) : Int)):=hid (by
        rw [HT.out,IntWalk.wrap64_in (10 * _) (by omega),IntWalk.wrap64_in _ (by omega)]
        omega)
       have HA2 : Hid ((s.data.toList.take (k + 1)).all isDig = true):=hid (by
        rw [List.take_add_one,HX.out,List.all_append,HA.out]
        simp [HD.out])
       clear hlt2
       go_roundw
       case rel => exact ⟨k + 1,by omega,by go_num,by rw [HE.out],HA2,trivial⟩
       case measure => simp [intOf]; omega
      ·rename_i h1
       go_ret
       rw [HBAD.out (by unfold isDig; simp; omega)]
       exact ⟨rfl,rfl⟩
     ·obtain rfl : k = 8:=by omega
      have HE : Hid (segNum dir name = numDigs (s.data.toList.take 8)):=hid (by
       have e : s.data.toList.take 8 = s.data.toList:=List.take_of_length_le (by omega)
       have ha:=HA.out
       rw [e] at ha ⊢
       rw [HN.out]
       unfold numTail
       rw [if_pos ⟨hl8,ha⟩])
      go_wp2_with (fail)
      go_ret
      rw [HE.out]
      exact ⟨rfl,rfl⟩
   ·have h8' : ((s.size : Int) != 8) = true:=by rw [bne_iff_ne]; omega
    have HE : Hid (segNum dir name = 0):=hid (by
     rw [HN.out]
     unfold numTail
     rw [if_neg]
     rintro ⟨h1,_⟩
     exact h8 h1)
    clear h8
    go_enter Tryz.func108,Tryz.ntmps108
    go_wp2_with (fail)
    refine HC.out.mono ?_
    rintro e w' ⟨rfl,rfl⟩
    go_wp2_with (fail)
    go_ret
    rw [HE.out]
    exact ⟨rfl,rfl⟩
theorem sl_cell {w : World} {a : Option Addr} {len cap : Nat} {ss : List SlV} (h : RdAt slKind w (.slice a len cap) ss) {k : Nat} {s : SlV} (hs : ss[k]? = some s) : ∃ g off,a = some ⟨g,off,none⟩ ∧ w.cell? ⟨g,off + k,none⟩ = some (.slice s.a s.len s.cap):=by
 obtain ⟨_,_,e1,hr⟩:=h
 injection e1 with e1 _ e3
 subst e1 e3
 obtain ⟨g,off,rfl,d1⟩:=hr k s hs
 have d1:=d1 0 (by decide)
 exact ⟨g,off,rfl,by simpa [slKind] using d1⟩
theorem RdAt.sub {w : World} {g off len cap q m : Nat} {ys : List UInt8} (h : RdAt byteKind w (.slice (some ⟨g,off,none⟩) len cap) ys) (hq : q + m ≤ ys.length) (a' : Option Addr) (cap' : Nat) (ha : m ≠ 0 → a' = some ⟨g,off + q,none⟩) :
 RdAt byteKind w (.slice a' m cap') ((ys.drop q).take m):=by
 have hl : ((ys.drop q).take m).length = m:=by rw [List.length_take,List.length_drop]; omega
 refine ⟨a',cap',by rw [hl],fun j x hx => ?_⟩
 have hj : j < m:=by have:=(List.getElem?_eq_some_iff.1 hx).1; omega
 rw [List.getElem?_take_of_lt hj,List.getElem?_drop] at hx
 obtain ⟨g',off',e,hc⟩:=byte_cell h hx
 simp only [Option.some.injEq,Addr.mk.injEq,and_true] at e
 obtain ⟨rfl,rfl⟩:=e
 refine ⟨g,off + q,ha (by omega),fun i hi => ?_⟩
 have hi0 : i = 0:=by have : i < 1:=hi; omega
 subst hi0
 show w.cell? ⟨g,off + q + j * 1 + 0,none⟩ = some (.int .u8 (x.toNat : Int))
 rw [Nat.mul_one,Nat.add_zero,Nat.add_assoc]
 exact hc
def ScanPost (w : World) (ys : List UInt8) (e : Ending) (w' : World) : Prop :=
 ∃ v,e = .returned (.tuple #[v,.int .i64 (endOf (scanOf ys) : Int),.bool (decide (endOf (scanOf ys) = ys.length))]) ∧ LsAt w.heap.size w' v (scanOf ys) ∧ Below w.heap.size w w'
theorem endOf_len (rs : List (List UInt8)) : 8 * rs.length ≤ endOf rs:=by
 induction rs with
 | nil => simp
 | cons r rs ih => rw [endOf_cons,List.length_cons]; omega
open Go.RowKit
structure Open (F : Fence) (P : Program) : Prop where
 fn : ∀ f,F.fn f
 depth : F.depth = none
 calls : ∀ n f args w R,Calls P f args w R → CallsIn F n P f args w R
theorem open_wide (P : Program) : Open Fence.wide P:=⟨fun _ => trivial,rfl,fun _ _ _ _ _ h => callsIn_wide.2 h⟩
theorem open_round (P : Program) (l : Nat) : Open (Fence.wide.inRound l) P:=⟨fun _ => trivial,rfl,fun _ _ _ _ _ h => CallsIn.inRound l (callsIn_wide.2 h)⟩
section
variable {F : Fence} {P : Program} (H : Open F P) {ops : Array Oper} {w : World} {n : Nat}
include H
theorem Oper.wpIn_of_still {o : Oper} {a : Act} {K : Act → Prop} {K' : Act → World → Prop} {Q' : Exit → Act → World → Prop} (h : ∀ a,K a → K' a w) (hh : o.still P a w K) : o.wpIn F n P a w K' Q':=by
 refine ⟨fun f _ => H.fn f,?_⟩
 have hd : ∀ c,o.op ≠ .defer c:=by
  intro c hc
  unfold Oper.still at hh
  simp only [execOp,hc] at hh
  change o.stillUpon P a w K (Sem.run P ((resolve a.eval c o.type).bind fun d => Sem.pure (Next.defer d)) w) at hh
  have hb : Sem.run P ((resolve a.eval c o.type).bind fun d => Sem.pure (Next.defer d)) w = ((resolve a.eval c o.type).run P w).andThen fun d w' => (Sem.pure (Next.defer d)).run P w':=Sem.run_bind ..
  rw [hb] at hh
  cases hr : (resolve a.eval c o.type).run P w with
  | ok d w' => rw [hr] at hh; exact hh
  | halt x w' => rw [hr] at hh; exact hh
 rw [Oper.semAt_eq _ _ _ hd]
 unfold Oper.still at hh
 generalize (execOp a.eval o).run P w = r at *
 cases r with
 | ok m w' =>
   cases m <;> simp only [Oper.stillUpon] at hh <;> simp only [Oper.uponIn]
   case enter f args =>
    obtain ⟨rfl,v,hc,hn⟩:=hh
    refine ⟨fun hs => (by rw [H.depth] at hs; cases hs),H.calls _ _ _ _ _ (hc.mono fun e w'' ⟨he,hw⟩ => ?_)⟩
    subst he; subst hw; exact h _ hn
   all_goals (obtain ⟨rfl,h2⟩:=hh; exact h _ h2)
 | halt x w' => simp only [Oper.stillUpon] at hh
theorem wpOpIn_of_stOp {i : Nat} {a : Act} {K : Act → Prop} {K' : Act → World → Prop} {Q' : Exit → Act → World → Prop} (h : ∀ a,K a → K' a w) (hh : stOp P ops w i K a) : wpOpIn F n P ops Q' i K' a w:=by
 unfold stOp at hh
 unfold wpOpIn
 split
 ·rename_i ho; simp only [ho] at hh; exact h _ hh
 ·rename_i o ho
  simp only [ho] at hh
  split
  ·rename_i hw; simp only [hw,if_true] at hh; exact Oper.wpIn_of_still H h hh
  ·rename_i hw; simp only [hw] at hh; exact ⟨fun f _ => H.fn f,h _ hh⟩
theorem wpAnyIn_of_head {m g : Nat} {md : Region.Mode} {L : Array Bool → Act → Prop} {Q' : Exit → Act → World → Prop} (hL : ∀ listed a,L listed a → wpAnyIn F n P md ops Q' g listed a w) :
 ∀ (f : Nat) (listed : Array Bool) (a : Act),wpAnyL P md ops w m L f listed a → wpAnyIn F n P md ops Q' (f + g) listed a w
 | 0,listed,a,h => by rw [Nat.zero_add]; exact hL _ _ h
 | f + 1,listed,a,h => by
   rw [show f + 1 + g = (f + g) + 1 by omega]
   exact ⟨fun h0 => absurd h0 h.1,fun i hi => wpOpIn_of_stOp H (fun a' h' => wpAnyIn_of_head hL f _ a' h') (h.2 i hi).2⟩
omit H in
theorem wpAnyIn_of_seq {md : Region.Mode} {Q' : Exit → Act → World → Prop} : ∀ (l : List Oper) (k : Nat) (listed : Array Bool) (a : Act) (w : World),(∀ j,l[j]? = ops[k + j]?) →
 Region.seqB md ops l.length k listed = true → wpListIn F n P ops Q' l a w → wpAnyIn F n P md ops Q' l.length listed a w
 | [],_,_,_,_,_,hB,h => ⟨by simpa [Region.seqB] using hB,h⟩
 | o :: l,k,listed,a,w,hl,hB,h => by
   have h0 : ops[k]? = some o:=by simpa using (hl 0).symm
   simp only [List.length_cons,Region.seqB,Bool.and_eq_true,decide_eq_true_eq] at hB
   refine ⟨fun h1 => (by rw [hB.1] at h1; cases h1),fun i hi => ?_⟩
   rw [hB.1] at hi
   have hik : i = k:=by simpa using hi
   subst hik
   have hw : wpOpIn F n P ops Q' i (wpListIn F n P ops Q' l) a w:=by unfold wpOpIn; simp only [h0]; exact h
   exact wpOpIn_mono (fun a' w' h' => wpAnyIn_of_seq l (i + 1) _ a' w' (fun j => by have:=hl (j + 1); simpa [Nat.add_assoc,Nat.add_comm 1 j] using this) hB.2 h') hw
theorem wpIn_region_still_tail {id : Nat} {Q : Exit → Act → World → Prop} {a : Act} {l : List Oper} (m : Nat) (hm : P.follows .mixedOrders = true) (hB : Region.lexTailB .any l.toArray m = true)
 (h : wpStill P l.toArray w.drew (fun a' => wpListIn F n P l.toArray Q (l.drop m) a' w.drew) (l.take m) a) : (Code.region id l.toArray true).wpIn F n P Q a w:=by
 simp only [Region.lexTailB,Bool.and_eq_true,decide_eq_true_eq] at hB
 obtain ⟨⟨⟨⟨hsel,hn⟩,hs⟩,hc⟩,hlex⟩:=hB
 have hn' : m < l.length:=by simpa using hn
 have htl : (l.take m).length = m:=by simp; omega
 have hdl : (l.drop m).length = l.toArray.size - m:=by simp
 have inv0 : HeadInv .any l.toArray m (Array.replicate l.toArray.size false) :=
  ⟨by simp,fun j oj _ hl => (by rw [getD_replicate_false] at hl; cases hl),fun t _ ht => getD_in (by simpa using ht) (getD_replicate_false _ _)⟩
 have HH:=wpAnyL_lex (md:=.any) (g:=l.toArray.size - m) hsel hs hc hn (l.take m) 0 _ a (fun j hj => by
  have hj' : j < m:=by rw [htl] at hj; exact hj
  simp [hj']) (by simpa using htl) inv0 (by rw [htl]; exact hlex) h
 refine wpIn_region_any hm ?_
 have:=wpAnyIn_of_head (n:=n) H (Q':=Q) (g:=l.toArray.size - m) (fun listed a' hL => by
  have:=wpAnyIn_of_seq (F:=F) (n:=n) (P:=P) (md:=.any) (Q':=Q) (l.drop m) m listed a' w.drew (fun j => by simp [List.getElem?_drop]) (by rw [hdl]; exact hL.1) hL.2
  rwa [hdl] at this) _ _ _ HH
 rw [htl,show m + (l.toArray.size - m) = l.toArray.size by omega] at this
 exact this
end
def IterC {α : Type} (P : Program) (g : FuncId) (lb : Array Value) (encs : α → Array Value) (Kp : World → World → Prop) (xs : List α) (w : World) : Prop :=
 ∀ (l : Nat) (J Jx : List α → World → Prop) (W : World),Below w.heap.size w W →
   (∀ ys A B,J ys A → Below A.heap.size A B → J ys B) →
   (∀ pre x A,J pre A → pre ++ [x] <+: xs → YieldAt Fence.wide 0 P l (encs x) A fun e B =>
     (e = .returned (.bool true) ∧ J (pre ++ [x]) B ∧ Kp A B) ∨ (e = .returned (.bool false) ∧ Jx (pre ++ [x]) B ∧ Kp A B)) →
   J [] W → Calls P g (#[.func (.yield l) #[] #[]] ++ lb) W fun e B => (∃ v,e = .returned v) ∧ (J xs B ∨ ∃ q,q <+: xs ∧ Jx q B)
def ForPost {α : Type} (b0 : Nat) (Kp : World → World → Prop) (I : List α → World → Prop) (Ix : Code → List α → World → Prop) (ys : List α) (A : World) : Exit → Act → World → Prop
 | .normal,_,B => B.heap[b0]? = A.heap[b0]? ∧ B.heap[b0 + 1]? = A.heap[b0 + 1]? ∧ Kp A B ∧ I ys B
 | .ret,_,B => B.heap[b0]? = A.heap[b0]? ∧ B.heap[b0 + 1]? = A.heap[b0 + 1]? ∧ Kp A B ∧ Ix .ret ys B
 | .exit id,_,B => B.heap[b0]? = A.heap[b0]? ∧ B.heap[b0 + 1]? = A.heap[b0 + 1]? ∧ Kp A B ∧ Ix (.exit id) ys B
 | .goto t,_,B => B.heap[b0]? = A.heap[b0]? ∧ B.heap[b0 + 1]? = A.heap[b0 + 1]? ∧ Kp A B ∧ Ix (.goto t) ys B
 | .panic _,_,_ => False
 | .outgrown,_,_ => False
theorem keeps_putObj (w : World) (l : Nat) (o : Obj) : Keeps (fun k => k = l) w (w.putObj l o) :=
 ⟨rfl,rfl,rfl,by simp,fun k _ hn => World.putObj_heap_other hn⟩
def LoopAt (l : Nat) (A : World) (k : Nat) : Prop:=k = l ∧ ∃ r,A.heap[k]? = some (.loop r)
theorem loopAt_not {A : World} {l b : Nat} {cs : Array Value} {T : TypeId} (h : IsBlk A b cs T) : ¬ LoopAt l A b:=by
 rintro ⟨_,r,hr⟩
 have:=h.symm.trans hr
 simp at this
theorem keeps_loop {A : World} {l : Nat} {r : Loop} (o : Obj) (h : A.heap[l]? = some (.loop r)) : Keeps (LoopAt l A) A (A.putObj l o) :=
 (keeps_putObj A l o).mono (fun k _ e => ⟨e,by rw [e]; exact ⟨r,h⟩⟩)
theorem Keeps.loop {A B : World} {l : Nat} (h : Keeps (LoopAt l A) A B) : Keeps (fun k => k = l) A B:=h.mono (fun _ _ e => e.1)
theorem wp_forSeq {α : Type} {P : Program} {g : Operand} {ps : Array Tmp} {assign body : Code} {Q : Exit → Act → World → Prop} {a : Act} {w : World}
 {gf : Nat} {lb : Array Value} (hg : a.eval g = .func (.func gf) #[] lb) (eg : ∀ args w,(callFunc gf args).run P w = .ok (.enter gf args) w)
 {encs : α → Array Value} {Kp : World → World → Prop} {xs : List α} (hseq : IterC P gf lb encs Kp xs w) (hps : ∀ x,(encs x).size = ps.size)
 (hKt : ∀ {A B C : World},Kp A B → Kp B C → Kp A C) (hKb : ∀ (W : World) (r : Loop) (o : Obj),W.heap[w.heap.size + 1]? = some (.loop r) → Kp W (W.putObj (w.heap.size + 1) o))
 (I : List α → World → Prop) (Ix : Code → List α → World → Prop)
 (hI : ∀ s A B,I s A → Keeps (LoopAt (w.heap.size + 1) A) A B → I s B) (hIx : ∀ c s A B,Ix c s A → Keeps (LoopAt (w.heap.size + 1) A) A B → Ix c s B)
 (h0 : I [] w) (a₁ : α → Act)
 (hassign : ∀ (x : α) (W : World) (K : Act → World → Prop),K (a₁ x) W →
   assign.wpIn (Fence.wide.inRound (w.heap.size + 1)) 0 P (Exit.then K (fun _ _ _ => False)) { tmps:=(ps.zip (encs x)).foldl (fun t (p,v) => t.setIfInBounds p v) a.tmps,defers:=[] } W)
 (hbody : ∀ (pre : List α) (x : α) (A : World),I pre A → pre ++ [x] <+: xs → w.heap.size + 2 ≤ A.heap.size →
   body.wpIn (Fence.wide.inRound (w.heap.size + 1)) 0 P (ForPost w.heap.size Kp I Ix (pre ++ [x]) A) (a₁ x) A)
 (hdone : ∀ (B : World),I xs B → B.heap[w.heap.size]? = some (.deferred (some [])) → Q .normal { a with defers:={ target:=.collected w.heap.size,args:=#[] } :: a.defers } B)
 (hstop : ∀ (c : Code) (q : List α) (B : World),q <+: xs → Ix c q B → B.heap[w.heap.size]? = some (.deferred (some [])) → c.wp P Q { a with defers:={ target:=.collected w.heap.size,args:=#[] } :: a.defers } B) :
 (Code.rangeFunc g ps assign body).wp P Q a w:=by
 refine (wpIn_wide (n:=1)).1 (wpIn_rangeFunc (fun fn _ => ?_))
 obtain ⟨rec,hrec⟩ : ∃ rec : LoopState → Option Code → Loop,rec = fun st pe => { state:=st,pending:=pe,fn,tmps:=a.tmps,params:=ps,assign,body,defers:=w.heap.size }:=⟨_,rfl⟩
 obtain ⟨W1,hW1⟩ : ∃ W1,(w.alloc (.deferred (some []))).alloc (.loop (rec .ready none)) = W1:=⟨_,rfl⟩
 have hB1 : Below w.heap.size w W1:=by rw [← hW1]; exact ((Below.refl _ w).alloc (Nat.le_refl _) _).alloc (by simp) _
 have hL1 : W1.heap[w.heap.size + 1]? = some (.loop (rec .ready none)):=by
  rw [← hW1]; have:=World.alloc_heap_new (w.alloc (.deferred (some []))) (.loop (rec .ready none)); rwa [World.size_alloc] at this
 have hD1 : W1.heap[w.heap.size]? = some (.deferred (some [])):=by
  rw [← hW1]; exact (Below.heap_alloc _ _ _ (by simp)).trans (World.alloc_heap_new w _)
 have hI1 : I [] W1:=hI _ _ _ h0 ((Keeps.of_below hB1).mono (fun _ _ h => h.elim))
 refine ⟨w.heap.size + 1,[{ target:=.collected w.heap.size,args:=#[] }],W1,{ target:=.fn (.func gf) lb,args:=#[.func (.yield (w.heap.size + 1)) #[] #[]] },W1,gf,
   #[.func (.yield (w.heap.size + 1)) #[] #[]] ++ lb,W1,?_,?_,?_,?_,?_,?_⟩
 ·rw [← hW1,hrec]; exact run_enterLoop_outer _ _ _ _ _
 ·simp only [resolve,hg]
  simp [go_sem]
 ·intro f' _; trivial
 ·simp [invoke,go_sem,eg]
 ·intro h; simp [Fence.wide] at h
 ·refine callsIn_wide.2 ((hseq (w.heap.size + 1)
    (fun pre W => I pre W ∧ W.heap[w.heap.size + 1]? = some (.loop (rec .ready none)) ∧ W.heap[w.heap.size]? = some (.deferred (some [])))
    (fun pre W => ∃ c,Ix c pre W ∧ W.heap[w.heap.size + 1]? = some (.loop (rec .done (some c))) ∧ W.heap[w.heap.size]? = some (.deferred (some [])))
    W1 hB1 ?grow ?round ⟨hI1,hL1,hD1⟩).mono ?post)
  case grow =>
   rintro ys A B ⟨hi,hl,hd⟩ hb
   exact ⟨hI _ _ _ hi ((Keeps.of_below hb).mono (fun _ _ h => h.elim)),(hb.block _ (lt_of_block hl)).trans hl,(hb.block _ (lt_of_block hd)).trans hd⟩
  case round =>
   rintro pre x A ⟨hi,hl,hd⟩ hpre
   have hlt:=lt_of_block hl
   have hy:=run_yield (P:=P) (args:=encs x) hl (by rw [hrec]; exact hps x)
   rw [hrec] at hy
   refine ⟨fn,_,assign,body,hy,roundIn_of_wpIn trivial (hassign x A _ ⟨_,run_beginRound hl (by rw [hrec]),?_⟩)⟩
   have hk2:=keeps_loop (.loop { rec .ready none with state:=.busy }) hl
   have hl2 : (A.putObj (w.heap.size + 1) (.loop { rec .ready none with state:=.busy })).heap[w.heap.size + 1]? = some (.loop { rec .ready none with state:=.busy }):=World.putObj_heap_same hlt
   have hd2 : (A.putObj (w.heap.size + 1) (.loop { rec .ready none with state:=.busy })).heap[w.heap.size]? = some (.deferred (some [])):=(World.putObj_heap_other (by omega)).trans hd
   have hp2 : Kp A (A.putObj (w.heap.size + 1) (.loop { rec .ready none with state:=.busy })):=hKb _ _ _ hl
   refine wpIn_mono (hbody pre x _ (hI _ _ _ hi hk2) hpre (by simp; omega)) ?_
   have fin : ∀ (jump : Option Code) (B : World),B.heap[w.heap.size]? = (A.putObj (w.heap.size + 1) (.loop { rec .ready none with state:=.busy })).heap[w.heap.size]? →
       B.heap[w.heap.size + 1]? = (A.putObj (w.heap.size + 1) (.loop { rec .ready none with state:=.busy })).heap[w.heap.size + 1]? →
       Kp (A.putObj (w.heap.size + 1) (.loop { rec .ready none with state:=.busy })) B →
       (Instr.endRound (w.heap.size + 1) jump).run P B = .ok (.bool jump.isNone) (B.putObj (w.heap.size + 1) (.loop (rec (if jump.isNone then .ready else .done) jump))) ∧
       (B.putObj (w.heap.size + 1) (.loop (rec (if jump.isNone then .ready else .done) jump))).heap[w.heap.size + 1]? = some (.loop (rec (if jump.isNone then .ready else .done) jump)) ∧
       (B.putObj (w.heap.size + 1) (.loop (rec (if jump.isNone then .ready else .done) jump))).heap[w.heap.size]? = some (.deferred (some [])) ∧
       Kp A (B.putObj (w.heap.size + 1) (.loop (rec (if jump.isNone then .ready else .done) jump))):=by
     intro jump B hd3 hl3 hp3
     rw [hl2] at hl3
     rw [hd2] at hd3
     have hr:=run_endRound (P:=P) jump hl3
     refine ⟨by rw [hrec] at hr ⊢; exact hr,World.putObj_heap_same (lt_of_block hl3),(World.putObj_heap_other (by omega)).trans hd3,hKt (hKt hp2 hp3) (hKb _ _ _ hl3)⟩
   rintro e a3 B hp
   cases e with
   | normal =>
     obtain ⟨hd3,hl3,hp3,hi3⟩:=hp
     obtain ⟨hr,hl4,hd4,hp4⟩:=fin none B hd3 hl3 hp3
     exact ⟨_,_,hr,.inl ⟨rfl,⟨hI _ _ _ hi3 (keeps_loop _ (hl3.trans hl2)),hl4,hd4⟩,hp4⟩⟩
   | ret =>
     obtain ⟨hd3,hl3,hp3,hi3⟩:=hp
     obtain ⟨hr,hl4,hd4,hp4⟩:=fin (some .ret) B hd3 hl3 hp3
     exact ⟨_,_,hr,.inr ⟨rfl,⟨.ret,hIx _ _ _ _ hi3 (keeps_loop _ (hl3.trans hl2)),hl4,hd4⟩,hp4⟩⟩
   | exit id =>
     obtain ⟨hd3,hl3,hp3,hi3⟩:=hp
     obtain ⟨hr,hl4,hd4,hp4⟩:=fin (some (.exit id)) B hd3 hl3 hp3
     exact ⟨_,_,hr,.inr ⟨rfl,⟨.exit id,hIx _ _ _ _ hi3 (keeps_loop _ (hl3.trans hl2)),hl4,hd4⟩,hp4⟩⟩
   | goto t =>
     obtain ⟨hd3,hl3,hp3,hi3⟩:=hp
     obtain ⟨hr,hl4,hd4,hp4⟩:=fin (some (.goto t)) B hd3 hl3 hp3
     exact ⟨_,_,hr,.inr ⟨rfl,⟨.goto t,hIx _ _ _ _ hi3 (keeps_loop _ (hl3.trans hl2)),hl4,hd4⟩,hp4⟩⟩
   | panic ch => exact hp.elim
   | outgrown => exact hp.elim
  case post =>
   rintro e B ⟨⟨v,rfl⟩,(⟨hi,hl,hd⟩ | ⟨q,hq,c,hi,hl,hd⟩)⟩
   ·exact ⟨none,_,(by have:=run_endLoop (P:=P) hl (by rw [hrec]; simp); rw [hrec] at this; exact this),
      hdone _ (hI _ _ _ hi (keeps_loop _ hl)) ((World.putObj_heap_other (by omega)).trans hd)⟩
   ·exact ⟨some c,_,(by have:=run_endLoop (P:=P) hl (by rw [hrec]; simp); rw [hrec] at this; exact this),
      wpIn_wide.2 (hstop c q _ hq (hIx _ _ _ _ hi (keeps_loop _ hl)) ((World.putObj_heap_other (by omega)).trans hd))⟩
theorem calls_of_wp_marks {P : Program} {f : FuncId} {fn : Func} {c : Code} {args : Array Value} {w : World} {R : Ending → World → Prop}
 (hf : P.funcs[f]? = some fn) (hb : fn.body = some c) (h : c.wp P (bodyPostM Fence.wide 0 P fn R) { tmps:=args ++ Array.replicate (fn.ntmps - args.size) undef,defers:=[] } w) : Calls P f args w R :=
 callsIn_wide.1 (callsIn_of_wp_marks hf hb trivial (wpIn_wide.2 h))
def Marked (P : Program) (fn : Func) (tmps : Array Value) (R : Ending → World → Prop) : List Nat → World → Prop
 | [],w => ∃ v,(results fn tmps).run P w = .ok v w ∧ R (.returned v) w
 | b :: bs,w => w.heap[b]? = some (.deferred (some [])) ∧ Marked P fn tmps R bs (w.putObj b (.deferred none))
theorem leaves_of_marked {P : Program} {fn : Func} {tmps : Array Value} {R : Ending → World → Prop} : ∀ (bs : List Nat) (w : World),Marked P fn tmps R bs w →
 LeavesInM Fence.wide 0 P fn tmps R (bs.map fun b => { target:=.collected b,args:=#[] }) .returning w
 | [],_,h => h
 | _ :: bs,_,h => ⟨by simp,.inl ⟨_,_,rfl,run_takeDeferred h.1,leaves_of_marked bs _ h.2⟩⟩
end Go.Proofs.YtagdchgkjjpacaaGreat
