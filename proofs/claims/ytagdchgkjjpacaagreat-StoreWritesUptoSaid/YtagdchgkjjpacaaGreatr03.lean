/- The log's bytes as plain data: sums, frames, what is scanned. No program. -/
import Derived.Laws.BitsAllLaws
import Derived.Test.YtagdchgkjjpacaaGreatr02
namespace Go.Proofs.YtagdchgkjjpacaaGreat
def crcBit (c : Nat) : Nat:=if c % 2 = 1 then (c / 2) ^^^ 3988292384 else c / 2
def crcBits : Nat → Nat → Nat
 | 0,c => c
 | k + 1,c => crcBit (crcBits k c)
def crcByte (c : Nat) (x : UInt8) : Nat:=crcBits 8 (c ^^^ x.toNat)
def crcOf (ys : List UInt8) : Nat:=ys.foldl crcByte 4294967295
def sumOf (ys : List UInt8) : Nat:=4294967295 ^^^ crcOf ys
theorem crcBit_lt {c : Nat} (h : c < 4294967296) : crcBit c < 4294967296:=by
 unfold crcBit
 split
 ·exact Nat.xor_lt_two_pow (n:=32) (by omega) (by omega)
 ·omega
theorem crcBits_lt {c : Nat} (h : c < 4294967296) : ∀ k,crcBits k c < 4294967296
 | 0 => h
 | k + 1 => crcBit_lt (crcBits_lt h k)
theorem crcXor_lt {c : Nat} (h : c < 4294967296) (x : UInt8) : c ^^^ x.toNat < 4294967296:=Nat.xor_lt_two_pow (n:=32) h (by have:=x.toNat_lt; omega)
theorem crcByte_lt {c : Nat} (h : c < 4294967296) (x : UInt8) : crcByte c x < 4294967296:=crcBits_lt (crcXor_lt h x) 8
theorem crcFold_lt : ∀ (ys : List UInt8) (c : Nat),c < 4294967296 → ys.foldl crcByte c < 4294967296
 | [],_,h => h
 | y :: ys,_,h => crcFold_lt ys _ (crcByte_lt h y)
theorem crcOf_lt (ys : List UInt8) : crcOf ys < 4294967296:=crcFold_lt ys _ (by omega)
theorem sumOf_lt (ys : List UInt8) : sumOf ys < 4294967296:=Nat.xor_lt_two_pow (n:=32) (by omega) (crcOf_lt ys)
theorem crcOf_snoc (ys : List UInt8) (x : UInt8) : crcOf (ys ++ [x]) = crcByte (crcOf ys) x:=by unfold crcOf; rw [List.foldl_append]; rfl
theorem crcOf_take {ys : List UInt8} {k : Nat} {x : UInt8} (h : ys[k]? = some x) : crcOf (ys.take (k + 1)) = crcByte (crcOf (ys.take k)) x:=by
 rw [List.take_add_one,h]; exact crcOf_snoc _ _
def lowN : Nat → Nat → List UInt8
 | 0,_ => []
 | k + 1,n => UInt8.ofNat n :: lowN k (n / 256)
def numOf : List UInt8 → Nat
 | [] => 0
 | x :: xs => x.toNat + 256 * numOf xs
theorem lowN_len : ∀ k n,(lowN k n).length = k
 | 0,_ => rfl
 | k + 1,n => by simp [lowN,lowN_len k]
theorem numOf_lowN : ∀ k n,n < 256 ^ k → numOf (lowN k n) = n
 | 0,n,h => by simp at h; simp [lowN,numOf,h]
 | k + 1,n,h => by
   have h1 : n / 256 < 256 ^ k:=by rw [Nat.pow_succ] at h; omega
   simp only [lowN,numOf,numOf_lowN k _ h1]
   rw [UInt8.toNat_ofNat']
   omega
theorem numOf_lt : ∀ xs : List UInt8,numOf xs < 256 ^ xs.length
 | [] => by simp [numOf]
 | x :: xs => by
   have h1:=numOf_lt xs
   have h2:=x.toNat_lt
   simp only [numOf,List.length_cons,Nat.pow_succ]
   omega
theorem numOf_four {xs : List UInt8} (h : xs.length ≤ 4) : numOf xs < 4294967296:=by
 have h1:=numOf_lt xs
 have h2 : 256 ^ xs.length ≤ 256 ^ 4:=Nat.pow_le_pow_right (by omega) h
 omega
def frameOf (p : List UInt8) : List UInt8:=lowN 4 p.length ++ (lowN 4 (sumOf p) ++ p)
theorem frameOf_len (p : List UInt8) : (frameOf p).length = 8 + p.length:=by simp [frameOf,lowN_len]; omega
def headOf (b : List UInt8) : Option (List UInt8) :=
 if b.length < 8 then none else if 1048576 < numOf (b.take 4) ∨ b.length < 8 + numOf (b.take 4) then none
 else if sumOf ((b.drop 8).take (numOf (b.take 4))) = numOf ((b.drop 4).take 4) then some ((b.drop 8).take (numOf (b.take 4))) else none
theorem headOf_some {b p : List UInt8} : headOf b = some p ↔ 8 + p.length ≤ b.length ∧ p.length ≤ 1048576 ∧ numOf (b.take 4) = p.length ∧ p = (b.drop 8).take p.length ∧ sumOf p = numOf ((b.drop 4).take 4):=by
 unfold headOf
 constructor
 ·intro h
  split at h
  ·cases h
  ·split at h
   ·cases h
   ·split at h
    ·rename_i h1 h2 h3
     have e : (b.drop 8).take (numOf (b.take 4)) = p:=Option.some.inj h
     have hl : p.length = numOf (b.take 4):=by rw [← e,List.length_take,List.length_drop]; omega
     rw [e] at h3
     refine ⟨by omega,by omega,hl.symm,?_,h3⟩
     rw [hl]; exact e.symm
    ·cases h
 ·rintro ⟨h1,h2,h3,h4,h5⟩
  rw [if_neg (by omega),h3,if_neg (by omega),← h4,if_pos h5]
theorem headOf_frame {p r : List UInt8} (h : p.length ≤ 1048576) : headOf (frameOf p ++ r) = some p:=by
 have hs:=sumOf_lt p
 have l1:=lowN_len 4 p.length
 have l2:=lowN_len 4 (sumOf p)
 refine headOf_some.2 ⟨by rw [List.length_append,frameOf_len]; omega,h,?_,?_,?_⟩
 ·unfold frameOf
  rw [List.append_assoc,List.take_left' l1]
  exact numOf_lowN 4 _ (by omega)
 ·unfold frameOf
  rw [List.append_assoc,List.append_assoc,← List.append_assoc (lowN 4 p.length),List.drop_left' (by rw [List.length_append]; omega),List.take_left' rfl]
 ·unfold frameOf
  rw [List.append_assoc,List.append_assoc,List.drop_left' l1,List.take_left' l2]
  exact (numOf_lowN 4 _ (by omega)).symm
def scanF : Nat → List UInt8 → List (List UInt8)
 | 0,_ => []
 | k + 1,b => match headOf b with
   | none => []
   | some p => p :: scanF k (b.drop (8 + p.length))
theorem scanF_fuel : ∀ (k m : Nat) (b : List UInt8),b.length ≤ k → b.length ≤ m → scanF k b = scanF m b
 | 0,0,_,_,_ => rfl
 | 0,m + 1,b,h,_ => by
   have : headOf b = none:=by unfold headOf; rw [if_pos (by omega)]
   simp [scanF,this]
 | k + 1,0,b,_,h => by
   have : headOf b = none:=by unfold headOf; rw [if_pos (by omega)]
   simp [scanF,this]
 | k + 1,m + 1,b,h1,h2 => by
   unfold scanF
   cases hh : headOf b with
   | none => rfl
   | some p =>
     simp only
     rw [scanF_fuel k m _ (by rw [List.length_drop]; omega) (by rw [List.length_drop]; omega)]
def scanOf (b : List UInt8) : List (List UInt8):=scanF b.length b
theorem scanOf_none {b : List UInt8} (h : headOf b = none) : scanOf b = []:=by
 unfold scanOf
 cases b with
 | nil => rfl
 | cons x b => simp [scanF,h]
theorem scanOf_some {b p : List UInt8} (h : headOf b = some p) : scanOf b = p :: scanOf (b.drop (8 + p.length)):=by
 have h1:=headOf_some.1 h
 unfold scanOf
 obtain ⟨k,hk⟩ : ∃ k,b.length = k + 1:=⟨b.length - 1,by omega⟩
 rw [hk]
 simp only [scanF,h]
 rw [scanF_fuel k (b.drop (8 + p.length)).length _ (by rw [List.length_drop]; omega) (Nat.le_refl _)]
def endOf (rs : List (List UInt8)) : Nat:=(rs.map fun p => 8 + p.length).sum
theorem endOf_cons (p : List UInt8) (rs : List (List UInt8)) : endOf (p :: rs) = 8 + p.length + endOf rs:=by simp [endOf]
theorem endOf_append (a b : List (List UInt8)) : endOf (a ++ b) = endOf a + endOf b:=by simp [endOf]
theorem endOf_frames (rs : List (List UInt8)) : (rs.flatMap frameOf).length = endOf rs:=by
 induction rs with
 | nil => rfl
 | cons p rs ih => rw [List.flatMap_cons,List.length_append,ih,frameOf_len,endOf_cons]
theorem scan_ind {C : List UInt8 → Prop} (h0 : ∀ b,headOf b = none → C b) (h1 : ∀ b p,headOf b = some p → C (b.drop (8 + p.length)) → C b) (b : List UInt8) : C b:=by
 suffices h : ∀ k (b : List UInt8),b.length ≤ k → C b from h b.length b (Nat.le_refl _)
 intro k
 induction k with
 | zero => intro b hb; exact h0 b (by unfold headOf; rw [if_pos (by omega)])
 | succ k ih =>
   intro b hb
   cases hh : headOf b with
   | none => exact h0 b hh
   | some p =>
     have:=headOf_some.1 hh
     exact h1 b p hh (ih _ (by rw [List.length_drop]; omega))
theorem scan_end (b : List UInt8) : endOf (scanOf b) ≤ b.length:=by
 refine scan_ind (C:=fun b => endOf (scanOf b) ≤ b.length) (fun b h => ?_) (fun b p h ih => ?_) b
 ·rw [scanOf_none h]; simp [endOf]
 ·have:=headOf_some.1 h
  rw [scanOf_some h,endOf_cons]
  rw [List.length_drop] at ih
  omega
theorem scan_small (b : List UInt8) : ∀ p ∈ scanOf b,p.length ≤ 1048576:=by
 refine scan_ind (C:=fun b => ∀ p ∈ scanOf b,p.length ≤ 1048576) (fun b h => ?_) (fun b p h ih => ?_) b
 ·rw [scanOf_none h]; simp
 ·rw [scanOf_some h]
  intro q hq
  rcases List.mem_cons.1 hq with rfl | hq
  ·exact (headOf_some.1 h).2.1
  ·exact ih q hq
theorem scan_frames (ps : List (List UInt8)) (r : List UInt8) (h : ∀ p ∈ ps,p.length ≤ 1048576) : scanOf (ps.flatMap frameOf ++ r) = ps ++ scanOf r:=by
 induction ps with
 | nil => rfl
 | cons p ps ih =>
   have h1:=headOf_frame (r:=ps.flatMap frameOf ++ r) (h p (by simp))
   rw [List.flatMap_cons,List.append_assoc,scanOf_some h1,List.drop_left' (frameOf_len p),ih (fun q hq => h q (by simp [hq]))]
   rfl
theorem headOf_torn {p : List UInt8} {k : Nat} (h : p.length ≤ 1048576) (hk : k < 8 + p.length) : headOf ((frameOf p).take k) = none:=by
 cases hh : headOf ((frameOf p).take k) with
 | none => rfl
 | some q =>
   obtain ⟨h1,h2,h3,h4,h5⟩:=headOf_some.1 hh
   have hl:=frameOf_len p
   rw [List.length_take,hl] at h1
   have l1:=lowN_len 4 p.length
   have e : ((frameOf p).take k).take 4 = lowN 4 p.length:=by
    rw [List.take_take,Nat.min_eq_left (by omega)]
    unfold frameOf
    exact List.take_left' l1
   rw [e,numOf_lowN 4 _ (by omega)] at h3
   omega
theorem headOf_untake {b p : List UInt8} {c : Nat} (h : headOf (b.take c) = some p) : headOf b = some p ∧ 8 + p.length ≤ c:=by
 obtain ⟨h1,h2,h3,h4,h5⟩:=headOf_some.1 h
 rw [List.length_take] at h1
 rw [List.take_take,Nat.min_eq_left (by omega)] at h3
 rw [List.drop_take,List.take_take,Nat.min_eq_left (by omega)] at h4 h5
 exact ⟨headOf_some.2 ⟨by omega,h2,h3,h4,h5⟩,by omega⟩
def digs : Nat → Nat → List UInt8
 | 0,_ => []
 | k + 1,n => digs k (n / 10) ++ [UInt8.ofNat (48 + n % 10)]
theorem digs_len : ∀ k n,(digs k n).length = k
 | 0,_ => rfl
 | k + 1,n => by simp [digs,digs_len k]
def numDigs (l : List UInt8) : Nat:=l.foldl (fun n x => 10 * n + (x.toNat - 48)) 0
theorem numDigs_snoc (l : List UInt8) (x : UInt8) : numDigs (l ++ [x]) = 10 * numDigs l + (x.toNat - 48):=by unfold numDigs; rw [List.foldl_append]; rfl
theorem numDigs_digs : ∀ k n,n < 10 ^ k → numDigs (digs k n) = n
 | 0,n,h => by simp at h; simp [digs,numDigs,h]
 | k + 1,n,h => by
   have h1 : n / 10 < 10 ^ k:=by rw [Nat.pow_succ] at h; omega
   simp only [digs]
   rw [numDigs_snoc,numDigs_digs k _ h1,UInt8.toNat_ofNat']
   omega
def isDig (x : UInt8) : Bool:=decide (48 ≤ x.toNat) && decide (x.toNat ≤ 57)
theorem digs_all : ∀ k n,(digs k n).all isDig = true
 | 0,_ => rfl
 | k + 1,n => by
   simp only [digs,List.all_append,digs_all k,List.all_cons,List.all_nil,Bool.and_true,Bool.true_and,isDig]
   rw [UInt8.toNat_ofNat']
   simp only [Bool.and_eq_true,decide_eq_true_eq]
   omega
theorem numDigs_lt : ∀ l : List UInt8,l.all isDig = true → numDigs l < 10 ^ l.length:=by
 intro l
 obtain ⟨r,rfl⟩ : ∃ r : List UInt8,l = r.reverse:=⟨l.reverse,by simp⟩
 induction r with
 | nil => intro _; simp [numDigs]
 | cons x r ih =>
   intro h
   rw [List.reverse_cons,List.all_append] at h
   simp only [Bool.and_eq_true,List.all_cons,List.all_nil,Bool.and_true] at h
   have h1:=ih h.1
   have h2:=h.2
   unfold isDig at h2
   simp only [Bool.and_eq_true,decide_eq_true_eq] at h2
   rw [List.reverse_cons,numDigs_snoc,List.length_append,List.length_singleton,Nat.pow_succ]
   omega
theorem digs_numDigs : ∀ l : List UInt8,l.all isDig = true → digs l.length (numDigs l) = l:=by
 intro l
 obtain ⟨r,rfl⟩ : ∃ r : List UInt8,l = r.reverse:=⟨l.reverse,by simp⟩
 induction r with
 | nil => intro _; rfl
 | cons x r ih =>
   intro h
   rw [List.reverse_cons,List.all_append] at h
   simp only [Bool.and_eq_true,List.all_cons,List.all_nil,Bool.and_true] at h
   have h1:=ih h.1
   have h2:=h.2
   unfold isDig at h2
   simp only [Bool.and_eq_true,decide_eq_true_eq] at h2
   rw [List.reverse_cons,numDigs_snoc,List.length_append,List.length_singleton]
   simp only [digs]
   rw [show (10 * numDigs r.reverse + (x.toNat - 48)) / 10 = numDigs r.reverse by omega,h1]
   congr 2
   apply UInt8.toNat_inj.1
   rw [UInt8.toNat_ofNat']
   omega
theorem digs_inj {a b : Nat} (k : Nat) (ha : a < 10 ^ k) (hb : b < 10 ^ k) (h : digs k a = digs k b) : a = b:=by
 have:=congrArg numDigs h
 rwa [numDigs_digs k a ha,numDigs_digs k b hb] at this
def segName (dir : ByteArray) (n : Nat) : ByteArray:=⟨(dir.data.toList ++ 47 :: digs 8 n).toArray⟩
def dirOf (dir : ByteArray) : ByteArray:=⟨(dir.data.toList ++ [47]).toArray⟩
def numTail (l : List UInt8) : Nat:=if l.length = 8 ∧ l.all isDig = true then numDigs l else 0
def segNum (dir name : ByteArray) : Nat :=
 if Lib.hasPrefix name.data.toList (dirOf dir).data.toList = true then numTail (name.data.toList.drop (dir.data.toList.length + 1)) else 0
theorem segName_list (dir : ByteArray) (n : Nat) : (segName dir n).data.toList = dir.data.toList ++ 47 :: digs 8 n:=rfl
theorem dirOf_list (dir : ByteArray) : (dirOf dir).data.toList = dir.data.toList ++ [47]:=rfl
set_option linter.unusedSimpArgs false
set_option linter.unusedVariables false
structure Chg where
 key : ByteArray
 val : ByteArray
 drop : Bool
abbrev tx (s : ByteArray) : List UInt8:=s.data.toList
abbrev st (l : List UInt8) : ByteArray:=⟨l.toArray⟩
theorem tx_st (l : List UInt8) : tx (st l) = l:=by simp [tx,st]
theorem st_tx (s : ByteArray) : st (tx s) = s:=by cases s; simp [tx,st]
theorem tx_len (s : ByteArray) : (tx s).length = s.size:=rfl
theorem st_size (l : List UInt8) : (st l).size = l.length:=by show l.toArray.size = _; simp
def Chg.norm (c : Chg) : Chg:=if c.drop then { c with val:=ByteArray.empty } else c
theorem Chg.norm_key (c : Chg) : c.norm.key = c.key:=by unfold Chg.norm; split <;> rfl
theorem Chg.norm_drop (c : Chg) : c.norm.drop = c.drop:=by unfold Chg.norm; split <;> rfl
def chgB (c : Chg) : List UInt8:=(if c.drop then 2 else 1) :: UInt8.ofNat c.key.size :: (tx c.key ++ if c.drop then [] else lowN 4 c.val.size ++ tx c.val)
theorem chgB_len (c : Chg) : (chgB c).length = 2 + c.key.size + (if c.drop then 0 else 4 + c.val.size):=by
 obtain ⟨k,v,d⟩:=c
 cases d <;> simp [chgB,lowN_len,tx_len] <;> (try rw [← tx_len,← tx_len]) <;> (try simp [tx]) <;> omega
def chkFrom (seen : List ByteArray) : List Chg → Nat
 | [] => 0
 | c :: l => if c.key.size < 1 ∨ 200 < c.key.size then 1 else if c.drop = false ∧ 65536 < c.val.size then 8 else if (seen.any fun k => decide (tx k = tx c.key)) = true then 12 else chkFrom (c.key :: seen) l
def chkB (l : List Chg) : Nat:=if 500 < l.length then 9 else chkFrom [] l
def batB (seq : Nat) (l : List Chg) : List UInt8:=lowN 8 seq ++ (lowN 2 l.length ++ l.flatMap chgB)
def encB (seq : Int) (l : List Chg) : List UInt8 × Nat :=
 if seq < 1 then ([],10) else if chkB l ≠ 0 then ([],chkB l) else if 1048576 < (batB seq.toNat l).length then ([],8) else (batB seq.toNat l,0)
def takeChg : List UInt8 → Option (Chg × List UInt8)
 | k :: n :: r =>
   if k ≠ 1 ∧ k ≠ 2 then none else if r.length < n.toNat then none
   else if k = 2 then some (⟨st (r.take n.toNat),ByteArray.empty,true⟩,r.drop n.toNat)
   else if (r.drop n.toNat).length < 4 then none
   else if ((r.drop n.toNat).drop 4).length < numOf ((r.drop n.toNat).take 4) then none
   else some (⟨st (r.take n.toNat),st (((r.drop n.toNat).drop 4).take (numOf ((r.drop n.toNat).take 4))),false⟩,((r.drop n.toNat).drop 4).drop (numOf ((r.drop n.toNat).take 4)))
 | _ => none
def takeChgs : Nat → List UInt8 → Option (List Chg × List UInt8)
 | 0,b => some ([],b)
 | n + 1,b => match takeChg b with
   | none => none
   | some (c,r) => match takeChgs n r with
     | none => none
     | some (l,q) => some (c :: l,q)
def decB (b : List UInt8) : Option (Nat × List Chg) :=
 if b.length < 10 then none else match takeChgs (numOf ((b.drop 8).take 2)) ((b.drop 8).drop 2) with
  | none => none
  | some (l,q) => if q ≠ [] ∨ 1048576 < b.length ∨ numOf (b.take 8) < 1 ∨ 9223372036854775808 ≤ numOf (b.take 8) ∨ chkB l ≠ 0 then none else some (numOf (b.take 8),l)
theorem lowN_numOf : ∀ (xs : List UInt8),lowN xs.length (numOf xs) = xs
 | [] => rfl
 | x :: xs => by
   simp only [List.length_cons,lowN,numOf]
   have h:=x.toNat_lt
   have h1 : (x.toNat + 256 * numOf xs) / 256 = numOf xs:=by omega
   rw [h1,lowN_numOf xs]
   congr 1
   apply UInt8.toNat_inj.1
   rw [UInt8.toNat_ofNat']
   omega
theorem takeChg_chgB (c : Chg) (r : List UInt8) (hk : c.key.size < 256) (hv : c.drop = false → c.val.size < 4294967296) : takeChg (chgB c ++ r) = some (c.norm,r):=by
 obtain ⟨k,v,d⟩:=c
 have hn : (UInt8.ofNat k.size).toNat = k.size:=by rw [UInt8.toNat_ofNat']; exact Nat.mod_eq_of_lt hk
 have hl : (tx k).length = k.size:=rfl
 have hlv : (tx v).length = v.size:=rfl
 cases d with
 | true =>
   simp only [chgB,if_true,List.cons_append,List.append_nil,takeChg]
   rw [if_neg (by decide),if_neg (by rw [hn,List.length_append]; omega),hn,List.take_left' hl,List.drop_left' hl,st_tx]
   rfl
 | false =>
   have h4 : (lowN 4 v.size).length = 4:=lowN_len _ _
   have hm : numOf (lowN 4 v.size) = v.size:=numOf_lowN 4 _ (by have:=hv rfl; simp at this ⊢; omega)
   simp only [chgB,List.cons_append,List.append_assoc,takeChg,Bool.false_eq_true,if_false]
   rw [if_neg (by decide),if_neg (by rw [hn,List.length_append]; omega),hn,List.take_left' hl,List.drop_left' hl,st_tx,List.take_left' h4,List.drop_left' h4,hm,if_neg (show ¬ (1 : UInt8) = 2 by decide),
     if_neg (by rw [List.length_append]; omega),if_neg (by rw [List.length_append]; omega),List.take_left' hlv,List.drop_left' hlv,st_tx]
   rfl
theorem takeChg_some {b : List UInt8} {c : Chg} {r : List UInt8} (h : takeChg b = some (c,r)) : b = chgB c ++ r ∧ c.norm = c ∧ c.key.size < 256 ∧ c.val.size < 4294967296:=by
 match b,h with
 | k :: n :: q,h =>
   simp only [takeChg] at h
   by_cases h1 : k ≠ 1 ∧ k ≠ 2
   ·rw [if_pos h1] at h; cases h
   rw [if_neg h1] at h
   by_cases h2 : q.length < n.toNat
   ·rw [if_pos h2] at h; cases h
   rw [if_neg h2] at h
   have hnl:=n.toNat_lt
   have htk : (q.take n.toNat).length = n.toNat:=by rw [List.length_take]; omega
   by_cases h3 : k = 2
   ·rw [if_pos h3] at h
    cases h
    refine ⟨?_,rfl,by simp only [st_size,htk]; omega,by show ByteArray.empty.size < _; decide⟩
    simp only [chgB,if_true,h3,List.append_nil,tx_st,st_size,htk,UInt8.ofNat_toNat,List.cons_append,List.take_append_drop]
   ·rw [if_neg h3] at h
    have hk1 : k = 1:=by
     by_cases e : k = 1
     ·exact e
     ·exact absurd ⟨e,h3⟩ h1
    by_cases h4 : (q.drop n.toNat).length < 4
    ·rw [if_pos h4] at h; cases h
    rw [if_neg h4] at h
    by_cases h5 : ((q.drop n.toNat).drop 4).length < numOf ((q.drop n.toNat).take 4)
    ·rw [if_pos h5] at h; cases h
    rw [if_neg h5] at h
    cases h
    have ht4 : ((q.drop n.toNat).take 4).length = 4:=by rw [List.length_take]; omega
    have hm:=numOf_four (xs:=(q.drop n.toNat).take 4) (by omega)
    have hmt : (((q.drop n.toNat).drop 4).take (numOf ((q.drop n.toNat).take 4))).length = numOf ((q.drop n.toNat).take 4):=by rw [List.length_take]; omega
    refine ⟨?_,rfl,by simp only [st_size,htk]; omega,by simp only [st_size,hmt]; omega⟩
    have e1 : lowN 4 (numOf ((q.drop n.toNat).take 4)) = (q.drop n.toNat).take 4:=by
     have:=lowN_numOf ((q.drop n.toNat).take 4)
     rwa [ht4] at this
    simp only [chgB,hk1,Bool.false_eq_true,if_false,tx_st,st_size,htk,hmt,UInt8.ofNat_toNat,List.cons_append,List.append_assoc,List.take_append_drop,e1]
theorem takeChgs_all : ∀ (l : List Chg) (r : List UInt8),(∀ c ∈ l,c.key.size < 256 ∧ (c.drop = false → c.val.size < 4294967296)) → takeChgs l.length (l.flatMap chgB ++ r) = some (l.map Chg.norm,r)
 | [],r,_ => rfl
 | c :: l,r,h => by
   have h1:=h c (by simp)
   simp only [List.length_cons,takeChgs,List.flatMap_cons,List.append_assoc]
   rw [takeChg_chgB c _ h1.1 h1.2]
   simp only
   rw [takeChgs_all l r (fun c hc => h c (by simp [hc]))]
   rfl
theorem takeChgs_some : ∀ (n : Nat) (b : List UInt8) (l : List Chg) (r : List UInt8),takeChgs n b = some (l,r) → l.length = n ∧ b = l.flatMap chgB ++ r ∧ l.map Chg.norm = l
 | 0,b,l,r,h => by
   simp only [takeChgs,Option.some.injEq,Prod.mk.injEq] at h
   obtain ⟨rfl,rfl⟩:=h
   exact ⟨rfl,rfl,rfl⟩
 | n + 1,b,l,r,h => by
   simp only [takeChgs] at h
   cases h1 : takeChg b with
   | none => rw [h1] at h; cases h
   | some x =>
     obtain ⟨c,q⟩:=x
     rw [h1] at h
     simp only at h
     cases h2 : takeChgs n q with
     | none => rw [h2] at h; cases h
     | some y =>
       obtain ⟨l2,q2⟩:=y
       rw [h2] at h
       simp only [Option.some.injEq,Prod.mk.injEq] at h
       obtain ⟨rfl,rfl⟩:=h
       obtain ⟨e1,e2,-⟩:=takeChg_some h1
       obtain ⟨e3,e4,e5⟩:=takeChgs_some n q l2 q2 h2
       exact ⟨by simp [e3],by rw [e1,e4]; simp,by simp [e2,e5]⟩
theorem chkFrom_ok : ∀ (l : List Chg) (seen : List ByteArray),chkFrom seen l = 0 → ∀ c ∈ l,1 ≤ c.key.size ∧ c.key.size ≤ 200 ∧ (c.drop = false → c.val.size ≤ 65536)
 | [],_,_,c,hc => by simp at hc
 | x :: l,seen,h,c,hc => by
   unfold chkFrom at h
   by_cases h1 : x.key.size < 1 ∨ 200 < x.key.size
   ·rw [if_pos h1] at h; cases h
   rw [if_neg h1] at h
   by_cases h2 : x.drop = false ∧ 65536 < x.val.size
   ·rw [if_pos h2] at h; cases h
   rw [if_neg h2] at h
   by_cases h3 : (seen.any fun k => decide (tx k = tx x.key)) = true
   ·rw [if_pos h3] at h; cases h
   rw [if_neg h3] at h
   rcases List.mem_cons.1 hc with rfl | hc
   ·exact ⟨by omega,by omega,fun hd => Nat.le_of_not_lt fun hv => h2 ⟨hd,hv⟩⟩
   ·exact chkFrom_ok l _ h c hc
theorem chkFrom_norm : ∀ (l : List Chg) (seen : List ByteArray),chkFrom seen (l.map Chg.norm) = chkFrom seen l
 | [],_ => rfl
 | c :: l,seen => by
   simp only [List.map_cons,chkFrom,Chg.norm_key,Chg.norm_drop]
   rw [chkFrom_norm l]
   have : (c.drop = false ∧ 65536 < c.norm.val.size) ↔ (c.drop = false ∧ 65536 < c.val.size):=by
    unfold Chg.norm
    cases hd : c.drop <;> simp [hd]
   simp only [this]
theorem chkB_norm (l : List Chg) : chkB (l.map Chg.norm) = chkB l:=by unfold chkB; rw [chkFrom_norm,List.length_map]
theorem chkB_ok {l : List Chg} (h : chkB l = 0) : l.length ≤ 500 ∧ ∀ c ∈ l,1 ≤ c.key.size ∧ c.key.size ≤ 200 ∧ (c.drop = false → c.val.size ≤ 65536):=by
 unfold chkB at h
 by_cases h1 : 500 < l.length
 ·rw [if_pos h1] at h; cases h
 ·rw [if_neg h1] at h
  exact ⟨by omega,chkFrom_ok l _ h⟩
theorem batB_len (s : Nat) (l : List Chg) : (batB s l).length = 10 + (l.flatMap chgB).length:=by simp [batB,lowN_len]; omega
theorem decB_batB {s : Nat} {l : List Chg} (h1 : 1 ≤ s) (h2 : s < 9223372036854775808) (hc : chkB l = 0) (hn : (batB s l).length ≤ 1048576) : decB (batB s l) = some (s,l.map Chg.norm):=by
 obtain ⟨h3,h4⟩:=chkB_ok hc
 have l8 : (lowN 8 s).length = 8:=lowN_len _ _
 have l2 : (lowN 2 l.length).length = 2:=lowN_len _ _
 have n8 : numOf (lowN 8 s) = s:=numOf_lowN 8 _ (by omega)
 have n2 : numOf (lowN 2 l.length) = l.length:=numOf_lowN 2 _ (by omega)
 have t:=takeChgs_all l [] (fun c hc => ⟨by have:=h4 c hc; omega,fun hd => by have:=(h4 c hc).2.2 hd; omega⟩)
 rw [List.append_nil] at t
 have e1 : (batB s l).take 8 = lowN 8 s:=by unfold batB; exact List.take_left' l8
 have e2 : (batB s l).drop 8 = lowN 2 l.length ++ l.flatMap chgB:=by unfold batB; exact List.drop_left' l8
 unfold decB
 rw [if_neg (by rw [batB_len]; omega),e1,e2,List.take_left' l2,List.drop_left' l2,n2,n8,t]
 simp only
 rw [if_neg]
 intro e
 rcases e with e | e | e | e | e
 ·exact e rfl
 ·omega
 ·omega
 ·omega
 ·rw [chkB_norm] at e; exact e hc
theorem decB_some {b : List UInt8} {s : Nat} {l : List Chg} (h : decB b = some (s,l)) : b = batB s l ∧ 1 ≤ s ∧ s < 9223372036854775808 ∧ chkB l = 0 ∧ b.length ≤ 1048576 ∧ l.map Chg.norm = l:=by
 unfold decB at h
 by_cases h1 : b.length < 10
 ·rw [if_pos h1] at h; cases h
 rw [if_neg h1] at h
 cases h2 : takeChgs (numOf ((b.drop 8).take 2)) ((b.drop 8).drop 2) with
 | none => rw [h2] at h; cases h
 | some x =>
   obtain ⟨l',q⟩:=x
   rw [h2] at h
   simp only at h
   split at h
   ·cases h
   ·rename_i hc
    simp only [Option.some.injEq,Prod.mk.injEq] at h
    obtain ⟨rfl,rfl⟩:=h
    obtain ⟨e1,e2,e3⟩:=takeChgs_some _ _ _ _ h2
    have hq : q = []:=by
     by_cases e : q = []
     ·exact e
     ·exact absurd (.inl e) hc
    have t8 : (b.take 8).length = 8:=by rw [List.length_take]; omega
    have t2 : ((b.drop 8).take 2).length = 2:=by rw [List.length_take,List.length_drop]; omega
    refine ⟨?_,by omega,by omega,?_,by omega,e3⟩
    ·have a1 : lowN 8 (numOf (b.take 8)) = b.take 8:=by have:=lowN_numOf (b.take 8); rwa [t8] at this
     have a2 : lowN 2 l'.length = (b.drop 8).take 2:=by rw [e1]; have:=lowN_numOf ((b.drop 8).take 2); rwa [t2] at this
     unfold batB
     rw [a1,a2]
     conv => lhs; rw [← List.take_append_drop 8 b,← List.take_append_drop 2 (b.drop 8),e2,hq,List.append_nil]
    ·by_cases e : chkB l' = 0
     ·exact e
     ·exact absurd (.inr (.inr (.inr (.inr e)))) hc
end Go.Proofs.YtagdchgkjjpacaaGreat
