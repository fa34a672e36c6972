/- Plain laws of a store: a chain of batches; the manifest and its checkpoint. No program. -/
import Derived.Test.YtagdchgkjjpacaaGreatr26
set_option maxRecDepth 100000
open Go.Lib (hid)
set_option linter.unusedSimpArgs false
set_option linter.unusedVariables false
namespace Go.Proofs.YtagdchgkjjpacaaGreat
def Chain : Nat → Prs → List (List UInt8) → Nat → Prs → Prop
 | a,ma,[],q,m => a = q ∧ ma = m
 | a,ma,p :: r,q,m => ∃ l,decB p = some (a + 1,l) ∧ Chain (a + 1) (applyB ma l) r q m
theorem Chain.append : ∀ {r s : List (List UInt8)} {a : Nat} {ma : Prs} {q : Nat} {m : Prs} {b : Nat} {mb : Prs},Chain a ma r b mb → Chain b mb s q m → Chain a ma (r ++ s) q m
 | [],s,a,ma,q,m,b,mb,h,k => by obtain ⟨rfl,rfl⟩:=h; exact k
 | p :: r,s,a,ma,q,m,b,mb,⟨l,h1,h2⟩,k => ⟨l,h1,Chain.append h2 k⟩
theorem Chain.split : ∀ {r s : List (List UInt8)} {a : Nat} {ma : Prs} {q : Nat} {m : Prs},Chain a ma (r ++ s) q m → ∃ b mb,Chain a ma r b mb ∧ Chain b mb s q m
 | [],s,a,ma,q,m,h => ⟨a,ma,⟨rfl,rfl⟩,h⟩
 | p :: r,s,a,ma,q,m,⟨l,h1,h2⟩ => by
   obtain ⟨b,mb,h3,h4⟩:=Chain.split (r:=r) h2
   exact ⟨b,mb,⟨l,h1,h3⟩,h4⟩
theorem Chain.len : ∀ {r : List (List UInt8)} {a : Nat} {ma : Prs} {q : Nat} {m : Prs},Chain a ma r q m → q = a + r.length
 | [],a,ma,q,m,h => by obtain ⟨rfl,rfl⟩:=h; rfl
 | p :: r,a,ma,q,m,⟨l,h1,h2⟩ => by have:=Chain.len h2; simp only [List.length_cons]; omega
theorem Chain.one {p : List UInt8} {a : Nat} {l : List Chg} {m : Prs} (h : decB p = some (a + 1,l)) : Chain a m [p] (a + 1) (applyB m l):=⟨l,h,rfl,rfl⟩
theorem replay_do : ∀ {r : List (List UInt8)} {a : Nat} {ma : Prs} {q : Nat} {m : Prs},Chain a ma r q m → replayR r a ma = some (q,m)
 | [],a,ma,q,m,h => by obtain ⟨rfl,rfl⟩:=h; rfl
 | p :: r,a,ma,q,m,⟨l,h1,h2⟩ => by
   have h3:=(decB_some h1).2.2.1
   unfold replayR
   rw [h1]
   simp only
   rw [if_neg (by omega),if_neg (by omega)]
   exact replay_do h2
theorem replay_skip {s : List (List UInt8)} {q : Nat} {m : Prs} (hq : q + 1 < 9223372036854775808) : ∀ {r : List (List UInt8)} {a : Nat} {ma : Prs} {b : Nat} {mb : Prs},Chain a ma r b mb → b ≤ q → replayR (r ++ s) q m = replayR s q m
 | [],a,ma,b,mb,h,hb => rfl
 | p :: r,a,ma,b,mb,⟨l,h1,h2⟩,hb => by
   have hl:=Chain.len h2
   rw [List.cons_append]
   conv => lhs; unfold replayR
   rw [h1]
   simp only
   rw [if_neg (by omega),if_pos (by omega)]
   exact replay_skip hq h2 hb
def wgt (m : Prs) : Nat:=(m.map fun p => (chgB (wrC p)).length).sum
theorem wgt_append (a b : Prs) : wgt (a ++ b) = wgt a + wgt b:=by simp [wgt]
theorem wgt_cons (p : ByteArray × ByteArray) (b : Prs) : wgt (p :: b) = (chgB (wrC p)).length + wgt b:=by simp [wgt]
theorem wgt_two {f g : ByteArray × ByteArray → Bool} (hfg : ∀ x,¬ (f x = true ∧ g x = true)) : ∀ m : Prs,wgt (m.filter f) + wgt (m.filter g) ≤ wgt m
 | [] => Nat.le_refl _
 | p :: m => by
   have h:=wgt_two hfg m
   by_cases h1 : f p = true
   ·have h2 : ¬ g p = true:=fun e => hfg p ⟨h1,e⟩
    rw [List.filter_cons_of_pos h1,List.filter_cons_of_neg h2,wgt_cons,wgt_cons]; omega
   ·by_cases h2 : g p = true
    ·rw [List.filter_cons_of_neg h1,List.filter_cons_of_pos h2,wgt_cons,wgt_cons]; omega
    ·rw [List.filter_cons_of_neg h1,List.filter_cons_of_neg h2,wgt_cons]; omega
theorem wgt_filter (f : ByteArray × ByteArray → Bool) (m : Prs) : wgt (m.filter f) ≤ wgt m:=by
 have:=wgt_two (f:=f) (g:=fun _ => false) (by simp) m
 omega
theorem len_two {f g : ByteArray × ByteArray → Bool} (hfg : ∀ x,¬ (f x = true ∧ g x = true)) : ∀ m : Prs,(m.filter f).length + (m.filter g).length ≤ m.length
 | [] => Nat.le_refl _
 | p :: m => by
   have h:=len_two hfg m
   by_cases h1 : f p = true
   ·have h2 : ¬ g p = true:=fun e => hfg p ⟨h1,e⟩
    rw [List.filter_cons_of_pos h1,List.filter_cons_of_neg h2,List.length_cons,List.length_cons]; omega
   ·by_cases h2 : g p = true
    ·rw [List.filter_cons_of_neg h1,List.filter_cons_of_pos h2,List.length_cons,List.length_cons]; omega
    ·rw [List.filter_cons_of_neg h1,List.filter_cons_of_neg h2,List.length_cons]; omega
theorem apart_key (k : ByteArray) : ∀ x : ByteArray × ByteArray,¬ (slt x.1 k = true ∧ slt k x.1 = true):=fun x h => by
 have:=slt_ord.asymm h.1
 rw [this] at h
 exact absurd h.2 (by simp)
theorem applyC_fit (m : Prs) (c : Chg) : (applyC m c).length ≤ m.length + 1 ∧ wgt (applyC m c) ≤ wgt m + (chgB c).length:=by
 obtain ⟨k,v,d⟩:=c
 unfold applyC
 cases d with
 | true =>
   have h1:=List.length_filter_le (fun x : ByteArray × ByteArray => slt x.1 k || slt k x.1) m
   have h2:=wgt_filter (fun x => slt x.1 k || slt k x.1) m
   simp only [if_true]
   unfold dropL
   omega
 | false =>
   have h1:=len_two (apart_key k) m
   have h2:=wgt_two (apart_key k) m
   simp only [Bool.false_eq_true,if_false]
   unfold putL
   rw [List.length_append,List.length_cons,wgt_append,wgt_cons]
   have e : (wrC (k,v)) = ⟨k,v,false⟩:=rfl
   rw [e]
   constructor <;> omega
theorem applyB_fit : ∀ (l : List Chg) (m : Prs),(applyB m l).length ≤ m.length + l.length ∧ wgt (applyB m l) ≤ wgt m + (l.flatMap chgB).length
 | [],m => ⟨Nat.le_refl _,Nat.le_refl _⟩
 | c :: l,m => by
   have h1:=applyC_fit m c
   have h2:=applyB_fit l (applyC m c)
   show (applyB (applyC m c) l).length ≤ _ ∧ wgt (applyB (applyC m c) l) ≤ _
   rw [List.length_cons,List.flatMap_cons,List.length_append]
   omega
structure Fit (q : Nat) (m : Prs) : Prop where
 ok : PrsOk m
 len : m.length ≤ 500 * q
 wgt : wgt m ≤ 1048576 * q
theorem Fit.zero : Fit 0 []:=⟨PrsOk.nil,Nat.le_refl _,Nat.le_refl _⟩
theorem Fit.next {a s : Nat} {m : Prs} {p : List UInt8} {l : List Chg} (h : Fit a m) (hd : decB p = some (s,l)) : Fit (a + 1) (applyB m l):=by
 obtain ⟨h1,-,-,h4,h5,-⟩:=decB_some hd
 obtain ⟨h6,h7⟩:=chkB_ok h4
 have h8:=applyB_fit l m
 rw [h1,batB_len] at h5
 exact ⟨PrsOk.applyB l h.ok h7,by have:=h.len; omega,by have:=h.wgt; omega⟩
theorem Chain.fit : ∀ {r : List (List UInt8)} {a : Nat} {ma : Prs} {q : Nat} {m : Prs},Chain a ma r q m → Fit a ma → Fit q m
 | [],a,ma,q,m,h,k => by obtain ⟨rfl,rfl⟩:=h; exact k
 | p :: r,a,ma,q,m,⟨l,h1,h2⟩,k => Chain.fit h2 (k.next h1)
def cntR (rs : List (List UInt8)) : Nat:=(rs.map fun p => match decB p with | none => 0 | some (_,l) => l.length).sum
theorem cntR_cons (p : List UInt8) (rs : List (List UInt8)) : cntR (p :: rs) = (match decB p with | none => 0 | some (_,l) => l.length) + cntR rs:=by simp [cntR]
theorem cntR_append (a b : List (List UInt8)) : cntR (a ++ b) = cntR a + cntR b:=by simp [cntR]
theorem cnt_one (p : List UInt8) : (match decB p with | none => 0 | some (_,l) => l.length) ≤ 500:=by
 cases h : decB p with
 | none => simp
 | some x =>
   obtain ⟨s,l⟩:=x
   exact (chkB_ok (decB_some h).2.2.2.1).1
theorem cntR_le : ∀ rs : List (List UInt8),cntR rs ≤ 500 * rs.length
 | [] => Nat.le_refl _
 | p :: rs => by
   have h1:=cnt_one p
   have h2:=cntR_le rs
   rw [cntR_cons,List.length_cons]
   omega
theorem flat_two (l : List Chg) : 2 * l.length ≤ (l.flatMap chgB).length:=by
 induction l with
 | nil => simp
 | cons c l ih => rw [List.flatMap_cons,List.length_append,List.length_cons,chgB_len]; omega
theorem cnt_bytes (p : List UInt8) : 2 * (match decB p with | none => 0 | some (_,l) => l.length) ≤ p.length:=by
 cases h : decB p with
 | none => simp
 | some x =>
   obtain ⟨s,l⟩:=x
   have h1:=(decB_some h).1
   have h2:=flat_two l
   simp only
   rw [h1,batB_len]
   omega
theorem cntR_bytes : ∀ rs : List (List UInt8),2 * cntR rs ≤ endOf rs
 | [] => Nat.le_refl _
 | p :: rs => by
   have h1:=cnt_bytes p
   have h2:=cntR_bytes rs
   rw [cntR_cons,endOf_cons]
   omega
theorem grp_len (s : Nat) : ∀ (l : List Chg) (room : Nat) (cur : List Chg),(∀ x ∈ l,7 ≤ (chgB x).length) → cur ≠ [] → cur.length * 7 ≤ (cur.flatMap chgB).length →
 endOf ((grpB room cur l).map (batB s)) ≤ 4 * ((cur.flatMap chgB).length + (l.flatMap chgB).length)
 | [],room,cur,h,h1,h2 => by
   unfold grpB
   have h3 : 1 ≤ cur.length:=List.length_pos_iff.2 h1
   rw [if_neg h1,List.map_cons,List.map_nil,endOf_cons,batB_len]
   simp only [endOf,List.map_nil,List.sum_nil,List.flatMap_nil,List.length_nil]
   omega
 | x :: l,room,cur,h,h1,h2 => by
   have hx:=h x (by simp)
   have h3 : 1 ≤ cur.length:=List.length_pos_iff.2 h1
   unfold grpB
   split
   ·have ih:=grp_len s l (1048566 - (chgB x).length) [x] (fun y hy => h y (by simp [hy])) (by simp) (by simpa using hx)
    simp only [List.flatMap_cons,List.flatMap_nil,List.append_nil] at ih
    rw [List.map_cons,endOf_cons,batB_len,List.flatMap_cons,List.length_append]
    omega
   ·have ih:=grp_len s l (room - (chgB x).length) (cur ++ [x]) (fun y hy => h y (by simp [hy])) (by simp) (by rw [List.length_append,List.flatMap_append,List.length_append,List.flatMap_singleton]; simp only [List.length_singleton]; omega)
    rw [List.flatMap_append,List.length_append,List.flatMap_singleton] at ih
    rw [List.flatMap_cons,List.length_append]
    omega
theorem wgt_flat (m : Prs) : ((m.map wrC).flatMap chgB).length = wgt m:=by
 induction m with
 | nil => rfl
 | cons p m ih => rw [List.map_cons,List.flatMap_cons,List.length_append,ih,wgt_cons]
theorem img_len (q : Nat) {m : Prs} (h : PrsOk m) : (imgB q m).length ≤ 42 + 4 * wgt m:=by
 unfold imgB
 rw [endOf_frames]
 unfold imgRecs
 rw [endOf_cons,endOf_append,lowN_len]
 have e : endOf [([] : List UInt8)] = 8:=rfl
 rw [e]
 have hx : ∀ x ∈ m.map wrC,7 ≤ (chgB x).length:=fun x hx => by
  obtain ⟨p,hp,rfl⟩:=List.mem_map.1 hx
  have h1:=(h.2 p hp).1
  rw [chgB_len]
  simp only [Bool.false_eq_true,if_false]
  have : (wrC p).key.size = p.1.size:=rfl
  omega
 have h2 : endOf ((grpB 1048566 [] (m.map wrC)).map (batB (max q 1))) ≤ 18 + 4 * wgt m:=by
  rw [← wgt_flat]
  match m.map wrC,hx with
  | [],_ => unfold grpB; simp [endOf]
  | x :: l,hx =>
    have h7:=hx x (by simp)
    have ih:=fun room => grp_len (max q 1) l room [x] (fun y hy => hx y (by simp [hy])) (by simp) (by simpa using h7)
    simp only [List.flatMap_cons,List.flatMap_nil,List.append_nil] at ih
    unfold grpB
    rw [List.flatMap_cons,List.length_append]
    split
    ·rw [List.map_cons,endOf_cons,batB_len]
     have:=ih (1048566 - (chgB x).length)
     simp only [List.flatMap_nil,List.length_nil]
     omega
    ·have:=ih (1048566 - (chgB x).length)
     rw [List.nil_append]
     omega
 omega
set_option linter.unusedSectionVars false
open Go.RowKit Go.Shelf
theorem dropL_none {m : Prs} {k : ByteArray} (h : findL slt m k = none) : dropL slt m k = m:=by
 unfold dropL
 refine List.filter_eq_self.2 fun x hx => ?_
 cases h1 : slt x.1 k with
 | true => rfl
 | false =>
   cases h2 : slt k x.1 with
   | true => rfl
   | false =>
     exfalso
     unfold findL at h
     rw [Option.map_eq_none_iff,List.find?_eq_none] at h
     exact h x hx (by rw [h1,h2]; rfl)
theorem delT_ino {t : Tr ByteArray ByteArray} (hr : Rise slt t.ino) (k : ByteArray) : (Ss.delT t k).ino = dropL slt t.ino k:=by
 unfold Ss.delT
 split
 ·exact ino_drop slt_ord t hr k
 ·rename_i h
  have h1 : findL slt t.ino k = none:=by
   rw [← get_ino slt_ord t hr k]
   cases hg : t.get slt k with
   | none => rfl
   | some v => rw [hg] at h; exact absurd rfl h
  rw [dropL_none h1]
structure StB (w : World) (sb : Nat) (c : StC) (m : Prs) (n : Nat) : Prop where
 blk : StIn w sb c
 tab : ∃ t ver,Ss.STab w c.tb t ver ∧ t.ino = m ∧ 0 ≤ ver ∧ ver ≤ (n : Int)
 rise : Rise slt m
 len : m.length ≤ n
theorem StB.below {w w' : World} {sb : Nat} {c : StC} {m : Prs} {n : Nat} (h : StB w sb c m n) (k : Below w.heap.size w w') : StB w' sb c m n:=by
 obtain ⟨t,ver,h1,h2,h3⟩:=h.tab
 exact ⟨h.blk.below k,⟨t,ver,h1.below k,h2,h3⟩,h.rise,h.len⟩
theorem StB.mono {w : World} {sb : Nat} {c : StC} {m : Prs} {n n' : Nat} (h : StB w sb c m n) (k : n ≤ n') : StB w sb c m n':=by
 obtain ⟨t,ver,h1,h2,h3,h4⟩:=h.tab
 exact ⟨h.blk,⟨t,ver,h1,h2,h3,by omega⟩,h.rise,Nat.le_trans h.len k⟩
theorem StB.ne {w : World} {sb : Nat} {c : StC} {m : Prs} {n : Nat} (h : StB w sb c m n) : sb ≠ c.tb:=by
 obtain ⟨t,ver,⟨root,hb,_⟩,_⟩:=h.tab
 exact blk_ne_type h.blk hb (by decide)
theorem StB.lt {w : World} {sb : Nat} {c : StC} {m : Prs} {n : Nat} (h : StB w sb c m n) : sb < w.heap.size ∧ c.tb < w.heap.size:=by
 obtain ⟨t,ver,⟨root,hb,_⟩,_⟩:=h.tab
 exact ⟨lt_of_block h.blk,lt_of_block hb⟩
section
variable {w : World} {sb : Nat} {c : StC} {m : Prs} {n : Nat}
theorem sb_put (h : StB w sb c m n) (k v : ByteArray) (hn : n < 800000000) : Hid (∀ W,Below w.heap.size w W → Calls Tryz.prog 129 #[.pointer (some ⟨c.tb,0,none⟩),.string k,.string v] W fun e w' => e = .returned (.tuple #[]) ∧ StB w' sb c (applyC m ⟨k,v,false⟩) (n + 1) ∧ Keeps (Only c.tb) W w'):=hid fun W hW => by
 have h:=h.below hW
 obtain ⟨t,ver,h1,h2,h3,h4⟩:=h.tab
 have hs : t.size < 900000000:=by rw [← Tr.ino_length,h2]; have:=h.len; omega
 refine (Ss.t_put W c.tb t ver k v h1 h3 (by omega) hs).mono ?_
 rintro e w' ⟨rfl,ht,hk⟩
 have hr : Rise slt t.ino:=by rw [h2]; exact h.rise
 have hi : (t.put slt k v).ino = applyC m ⟨k,v,false⟩:=by rw [ino_put slt_ord t hr,h2]; rfl
 exact ⟨rfl,⟨hk.obj h.blk h.ne,⟨_,_,ht,hi,by omega,by omega⟩,rise_applyC h.rise _,by have:=(applyC_fit m ⟨k,v,false⟩).1; have:=h.len; omega⟩,hk⟩
theorem sb_del (h : StB w sb c m n) (k v : ByteArray) (hn : n < 800000000) : Hid (∀ W,Below w.heap.size w W → Calls Tryz.prog 128 #[.pointer (some ⟨c.tb,0,none⟩),.string k] W fun e w' => ∃ b : Bool,e = .returned (.bool b) ∧ StB w' sb c (applyC m ⟨k,v,true⟩) (n + 1) ∧ Keeps (Only c.tb) W w'):=hid fun W hW => by
 have h:=h.below hW
 obtain ⟨t,ver,h1,h2,h3,h4⟩:=h.tab
 have hs : t.size < 900000000:=by rw [← Tr.ino_length,h2]; have:=h.len; omega
 refine (Ss.t_delete W c.tb t ver k h1 h3 (by omega) hs).mono ?_
 rintro e w' ⟨rfl,ht,hk⟩
 have hr : Rise slt t.ino:=by rw [h2]; exact h.rise
 have hi : (Ss.delT t k).ino = applyC m ⟨k,v,true⟩:=by rw [delT_ino hr,h2]; rfl
 exact ⟨_,rfl,⟨hk.obj h.blk h.ne,⟨_,_,ht,hi,by omega,by omega⟩,rise_applyC h.rise _,by have:=(applyC_fit m ⟨k,v,true⟩).1; have:=h.len; omega⟩,hk⟩
structure DoI (w : World) (sb : Nat) (c : StC) (m : Prs) (n : Nat) (l : List Chg) (i : Nat) (wr : World) : Prop where
 st : StB wr sb c (applyB m (l.take i)) (n + i)
 keeps : Keeps (Only c.tb) w wr
theorem applyB_snoc (m : Prs) (l : List Chg) {i : Nat} {x : Chg} (h : l[i]? = some x) : applyC (applyB m (l.take i)) x = applyB m (l.take (i + 1)):=by
 rw [List.take_add_one,h,applyB_append]; rfl
set_option maxHeartbeats 4000000 in
theorem st_do (h : StB w sb c m n) {l : List Chg} {a : Option Addr} {cap : Nat} (hr : RdAt chgKind w (.slice a l.length cap) l) (ho : ∀ g,(Value.slice a l.length cap).ownBlock = some g → g ≠ c.tb) (hn : n + l.length < 800000000) :
 Calls Tryz.prog 78 #[.pointer (some ⟨sb,0,none⟩),.slice a l.length cap] w fun e w' => e = .returned (.tuple #[]) ∧ StB w' sb c (applyB m l) (n + l.length) ∧ Keeps (Only c.tb) w w':=by
 have HR:=hid hr
 have HO:=hid ho
 have HN:=hid hn
 have HI0 : Hid (DoI w sb c m n l 0 w):=hid ⟨by simpa [applyB] using h,Keeps.refl _ _⟩
 have hl1 : (l.length : Int) < 800000000:=by omega
 clear h hr ho hn
 go_enter Tryz.func78,Tryz.ntmps78
 go_wp2_with (fail)
 go_loopw [8] (fun iv wr => ∃ i : Nat,i ≤ l.length ∧ iv = .int .i64 (i : Int) ∧ Hid (DoI w sb c m n l i wr)) (fun iv _ => l.length - (intOf iv).toNat)
 case atStart => exact ⟨0,Nat.zero_le _,rfl,HI0⟩
 case round =>
  obtain ⟨i,hi,rfl,HI⟩:=hrel
  by_cases hlt : i < l.length
  ·have q1 : (0 : Int) ≤ (i : Int):=by omega
   have q2 : (i : Int) < (l.length : Int):=by omega
   obtain ⟨x,hx⟩ : ∃ x,l[i]? = some x:=⟨_,List.getElem?_eq_getElem hlt⟩
   have hrw : RdAt chgKind wr (.slice a l.length cap) l:=HR.out.block fun g hg hlt => HI.out.keeps.block g hlt (HO.out g hg)
   obtain ⟨g,off,rfl,d0,d1,d2⟩:=chg_cells hrw hx
   have HX:=hid (applyB_snoc m l hx)
   have HLT:=hid hlt
   obtain ⟨k,u,dr⟩:=x
   simp only at d0 d1 d2
   clear hx hlt hi hrw
   go_upto_region 3 with (fail)
   obtain ⟨W1,hW1,HB1⟩:=cbox_new wr ⟨k,u,dr⟩
   simp only at hW1
   rw [hW1]
   obtain ⟨xb,hxb⟩ : ∃ x,x = wr.heap.size:=⟨_,rfl⟩
   rw [← hxb]
   have HXB : Hid (CBox W1 xb ⟨k,u,dr⟩):=hid (by rw [hxb]; exact HB1.out.2.1)
   have HST : Hid (StB W1 sb c (applyB m (l.take i)) (n + i)):=hid (HI.out.st.below HB1.out.1)
   have HK1 : Hid (Keeps (Only c.tb) w W1):=hid (HI.out.keeps.trans' ((Keeps.of_below HB1.out.1).mono fun _ _ e => e.elim))
   have HNE : Hid (sb ≠ c.tb ∧ xb ≠ c.tb):=hid ⟨HI.out.st.ne,fun e => by have:=HI.out.st.lt; omega⟩
   have s11 : W1.cell? ⟨sb,11,none⟩ = some (.pointer (some ⟨c.tb,0,none⟩)):=blk_cell HST.out.blk 11
   obtain ⟨⟨x0,x1,x2⟩,-⟩:=cbox_cells HXB.out
   simp only at x0 x1 x2
   have HP:=sb_put HST.out k u (by have:=HN.out; have:=HLT.out; omega)
   have HD:=sb_del HST.out k u (by have:=HN.out; have:=HLT.out; omega)
   clear hW1 hxb HB1 d0 d1 d2
   cases dr with
   | true =>
     go_upto_region 4 with (fail)
     clear x1 x2
     go_region_held3 (fun w' => w'.cell? ⟨sb,11,none⟩ = some (.pointer (some ⟨c.tb,0,none⟩)) ∧ w'.cell? ⟨xb,0,none⟩ = some (.string k))
       (first
         | go_keep
         | exact ⟨blk_cell s5.blk 11,blk_cell (k5.obj HXB.out HNE.out.2) 0⟩)
       (first
         | (go_at_call 128; (with_reducible refine (HD.out _ ?_).mono ?_); exact (Below.refl _ _).drew; rintro e w5 ⟨b5,rfl,s5,k5'⟩; have k5 : Keeps (Only c.tb) W1 w5:=((Keeps.of_below (Below.refl _ _).drew).mono (fun _ _ h => h.elim)).trans' k5'; clear k5'))
     have HI2 : Hid (DoI w sb c m n l (i + 1) w5):=hid ⟨by rw [← HX.out]; exact s5,HK1.out.trans' k5⟩
     clear s11 x0 s5 k5
     go_wp2_with (fail)
     go_roundw
     case rel => exact ⟨i + 1,HLT.out,by go_num,HI2⟩
     case measure => have:=HLT.out; simp [intOf]; omega
   | false =>
     go_upto_region 5 with (fail)
     clear x2
     go_region_held3 (fun w' => w'.cell? ⟨sb,11,none⟩ = some (.pointer (some ⟨c.tb,0,none⟩)) ∧ w'.cell? ⟨xb,0,none⟩ = some (.string k) ∧ w'.cell? ⟨xb,1,none⟩ = some (.string u))
       (first
         | go_keep
         | exact ⟨blk_cell s5.blk 11,blk_cell (k5.obj HXB.out HNE.out.2) 0,blk_cell (k5.obj HXB.out HNE.out.2) 1⟩)
       (first
         | (go_at_call 129; (with_reducible refine (HP.out _ ?_).mono ?_); exact (Below.refl _ _).drew; rintro e w5 ⟨rfl,s5,k5'⟩; have k5 : Keeps (Only c.tb) W1 w5:=((Keeps.of_below (Below.refl _ _).drew).mono (fun _ _ h => h.elim)).trans' k5'; clear k5'))
     have HI2 : Hid (DoI w sb c m n l (i + 1) w5):=hid ⟨by rw [← HX.out]; exact s5,HK1.out.trans' k5⟩
     clear s11 x0 x1 s5 k5
     go_wp2_with (fail)
     go_roundw
     case rel => exact ⟨i + 1,HLT.out,by go_num,HI2⟩
     case measure => have:=HLT.out; simp [intOf]; omega
  ·have q2 : ¬ (i : Int) < (l.length : Int):=by omega
   obtain rfl : i = l.length:=by omega
   have HE:=hid (show StB wr sb c (applyB m l) (n + l.length) from by have:=HI.out.st; rwa [List.take_length] at this)
   clear hlt hi
   go_wp2_with (fail)
   go_end0
   exact ⟨rfl,HE.out,HI.out.keeps⟩
end
end Go.Proofs.YtagdchgkjjpacaaGreat
