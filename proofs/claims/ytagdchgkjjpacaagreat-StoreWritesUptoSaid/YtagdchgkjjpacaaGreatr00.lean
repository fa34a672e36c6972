/- What a call keeps of memory: blocks outside a set are as they were. Plain facts on worlds. -/
import Derived.WalkKit
import Derived.Deep.QuietTactic
import Derived.WideShapes
import Derived.Lib.Strings
namespace Go.Proofs.YtagdchgkjjpacaaGreat
open Go.RowKit
structure Keeps (S : Nat → Prop) (w w' : World) : Prop where
 os : w'.os = w.os
 tape : w'.tape = w.tape
 output : w'.output = w.output
 size : w.heap.size ≤ w'.heap.size
 block : ∀ k,k < w.heap.size → ¬ S k → w'.heap[k]? = w.heap[k]?
theorem Keeps.refl (S : Nat → Prop) (w : World) : Keeps S w w:=⟨rfl,rfl,rfl,Nat.le_refl _,fun _ _ _ => rfl⟩
theorem Keeps.mono {S T : Nat → Prop} {w w' : World} (h : Keeps S w w') (hs : ∀ k,k < w.heap.size → S k → T k) : Keeps T w w' :=
 ⟨h.os,h.tape,h.output,h.size,fun k hk hn => h.block k hk (fun hS => hn (hs k hk hS))⟩
theorem Keeps.trans {S T : Nat → Prop} {a b c : World} (h : Keeps S a b) (k : Keeps T b c) (hT : ∀ i,i < a.heap.size → T i → S i) : Keeps S a c :=
 ⟨k.os.trans h.os,k.tape.trans h.tape,k.output.trans h.output,Nat.le_trans h.size k.size,
   fun i hi hn => (k.block i (Nat.lt_of_lt_of_le hi h.size) (fun ht => hn (hT i hi ht))).trans (h.block i hi hn)⟩
theorem Keeps.trans' {S : Nat → Prop} {a b c : World} (h : Keeps S a b) (k : Keeps S b c) : Keeps S a c:=h.trans k (fun _ _ h => h)
theorem Keeps.drew {S : Nat → Prop} {a w : World} (h : Keeps S a w) : Keeps S a w.drew:=⟨h.os,h.tape,h.output,h.size,h.block⟩
theorem Keeps.drewN {S : Nat → Prop} {a w : World} (h : Keeps S a w) (n : Nat) : Keeps S a (w.drewN n):=⟨h.os,h.tape,h.output,h.size,h.block⟩
theorem Keeps.alloc {S : Nat → Prop} {a w : World} (h : Keeps S a w) (o : Obj) : Keeps S a (w.alloc o) :=
 ⟨h.os,h.tape,h.output,by have:=h.size; simp; omega,fun k hk hn => (Below.heap_alloc _ _ _ (Nat.lt_of_lt_of_le hk h.size)).trans (h.block k hk hn)⟩
theorem Keeps.setCell {S : Nat → Prop} {a w : World} (h : Keeps S a w) {p : Addr} (hp : p.block < a.heap.size → S p.block) (u : Value) : Keeps S a (w.setCell p u) :=
 ⟨h.os,h.tape,h.output,by simpa [World.setCell] using h.size,fun k hk hn => by
  have hne : k ≠ p.block:=fun e => hn (e ▸ hp (e ▸ hk))
  exact (Below.heap_setCell _ _ _ _ hne).trans (h.block k hk hn)⟩
theorem Keeps.below {S : Nat → Prop} {a w w' : World} (h : Keeps S a w) (k : Below a.heap.size w w') : Keeps S a w' :=
 ⟨k.os.trans h.os,k.tape.trans h.tape,k.output.trans h.output,Nat.le_trans h.size k.size,fun i hi hn => (k.block i hi).trans (h.block i hi hn)⟩
theorem Keeps.of_below {w w' : World} (k : Below w.heap.size w w') : Keeps (fun _ => False) w w' :=
 ⟨k.os,k.tape,k.output,k.size,fun i hi _ => k.block i hi⟩
theorem Keeps.to_below {B : Nat} {S : Nat → Prop} {w w' : World} (h : Keeps S w w') (hB : B ≤ w.heap.size) (hs : ∀ k,k < B → ¬ S k) : Below B w w' :=
 ⟨h.os,h.tape,h.output,h.size,fun k hk => h.block k (Nat.lt_of_lt_of_le hk hB) (hs k hk)⟩
theorem below_keeps {B : Nat} {S : Nat → Prop} {a w w' : World} (h : Below B a w) (k : Keeps S w w') (hs : ∀ i,S i → B ≤ i) (hB : B ≤ w.heap.size) : Below B a w' :=
 h.trans ⟨k.os,k.tape,k.output,k.size,fun i hi => k.block i (Nat.lt_of_lt_of_le hi hB) (fun hS => by have:=hs i hS; omega)⟩
theorem Keeps.cell {S : Nat → Prop} {w w' : World} (h : Keeps S w w') {p : Addr} (hp : p.block < w.heap.size) (hn : ¬ S p.block) : w'.cell? p = w.cell? p :=
 World.cell?_of_block (w:=w) (h.block p.block hp hn)
theorem Keeps.obj {S : Nat → Prop} {w w' : World} (h : Keeps S w w') {b : Nat} {o : Obj} (hb : w.heap[b]? = some o) (hn : ¬ S b) : w'.heap[b]? = some o :=
 (h.block b (lt_of_block hb) hn).trans hb
abbrev IsBlk (w : World) (b : Nat) (cs : Array Value) (t : TypeId) : Prop:=w.heap[b]? = some (.cells cs t (0,0))
theorem blk_cell {w : World} {b : Nat} {cs : Array Value} {t : TypeId} (h : IsBlk w b cs t) (i : Nat) : w.cell? ⟨b,i,none⟩ = cs[i]?:=by simp [World.cell?,h]
theorem blk_free {w : World} {b : Nat} {cs : Array Value} {t : TypeId} (h : IsBlk w b cs t) (i : Nat) : w.frozen? ⟨b,i,none⟩ = false:=by simp [World.frozen?,h]
theorem blk_set {w : World} {b : Nat} {cs : Array Value} {t : TypeId} (h : IsBlk w b cs t) (i : Nat) (u : Value) : IsBlk (w.setCell ⟨b,i,none⟩ u) b (cs.setIfInBounds i u) t:=by
 have hlt:=lt_of_block h
 have h0 : w.heap[b]? = some (.cells cs t (0,0)):=h
 have h' : w.heap[b] = .cells cs t (0,0):=by simpa [Array.getElem?_eq_getElem hlt] using h0
 show (w.heap.modify b _)[b]? = _
 rw [Array.getElem?_eq_getElem (by simpa using hlt),Array.getElem_modify_self,h']
 rfl
theorem blk_other {w : World} {b c : Nat} {o : Obj} (h : w.heap[b]? = some o) (i : Nat) (u : Value) (hn : b ≠ c) : (w.setCell ⟨c,i,none⟩ u).heap[b]? = some o :=
 (Below.heap_setCell w ⟨c,i,none⟩ u b hn).trans h
theorem blk_alloc {w : World} {b : Nat} {o p : Obj} (h : w.heap[b]? = some o) : (w.alloc p).heap[b]? = some o :=
 (Below.heap_alloc w p b (lt_of_block h)).trans h
theorem blk_new (w : World) (o : Obj) : (w.alloc o).heap[w.heap.size]? = some o:=by show (w.heap.push o)[w.heap.size]? = some o; simp
theorem quiet_hid {P : Program} {f : FuncId} {args : Array Value} {w : World} {n : Nat} {v : Value}
 (h : Hid (∀ w1,Below w.heap.size w w1 → Calls P f args w1 fun e w' => e = .returned v ∧ w1 = w')) : Calls P f args (w.drewN n) fun e w' => e = .returned v ∧ ∃ m,w' = w.drewN m :=
 (h.out (w.drewN n) ⟨rfl,rfl,rfl,Nat.le_refl _,fun _ _ => rfl⟩).mono fun _ _ ⟨he,hm⟩ => ⟨he,n,hm.symm⟩
inductive Tr (K V : Type) where
 | leaf
 | node (k : K) (v : V) (l r : Tr K V)
namespace Tr
variable {K V : Type}
def tall : Tr K V → Nat | .leaf => 0 | .node _ _ l r => 1 + max (tall l) (tall r)
def size : Tr K V → Nat | .leaf => 0 | .node _ _ l r => 1 + size l + size r
def ino : Tr K V → List (K × V) | .leaf => [] | .node k v l r => ino l ++ (k,v) :: ino r
theorem ino_length (t : Tr K V) : (ino t).length = size t:=by
 induction t with
 | leaf => rfl
 | node k v l r hl hr => simp [ino,size,hl,hr]; omega
theorem tall_le (t : Tr K V) : tall t ≤ size t:=by
 induction t with
 | leaf => exact Nat.le_refl _
 | node k v l r hl hr => simp only [tall,size]; omega
def even (k : K) (v : V) (l r : Tr K V) : Tr K V :=
 if tall l > tall r + 1 then
  match l with
  | .leaf => .node k v l r
  | .node lk lv ll lr =>
    if tall ll ≥ tall lr then .node lk lv ll (.node k v lr r)
    else match lr with
     | .leaf => .node k v l r
     | .node mk mv ml mr => .node mk mv (.node lk lv ll ml) (.node k v mr r)
 else if tall r > tall l + 1 then
  match r with
  | .leaf => .node k v l r
  | .node rk rv rl rr =>
    if tall rr ≥ tall rl then .node rk rv (.node k v l rl) rr
    else match rl with
     | .leaf => .node k v l r
     | .node mk mv ml mr => .node mk mv (.node k v l ml) (.node rk rv mr rr)
 else .node k v l r
theorem ino_even (k : K) (v : V) (l r : Tr K V) : ino (even k v l r) = ino l ++ (k,v) :: ino r:=by
 unfold even
 split
 ·split
  ·rfl
  ·split
   ·simp [ino]
   ·split <;> simp [ino]
 ·split
  ·split
   ·rfl
   ·split
    ·simp [ino]
    ·split <;> simp [ino]
  ·rfl
theorem size_even (k : K) (v : V) (l r : Tr K V) : size (even k v l r) = 1 + size l + size r:=by
 rw [← ino_length,ino_even]; simp [ino_length]; omega
def put (lt : K → K → Bool) (t : Tr K V) (k : K) (v : V) : Tr K V :=
 match t with
 | .leaf => .node k v .leaf .leaf
 | .node k' v' l r => if lt k k' then even k' v' (put lt l k v) r else if lt k' k then even k' v' l (put lt r k v) else .node k v l r
def first : Tr K V → Tr K V × Tr K V
 | .leaf => (.leaf,.leaf)
 | .node k v .leaf r => (.node k v .leaf r,r)
 | .node k v (.node k' v' l' r') r => ((first (.node k' v' l' r')).1,even k v (first (.node k' v' l' r')).2 r)
def drop (lt : K → K → Bool) (t : Tr K V) (k : K) : Tr K V :=
 match t with
 | .leaf => .leaf
 | .node k' v' l r =>
   if lt k k' then even k' v' (drop lt l k) r else if lt k' k then even k' v' l (drop lt r k) else
   match r with
   | .leaf => l
   | .node k2 v2 l2 r2 => match first (.node k2 v2 l2 r2) with
     | (.node pk pv _ _,rest) => even pk pv l rest
     | (.leaf,_) => .leaf
def get (lt : K → K → Bool) (t : Tr K V) (k : K) : Option V :=
 match t with
 | .leaf => none
 | .node k' v' l r => if lt k k' then get lt l k else if lt k' k then get lt r k else some v'
theorem drop_lt {lt : K → K → Bool} {k k' : K} {v' : V} {l r : Tr K V} (h : lt k k' = true) : drop lt (.node k' v' l r) k = even k' v' (drop lt l k) r:=by
 rw [drop.eq_def]; simp only; rw [if_pos h]
theorem drop_gt {lt : K → K → Bool} {k k' : K} {v' : V} {l r : Tr K V} (h : lt k k' = false) (h' : lt k' k = true) : drop lt (.node k' v' l r) k = even k' v' l (drop lt r k):=by
 rw [drop.eq_def]; simp only; rw [if_neg (by simp [h]),if_pos h']
theorem drop_eq0 {lt : K → K → Bool} {k : K} {v' : V} {l : Tr K V} (h : lt k k = false) : drop lt (.node k v' l .leaf) k = l:=by
 rw [drop.eq_def]; simp only; rw [if_neg (by simp [h]),if_neg (by simp [h])]
theorem drop_eq1 {lt : K → K → Bool} {k k2 pk : K} {v' v2 pv : V} {l l2 r2 pl pr : Tr K V} (h : lt k k = false) (hf : (first (.node k2 v2 l2 r2)).1 = .node pk pv pl pr) :
 drop lt (.node k v' l (.node k2 v2 l2 r2)) k = even pk pv l (first (.node k2 v2 l2 r2)).2:=by
 rw [drop.eq_def]; simp only; rw [if_neg (by simp [h]),if_neg (by simp [h])]
 cases he : first (Tr.node k2 v2 l2 r2) with
 | mk x rest => rw [he] at hf; simp only at hf; subst hf; simp only
theorem first_node (t : Tr K V) (h : t ≠ .leaf) : ∃ k v l r,(first t).1 = .node k v l r ∧ ino t = (k,v) :: ino (first t).2:=by
 induction t with
 | leaf => exact absurd rfl h
 | node k v l r hl hr =>
   cases l with
   | leaf => exact ⟨k,v,.leaf,r,rfl,rfl⟩
   | node k' v' l' r' =>
     obtain ⟨a,b,c,d,h1,h2⟩:=hl (by simp)
     exact ⟨a,b,c,d,h1,by show ino (.node k' v' l' r') ++ _ = _; rw [h2]; simp only [first,ino_even]; rfl⟩
end Tr
structure KeyOrd {K : Type} (lt : K → K → Bool) : Prop where
 irr : ∀ a,lt a a = false
 tr : ∀ a b c,lt a b = true → lt b c = true → lt a c = true
 eq : ∀ a b,lt a b = false → lt b a = false → a = b
namespace KeyOrd
variable {K V : Type} {lt : K → K → Bool}
theorem asymm (H : KeyOrd lt) {a b : K} (h : lt a b = true) : lt b a = false:=by
 cases hb : lt b a with
 | false => rfl
 | true => have:=H.tr a b a h hb; rw [H.irr] at this; cases this
end KeyOrd
def Rise {K V : Type} (lt : K → K → Bool) (l : List (K × V)) : Prop:=l.Pairwise (fun a b => lt a.1 b.1 = true)
def putL {K V : Type} (lt : K → K → Bool) (l : List (K × V)) (k : K) (v : V) : List (K × V) :=
 l.filter (fun x => lt x.1 k) ++ (k,v) :: l.filter (fun x => lt k x.1)
def dropL {K V : Type} (lt : K → K → Bool) (l : List (K × V)) (k : K) : List (K × V):=l.filter (fun x => lt x.1 k || lt k x.1)
def findL {K V : Type} (lt : K → K → Bool) (l : List (K × V)) (k : K) : Option V :=
 (l.find? (fun x => !lt x.1 k && !lt k x.1)).map (·.2)
section
variable {K V : Type} {lt : K → K → Bool} (H : KeyOrd lt)
include H
theorem rise_putL {l : List (K × V)} (h : Rise lt l) (k : K) (v : V) : Rise lt (putL lt l k v):=by
 unfold Rise putL at *
 rw [List.pairwise_append]
 refine ⟨h.filter _,?_,?_⟩
 ·rw [List.pairwise_cons]
  refine ⟨?_,h.filter _⟩
  intro a ha; simpa using (List.mem_filter.1 ha).2
 ·intro a ha b hb
  have h1 : lt a.1 k = true:=by simpa using (List.mem_filter.1 ha).2
  rcases List.mem_cons.1 hb with rfl | hb
  ·exact h1
  ·exact H.tr _ _ _ h1 (by simpa using (List.mem_filter.1 hb).2)
omit H in
theorem rise_dropL {l : List (K × V)} (h : Rise lt l) (k : K) : Rise lt (dropL lt l k):=h.filter _
theorem rise_split {a b : List (K × V)} {k : K} {v : V} (h : Rise lt (a ++ (k,v) :: b)) :
 Rise lt a ∧ Rise lt b ∧ (∀ x ∈ a,lt x.1 k = true) ∧ (∀ x ∈ b,lt k x.1 = true) ∧ (∀ x ∈ a,lt k x.1 = false) ∧ (∀ x ∈ b,lt x.1 k = false):=by
 unfold Rise at *
 rw [List.pairwise_append,List.pairwise_cons] at h
 obtain ⟨h1,⟨h2,h3⟩,h4⟩:=h
 have ha : ∀ x ∈ a,lt x.1 k = true:=fun x hx => h4 x hx _ (List.mem_cons_self ..)
 exact ⟨h1,h3,ha,h2,fun x hx => H.asymm (ha x hx),fun x hx => H.asymm (h2 x hx)⟩
omit H in
theorem filt_all {l : List (K × V)} {p : K × V → Bool} (h : ∀ x ∈ l,p x = true) : l.filter p = l:=List.filter_eq_self.2 h
omit H in
theorem filt_none {l : List (K × V)} {p : K × V → Bool} (h : ∀ x ∈ l,p x = false) : l.filter p = []:=List.filter_eq_nil_iff.2 (fun x hx => by simp [h x hx])
theorem putL_lt {a b : List (K × V)} {k k' : K} {v v' : V} (h : Rise lt (a ++ (k',v') :: b)) (hk : lt k k' = true) :
 putL lt (a ++ (k',v') :: b) k v = putL lt a k v ++ (k',v') :: b:=by
 obtain ⟨_,_,_,hb,_,_⟩:=rise_split H h
 have e1 : b.filter (fun x => lt x.1 k) = []:=filt_none fun x hx => H.asymm (H.tr _ _ _ hk (hb x hx))
 have e2 : b.filter (fun x => lt k x.1) = b:=filt_all fun x hx => H.tr _ _ _ hk (hb x hx)
 simp [putL,H.asymm hk,hk,e1,e2]
theorem putL_gt {a b : List (K × V)} {k k' : K} {v v' : V} (h : Rise lt (a ++ (k',v') :: b)) (hk : lt k' k = true) :
 putL lt (a ++ (k',v') :: b) k v = a ++ (k',v') :: putL lt b k v:=by
 obtain ⟨_,_,ha,_,_,_⟩:=rise_split H h
 have e1 : a.filter (fun x => lt x.1 k) = a:=filt_all fun x hx => H.tr _ _ _ (ha x hx) hk
 have e2 : a.filter (fun x => lt k x.1) = []:=filt_none fun x hx => H.asymm (H.tr _ _ _ (ha x hx) hk)
 simp [putL,H.asymm hk,hk,e1,e2]
theorem putL_eq {a b : List (K × V)} {k : K} {v v' : V} (h : Rise lt (a ++ (k,v') :: b)) :
 putL lt (a ++ (k,v') :: b) k v = a ++ (k,v) :: b:=by
 obtain ⟨_,_,ha,hb,ha',hb'⟩:=rise_split H h
 have e1 : a.filter (fun x => lt x.1 k) = a:=filt_all ha
 have e2 : a.filter (fun x => lt k x.1) = []:=filt_none ha'
 have e3 : b.filter (fun x => lt x.1 k) = []:=filt_none hb'
 have e4 : b.filter (fun x => lt k x.1) = b:=filt_all hb
 simp [putL,H.irr,e1,e2,e3,e4]
theorem dropL_lt {a b : List (K × V)} {k k' : K} {v' : V} (h : Rise lt (a ++ (k',v') :: b)) (hk : lt k k' = true) :
 dropL lt (a ++ (k',v') :: b) k = dropL lt a k ++ (k',v') :: b:=by
 obtain ⟨_,_,_,hb,_,_⟩:=rise_split H h
 have e2 : b.filter (fun x => lt x.1 k || lt k x.1) = b:=filt_all fun x hx => by simp [H.tr _ _ _ hk (hb x hx)]
 simp [dropL,hk,e2]
theorem dropL_gt {a b : List (K × V)} {k k' : K} {v' : V} (h : Rise lt (a ++ (k',v') :: b)) (hk : lt k' k = true) :
 dropL lt (a ++ (k',v') :: b) k = a ++ (k',v') :: dropL lt b k:=by
 obtain ⟨_,_,ha,_,_,_⟩:=rise_split H h
 have e1 : a.filter (fun x => lt x.1 k || lt k x.1) = a:=filt_all fun x hx => by simp [H.tr _ _ _ (ha x hx) hk]
 simp [dropL,hk,e1]
theorem dropL_eq {a b : List (K × V)} {k : K} {v' : V} (h : Rise lt (a ++ (k,v') :: b)) : dropL lt (a ++ (k,v') :: b) k = a ++ b:=by
 obtain ⟨_,_,ha,hb,_,_⟩:=rise_split H h
 have e1 : a.filter (fun x => lt x.1 k || lt k x.1) = a:=filt_all fun x hx => by simp [ha x hx]
 have e2 : b.filter (fun x => lt x.1 k || lt k x.1) = b:=filt_all fun x hx => by simp [hb x hx]
 simp [dropL,H.irr,e1,e2]
omit H in
theorem find_none {l : List (K × V)} {p : K × V → Bool} (h : ∀ x ∈ l,p x = false) : l.find? p = none:=List.find?_eq_none.2 (fun x hx => by simp [h x hx])
theorem findL_lt {a b : List (K × V)} {k k' : K} {v' : V} (h : Rise lt (a ++ (k',v') :: b)) (hk : lt k k' = true) :
 findL lt (a ++ (k',v') :: b) k = findL lt a k:=by
 obtain ⟨_,_,_,hb,_,_⟩:=rise_split H h
 have e : b.find? (fun x => !lt x.1 k && !lt k x.1) = none:=find_none fun x hx => by simp [H.tr _ _ _ hk (hb x hx)]
 simp only [findL,List.find?_append,List.find?_cons,hk,e]
 cases List.find? (fun x => !lt x.1 k && !lt k x.1) a <;> simp
theorem findL_gt {a b : List (K × V)} {k k' : K} {v' : V} (h : Rise lt (a ++ (k',v') :: b)) (hk : lt k' k = true) :
 findL lt (a ++ (k',v') :: b) k = findL lt b k:=by
 obtain ⟨_,_,ha,_,_,_⟩:=rise_split H h
 have e : a.find? (fun x => !lt x.1 k && !lt k x.1) = none:=find_none fun x hx => by simp [H.tr _ _ _ (ha x hx) hk]
 simp [findL,List.find?_append,hk,e]
theorem findL_eq {a b : List (K × V)} {k : K} {v' : V} (h : Rise lt (a ++ (k,v') :: b)) : findL lt (a ++ (k,v') :: b) k = some v':=by
 obtain ⟨_,_,ha,_,_,_⟩:=rise_split H h
 have e : a.find? (fun x => !lt x.1 k && !lt k x.1) = none:=find_none fun x hx => by simp [ha x hx]
 simp [findL,List.find?_append,H.irr,e]
theorem ino_put : ∀ (t : Tr K V),Rise lt t.ino → ∀ (k : K) (v : V),(t.put lt k v).ino = putL lt t.ino k v:=by
 intro t
 induction t with
 | leaf => intro _ k v; rfl
 | node k' v' l r hl hr =>
   intro h k v
   obtain ⟨h1,h2,_⟩:=rise_split H h
   unfold Tr.put
   by_cases c1 : lt k k' = true
   ·rw [if_pos c1,Tr.ino_even,hl h1]; exact (putL_lt H h c1).symm
   ·rw [if_neg c1]
    by_cases c2 : lt k' k = true
    ·rw [if_pos c2,Tr.ino_even,hr h2]; exact (putL_gt H h c2).symm
    ·rw [if_neg c2]
     obtain rfl:=H.eq k k' (by simpa using c1) (by simpa using c2)
     exact (putL_eq H h).symm
theorem ino_drop : ∀ (t : Tr K V),Rise lt t.ino → ∀ (k : K),(t.drop lt k).ino = dropL lt t.ino k:=by
 intro t
 induction t with
 | leaf => intro _ k; rfl
 | node k' v' l r hl hr =>
   intro h k
   obtain ⟨h1,h2,_⟩:=rise_split H h
   unfold Tr.drop
   by_cases c1 : lt k k' = true
   ·rw [if_pos c1,Tr.ino_even,hl h1]; exact (dropL_lt H h c1).symm
   ·rw [if_neg c1]
    by_cases c2 : lt k' k = true
    ·rw [if_pos c2,Tr.ino_even,hr h2]; exact (dropL_gt H h c2).symm
    ·rw [if_neg c2]
     obtain rfl:=H.eq k k' (by simpa using c1) (by simpa using c2)
     have hd:=dropL_eq H h
     cases r with
     | leaf => exact (by simpa [Tr.ino] using hd.symm : l.ino = dropL lt (l.ino ++ (k,v') :: Tr.ino .leaf) k)
     | node k2 v2 l2 r2 =>
       obtain ⟨pk,pv,pl,pr,e1,e2⟩:=Tr.first_node (Tr.node k2 v2 l2 r2) (by simp)
       cases hf : Tr.first (Tr.node k2 v2 l2 r2) with
       | mk p rest =>
         rw [hf] at e1 e2
         simp only at e1 e2
         subst e1
         simp only [hf]
         rw [Tr.ino_even]
         show _ = dropL lt (l.ino ++ (k,v') :: (Tr.node k2 v2 l2 r2).ino) k
         rw [hd,e2]
theorem get_ino : ∀ (t : Tr K V),Rise lt t.ino → ∀ (k : K),t.get lt k = findL lt t.ino k:=by
 intro t
 induction t with
 | leaf => intro _ k; rfl
 | node k' v' l r hl hr =>
   intro h k
   obtain ⟨h1,h2,_⟩:=rise_split H h
   unfold Tr.get
   by_cases c1 : lt k k' = true
   ·rw [if_pos c1,hl h1]; exact (findL_lt H h c1).symm
   ·rw [if_neg c1]
    by_cases c2 : lt k' k = true
    ·rw [if_pos c2,hr h2]; exact (findL_gt H h c2).symm
    ·rw [if_neg c2]
     obtain rfl:=H.eq k k' (by simpa using c1) (by simpa using c2)
     exact (findL_eq H h).symm
end
theorem bless_irr : ∀ a : List UInt8,Op.bytesLess a a = false
 | [] => rfl
 | a :: x => by simp [Op.bytesLess,bless_irr x]
theorem bless_tr : ∀ a b c : List UInt8,Op.bytesLess a b = true → Op.bytesLess b c = true → Op.bytesLess a c = true
 | _,_,[],_,h => by cases ‹List UInt8› <;> simp [Op.bytesLess] at h
 | _,[],_ :: _,h,_ => by cases ‹List UInt8› <;> simp [Op.bytesLess] at h
 | [],_ :: _,_ :: _,_,_ => rfl
 | a :: x,b :: y,c :: z,h,k => by
   simp only [Op.bytesLess,Bool.or_eq_true,decide_eq_true_eq,Bool.and_eq_true,beq_iff_eq] at *
   rcases h with h | ⟨rfl,h⟩
   ·rcases k with k | ⟨rfl,k⟩
    ·exact .inl (by rw [UInt8.lt_iff_toNat_lt] at *; omega)
    ·exact .inl h
   ·rcases k with k | ⟨rfl,k⟩
    ·exact .inl k
    ·exact .inr ⟨rfl,bless_tr x y z h k⟩
theorem bless_eq : ∀ a b : List UInt8,Op.bytesLess a b = false → Op.bytesLess b a = false → a = b
 | [],[],_,_ => rfl
 | [],_ :: _,h,_ => by simp [Op.bytesLess] at h
 | _ :: _,[],_,h => by simp [Op.bytesLess] at h
 | a :: x,b :: y,h,k => by
   simp only [Op.bytesLess,Bool.or_eq_false_iff,decide_eq_false_iff_not,Bool.and_eq_false_iff,beq_eq_false_iff_ne] at *
   have e : a = b:=by
    apply UInt8.toNat_inj.1
    have h1:=h.1; have h2:=k.1
    rw [UInt8.lt_iff_toNat_lt] at *
    omega
   subst e
   rw [bless_eq x y (h.2.resolve_left (fun h => h rfl)) (k.2.resolve_left (fun h => h rfl))]
def slt (a b : ByteArray) : Bool:=Op.bytesLess a.toList b.toList
theorem str_inj {a b : ByteArray} (h : a.toList = b.toList) : a = b:=by
 rw [ByteArray.toList_eq,ByteArray.toList_eq] at h
 exact Go.WideShapes.bytes_inj h
theorem slt_ord : KeyOrd slt:=⟨fun _ => bless_irr _,fun _ _ _ => bless_tr _ _ _,fun _ _ h k => str_inj (bless_eq _ _ h k)⟩
section
variable {K V : Type} {ek : K → Value} {ev : V → Value} {T : TypeId}
def KeepT (T : TypeId) (w w' : World) : Prop:=∀ (b : Nat) (cs : Array Value),IsBlk w b cs T → IsBlk w' b cs T
theorem KeepT.refl (T : TypeId) (w : World) : KeepT T w w:=fun _ _ h => h
theorem KeepT.trans {T : TypeId} {a b c : World} (h : KeepT T a b) (k : KeepT T b c) : KeepT T a c:=fun i cs hi => k i cs (h i cs hi)
theorem KeepT.of_keeps {T : TypeId} {S : Nat → Prop} {w w' : World} (h : Keeps S w w') (hs : ∀ b cs,IsBlk w b cs T → ¬ S b) : KeepT T w w' :=
 fun b cs hb => h.obj hb (hs b cs hb)
end
end Go.Proofs.YtagdchgkjjpacaaGreat
