/- The walk of Scan. -/
import Derived.Test.YtagdchgkjjpacaaGreatr13
import Derived.Maps.RangeWalk
set_option maxRecDepth 100000
open Go.Lib (hid)
namespace Go.Proofs.YtagdchgkjjpacaaGreat
open Go.RowKit Go.Shelf
attribute [local go_sem] Oper.semAt_some
attribute [local go_sem] no_callee
theorem uponIn_of_upon {P : Program} {l n : Nat} {o : Oper} {a : Act} {K : Act → World → Prop} {Q : Exit → Act → World → Prop} {r : Result Next} (h : o.upon P a K Q r) : o.uponIn (Fence.wide.inRound l) n P a K Q r:=by
 have H:=open_round P l
 cases r with
 | ok x w' =>
   cases x <;> simp only [Oper.upon] at h <;> simp only [Oper.uponIn]
   case enter f args => exact ⟨fun hs => (by rw [H.depth] at hs; cases hs),H.calls _ _ _ _ _ h⟩
   case row row args =>
    refine ⟨fun hs => (by rw [H.depth] at hs; cases hs),fun c cs _ => ?_⟩
    obtain ⟨v,w'',r,s⟩:=h c cs
    exact ⟨v,w'',r,by rw [fenced_inRound]; exact stepsIn_wide.2 s⟩
   all_goals first | exact h | exact h.elim
 | halt x w' => cases x <;> simp only [Oper.upon] at h <;> simp only [Oper.uponIn] <;> first | exact h | exact h.elim
theorem wpOpIn_of_wpOp {P : Program} {l n : Nat} {ops : Array Oper} {i : Nat} {K : Act → World → Prop} {a : Act} {w : World} {Q : Exit → Act → World → Prop} (hQ : ¬ LetsOut Q) (hd : ∀ (j : Nat) (o : Oper) (c : Call),ops[j]? = some o → o.op ≠ .defer c) (h : wpOp P ops Q i K a w) : wpOpIn (Fence.wide.inRound l) n P ops Q i K a w:=by
 unfold wpOp at h
 unfold wpOpIn
 cases ho : ops[i]? with
 | none => rw [ho] at h; exact h
 | some o =>
   rw [ho] at h
   simp only at h ⊢
   split
   ·rename_i hw
    rw [if_pos hw] at h
    rcases h with h | h
    ·refine ⟨fun _ _ => trivial,?_⟩
     rw [Oper.semAt_plain (Fence.wide.inRound l) _ _ (fun c => hd i o c ho)]
     exact uponIn_of_upon h
    ·exact absurd h.2 hQ
   ·rename_i hw
    rw [if_neg hw] at h
    exact ⟨fun _ _ => trivial,h⟩
theorem wpAnyIn_of_wpAny {P : Program} {l n : Nat} {md : Region.Mode} {ops : Array Oper} {Q : Exit → Act → World → Prop} (hQ : ¬ LetsOut Q) (hd : ∀ (j : Nat) (o : Oper) (c : Call),ops[j]? = some o → o.op ≠ .defer c) : ∀ (f : Nat) (listed : Array Bool) (a : Act) (w : World),
 wpAny P md ops Q f listed a w → wpAnyIn (Fence.wide.inRound l) n P md ops Q f listed a w
 | 0,_,_,_,h => h
 | f + 1,_,_,_,h => ⟨h.1,fun i hi => wpOpIn_mono (fun a' w' h' => wpAnyIn_of_wpAny hQ hd f _ a' w' h') (wpOpIn_of_wpOp hQ hd (h.2 i hi))⟩
theorem wpIn_round_any {P : Program} {l n id : Nat} {ops : Array Oper} {Q : Exit → Act → World → Prop} {a : Act} {w : World} (hm : P.follows .mixedOrders = true) (hQ : ¬ LetsOut Q) (hd : (ops.toList.all fun o => match o.op with | .defer _ => false | _ => true) = true)
 (h : wpAny P .any ops Q ops.size (Array.replicate ops.size false) a w.drew) : (Code.region id ops true).wpIn (Fence.wide.inRound l) n P Q a w:=by
 refine wpIn_region_any hm (wpAnyIn_of_wpAny hQ (fun j o c ho hc => ?_) _ _ _ _ h)
 have:=List.all_eq_true.1 hd o (by rw [← Array.getElem?_toList] at ho; exact List.mem_of_getElem? ho)
 rw [hc] at this
 cases this
theorem w_frames (w : World) (a : Option Addr) (len cap : Nat) : Calls Tryz.prog 183 #[.slice a len cap] w fun e w' => e = .returned (.func (.func 197) #[] #[.pointer (some ⟨w.heap.size,0,none⟩)]) ∧ w.alloc (.cells #[.slice a len cap] 23) = w':=by
 go_enter Tryz.func183,Tryz.ntmps183
 go_wp2_with (fail)
 go_ret
 exact ⟨rfl,rfl⟩
def lastAt (pre : List FrI) : Nat:=match pre.getLast? with | none => 0 | some x => x.at_
theorem lastAt_snoc (pre : List FrI) (x : FrI) : lastAt (pre ++ [x]) = x.at_:=by unfold lastAt; simp
theorem frL_recs (g off cap : Nat) : ∀ (ps : List (List UInt8)) (k : Nat),(frL g off cap k ps).map (·.p) = ps
 | [],_ => rfl
 | p :: ps,k => by simp only [frL,List.map_cons,frL_recs g off cap ps]; rfl
theorem frL_last (g off cap : Nat) : ∀ (ps : List (List UInt8)) (k : Nat),ps ≠ [] → lastAt (frL g off cap k ps) = k + endOf ps
 | [],_,h => absurd rfl h
 | [p],k,_ => by simp [frL,lastAt,frI,endOf]; omega
 | p :: q :: ps,k,_ => by
   have h:=frL_last g off cap (q :: ps) (k + 8 + p.length) (by simp)
   have e : lastAt (frL g off cap k (p :: q :: ps)) = lastAt (frL g off cap (k + 8 + p.length) (q :: ps)):=by
    unfold lastAt
    simp [frL]
   rw [e,h,endOf_cons p]
   omega
theorem frL_end (g off cap : Nat) (ps : List (List UInt8)) : lastAt (frL g off cap 0 ps) = endOf ps:=by
 cases ps with
 | nil => rfl
 | cons p ps => rw [frL_last g off cap (p :: ps) 0 (by simp)]; omega
structure ScB (w : World) (pre : List FrI) (v : Value) (W : World) : Prop where
 b0 : IsBlk W w.heap.size #[v] 132
 b1 : IsBlk W (w.heap.size + 1) #[.int .i64 (lastAt pre : Int)] 3
 ls : LsAt (w.heap.size + 5) W v (pre.map (·.p))
 below : Below w.heap.size w W
theorem LsAt.putDef {B l : Nat} {A C : World} {v : Value} {rs : List (List UInt8)} {m : Option (List Deferred)} {o : Obj} (h : LsAt B A v rs) (k : Below A.heap.size A C) (hd : A.heap[l]? = some (.deferred m)) : LsAt B (C.putObj l o) v rs:=by
 have hd' : C.heap[l]? = some (.deferred m):=(k.block l (lt_of_block hd)).trans hd
 have nb : ∀ b cs T,IsBlk C b cs T → ¬ b = l:=by
  rintro b cs T hb rfl
  have:=hb.symm.trans hd'
  simp at this
 obtain ⟨ss,h1,h2,h3⟩:=(h.below k).ex
 refine ⟨⟨ss,h1.keeps (keeps_putObj C l o) (fun g hg e => ?_),⟨h2.1,fun j s r hs hr => (h2.2 j s r hs hr).keeps (keeps_putObj C l o) (fun g hg e => ?_)⟩,h3⟩,h.new⟩
 ·obtain ⟨cur,hb⟩:=h1.own g hg; exact nb _ _ _ hb e
 ·obtain ⟨cur,hb⟩:=(h2.2 j s r hs hr).own g hg; exact nb _ _ _ hb e
theorem LsAt.loop {B l : Nat} {A C : World} {v : Value} {rs : List (List UInt8)} (h : LsAt B A v rs) (k : Keeps (LoopAt l A) A C) : LsAt B C v rs:=by
 obtain ⟨ss,h1,h2,h3⟩:=h.ex
 refine ⟨⟨ss,h1.keeps k (fun g hg e => ?_),⟨h2.1,fun j s r hs hr => (h2.2 j s r hs hr).keeps k (fun g hg e => ?_)⟩,h3⟩,h.new⟩
 ·obtain ⟨cur,hb⟩:=h1.own g hg; exact loopAt_not hb e
 ·obtain ⟨cur,hb⟩:=(h2.2 j s r hs hr).own g hg; exact loopAt_not hb e
theorem ScB.loop {w : World} {pre : List FrI} {v : Value} {A C : World} {l : Nat} (h : ScB w pre v A) (k : Keeps (LoopAt l A) A C) (hl : w.heap.size ≤ l) : ScB w pre v C :=
 ⟨k.obj h.b0 (loopAt_not h.b0),k.obj h.b1 (loopAt_not h.b1),h.ls.loop k,below_keeps h.below k.loop (fun i e => by omega) h.below.size⟩
theorem frL_reads {w : World} {g off cap len : Nat} {ys : List UInt8} (hu : RdAt byteKind w (.slice (some ⟨g,off,none⟩) len cap) ys) (hcap : ys.length ≤ cap) : ∀ (rest : List (List UInt8)) (k : Nat),k ≤ ys.length → scanOf (ys.drop k) = rest →
 ∀ x ∈ frL g off cap k rest,RdAt byteKind w x.s.val x.p ∧ x.p.length ≤ 1048576 ∧ x.s.len = x.p.length
 | [],_,_,_,x,hx => by simp [frL] at hx
 | p :: ps,k,hk,hs,x,hx => by
   obtain ⟨hh,hs2⟩ : headOf (ys.drop k) = some p ∧ scanOf ((ys.drop k).drop (8 + p.length)) = ps:=by
    cases hh : headOf (ys.drop k) with
    | none => rw [scanOf_none hh] at hs; cases hs
    | some q => rw [scanOf_some hh] at hs; injection hs with h1 h2; subst h1; exact ⟨rfl,h2⟩
   obtain ⟨h1,h2,h3,h4,h5⟩:=headOf_some.1 hh
   rw [List.length_drop] at h1
   simp only [frL,List.mem_cons] at hx
   rcases hx with rfl | hx
   ·refine ⟨?_,h2,rfl⟩
    rw [List.drop_drop] at h4
    show RdAt byteKind w (.slice (if cap = k + 8 then some ⟨g,off,none⟩ else some ⟨g,off + (k + 8),none⟩) p.length (cap - (k + 8))) p
    have:=hu.sub (q:=k + 8) (m:=p.length) (by omega) (if cap = k + 8 then some ⟨g,off,none⟩ else some ⟨g,off + (k + 8),none⟩) (cap - (k + 8)) (fun hm => by rw [if_neg (by omega)])
    rwa [← h4] at this
   ·refine frL_reads hu hcap ps (k + 8 + p.length) (by omega) ?_ x hx
    rw [← hs2,List.drop_drop]; congr 1; congr 1; omega
theorem scan_start (w : World) (a : Option Addr) (len cap : Nat) (W0 : World) (h : W0 = (((w.alloc (.cells #[.slice none 0 0] 132)).alloc (.cells #[.int .i64 0] 3)).alloc (.cells #[.slice a len cap] 23))) :
 ScB w [] (.slice none 0 0) W0 ∧ IsBlk W0 (w.heap.size + 2) #[.slice a len cap] 23 ∧ W0.heap.size = w.heap.size + 3 ∧ Below w.heap.size w W0:=by
 obtain ⟨h1,h2,h3,h4,h5⟩:=alloc3 w (.cells #[.slice none 0 0] 132) (.cells #[.int .i64 0] 3) (.cells #[.slice a len cap] 23)
 rw [h]
 exact ⟨⟨h2,h3,LsAt.nil _ _,h1⟩,h4,h5,h1⟩
theorem scan_round {w A : World} {v : Value} {pre : List FrI} {x : FrI} {sa : Option Addr} {sc : Nat} (hA : ScB w pre v A) (hx : RdAt byteKind w (.slice sa x.p.length sc) x.p) (hp : x.p.length ≤ 1048576) (hlen : pre.length ≤ 10000000) (hz : w.heap.size + 5 ≤ A.heap.size) :
 ∃ (av : Option Addr) (cv : Nat) (W1 : World) (a2 : Option Addr) (c2 : Nat) (W2 : World) (a3 : Option Addr) (c3 : Nat) (W3 : World),v = .slice av pre.length cv ∧
   (Instr.makeSlice 23 (.int .i64 0) (.int .i64 (x.p.length : Int))).run Tryz.prog A = .ok (.slice (some ⟨A.heap.size,0,none⟩) 0 x.p.length) W1 ∧
   (Builtin.append_ #[23,23] 23 #[.slice (some ⟨A.heap.size,0,none⟩) 0 x.p.length,.slice sa x.p.length sc]).run Tryz.prog W1 = .ok (.slice a2 x.p.length c2) W2 ∧
   (Builtin.append_ #[132,132] 132 #[.slice av pre.length cv,.slice (some ⟨W2.heap.size,0,none⟩) 1 1]).run Tryz.prog (W2.alloc (.cells #[.slice a2 x.p.length c2] 23)) = .ok (.slice a3 (pre.length + 1) c3) W3 ∧
   W1.cell? ⟨w.heap.size,0,none⟩ = some (.slice av pre.length cv) ∧ W2.cell? ⟨w.heap.size,0,none⟩ = some (.slice av pre.length cv) ∧ (W2.alloc (.cells #[.slice a2 x.p.length c2] 23)).cell? ⟨w.heap.size,0,none⟩ = some (.slice av pre.length cv) ∧
   W3.cell? ⟨w.heap.size,0,none⟩ = some (.slice av pre.length cv) ∧ W3.frozen? ⟨w.heap.size,0,none⟩ = false ∧
   (W3.setCell ⟨w.heap.size,0,none⟩ (.slice a3 (pre.length + 1) c3)).cell? ⟨w.heap.size + 1,0,none⟩ = some (.int .i64 (lastAt pre : Int)) ∧ (W3.setCell ⟨w.heap.size,0,none⟩ (.slice a3 (pre.length + 1) c3)).frozen? ⟨w.heap.size + 1,0,none⟩ = false ∧
   ScB w (pre ++ [x]) (.slice a3 (pre.length + 1) c3) ((W3.setCell ⟨w.heap.size,0,none⟩ (.slice a3 (pre.length + 1) c3)).setCell ⟨w.heap.size + 1,0,none⟩ (.int .i64 (x.at_ : Int))) ∧
   Keeps (fun k => k = w.heap.size ∨ k = w.heap.size + 1 ∨ w.heap.size + 5 ≤ k) A ((W3.setCell ⟨w.heap.size,0,none⟩ (.slice a3 (pre.length + 1) c3)).setCell ⟨w.heap.size + 1,0,none⟩ (.int .i64 (x.at_ : Int))):=by
 obtain ⟨av,cv,hv⟩:=hA.ls.rd.shape
 rw [List.length_map] at hv
 subst hv
 obtain ⟨W1,hmk,hs1,hk1⟩:=make_bytes A x.p.length (by omega)
 have hfr1 : FreshAt A W1 (.slice (some ⟨A.heap.size,0,none⟩) 0 x.p.length) ([] : List UInt8):=⟨hs1,fun k hk => by simp [Value.ownBlock] at hk; omega,hk1⟩
 obtain ⟨v2,W2,hrun1,hfr2⟩:=hfr1.append (Below.refl _ _) ((hx.below hA.below).below hk1) (by simp; omega) 23
 rw [List.nil_append] at hfr2
 obtain ⟨a2,c2,hv2⟩:=hfr2.sl.shape
 subst hv2
 have hb2 : Below w.heap.size w W2:=hA.below.trans (hfr2.below.mono hA.below.size)
 obtain ⟨v3,W3,hrun2,hl3,hk3⟩:=(hA.ls.below hfr2.below).push (s:=⟨a2,x.p.length,c2⟩) hfr2.sl (fun g hg => Nat.le_trans hz (hfr2.new g hg)) (by have:=hfr2.below.size; omega) (by rw [List.length_map]; exact hlen) 132
 obtain ⟨a3,c3,hv3⟩:=hl3.rd.shape
 rw [List.length_append,List.length_map,List.length_singleton] at hv3
 subst hv3
 have hKA : Keeps (fun k => w.heap.size + 5 ≤ k) A W3:=((Keeps.of_below hfr2.below).mono (fun _ _ e => e.elim)).trans' (hk3.mono (fun k _ e => hA.ls.new k e))
 have e01 : IsBlk W1 w.heap.size #[.slice av pre.length cv] 132:=(hk1.block _ (lt_of_block hA.b0)).trans hA.b0
 have e02 : IsBlk W2 w.heap.size #[.slice av pre.length cv] 132:=(hfr2.below.block _ (lt_of_block hA.b0)).trans hA.b0
 have e0 : IsBlk W3 w.heap.size #[.slice av pre.length cv] 132:=hKA.obj hA.b0 (by omega)
 have e1 : IsBlk W3 (w.heap.size + 1) #[.int .i64 (lastAt pre : Int)] 3:=hKA.obj hA.b1 (by omega)
 have e2 : IsBlk (W3.setCell ⟨w.heap.size,0,none⟩ (.slice a3 (pre.length + 1) c3)) (w.heap.size + 1) #[.int .i64 (lastAt pre : Int)] 3:=blk_other e1 0 _ (by omega)
 have hB3 : Below w.heap.size w W3:=below_keeps hA.below hKA (fun i e => by omega) hA.below.size
 have hB5 : Below w.heap.size w ((W3.setCell ⟨w.heap.size,0,none⟩ (.slice a3 (pre.length + 1) c3)).setCell ⟨w.heap.size + 1,0,none⟩ (.int .i64 (x.at_ : Int))) :=
  (hB3.setCell (p:=⟨w.heap.size,0,none⟩) (Nat.le_refl _) _).setCell (p:=⟨w.heap.size + 1,0,none⟩) (by simp) _
 have hK35 : Keeps (fun k => k = w.heap.size ∨ k = w.heap.size + 1) W3 ((W3.setCell ⟨w.heap.size,0,none⟩ (.slice a3 (pre.length + 1) c3)).setCell ⟨w.heap.size + 1,0,none⟩ (.int .i64 (x.at_ : Int))) :=
  ((Keeps.refl (fun k => k = w.heap.size ∨ k = w.heap.size + 1) W3).setCell (p:=⟨w.heap.size,0,none⟩) (fun _ => .inl rfl) _).setCell (p:=⟨w.heap.size + 1,0,none⟩) (fun _ => .inr rfl) _
 refine ⟨av,cv,W1,a2,c2,W2,a3,c3,W3,rfl,hmk,hrun1,hrun2,blk_cell e01 0,blk_cell e02 0,blk_cell (blk_alloc e02) 0,blk_cell e0 0,blk_free e0 0,blk_cell e2 0,blk_free e2 0,⟨?_,?_,?_,hB5⟩,?_⟩
 ·exact blk_other (blk_set e0 0 _) 0 _ (by omega)
 ·rw [lastAt_snoc]; exact blk_set e2 0 _
 ·rw [List.map_append]
  exact hl3.keeps hK35 (fun i e => by omega)
 ·exact (hKA.mono (fun k _ e => .inr (.inr e))).trans' (hK35.mono (fun k _ e => by rcases e with e | e; exact .inl e; exact .inr (.inl e)))
theorem scan_kept {w W0 A W5 : World} (hsz : W0.heap.size = w.heap.size + 3) (h2 : W0.heap.size + 2 ≤ A.heap.size) (hK : Keeps (fun k => k = w.heap.size ∨ k = w.heap.size + 1 ∨ w.heap.size + 5 ≤ k) A.drew W5) :
 W5.heap[W0.heap.size]? = A.heap[W0.heap.size]? ∧ W5.heap[W0.heap.size + 1]? = A.heap[W0.heap.size + 1]? ∧ KpF w.heap.size (w.heap.size + 2) A W5 :=
 ⟨hK.block _ (show _ < A.heap.size by omega) (by omega),hK.block _ (show _ < A.heap.size by omega) (by omega),hK.size,fun k hk hl => hK.block k hl (by omega)⟩
set_option maxHeartbeats 4000000 in
theorem w_scan {w : World} {a : Option Addr} {cap : Nat} {ys : List UInt8} (hu : RdAt byteKind w (.slice a ys.length cap) ys) (hn : ys.length ≤ 70000000) (hcap : ys.length ≤ cap) (hcm : cap ≤ 9223372036854775807) :
 Calls Tryz.prog 155 #[.slice a ys.length cap] w (ScanPost w ys):=by
 have eg:=enters_of Tryz.func197 (P:=Tryz.prog) (by kernel_rfl) rfl
 refine calls_of_wp_marks Tryz.func155 rfl ?_
 simp only [Tryz.ntmps155,List.size_toArray,List.length_cons,List.length_nil,Nat.reduceAdd,Nat.reduceSub,Array.replicate_succ,Array.replicate_zero,List.push_toArray,List.append_toArray,List.nil_append,List.cons_append]
 go_wp2_with fail
 refine (w_frames _ _ _ _).mono ?_
 rintro e w1 ⟨rfl,rfl⟩
 obtain ⟨W0,hW0⟩ : ∃ W0,W0 = (((w.alloc (.cells #[.slice none 0 0] 132)).alloc (.cells #[.int .i64 0] 3)).alloc (.cells #[.slice a ys.length cap] 23)):=⟨_,rfl⟩
 obtain ⟨hB,hbb,hsz,hbl⟩:=scan_start w a ys.length cap W0 hW0
 obtain ⟨g,off,hgo⟩ : ∃ g off,ys ≠ [] → a = some ⟨g,off,none⟩:=by
  cases ys with
  | nil => exact ⟨0,0,fun h => absurd rfl h⟩
  | cons y t => obtain ⟨g,off,h,_⟩:=byte_cell hu (k:=0) rfl; exact ⟨g,off,fun _ => h⟩
 have HIT : Hid (IterC Tryz.prog 197 #[.pointer (some ⟨w.heap.size + 2,0,none⟩)] encFr (KpF w.heap.size (w.heap.size + 2)) (frL g off cap 0 (scanOf ys)) W0) :=
  hid (iter_frames hn hcap hcm hgo ⟨hbb,hu.below hbl,fun g' hg' hy => by
   obtain ⟨o,x,hc⟩:=hu.first hy hg'
   exact World.block_lt_of_cell? w ⟨g',o,none⟩ (hc.trans (show _ = some (Value.int .u8 (x.toNat : Int)) from rfl))⟩)
 have HFR : Hid (∀ x ∈ frL g off cap 0 (scanOf ys),RdAt byteKind w x.s.val x.p ∧ x.p.length ≤ 1048576 ∧ x.s.len = x.p.length):=hid (by
  intro x hx
  have hy : ys ≠ []:=by rintro rfl; simp [scanOf,scanF,frL] at hx
  have hu2:=hu
  rw [hgo hy] at hu2
  exact frL_reads hu2 hcap _ 0 (Nat.zero_le _) rfl x hx)
 have HL : Hid (ys.length ≤ 70000000):=hid hn
 have HB:=hid hB
 have HSZ:=hid hsz
 have HW0:=hid hW0
 clear hu hn hcap hcm hgo hB hbb hbl hsz hW0
 go_wp2_with fail
 rw [← HW0.out]
 refine wp_forSeq rfl eg HIT.out (fun _ => rfl) KpF.trans (fun W r o h => ?kb) (fun pre W => ∃ v,ScB w pre v W) (fun _ _ _ => False)
   (fun s A B h hk => ?hI) (fun _ _ _ _ h _ => h.elim) ⟨_,HB.out⟩ ?a1 ?assign ?body ?done ?stop
 case kb => exact ⟨by simp,fun k hk hl => World.putObj_heap_other (by have:=HSZ.out; rcases hk with hk | hk <;> omega)⟩
 case hI => obtain ⟨v,hv⟩:=h; exact ⟨v,hv.loop hk (by have:=HSZ.out; omega)⟩
 case assign =>
  intro x W K hK
  gi_wp2
  exact hK
 case stop => intro c q B _ h; exact h.elim
 case body =>
  rintro pre ⟨at_,p,⟨sa,sl,sc⟩⟩ A ⟨v,hA⟩ hp hsz2
  obtain ⟨r1,r2,r3⟩:=HFR.out ⟨at_,p,⟨sa,sl,sc⟩⟩ (hp.subset (by simp))
  obtain rfl : sl = p.length:=r3
  have hpl : pre.length ≤ 10000000:=by
   have h1:=hp.length_le
   have h2:=congrArg List.length (frL_recs g off cap (scanOf ys) 0)
   rw [List.length_map] at h2
   have h3:=endOf_len (scanOf ys)
   have h4:=scan_end ys
   have h5:=HL.out
   rw [List.length_append,List.length_singleton] at h1
   omega
  have hA' : ScB w pre v A.drew:=⟨hA.b0,hA.b1,hA.ls.below (below_drewN _ _ 1),hA.below.trans ((below_drewN w.heap.size A 1).mono (Nat.le_refl _))⟩
  obtain ⟨av,cv,W1,a2,c2,W2,a3,c3,W3,rfl,hmk,hrun1,hrun2,f1,f2,f3,g0,z0,g1,z1,hS,hK⟩:=scan_round hA' r1 r2 hpl (by rw [HSZ.out] at hsz2; simpa using hsz2)
  have f0 : A.cell? ⟨w.heap.size,0,none⟩ = some (.slice av pre.length cv):=blk_cell hA.b0 0
  have HS:=hid hS
  have HKP:=hid (scan_kept HSZ.out hsz2 hK)
  have hp2 : (p.length : Int) ≤ 1048576:=by have : p.length ≤ 1048576:=r2; omega
  clear hA hA' hp r1 r2 hpl hS hK hsz2
  simp only at hmk hrun1 hrun2 f1 f2 f3 g0 z0 g1 z1
  gi_wp2_with (fail)
  refine wpIn_round_any (by kernel_rfl) (fun ⟨_,_,h⟩ => h) (by kernel_rfl) ?_
  refine wpAny_take (i:=1) (oi:=⟨some 14,.move (.tmp 8),23,"wal.go:98",#[],none⟩) (v:=?vv1) rfl (by kernel_rfl) (by kernel_rfl) (by kernel_rfl) (fun _ _ _ h => h) (Or.inl ⟨by rfl,?hy1⟩) ?rs1
  case hy1 => (intro w; go_simp) <;> with_reducible rfl
  try go_frame
  refine wpAny_take (i:=2) (oi:=⟨some 15,.call ⟨.builtin .len,#[.tmp 14],#[23]⟩,3,"wal.go:98",#[⟨1,.data⟩],none⟩) (v:=?vv2) rfl (by kernel_rfl) (by kernel_rfl) (by kernel_rfl) (fun _ _ _ h => h) (Or.inl ⟨by rfl,?hy2⟩) ?rs2
  case hy2 => (intro w; go_simp) <;> with_reducible rfl
  try go_frame
  refine wpAny_take (i:=4) (oi:=⟨some 17,.move (.tmp 8),23,"wal.go:98",#[],none⟩) (v:=?vv4) rfl (by kernel_rfl) (by kernel_rfl) (by kernel_rfl) (fun _ _ _ h => h) (Or.inl ⟨by rfl,?hy4⟩) ?rs4
  case hy4 => (intro w; go_simp) <;> with_reducible rfl
  try go_frame
  refine wpAny_ready (rs:=[0,3]) (by kernel_rfl) (by simp) ?_
  refine AllReady.cons (o:=⟨some 13,.load 132 (.tmp 5),132,"wal.go:98",#[],none⟩) rfl (fun K hK => ?_) ?_
  ·go_simp
   refine hK _ _ ?_
   clear hK K
   try go_frame
   refine wpAny_ready (rs:=[3]) (by kernel_rfl) (by simp) ?_
   refine AllReady.cons (o:=⟨some 16,.makeSlice 23 (.const (.int .i64 0)) (.tmp 15),23,"wal.go:98",#[⟨2,.data⟩],none⟩) rfl (fun K hK => ?_) AllReady.nil
   go_simp
   refine hK _ _ ?_
   clear hK K
   try go_frame
   refine wpAny_ready (rs:=[5]) (by kernel_rfl) (by simp) ?_
   refine AllReady.cons (o:=⟨some 18,.call ⟨.builtin .append,#[.tmp 16,.tmp 17],#[23,23]⟩,23,"wal.go:98",#[⟨3,.data⟩,⟨4,.data⟩],none⟩) rfl (fun K hK => ?_) AllReady.nil
   refine step_append_run (by rfl) (.tmp 16) (.tmp 17) 23 (by rfl) _ _ (by rfl) (by rfl) _ _ hrun1 ?_
   refine hK _ _ ?_
   clear hK K
   try go_frame
   refine wpAny_ready (rs:=[6]) (by kernel_rfl) (by simp) ?_
   refine AllReady.cons (o:=⟨some 19,.buildSlice 132 1 #[(0,.tmp 18)],132,"wal.go:98",#[⟨5,.data⟩],none⟩) rfl (fun K hK => ?_) AllReady.nil
   go_simp
   refine hK _ _ ?_
   clear hK K
   try go_frame
   refine wpAny_ready (rs:=[7]) (by kernel_rfl) (by simp) ?_
   refine AllReady.cons (o:=⟨some 20,.call ⟨.builtin .append,#[.tmp 13,.tmp 19],#[132,132]⟩,132,"wal.go:98",#[⟨0,.data⟩,⟨6,.data⟩,⟨5,.chain⟩],none⟩) rfl (fun K hK => ?_) AllReady.nil
   refine step_append_run (by rfl) (.tmp 13) (.tmp 19) 132 (by rfl) _ _ (by rfl) (by rfl) _ _ hrun2 ?_
   refine hK _ _ ?_
   clear hK K
   try go_frame
   refine wpAny_ready (rs:=[8]) (by kernel_rfl) (by simp) ?_
   refine AllReady.cons (o:=⟨none,.store 132 (.tmp 5) (.tmp 20),0,"wal.go:98",#[⟨7,.data⟩,⟨7,.chain⟩,⟨0,.phase⟩,⟨1,.phase⟩,⟨2,.phase⟩,⟨3,.phase⟩,⟨4,.phase⟩,⟨5,.phase⟩,⟨6,.phase⟩,⟨7,.phase⟩],none⟩) rfl (fun K hK => ?_) AllReady.nil
   go_simp
   refine hK _ _ ?_
   clear hK K
   try go_frame
   refine wpAny_done (by kernel_rfl) ?_ _
   gi_wp2_with (fail)
   exact ⟨HKP.out.1,HKP.out.2.1,HKP.out.2.2,_,HS.out⟩
  refine AllReady.cons (o:=⟨some 16,.makeSlice 23 (.const (.int .i64 0)) (.tmp 15),23,"wal.go:98",#[⟨2,.data⟩],none⟩) rfl (fun K hK => ?_) AllReady.nil
  go_simp
  refine hK _ _ ?_
  clear hK K
  try go_frame
  refine wpAny_ready (rs:=[0,5]) (by kernel_rfl) (by simp) ?_
  refine AllReady.cons (o:=⟨some 13,.load 132 (.tmp 5),132,"wal.go:98",#[],none⟩) rfl (fun K hK => ?_) ?_
  ·go_simp
   refine hK _ _ ?_
   clear hK K
   try go_frame
   refine wpAny_ready (rs:=[5]) (by kernel_rfl) (by simp) ?_
   refine AllReady.cons (o:=⟨some 18,.call ⟨.builtin .append,#[.tmp 16,.tmp 17],#[23,23]⟩,23,"wal.go:98",#[⟨3,.data⟩,⟨4,.data⟩],none⟩) rfl (fun K hK => ?_) AllReady.nil
   refine step_append_run (by rfl) (.tmp 16) (.tmp 17) 23 (by rfl) _ _ (by rfl) (by rfl) _ _ hrun1 ?_
   refine hK _ _ ?_
   clear hK K
   try go_frame
   refine wpAny_ready (rs:=[6]) (by kernel_rfl) (by simp) ?_
   refine AllReady.cons (o:=⟨some 19,.buildSlice 132 1 #[(0,.tmp 18)],132,"wal.go:98",#[⟨5,.data⟩],none⟩) rfl (fun K hK => ?_) AllReady.nil
   go_simp
   refine hK _ _ ?_
   clear hK K
   try go_frame
   refine wpAny_ready (rs:=[7]) (by kernel_rfl) (by simp) ?_
   refine AllReady.cons (o:=⟨some 20,.call ⟨.builtin .append,#[.tmp 13,.tmp 19],#[132,132]⟩,132,"wal.go:98",#[⟨0,.data⟩,⟨6,.data⟩,⟨5,.chain⟩],none⟩) rfl (fun K hK => ?_) AllReady.nil
   refine step_append_run (by rfl) (.tmp 13) (.tmp 19) 132 (by rfl) _ _ (by rfl) (by rfl) _ _ hrun2 ?_
   refine hK _ _ ?_
   clear hK K
   try go_frame
   refine wpAny_ready (rs:=[8]) (by kernel_rfl) (by simp) ?_
   refine AllReady.cons (o:=⟨none,.store 132 (.tmp 5) (.tmp 20),0,"wal.go:98",#[⟨7,.data⟩,⟨7,.chain⟩,⟨0,.phase⟩,⟨1,.phase⟩,⟨2,.phase⟩,⟨3,.phase⟩,⟨4,.phase⟩,⟨5,.phase⟩,⟨6,.phase⟩,⟨7,.phase⟩],none⟩) rfl (fun K hK => ?_) AllReady.nil
   go_simp
   refine hK _ _ ?_
   clear hK K
   try go_frame
   refine wpAny_done (by kernel_rfl) ?_ _
   gi_wp2_with (fail)
   exact ⟨HKP.out.1,HKP.out.2.1,HKP.out.2.2,_,HS.out⟩
  refine AllReady.cons (o:=⟨some 18,.call ⟨.builtin .append,#[.tmp 16,.tmp 17],#[23,23]⟩,23,"wal.go:98",#[⟨3,.data⟩,⟨4,.data⟩],none⟩) rfl (fun K hK => ?_) AllReady.nil
  refine step_append_run (by rfl) (.tmp 16) (.tmp 17) 23 (by rfl) _ _ (by rfl) (by rfl) _ _ hrun1 ?_
  refine hK _ _ ?_
  clear hK K
  try go_frame
  refine wpAny_ready (rs:=[0,6]) (by kernel_rfl) (by simp) ?_
  refine AllReady.cons (o:=⟨some 13,.load 132 (.tmp 5),132,"wal.go:98",#[],none⟩) rfl (fun K hK => ?_) ?_
  ·go_simp
   refine hK _ _ ?_
   clear hK K
   try go_frame
   refine wpAny_ready (rs:=[6]) (by kernel_rfl) (by simp) ?_
   refine AllReady.cons (o:=⟨some 19,.buildSlice 132 1 #[(0,.tmp 18)],132,"wal.go:98",#[⟨5,.data⟩],none⟩) rfl (fun K hK => ?_) AllReady.nil
   go_simp
   refine hK _ _ ?_
   clear hK K
   try go_frame
   refine wpAny_ready (rs:=[7]) (by kernel_rfl) (by simp) ?_
   refine AllReady.cons (o:=⟨some 20,.call ⟨.builtin .append,#[.tmp 13,.tmp 19],#[132,132]⟩,132,"wal.go:98",#[⟨0,.data⟩,⟨6,.data⟩,⟨5,.chain⟩],none⟩) rfl (fun K hK => ?_) AllReady.nil
   refine step_append_run (by rfl) (.tmp 13) (.tmp 19) 132 (by rfl) _ _ (by rfl) (by rfl) _ _ hrun2 ?_
   refine hK _ _ ?_
   clear hK K
   try go_frame
   refine wpAny_ready (rs:=[8]) (by kernel_rfl) (by simp) ?_
   refine AllReady.cons (o:=⟨none,.store 132 (.tmp 5) (.tmp 20),0,"wal.go:98",#[⟨7,.data⟩,⟨7,.chain⟩,⟨0,.phase⟩,⟨1,.phase⟩,⟨2,.phase⟩,⟨3,.phase⟩,⟨4,.phase⟩,⟨5,.phase⟩,⟨6,.phase⟩,⟨7,.phase⟩],none⟩) rfl (fun K hK => ?_) AllReady.nil
   go_simp
   refine hK _ _ ?_
   clear hK K
   try go_frame
   refine wpAny_done (by kernel_rfl) ?_ _
   gi_wp2_with (fail)
   exact ⟨HKP.out.1,HKP.out.2.1,HKP.out.2.2,_,HS.out⟩
  refine AllReady.cons (o:=⟨some 19,.buildSlice 132 1 #[(0,.tmp 18)],132,"wal.go:98",#[⟨5,.data⟩],none⟩) rfl (fun K hK => ?_) AllReady.nil
  go_simp
  refine hK _ _ ?_
  clear hK K
  try go_frame
  refine wpAny_ready (rs:=[0]) (by kernel_rfl) (by simp) ?_
  refine AllReady.cons (o:=⟨some 13,.load 132 (.tmp 5),132,"wal.go:98",#[],none⟩) rfl (fun K hK => ?_) AllReady.nil
  go_simp
  refine hK _ _ ?_
  clear hK K
  try go_frame
  refine wpAny_ready (rs:=[7]) (by kernel_rfl) (by simp) ?_
  refine AllReady.cons (o:=⟨some 20,.call ⟨.builtin .append,#[.tmp 13,.tmp 19],#[132,132]⟩,132,"wal.go:98",#[⟨0,.data⟩,⟨6,.data⟩,⟨5,.chain⟩],none⟩) rfl (fun K hK => ?_) AllReady.nil
  refine step_append_run (by rfl) (.tmp 13) (.tmp 19) 132 (by rfl) _ _ (by rfl) (by rfl) _ _ hrun2 ?_
  refine hK _ _ ?_
  clear hK K
  try go_frame
  refine wpAny_ready (rs:=[8]) (by kernel_rfl) (by simp) ?_
  refine AllReady.cons (o:=⟨none,.store 132 (.tmp 5) (.tmp 20),0,"wal.go:98",#[⟨7,.data⟩,⟨7,.chain⟩,⟨0,.phase⟩,⟨1,.phase⟩,⟨2,.phase⟩,⟨3,.phase⟩,⟨4,.phase⟩,⟨5,.phase⟩,⟨6,.phase⟩,⟨7,.phase⟩],none⟩) rfl (fun K hK => ?_) AllReady.nil
  go_simp
  refine hK _ _ ?_
  clear hK K
  try go_frame
  refine wpAny_done (by kernel_rfl) ?_ _
  gi_wp2_with (fail)
  exact ⟨HKP.out.1,HKP.out.2.1,HKP.out.2.2,_,HS.out⟩
 case done =>
  rintro B ⟨v,hB⟩ hD
  obtain ⟨av,cv,rfl⟩:=hB.ls.rd.shape
  rw [frL_recs] at hB
  have f0 : B.cell? ⟨w.heap.size,0,none⟩ = some (.slice av (scanOf ys).length cv):=blk_cell hB.b0 0
  have f1 : B.cell? ⟨w.heap.size + 1,0,none⟩ = some (.int .i64 (lastAt (frL g off cap 0 (scanOf ys)) : Int)):=blk_cell hB.b1 0
  rw [frL_end] at f1
  have HL:=hB.ls
  rw [frL_recs] at HL
  have HB:=hid (And.intro HL hB.below)
  have HD:=hid hD
  clear hB hD HL
  go_wp2_with fail
  go_quiet (fail)
  go_wp2_with fail
  have k1 : Below w.heap.size w ((B.drewN nq).putObj W0.heap.size (.deferred none)) :=
   below_keeps (HB.out.2.trans (below_drewN w.heap.size B nq)) (keeps_putObj _ _ _) (by intro i hi; have:=HSZ.out; omega) (HB.out.2.trans (below_drewN w.heap.size B nq)).size
  refine leaves_of_marked [W0.heap.size] (B.drewN nq) ⟨HD.out,.tuple #[.slice av (scanOf ys).length cv,.int .i64 (endOf (scanOf ys) : Int),.bool ((endOf (scanOf ys) : Int) == (ys.length : Int))],?_,?_⟩
  ·simp [results,Tryz.results155,go_sem]
  ·refine ⟨.slice av (scanOf ys).length cv,?_,?_,k1⟩
   ·have e : ((endOf (scanOf ys) : Int) == (ys.length : Int)) = decide (endOf (scanOf ys) = ys.length):=by
     rw [Bool.eq_iff_iff,beq_iff_eq,decide_eq_true_eq]; omega
    rw [e]
   ·exact (HB.out.1.mono (by omega)).putDef (below_drewN _ _ _) HD.out
end Go.Proofs.YtagdchgkjjpacaaGreat
