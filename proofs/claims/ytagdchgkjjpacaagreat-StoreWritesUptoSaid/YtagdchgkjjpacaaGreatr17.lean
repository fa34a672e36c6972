/- The walks of the table's functions at keys that are strings and values of another type (printed by mk_tab.py out of those at strings and ints). -/
import Derived.Test.YtagdchgkjjpacaaGreatRows
import Derived.Test.YtagdchgkjjpacaaGreatr00
import Derived.Test.YtagdchgkjjpacaaGreatr16
import Derived.WalkSpells
import Derived.WalkLawsBesides
import Derived.Deep.RegionHeld3
import Derived.Deep.LoopGhost
import Derived.Lib.MinMax
import Derived.Lib.Hide
import Derived.Conc.RwLoneW
set_option maxRecDepth 100000
open Go.Lib (hid)
namespace Go.Proofs.YtagdchgkjjpacaaGreat
open Go.RowKit Go.RwLone
section
variable {K V : Type} {lt : K → K → Bool}
theorem size_put (t : Tr K V) (k : K) (v : V) : (t.put lt k v).size ≤ t.size + 1:=by
 induction t with
 | leaf => simp [Tr.put,Tr.size]
 | node k' v' l r hl hr => unfold Tr.put; split <;> (try split) <;> simp only [Tr.size_even,Tr.size] <;> omega
theorem size_first (t : Tr K V) : (Tr.first t).2.size ≤ t.size:=by
 induction t with
 | leaf => simp [Tr.first]
 | node k v l r hl hr =>
   cases l with
   | leaf => simp [Tr.first,Tr.size]
   | node k' v' l' r' => simp only [Tr.first,Tr.size_even,Tr.size] at hl ⊢; omega
theorem size_drop (t : Tr K V) (k : K) : (t.drop lt k).size ≤ t.size:=by
 induction t with
 | leaf => simp [Tr.drop]
 | node k' v' l r hl hr =>
   unfold Tr.drop
   split
   ·simp only [Tr.size_even,Tr.size]; omega
   ·split
    ·simp only [Tr.size_even,Tr.size]; omega
    ·split
     ·simp only [Tr.size]; omega
     ·rename_i k2 v2 l2 r2
      have hf:=size_first (Tr.node k2 v2 l2 r2)
      split
      ·rename_i h
       rw [h] at hf
       simp only [Tr.size_even,Tr.size] at hf ⊢
       omega
      ·simp only [Tr.size]; omega
end
theorem slt_gt {a b : ByteArray} (h1 : slt a b = false) (h2 : slt b a = true) : (a.toList == b.toList) = false:=by
 cases h : a.toList == b.toList with
 | false => rfl
 | true =>
   have e:=str_inj (by simpa using h : a.toList = b.toList)
   subst e; rw [slt_ord.irr] at h2; cases h2
abbrev tabCells (s r : Int) (root : Option Addr) (ver : Int) : Array Value :=
 #[.int .i32 s,.int .u32 0,.int .u32 0,.int .u32 0,.int .i32 r,.int .i32 0,.pointer root,.int .i64 ver]
abbrev OnlyS (b : Nat) : Nat → Prop:=fun k => k = b
theorem keeps_setS (w : World) (b i : Nat) (u : Value) : Keeps (OnlyS b) w (w.setCell ⟨b,i,none⟩ u):=(Keeps.refl (OnlyS b) w).setCell (p:=⟨b,i,none⟩) (fun _ => rfl) u
theorem w32_up : wrap32 (0 + 1) = 1:=by unfold wrap32; decide
theorem w32_down : wrap32 (1 + -1) = 0:=by unfold wrap32; decide
theorem t_lock {T : TypeId} (w : World) (tb : Nat) (root : Option Addr) (ver : Int) (h : IsBlk w tb (tabCells 0 0 root ver) T) :
 Calls Tryz.prog 76 #[.pointer (some ⟨tb,0,none⟩)] w fun e w' => e = .returned (.tuple #[]) ∧ IsBlk w' tb (tabCells 1 (-1073741824) root ver) T ∧ Keeps (OnlyS tb) w w' ∧ w'.heap.size = w.heap.size :=
 (wlock_free Tryz.rwWLib tb 0 (.int .u32 0) (.int .u32 0) w (blk_cell h 0) (blk_cell h 2) (blk_cell h 3) (blk_cell h 4) (blk_free h 0) (blk_free h 4)).mono
   (fun e w' ⟨he,hw⟩ => ⟨he,hw ▸ blk_set (blk_set h 0 _) 4 _,hw ▸ (keeps_setS w tb _ _).trans' (keeps_setS _ tb _ _),by rw [hw]; simp⟩)
theorem t_unlockD {T : TypeId} (w : World) (tb : Nat) (u : FrameMode) (root : Option Addr) (ver : Int) (h : IsBlk w tb (tabCells 1 (-1073741824) root ver) T) :
 CallsD Tryz.prog 77 #[.pointer (some ⟨tb,0,none⟩)] u w fun e u' w' => u' = u ∧ e = .returned (.tuple #[]) ∧ IsBlk w' tb (tabCells 0 0 root ver) T ∧ Keeps (OnlyS tb) w w' ∧ w'.heap.size = w.heap.size :=
 (wunlock_deferred Tryz.rwWLib tb 0 (.int .u32 0) (.int .u32 0) u w (blk_cell h 0) (blk_cell h 2) (blk_cell h 3) (blk_cell h 4) (blk_free h 0) (blk_free h 4)).mono
   (fun e u' w' ⟨hu,he,hw⟩ => ⟨hu,he,hw ▸ blk_set (blk_set h 4 _) 0 _,hw ▸ (keeps_setS w tb _ _).trans' (keeps_setS _ tb _ _),by rw [hw]; simp⟩)
theorem t_rlock {T : TypeId} (w : World) (tb : Nat) (root : Option Addr) (ver : Int) (h : IsBlk w tb (tabCells 0 0 root ver) T) :
 Calls Tryz.prog 92 #[.pointer (some ⟨tb,0,none⟩)] w fun e w' => e = .returned (.tuple #[]) ∧ IsBlk w' tb (tabCells 0 1 root ver) T ∧ Keeps (OnlyS tb) w w' ∧ w'.heap.size = w.heap.size :=
 (rlock_open Tryz.rwRLib tb 0 0 (.int .i32 0) (.int .u32 0) w (blk_cell h 0) (blk_cell h 3) (blk_cell h 4) (blk_free h 4) (by rw [w32_up]; decide)).mono
   (fun e w' ⟨he,hw⟩ => by rw [w32_up] at hw; exact ⟨he,hw ▸ blk_set h 4 _,hw ▸ keeps_setS w tb 4 _,by rw [hw]; simp⟩)
theorem t_runlockD {T : TypeId} (w : World) (tb : Nat) (u : FrameMode) (root : Option Addr) (ver : Int) (h : IsBlk w tb (tabCells 0 1 root ver) T) :
 CallsD Tryz.prog 93 #[.pointer (some ⟨tb,0,none⟩)] u w fun e u' w' => u' = u ∧ e = .returned (.tuple #[]) ∧ IsBlk w' tb (tabCells 0 0 root ver) T ∧ Keeps (OnlyS tb) w w' ∧ w'.heap.size = w.heap.size :=
 (runlock_deferred Tryz.rwRLib tb 0 1 (.int .i32 0) (.int .u32 0) u w (blk_cell h 0) (blk_cell h 2) (blk_cell h 4) (blk_free h 4) (by rw [w32_down]; decide)).mono
   (fun e u' w' ⟨hu,he,hw⟩ => by rw [w32_down] at hw; exact ⟨hu,he,hw ▸ blk_set h 4 _,hw ▸ keeps_setS w tb 4 _,by rw [hw]; simp⟩)
set_option maxHeartbeats 400000 in
theorem t_add {T : TypeId} (w : World) (tb : Nat) (s r : Int) (root : Option Addr) (ver : Int) (h : IsBlk w tb (tabCells s r root ver) T) (h0 : 0 ≤ ver) (h1 : ver < 1000000000) :
 Calls Tryz.prog 162 #[.pointer (some ⟨tb,7,none⟩),.int .i64 1] w fun e w' => (∃ v,e = .returned v) ∧ IsBlk w' tb (tabCells s r root (ver + 1)) T ∧ Keeps (OnlyS tb) w w' ∧ w'.heap.size = w.heap.size:=by
 have hc : w.cell? ⟨tb,7,none⟩ = some (.int .i64 ver):=blk_cell h 7
 have hz : w.frozen? ⟨tb,7,none⟩ = false:=blk_free h 7
 have hadd:=run_call_add (P:=Tryz.prog) Tryz.func187 (by kernel_rfl) (by kernel_rfl) (by kernel_rfl) .i64 (by kernel_rfl) (y:=1) (s:=ver + 1) hc hz (by simp [go_sem,IntWalk.i64_in (ver + 1) (by omega)])
 have H:=hid h
 clear h
 go_enter Tryz.func162,Tryz.ntmps162
 go_wp2
 go_ret
 exact ⟨⟨_,rfl⟩,blk_set H.out 7 _,keeps_setS w tb 7 _,by simp⟩
set_option maxHeartbeats 400000 in
theorem t_load {T : TypeId} (w : World) (tb : Nat) (s r : Int) (root : Option Addr) (ver : Int) (h : IsBlk w tb (tabCells s r root ver) T) :
 Calls Tryz.prog 148 #[.pointer (some ⟨tb,7,none⟩)] w fun e w' => e = .returned (.int .i64 ver) ∧ w = w':=by
 have hc : w.cell? ⟨tb,7,none⟩ = some (.int .i64 ver):=blk_cell h 7
 have hl:=run_call_load (P:=Tryz.prog) Tryz.func180 (by kernel_rfl) (by kernel_rfl) (by kernel_rfl) .i64 (by kernel_rfl) hc
 clear h
 go_enter Tryz.func148,Tryz.ntmps148
 go_wp2
 go_ret
 exact ⟨rfl,rfl⟩
theorem ne_of_type {w : World} {b c : Nat} {cs ds : Array Value} {T U : TypeId} (h : IsBlk w b cs T) (k : IsBlk w c ds U) (hne : T ≠ U) : b ≠ c:=by
 rintro rfl
 have : some (Obj.cells cs T (0,0)) = some (Obj.cells ds U (0,0)):=h.symm.trans k
 simp only [Option.some.injEq,Obj.cells.injEq] at this
 exact hne this.2.1
theorem kept_T {T U : TypeId} {w w' : World} {tb : Nat} {cs : Array Value} (hb : IsBlk w tb cs U) (hne : T ≠ U) (h : Keeps (OnlyS tb) w w') : KeepT T w w' :=
 KeepT.of_keeps h (fun _ _ hi e => ne_of_type hi hb hne e)
theorem Keeps.back {b : Nat} {w w' : World} {o : Obj} (h : Keeps (OnlyS b) w w') (h0 : w.heap[b]? = some o) (h1 : w'.heap[b]? = some o) : Below w.heap.size w w' :=
 ⟨h.os,h.tape,h.output,h.size,fun k hk => by
  by_cases e : k = b
  ·subst e; rw [h0,h1]
  ·exact h.block k hk e⟩
namespace Ss
def STree (w : World) : Tr ByteArray ByteArray → Option Addr → Prop
 | .leaf,p => p = none
 | .node k v l r,p => ∃ (b : Nat) (pl pr : Option Addr),p = some ⟨b,0,none⟩ ∧
     IsBlk w b #[.string k,.string v,.pointer pl,.pointer pr,.int .i64 ((1 + max l.tall r.tall : Nat) : Int),.int .i64 ((1 + l.size + r.size : Nat) : Int)] 188 ∧ STree w l pl ∧ STree w r pr
theorem STree.keepT {w w' : World} (h : KeepT 188 w w') : ∀ {t : Tr ByteArray ByteArray} {p : Option Addr},STree w t p → STree w' t p
 | .leaf,_,ht => ht
 | .node _ _ _ _,_,⟨b,pl,pr,e,hb,hl,hr⟩ => ⟨b,pl,pr,e,h b _ hb,STree.keepT h hl,STree.keepT h hr⟩
theorem STree.keeps {S : Nat → Prop} {w w' : World} (h : Keeps S w w') (hs : ∀ b cs,IsBlk w b cs 188 → ¬ S b) {t : Tr ByteArray ByteArray} {p : Option Addr} (ht : STree w t p) : STree w' t p:=ht.keepT (KeepT.of_keeps h hs)
theorem STree.below {w w' : World} (h : Below w.heap.size w w') {t : Tr ByteArray ByteArray} {p : Option Addr} (ht : STree w t p) : STree w' t p:=ht.keeps (Keeps.of_below h) (fun _ _ _ h => h)
theorem STree.alloc {w : World} (o : Obj) {t : Tr ByteArray ByteArray} {p : Option Addr} (ht : STree w t p) : STree (w.alloc o) t p:=ht.keeps ((Keeps.refl (fun _ => False) w).alloc o) (fun _ _ _ h => h)
set_option maxHeartbeats 400000 in
theorem s_tall (w : World) (t : Tr ByteArray ByteArray) (p : Option Addr) (h : STree w t p) : Calls Tryz.prog 206 #[.pointer p] w fun e w' => e = .returned (.int .i64 (t.tall : Int)) ∧ w = w':=by
 cases t with
 | leaf =>
   obtain rfl : p = none:=h
   go_enter Tryz.func206,Tryz.ntmps206
   go_wp2
   go_ret
   exact ⟨rfl,rfl⟩
 | node k v l r =>
   obtain ⟨b,pl,pr,rfl,hb,_,_⟩:=h
   have hc : w.cell? ⟨b,4,none⟩ = some (.int .i64 ((1 + max l.tall r.tall : Nat) : Int)):=blk_cell hb 4
   clear hb
   go_enter Tryz.func206,Tryz.ntmps206
   go_wp2
   go_ret
   exact ⟨rfl,rfl⟩
set_option maxHeartbeats 400000 in
theorem s_many (w : World) (t : Tr ByteArray ByteArray) (p : Option Addr) (h : STree w t p) : Calls Tryz.prog 97 #[.pointer p] w fun e w' => e = .returned (.int .i64 (t.size : Int)) ∧ w = w':=by
 cases t with
 | leaf =>
   obtain rfl : p = none:=h
   go_enter Tryz.func97,Tryz.ntmps97
   go_wp2
   go_ret
   exact ⟨rfl,rfl⟩
 | node k v l r =>
   obtain ⟨b,pl,pr,rfl,hb,_,_⟩:=h
   have hc : w.cell? ⟨b,5,none⟩ = some (.int .i64 ((1 + l.size + r.size : Nat) : Int)):=blk_cell hb 5
   clear hb
   go_enter Tryz.func97,Tryz.ntmps97
   go_wp2
   go_ret
   exact ⟨rfl,rfl⟩
set_option maxHeartbeats 400000 in
theorem s_made (w : World) (k : ByteArray) (v : ByteArray) (l r : Tr ByteArray ByteArray) (pl pr : Option Addr) (hl : STree w l pl) (hr : STree w r pr) (hn : l.size + r.size < 1000000000) :
 Calls Tryz.prog 190 #[.string k,.string v,.pointer pl,.pointer pr] w fun e w' => ∃ p,e = .returned (.pointer (some p)) ∧ STree w' (.node k v l r) (some p) ∧ Below w.heap.size w w':=by
 have htl:=l.tall_le
 have htr:=r.tall_le
 have b1 : ((l.tall : Nat) : Int) < 1000000000:=by omega
 have b2 : ((r.tall : Nat) : Int) < 1000000000:=by omega
 have b3 : ((l.size : Nat) : Int) + (r.size : Nat) < 1000000000:=by omega
 go_enter Tryz.func190,Tryz.ntmps190
 go_wp2_with fail
 refine (s_tall _ l pl hl).mono ?_
 rintro e w' ⟨rfl,rfl⟩
 go_wp2_with fail
 refine (s_tall _ r pr hr).mono ?_
 rintro e w' ⟨rfl,rfl⟩
 clear htl htr hn
 go_wp2_with fail
 refine (s_many _ l pl hl).mono ?_
 rintro e w' ⟨rfl,rfl⟩
 go_wp2_with fail
 refine (s_many _ r pr hr).mono ?_
 rintro e w' ⟨rfl,rfl⟩
 go_wp2
 go_ret
 refine ⟨_,rfl,⟨_,pl,pr,rfl,?_,hl.alloc _,hr.alloc _⟩,(Below.refl _ _).alloc (Nat.le_refl _) _⟩
 exact (blk_new w _).trans (by rw [show (1 + max (l.tall : Int) (r.tall : Int)) = ((1 + max l.tall r.tall : Nat) : Int) from by omega,show (1 + (l.size : Int) + (r.size : Int)) = ((1 + l.size + r.size : Nat) : Int) from by omega])
theorem s_tallI {w : World} {t : Tr ByteArray ByteArray} {p : Option Addr} (h : STree w t p) (hn : t.size < 1000000000) : ∃ a : Int,Hid (a = (t.tall : Int)) ∧ 0 ≤ a ∧ a < 1000000000 ∧
 Hid (∀ w',Below w.heap.size w w' → Calls Tryz.prog 206 #[.pointer p] w' fun e w'' => e = .returned (.int .i64 a) ∧ w' = w'') :=
 ⟨(t.tall : Int),rfl,by omega,by have:=t.tall_le; omega,fun w' hb => s_tall w' t p (h.below hb)⟩
set_option maxHeartbeats 400000 in
theorem s_even0 (w : World) (k : ByteArray) (v : ByteArray) (l r : Tr ByteArray ByteArray) (pl pr : Option Addr) (hl : STree w l pl) (hr : STree w r pr) (hn : l.size + r.size < 1000000000)
 (h1 : l.tall ≤ r.tall + 1) (h2 : r.tall ≤ l.tall + 1) :
 Calls Tryz.prog 188 #[.string k,.string v,.pointer pl,.pointer pr] w fun e w' => ∃ p,e = .returned (.pointer (some p)) ∧ STree w' (.node k v l r) (some p) ∧ Below w.heap.size w w':=by
 obtain ⟨a,ea,a0,a1,HA⟩:=s_tallI hl (by omega)
 obtain ⟨b,eb,b0,b1,HB⟩:=s_tallI hr (by omega)
 have c1 : a ≤ b + 1:=by rw [ea.out,eb.out]; omega
 have c2 : b ≤ a + 1:=by rw [ea.out,eb.out]; omega
 have HD:=hid (s_made w k v l r pl pr hl hr hn)
 clear hn h1 h2 hl hr
 go_enter Tryz.func188,Tryz.ntmps188
 go_wp2_with fail
 refine (HA.out _ (Below.refl _ _)).mono ?_
 rintro e w' ⟨rfl,rfl⟩
 go_wp2_with fail
 refine (HB.out _ (Below.refl _ _)).mono ?_
 rintro e w' ⟨rfl,rfl⟩
 go_wp2_with fail
 refine (HB.out _ (Below.refl _ _)).mono ?_
 rintro e w' ⟨rfl,rfl⟩
 go_wp2_with fail
 refine (HA.out _ (Below.refl _ _)).mono ?_
 rintro e w' ⟨rfl,rfl⟩
 go_wp2_with fail
 refine HD.out.mono ?_
 rintro e w' ⟨p,rfl,h3,h4⟩
 go_wp2
 go_ret
 exact ⟨p,rfl,h3,h4⟩
theorem s_madeH {w : World} (k : ByteArray) (v : ByteArray) {l r : Tr ByteArray ByteArray} {pl pr : Option Addr} (hl : STree w l pl) (hr : STree w r pr) (hn : l.size + r.size < 1000000000) :
 Hid (∀ w1,Below w.heap.size w w1 → Calls Tryz.prog 190 #[.string k,.string v,.pointer pl,.pointer pr] w1 fun e w' => ∃ p,e = .returned (.pointer (some p)) ∧ STree w' (.node k v l r) (some p) ∧ Below w.heap.size w w' ∧ Below w1.heap.size w1 w') :=
 hid (fun w1 hb => (s_made w1 k v l r pl pr (hl.below hb) (hr.below hb) hn).mono (fun _ _ ⟨p,he,ht,hb1⟩ => ⟨p,he,ht,hb.trans (hb1.mono hb.size),hb1⟩))
set_option maxHeartbeats 1000000 in
theorem s_evenL1 (w : World) (k : ByteArray) (v : ByteArray) (lk : ByteArray) (lv : ByteArray) (ll lr r : Tr ByteArray ByteArray) (pl pr : Option Addr) (hl : STree w (.node lk lv ll lr) pl) (hr : STree w r pr)
 (hn : (Tr.node lk lv ll lr).size + r.size < 1000000000) (h1 : r.tall + 1 < (Tr.node lk lv ll lr).tall) (h2 : lr.tall ≤ ll.tall) :
 Calls Tryz.prog 188 #[.string k,.string v,.pointer pl,.pointer pr] w fun e w' => ∃ p,e = .returned (.pointer (some p)) ∧ STree w' (.node lk lv ll (.node k v lr r)) (some p) ∧ Below w.heap.size w w':=by
 obtain ⟨a,ea,a0,a1,HA⟩:=s_tallI hl (by omega)
 obtain ⟨b,eb,b0,b1,HB⟩:=s_tallI hr (by omega)
 obtain ⟨bl,pll,plr,rfl,hbl,hll,hlr⟩:=hl
 have hs : (Tr.node lk lv ll lr).size = 1 + ll.size + lr.size:=rfl
 obtain ⟨c,ec,c0,c1,HC⟩:=s_tallI hll (by omega)
 obtain ⟨d,ed,d0,d1,HE⟩:=s_tallI hlr (by omega)
 have t1 : b + 1 < a:=by rw [ea.out,eb.out]; omega
 have t2 : d ≤ c:=by rw [ec.out,ed.out]; omega
 have HM:=s_madeH k v hlr hr (by omega)
 have HL:=hid (show Below w.heap.size w w from Below.refl _ _)
 have hlt:=lt_of_block hbl
 have k0 : w.cell? ⟨bl,0,none⟩ = some (.string lk):=blk_cell hbl 0
 have k1 : w.cell? ⟨bl,1,none⟩ = some (.string lv):=blk_cell hbl 1
 have k2 : w.cell? ⟨bl,2,none⟩ = some (.pointer pll):=blk_cell hbl 2
 have k3 : w.cell? ⟨bl,3,none⟩ = some (.pointer plr):=blk_cell hbl 3
 have HLL:=hid hll
 have HN : Hid (ll.size + (Tr.node k v lr r).size < 1000000000):=hid (by simp only [Tr.size]; omega)
 clear hn h1 h2 hs hbl hll hlr hr
 go_enter Tryz.func188,Tryz.ntmps188
 go_wp2_with fail
 refine (HA.out _ (Below.refl _ _)).mono ?_
 rintro e w' ⟨rfl,rfl⟩
 go_wp2_with fail
 refine (HB.out _ (Below.refl _ _)).mono ?_
 rintro e w' ⟨rfl,rfl⟩
 go_wp2_with fail
 go_quiet ((go_at_call 206; first | (with_reducible exact quiet_hid HC) | (with_reducible exact quiet_hid HE)))
 go_wp2_with fail
 have hq : Below w.heap.size w (w.drewN nq):=⟨rfl,rfl,rfl,Nat.le_refl _,fun _ _ => rfl⟩
 go_region_held3 (fun w' => w'.cell? ⟨bl,0,none⟩ = some (.string lk) ∧ w'.cell? ⟨bl,1,none⟩ = some (.string lv) ∧ w'.cell? ⟨bl,2,none⟩ = some (.pointer pll) ∧ w'.cell? ⟨bl,3,none⟩ = some (.pointer plr))
   (first
     | go_keep
     | exact ⟨(g2.cell (p:=⟨bl,0,none⟩) hlt).trans k0,(g2.cell (p:=⟨bl,1,none⟩) hlt).trans k1,(g2.cell (p:=⟨bl,2,none⟩) hlt).trans k2,(g2.cell (p:=⟨bl,3,none⟩) hlt).trans k3⟩
     | exact ⟨(g1.cell (p:=⟨bl,0,none⟩) hlt).trans k0,(g1.cell (p:=⟨bl,1,none⟩) hlt).trans k1,(g1.cell (p:=⟨bl,2,none⟩) hlt).trans k2,(g1.cell (p:=⟨bl,3,none⟩) hlt).trans k3⟩)
   (first
     | (go_at_call 190; (with_reducible refine (HM.out _ ?_).mono ?_); exact hq.drew; rintro e w1 ⟨p1,rfl,t1,g1,_⟩)
     | (go_at_call 190; (with_reducible refine (s_made _ lk lv ll (.node k v lr r) pll (some p1) ?_ t1 ?_).mono ?_); exact (HLL.out).below g1; exact HN.out; rintro e w2 ⟨p2,rfl,t2,g2'⟩; have g2:=g1.trans (g2'.mono g1.size)))
 go_wp2
 go_ret
 exact ⟨p2,rfl,t2,g2⟩
set_option maxHeartbeats 2000000 in
theorem s_evenL2 (w : World) (k : ByteArray) (v : ByteArray) (lk : ByteArray) (lv : ByteArray) (ll : Tr ByteArray ByteArray) (mk : ByteArray) (mv : ByteArray) (ml mr r : Tr ByteArray ByteArray) (pl pr : Option Addr) (hl : STree w (Tr.node lk lv ll (Tr.node mk mv ml mr)) pl) (hr : STree w r pr)
 (hn : (Tr.node lk lv ll (Tr.node mk mv ml mr)).size + r.size < 1000000000) (h1 : r.tall + 1 < (Tr.node lk lv ll (Tr.node mk mv ml mr)).tall) (h2 : ll.tall < (Tr.node mk mv ml mr).tall) :
 Calls Tryz.prog 188 #[.string k,.string v,.pointer pl,.pointer pr] w fun e w' => ∃ p,e = .returned (.pointer (some p)) ∧ STree w' (.node mk mv (.node lk lv ll ml) (.node k v mr r)) (some p) ∧ Below w.heap.size w w':=by
 obtain ⟨a,ea,a0,a1,HA⟩:=s_tallI hl (by omega)
 obtain ⟨b,eb,b0,b1,HB⟩:=s_tallI hr (by omega)
 obtain ⟨bl,pll,plr,rfl,hbl,hll,hlr⟩:=hl
 obtain ⟨c,ec,c0,c1,HC⟩:=s_tallI hll (by simp only [Tr.size] at hn; omega)
 obtain ⟨d,ed,d0,d1,HE⟩:=s_tallI hlr (by simp only [Tr.size] at hn ⊢; omega)
 have t1 : b + 1 < a:=by rw [ea.out,eb.out]; omega
 have t2 : c < d:=by rw [ec.out,ed.out]; exact_mod_cast h2
 have HN : Hid ((Tr.node lk lv ll ml).size + (Tr.node k v mr r).size < 1000000000):=hid (by simp only [Tr.size] at hn ⊢; omega)
 obtain ⟨bm,pml,pmr,e9,hbm,hml,hmr⟩:=hlr
 subst e9
 have HM1:=s_madeH lk lv hll hml (by simp only [Tr.size] at hn; omega)
 have HM2:=s_madeH k v hmr hr (by simp only [Tr.size] at hn; omega)
 have hltbl:=lt_of_block hbl
 have hltbm:=lt_of_block hbm
 have k0 : w.cell? ⟨bl,0,none⟩ = some (.string lk):=blk_cell hbl 0
 have k1 : w.cell? ⟨bl,1,none⟩ = some (.string lv):=blk_cell hbl 1
 have k2 : w.cell? ⟨bl,2,none⟩ = some (.pointer pll):=blk_cell hbl 2
 have k3 : w.cell? ⟨bl,3,none⟩ = some (.pointer (some ⟨bm,0,none⟩)):=blk_cell hbl 3
 have k4 : w.cell? ⟨bm,0,none⟩ = some (.string mk):=blk_cell hbm 0
 have k5 : w.cell? ⟨bm,1,none⟩ = some (.string mv):=blk_cell hbm 1
 have k6 : w.cell? ⟨bm,2,none⟩ = some (.pointer pml):=blk_cell hbm 2
 have k7 : w.cell? ⟨bm,3,none⟩ = some (.pointer pmr):=blk_cell hbm 3
 clear hn h1 h2 hbl hbm hll hml hmr hr
 go_enter Tryz.func188,Tryz.ntmps188
 go_wp2_with fail
 refine (HA.out _ (Below.refl _ _)).mono ?_
 rintro e w' ⟨rfl,rfl⟩
 go_wp2_with fail
 refine (HB.out _ (Below.refl _ _)).mono ?_
 rintro e w' ⟨rfl,rfl⟩
 go_wp2_with fail
 go_quiet ((go_at_call 206; first | (with_reducible exact quiet_hid HC) | (with_reducible exact quiet_hid HE)))
 go_wp2_with fail
 have hq : Below w.heap.size w (w.drewN nq):=⟨rfl,rfl,rfl,Nat.le_refl _,fun _ _ => rfl⟩
 go_region_held3 (fun w' => w'.cell? ⟨bl,0,none⟩ = some (.string lk) ∧ w'.cell? ⟨bl,1,none⟩ = some (.string lv) ∧ w'.cell? ⟨bl,2,none⟩ = some (.pointer pll) ∧ w'.cell? ⟨bm,0,none⟩ = some (.string mk) ∧ w'.cell? ⟨bm,1,none⟩ = some (.string mv) ∧ w'.cell? ⟨bm,2,none⟩ = some (.pointer pml) ∧ w'.cell? ⟨bm,3,none⟩ = some (.pointer pmr))
   (first
     | go_keep
     | exact ⟨(g3.cell (p:=⟨bl,0,none⟩) hltbl).trans k0,(g3.cell (p:=⟨bl,1,none⟩) hltbl).trans k1,(g3.cell (p:=⟨bl,2,none⟩) hltbl).trans k2,(g3.cell (p:=⟨bm,0,none⟩) hltbm).trans k4,(g3.cell (p:=⟨bm,1,none⟩) hltbm).trans k5,(g3.cell (p:=⟨bm,2,none⟩) hltbm).trans k6,(g3.cell (p:=⟨bm,3,none⟩) hltbm).trans k7⟩
     | exact ⟨(g2.cell (p:=⟨bl,0,none⟩) hltbl).trans k0,(g2.cell (p:=⟨bl,1,none⟩) hltbl).trans k1,(g2.cell (p:=⟨bl,2,none⟩) hltbl).trans k2,(g2.cell (p:=⟨bm,0,none⟩) hltbm).trans k4,(g2.cell (p:=⟨bm,1,none⟩) hltbm).trans k5,(g2.cell (p:=⟨bm,2,none⟩) hltbm).trans k6,(g2.cell (p:=⟨bm,3,none⟩) hltbm).trans k7⟩
     | exact ⟨(g1.cell (p:=⟨bl,0,none⟩) hltbl).trans k0,(g1.cell (p:=⟨bl,1,none⟩) hltbl).trans k1,(g1.cell (p:=⟨bl,2,none⟩) hltbl).trans k2,(g1.cell (p:=⟨bm,0,none⟩) hltbm).trans k4,(g1.cell (p:=⟨bm,1,none⟩) hltbm).trans k5,(g1.cell (p:=⟨bm,2,none⟩) hltbm).trans k6,(g1.cell (p:=⟨bm,3,none⟩) hltbm).trans k7⟩)
   (first
     | (go_at_call 190; (with_reducible refine (HM1.out _ ?_).mono ?_); exact hq.drew; rintro e w1 ⟨p1,rfl,t1,g1,_⟩)
     | (go_at_call 190; (with_reducible refine (HM2.out _ ?_).mono ?_); exact g1; rintro e w2 ⟨p2,rfl,t2,g2,g2'⟩)
     | (go_at_call 190; (with_reducible refine (s_made _ mk mv (.node lk lv ll ml) (.node k v mr r) (some p1) (some p2) ?_ t2 ?_).mono ?_); exact STree.below g2' t1; exact HN.out; rintro e w3 ⟨p3,rfl,t3,g3'⟩; have g3:=g2.trans (g3'.mono g2.size)))
 go_wp2
 go_ret
 exact ⟨p3,rfl,t3,g3⟩
set_option maxHeartbeats 2000000 in
theorem s_evenR1 (w : World) (k : ByteArray) (v : ByteArray) (rk : ByteArray) (rv : ByteArray) (l rl rr : Tr ByteArray ByteArray) (pl pr : Option Addr) (hl : STree w l pl) (hr : STree w (.node rk rv rl rr) pr)
 (hn : l.size + (Tr.node rk rv rl rr).size < 1000000000) (h1 : l.tall + 1 < (Tr.node rk rv rl rr).tall) (h2 : rl.tall ≤ rr.tall) :
 Calls Tryz.prog 188 #[.string k,.string v,.pointer pl,.pointer pr] w fun e w' => ∃ p,e = .returned (.pointer (some p)) ∧ STree w' (.node rk rv (.node k v l rl) rr) (some p) ∧ Below w.heap.size w w':=by
 obtain ⟨a,ea,a0,a1,HA⟩:=s_tallI hl (by omega)
 obtain ⟨b,eb,b0,b1,HB⟩:=s_tallI hr (by omega)
 obtain ⟨bl,pll,plr,rfl,hbl,hll,hlr⟩:=hr
 obtain ⟨c,ec,c0,c1,HC⟩:=s_tallI hlr (by simp only [Tr.size] at hn; omega)
 obtain ⟨d,ed,d0,d1,HE⟩:=s_tallI hll (by simp only [Tr.size] at hn; omega)
 have t1 : a + 1 < b:=by rw [ea.out,eb.out]; omega
 have t3 : a ≤ b + 1:=by omega
 have t2 : d ≤ c:=by rw [ec.out,ed.out]; exact_mod_cast h2
 have HM:=s_madeH k v hl hll (by simp only [Tr.size] at hn; omega)
 have HN : Hid ((Tr.node k v l rl).size + rr.size < 1000000000):=hid (by simp only [Tr.size] at hn ⊢; omega)
 have HLL:=hid hlr
 have hltbl:=lt_of_block hbl
 have k0 : w.cell? ⟨bl,0,none⟩ = some (.string rk):=blk_cell hbl 0
 have k1 : w.cell? ⟨bl,1,none⟩ = some (.string rv):=blk_cell hbl 1
 have k2 : w.cell? ⟨bl,2,none⟩ = some (.pointer pll):=blk_cell hbl 2
 have k3 : w.cell? ⟨bl,3,none⟩ = some (.pointer plr):=blk_cell hbl 3
 clear hn h1 h2 hbl hll hlr hl
 go_enter Tryz.func188,Tryz.ntmps188
 go_wp2_with fail
 refine (HA.out _ (Below.refl _ _)).mono ?_
 rintro e w' ⟨rfl,rfl⟩
 go_wp2_with fail
 refine (HB.out _ (Below.refl _ _)).mono ?_
 rintro e w' ⟨rfl,rfl⟩
 go_wp2_with fail
 refine (HB.out _ (Below.refl _ _)).mono ?_
 rintro e w' ⟨rfl,rfl⟩
 go_wp2_with fail
 refine (HA.out _ (Below.refl _ _)).mono ?_
 rintro e w' ⟨rfl,rfl⟩
 go_wp2_with fail
 go_quiet ((go_at_call 206; first | (with_reducible exact quiet_hid HC) | (with_reducible exact quiet_hid HE)))
 go_wp2_with fail
 have hq : Below w.heap.size w (w.drewN nq):=⟨rfl,rfl,rfl,Nat.le_refl _,fun _ _ => rfl⟩
 go_region_held3 (fun w' => w'.cell? ⟨bl,0,none⟩ = some (.string rk) ∧ w'.cell? ⟨bl,1,none⟩ = some (.string rv) ∧ w'.cell? ⟨bl,2,none⟩ = some (.pointer pll) ∧ w'.cell? ⟨bl,3,none⟩ = some (.pointer plr))
   (first
     | go_keep
     | exact ⟨(g2.cell (p:=⟨bl,0,none⟩) hltbl).trans k0,(g2.cell (p:=⟨bl,1,none⟩) hltbl).trans k1,(g2.cell (p:=⟨bl,2,none⟩) hltbl).trans k2,(g2.cell (p:=⟨bl,3,none⟩) hltbl).trans k3⟩
     | exact ⟨(g1.cell (p:=⟨bl,0,none⟩) hltbl).trans k0,(g1.cell (p:=⟨bl,1,none⟩) hltbl).trans k1,(g1.cell (p:=⟨bl,2,none⟩) hltbl).trans k2,(g1.cell (p:=⟨bl,3,none⟩) hltbl).trans k3⟩)
   (first
     | (go_at_call 190; (with_reducible refine (HM.out _ ?_).mono ?_); exact hq.drew; rintro e w1 ⟨p1,rfl,t1,g1,_⟩)
     | (go_at_call 190; (with_reducible refine (s_made _ rk rv (.node k v l rl) rr (some p1) plr t1 ?_ ?_).mono ?_); exact (HLL.out).below g1; exact HN.out; rintro e w2 ⟨p2,rfl,t2,g2'⟩; have g2:=g1.trans (g2'.mono g1.size)))
 go_wp2
 go_ret
 exact ⟨p2,rfl,t2,g2⟩
set_option maxHeartbeats 2000000 in
theorem s_evenR2 (w : World) (k : ByteArray) (v : ByteArray) (rk : ByteArray) (rv : ByteArray) (l : Tr ByteArray ByteArray) (mk : ByteArray) (mv : ByteArray) (ml mr rr : Tr ByteArray ByteArray) (pl pr : Option Addr) (hl : STree w l pl) (hr : STree w (Tr.node rk rv (Tr.node mk mv ml mr) rr) pr)
 (hn : l.size + (Tr.node rk rv (Tr.node mk mv ml mr) rr).size < 1000000000) (h1 : l.tall + 1 < (Tr.node rk rv (Tr.node mk mv ml mr) rr).tall) (h2 : rr.tall < (Tr.node mk mv ml mr).tall) :
 Calls Tryz.prog 188 #[.string k,.string v,.pointer pl,.pointer pr] w fun e w' => ∃ p,e = .returned (.pointer (some p)) ∧ STree w' (.node mk mv (.node k v l ml) (.node rk rv mr rr)) (some p) ∧ Below w.heap.size w w':=by
 obtain ⟨a,ea,a0,a1,HA⟩:=s_tallI hl (by omega)
 obtain ⟨b,eb,b0,b1,HB⟩:=s_tallI hr (by omega)
 obtain ⟨bl,pll,plr,rfl,hbl,hll,hlr⟩:=hr
 obtain ⟨c,ec,c0,c1,HC⟩:=s_tallI hlr (by simp only [Tr.size] at hn; omega)
 obtain ⟨d,ed,d0,d1,HE⟩:=s_tallI hll (by simp only [Tr.size] at hn ⊢; omega)
 have t1 : a + 1 < b:=by rw [ea.out,eb.out]; omega
 have t3 : a ≤ b + 1:=by omega
 have t2 : c < d:=by rw [ec.out,ed.out]; exact_mod_cast h2
 have HN : Hid ((Tr.node k v l ml).size + (Tr.node rk rv mr rr).size < 1000000000):=hid (by simp only [Tr.size] at hn ⊢; omega)
 obtain ⟨bm,pml,pmr,e9,hbm,hml,hmr⟩:=hll
 subst e9
 have HM1:=s_madeH k v hl hml (by simp only [Tr.size] at hn; omega)
 have HM2:=s_madeH rk rv hmr hlr (by simp only [Tr.size] at hn; omega)
 have hltbl:=lt_of_block hbl
 have hltbm:=lt_of_block hbm
 have k0 : w.cell? ⟨bl,0,none⟩ = some (.string rk):=blk_cell hbl 0
 have k1 : w.cell? ⟨bl,1,none⟩ = some (.string rv):=blk_cell hbl 1
 have k2 : w.cell? ⟨bl,2,none⟩ = some (.pointer (some ⟨bm,0,none⟩)):=blk_cell hbl 2
 have k3 : w.cell? ⟨bl,3,none⟩ = some (.pointer plr):=blk_cell hbl 3
 have k4 : w.cell? ⟨bm,0,none⟩ = some (.string mk):=blk_cell hbm 0
 have k5 : w.cell? ⟨bm,1,none⟩ = some (.string mv):=blk_cell hbm 1
 have k6 : w.cell? ⟨bm,2,none⟩ = some (.pointer pml):=blk_cell hbm 2
 have k7 : w.cell? ⟨bm,3,none⟩ = some (.pointer pmr):=blk_cell hbm 3
 clear hn h1 h2 hbl hbm hlr hml hmr hl
 go_enter Tryz.func188,Tryz.ntmps188
 go_wp2_with fail
 refine (HA.out _ (Below.refl _ _)).mono ?_
 rintro e w' ⟨rfl,rfl⟩
 go_wp2_with fail
 refine (HB.out _ (Below.refl _ _)).mono ?_
 rintro e w' ⟨rfl,rfl⟩
 go_wp2_with fail
 refine (HB.out _ (Below.refl _ _)).mono ?_
 rintro e w' ⟨rfl,rfl⟩
 go_wp2_with fail
 refine (HA.out _ (Below.refl _ _)).mono ?_
 rintro e w' ⟨rfl,rfl⟩
 go_wp2_with fail
 go_quiet ((go_at_call 206; first | (with_reducible exact quiet_hid HC) | (with_reducible exact quiet_hid HE)))
 go_wp2_with fail
 have hq : Below w.heap.size w (w.drewN nq):=⟨rfl,rfl,rfl,Nat.le_refl _,fun _ _ => rfl⟩
 go_region_held3 (fun w' => w'.cell? ⟨bl,0,none⟩ = some (.string rk) ∧ w'.cell? ⟨bl,1,none⟩ = some (.string rv) ∧ w'.cell? ⟨bl,3,none⟩ = some (.pointer plr) ∧ w'.cell? ⟨bm,0,none⟩ = some (.string mk) ∧ w'.cell? ⟨bm,1,none⟩ = some (.string mv) ∧ w'.cell? ⟨bm,2,none⟩ = some (.pointer pml) ∧ w'.cell? ⟨bm,3,none⟩ = some (.pointer pmr))
   (first
     | go_keep
     | exact ⟨(g3.cell (p:=⟨bl,0,none⟩) hltbl).trans k0,(g3.cell (p:=⟨bl,1,none⟩) hltbl).trans k1,(g3.cell (p:=⟨bl,3,none⟩) hltbl).trans k3,(g3.cell (p:=⟨bm,0,none⟩) hltbm).trans k4,(g3.cell (p:=⟨bm,1,none⟩) hltbm).trans k5,(g3.cell (p:=⟨bm,2,none⟩) hltbm).trans k6,(g3.cell (p:=⟨bm,3,none⟩) hltbm).trans k7⟩
     | exact ⟨(g2.cell (p:=⟨bl,0,none⟩) hltbl).trans k0,(g2.cell (p:=⟨bl,1,none⟩) hltbl).trans k1,(g2.cell (p:=⟨bl,3,none⟩) hltbl).trans k3,(g2.cell (p:=⟨bm,0,none⟩) hltbm).trans k4,(g2.cell (p:=⟨bm,1,none⟩) hltbm).trans k5,(g2.cell (p:=⟨bm,2,none⟩) hltbm).trans k6,(g2.cell (p:=⟨bm,3,none⟩) hltbm).trans k7⟩
     | exact ⟨(g1.cell (p:=⟨bl,0,none⟩) hltbl).trans k0,(g1.cell (p:=⟨bl,1,none⟩) hltbl).trans k1,(g1.cell (p:=⟨bl,3,none⟩) hltbl).trans k3,(g1.cell (p:=⟨bm,0,none⟩) hltbm).trans k4,(g1.cell (p:=⟨bm,1,none⟩) hltbm).trans k5,(g1.cell (p:=⟨bm,2,none⟩) hltbm).trans k6,(g1.cell (p:=⟨bm,3,none⟩) hltbm).trans k7⟩)
   (first
     | (go_at_call 190; (with_reducible refine (HM1.out _ ?_).mono ?_); exact hq.drew; rintro e w1 ⟨p1,rfl,t1,g1,_⟩)
     | (go_at_call 190; (with_reducible refine (HM2.out _ ?_).mono ?_); exact g1; rintro e w2 ⟨p2,rfl,t2,g2,g2'⟩)
     | (go_at_call 190; (with_reducible refine (s_made _ mk mv (.node k v l ml) (.node rk rv mr rr) (some p1) (some p2) ?_ t2 ?_).mono ?_); exact STree.below g2' t1; exact HN.out; rintro e w3 ⟨p3,rfl,t3,g3'⟩; have g3:=g2.trans (g3'.mono g2.size)))
 go_wp2
 go_ret
 exact ⟨p3,rfl,t3,g3⟩
theorem s_even (w : World) (k : ByteArray) (v : ByteArray) (l r : Tr ByteArray ByteArray) (pl pr : Option Addr) (hl : STree w l pl) (hr : STree w r pr) (hn : l.size + r.size < 1000000000) :
 Calls Tryz.prog 188 #[.string k,.string v,.pointer pl,.pointer pr] w fun e w' => ∃ p,e = .returned (.pointer (some p)) ∧ STree w' (Tr.even k v l r) (some p) ∧ Below w.heap.size w w':=by
 by_cases c1 : r.tall + 1 < l.tall
 ·cases l with
  | leaf => simp [Tr.tall] at c1
  | node lk lv ll lr =>
    by_cases c2 : lr.tall ≤ ll.tall
    ·have e : Tr.even k v (.node lk lv ll lr) r = .node lk lv ll (.node k v lr r):=by unfold Tr.even; rw [if_pos c1]; simp only; rw [if_pos c2]
     rw [e]; exact s_evenL1 w k v lk lv ll lr r pl pr hl hr hn c1 c2
    ·cases lr with
     | leaf => simp [Tr.tall] at c2
     | node mk mv ml mr =>
       have e : Tr.even k v (.node lk lv ll (.node mk mv ml mr)) r = .node mk mv (.node lk lv ll ml) (.node k v mr r):=by unfold Tr.even; rw [if_pos c1]; simp only; rw [if_neg c2]
       rw [e]; exact s_evenL2 w k v lk lv ll mk mv ml mr r pl pr hl hr hn c1 (by omega)
 ·by_cases c3 : l.tall + 1 < r.tall
  ·cases r with
   | leaf => simp [Tr.tall] at c3
   | node rk rv rl rr =>
     by_cases c2 : rl.tall ≤ rr.tall
     ·have e : Tr.even k v l (.node rk rv rl rr) = .node rk rv (.node k v l rl) rr:=by unfold Tr.even; rw [if_neg c1,if_pos c3]; simp only; rw [if_pos c2]
      rw [e]; exact s_evenR1 w k v rk rv l rl rr pl pr hl hr hn c3 c2
     ·cases rl with
      | leaf => simp [Tr.tall] at c2
      | node mk mv ml mr =>
        have e : Tr.even k v l (.node rk rv (.node mk mv ml mr) rr) = .node mk mv (.node k v l ml) (.node rk rv mr rr):=by unfold Tr.even; rw [if_neg c1,if_pos c3]; simp only; rw [if_neg c2]
        rw [e]; exact s_evenR2 w k v rk rv l mk mv ml mr rr pl pr hl hr hn c3 (by omega)
  ·have e : Tr.even k v l r = .node k v l r:=by unfold Tr.even; rw [if_neg c1,if_neg c3]
   rw [e]; exact s_even0 w k v l r pl pr hl hr hn (by omega) (by omega)
theorem s_evenH {w : World} (k : ByteArray) (v : ByteArray) {l r : Tr ByteArray ByteArray} {pl pr : Option Addr} (hl : STree w l pl) (hr : STree w r pr) (hn : l.size + r.size < 1000000000) :
 Hid (∀ w1,Below w.heap.size w w1 → Calls Tryz.prog 188 #[.string k,.string v,.pointer pl,.pointer pr] w1 fun e w' => ∃ p,e = .returned (.pointer (some p)) ∧ STree w' (Tr.even k v l r) (some p) ∧ Below w.heap.size w w' ∧ Below w1.heap.size w1 w') :=
 hid (fun w1 hb => (s_even w1 k v l r pl pr (hl.below hb) (hr.below hb) hn).mono (fun _ _ ⟨p,he,ht,hb1⟩ => ⟨p,he,ht,hb.trans (hb1.mono hb.size),hb1⟩))
theorem s_later {w : World} {f : FuncId} {args : Array Value} {t : Tr ByteArray ByteArray}
 (h : ∀ w1,Below w.heap.size w w1 → Calls Tryz.prog f args w1 fun e w' => ∃ q,e = .returned (.pointer (some q)) ∧ STree w' t (some q) ∧ Below w1.heap.size w1 w') :
 Hid (∀ w1,Below w.heap.size w w1 → Calls Tryz.prog f args w1 fun e w' => ∃ q,e = .returned (.pointer (some q)) ∧ STree w' t (some q) ∧ Below w.heap.size w w') :=
 hid (fun w1 hb => (h w1 hb).mono (fun _ _ ⟨q,he,ht,hb1⟩ => ⟨q,he,ht,hb.trans (hb1.mono hb.size)⟩))
theorem s_laterO {w : World} {f : FuncId} {args : Array Value} {t : Tr ByteArray ByteArray}
 (h : ∀ w1,Below w.heap.size w w1 → Calls Tryz.prog f args w1 fun e w' => ∃ q,e = .returned (.pointer q) ∧ STree w' t q ∧ Below w1.heap.size w1 w') :
 Hid (∀ w1,Below w.heap.size w w1 → Calls Tryz.prog f args w1 fun e w' => ∃ q,e = .returned (.pointer q) ∧ STree w' t q ∧ Below w.heap.size w w') :=
 hid (fun w1 hb => (h w1 hb).mono (fun _ _ ⟨q,he,ht,hb1⟩ => ⟨q,he,ht,hb.trans (hb1.mono hb.size)⟩))
set_option maxHeartbeats 2000000 in
theorem s_put (k : ByteArray) (v : ByteArray) : ∀ (t : Tr ByteArray ByteArray) (p : Option Addr) (w : World),STree w t p → t.size < 900000000 →
 Calls Tryz.prog 164 #[.pointer p,.string k,.string v] w fun e w' => ∃ q,e = .returned (.pointer (some q)) ∧ STree w' (t.put slt k v) (some q) ∧ Below w.heap.size w w':=by
 intro t
 induction t with
 | leaf =>
   rintro p w rfl hn
   have HM:=s_madeH (w:=w) k v (l:=.leaf) (r:=.leaf) (pl:=none) (pr:=none) rfl rfl (by simp [Tr.size])
   go_enter Tryz.func164,Tryz.ntmps164
   go_wp2_with fail
   refine (HM.out _ (Below.refl _ _)).mono ?_
   rintro e w1 ⟨p1,rfl,t1,g1,_⟩
   go_wp2
   go_ret
   exact ⟨p1,rfl,t1,g1⟩
 | node k' v' l r ihl ihr =>
   rintro p w ⟨b,pl,pr,rfl,hb,hl,hr⟩ hn
   have hs : (Tr.node k' v' l r).size = 1 + l.size + r.size:=rfl
   have sl:=size_put (lt:=slt) l k v
   have sr:=size_put (lt:=slt) r k v
   have hlt:=lt_of_block hb
   have k0 : w.cell? ⟨b,0,none⟩ = some (.string k'):=blk_cell hb 0
   have k1 : w.cell? ⟨b,1,none⟩ = some (.string v'):=blk_cell hb 1
   have k2 : w.cell? ⟨b,2,none⟩ = some (.pointer pl):=blk_cell hb 2
   have k3 : w.cell? ⟨b,3,none⟩ = some (.pointer pr):=blk_cell hb 3
   have IHL:=s_later (fun w1 (hb1 : Below w.heap.size w w1) => ihl pl w1 (hl.below hb1) (by omega))
   have IHR:=s_later (fun w1 (hb1 : Below w.heap.size w w1) => ihr pr w1 (hr.below hb1) (by omega))
   have HL:=hid hl
   have HR:=hid hr
   have HN1:=hid (show (l.put slt k v).size + r.size < 1000000000 by omega)
   have HN2:=hid (show l.size + (r.put slt k v).size < 1000000000 by omega)
   have HM:=s_madeH k v hl hr (by omega)
   clear ihl ihr hs sl sr hn hb hl hr
   cases c1 : slt k k' with
   | true =>
     have hp : Hid (Tr.put slt (.node k' v' l r) k v = Tr.even k' v' (l.put slt k v) r):=hid (by show Tr.put slt _ k v = _; rw [Tr.put]; rw [if_pos c1])
     have q1 : Op.bytesLess k.toList k'.toList = true:=c1
     clear c1
     go_enter Tryz.func164,Tryz.ntmps164
     go_wp2_with fail
     go_region_held3 (fun w' => w'.cell? ⟨b,0,none⟩ = some (.string k') ∧ w'.cell? ⟨b,1,none⟩ = some (.string v') ∧ w'.cell? ⟨b,2,none⟩ = some (.pointer pl) ∧ w'.cell? ⟨b,3,none⟩ = some (.pointer pr))
       (first
         | go_keep
         | exact ⟨(g2.cell (p:=⟨b,0,none⟩) hlt).trans k0,(g2.cell (p:=⟨b,1,none⟩) hlt).trans k1,(g2.cell (p:=⟨b,2,none⟩) hlt).trans k2,(g2.cell (p:=⟨b,3,none⟩) hlt).trans k3⟩
         | exact ⟨(g1.cell (p:=⟨b,0,none⟩) hlt).trans k0,(g1.cell (p:=⟨b,1,none⟩) hlt).trans k1,(g1.cell (p:=⟨b,2,none⟩) hlt).trans k2,(g1.cell (p:=⟨b,3,none⟩) hlt).trans k3⟩)
       (first
         | (go_at_call 164; (with_reducible refine (IHL.out _ ?_).mono ?_); exact (Below.refl _ _).drew; rintro e w1 ⟨p1,rfl,t1,g1⟩)
         | (go_at_call 188; (with_reducible refine (s_even _ k' v' (l.put slt k v) r (some p1) pr t1 ?_ ?_).mono ?_); exact (HR.out).below g1; exact HN1.out; rintro e w2 ⟨p2,rfl,t2,g2'⟩; have g2:=g1.trans (g2'.mono g1.size)))
     go_wp2
     go_ret
     rw [hp.out]
     exact ⟨p2,rfl,t2,g2⟩
   | false =>
     cases c2 : slt k' k with
     | true =>
       have hp : Hid (Tr.put slt (.node k' v' l r) k v = Tr.even k' v' l (r.put slt k v)):=hid (by show Tr.put slt _ k v = _; rw [Tr.put]; rw [if_neg (by simp [c1]),if_pos c2])
       have q1 : Op.bytesLess k.toList k'.toList = false:=c1
       have q2 : (k.toList == k'.toList) = false:=slt_gt c1 c2
       clear c1 c2
       go_enter Tryz.func164,Tryz.ntmps164
       go_wp2_with fail
       go_region_held3 (fun w' => w'.cell? ⟨b,0,none⟩ = some (.string k') ∧ w'.cell? ⟨b,1,none⟩ = some (.string v') ∧ w'.cell? ⟨b,2,none⟩ = some (.pointer pl) ∧ w'.cell? ⟨b,3,none⟩ = some (.pointer pr))
         (first
           | go_keep
           | exact ⟨(g2.cell (p:=⟨b,0,none⟩) hlt).trans k0,(g2.cell (p:=⟨b,1,none⟩) hlt).trans k1,(g2.cell (p:=⟨b,2,none⟩) hlt).trans k2,(g2.cell (p:=⟨b,3,none⟩) hlt).trans k3⟩
           | exact ⟨(g1.cell (p:=⟨b,0,none⟩) hlt).trans k0,(g1.cell (p:=⟨b,1,none⟩) hlt).trans k1,(g1.cell (p:=⟨b,2,none⟩) hlt).trans k2,(g1.cell (p:=⟨b,3,none⟩) hlt).trans k3⟩)
         (first
           | (go_at_call 164; (with_reducible refine (IHR.out _ ?_).mono ?_); exact (Below.refl _ _).drew; rintro e w1 ⟨p1,rfl,t1,g1⟩)
           | (go_at_call 188; (with_reducible refine (s_even _ k' v' l (r.put slt k v) pl (some p1) ?_ t1 ?_).mono ?_); exact (HL.out).below g1; exact HN2.out; rintro e w2 ⟨p2,rfl,t2,g2'⟩; have g2:=g1.trans (g2'.mono g1.size)))
       go_wp2
       go_ret
       rw [hp.out]
       exact ⟨p2,rfl,t2,g2⟩
     | false =>
       obtain rfl:=slt_ord.eq _ _ c1 c2
       have hp : Hid (Tr.put slt (.node k v' l r) k v = Tr.node k v l r):=hid (by show Tr.put slt _ k v = _; rw [Tr.put]; rw [if_neg (by simp [c1]),if_neg (by simp [c1])])
       have q1 : Op.bytesLess k.toList k.toList = false:=c1
       clear c1 c2
       go_enter Tryz.func164,Tryz.ntmps164
       go_wp2_with fail
       go_region_held3 (fun w' => w'.cell? ⟨b,2,none⟩ = some (.pointer pl) ∧ w'.cell? ⟨b,3,none⟩ = some (.pointer pr))
         (first
           | go_keep
           | exact ⟨(g1.cell (p:=⟨b,2,none⟩) hlt).trans k2,(g1.cell (p:=⟨b,3,none⟩) hlt).trans k3⟩)
         (first
           | (go_at_call 190; (with_reducible refine (HM.out _ ?_).mono ?_); exact (Below.refl _ _).drew; rintro e w1 ⟨p1,rfl,t1,g1,_⟩))
       go_wp2
       go_ret
       rw [hp.out]
       exact ⟨p1,rfl,t1,g1⟩
set_option maxHeartbeats 2000000 in
theorem s_first : ∀ (t : Tr ByteArray ByteArray) (p : Option Addr) (w : World),STree w t p → t ≠ .leaf → t.size < 900000000 →
 Calls Tryz.prog 189 #[.pointer p] w fun e w' => ∃ q q',e = .returned (.tuple #[.pointer (some q),.pointer q']) ∧ STree w' (Tr.first t).1 (some q) ∧ STree w' (Tr.first t).2 q' ∧ Below w.heap.size w w':=by
 intro t
 induction t with
 | leaf => intro p w _ h; exact absurd rfl h
 | node k v l r ihl ihr =>
   rintro p w ht _ hn
   have HT:=hid ht
   obtain ⟨b,pl,pr,rfl,hb,hl,hr⟩:=ht
   have hlt:=lt_of_block hb
   have k0 : w.cell? ⟨b,0,none⟩ = some (.string k):=blk_cell hb 0
   have k1 : w.cell? ⟨b,1,none⟩ = some (.string v):=blk_cell hb 1
   have k2 : w.cell? ⟨b,2,none⟩ = some (.pointer pl):=blk_cell hb 2
   have k3 : w.cell? ⟨b,3,none⟩ = some (.pointer pr):=blk_cell hb 3
   cases l with
   | leaf =>
     obtain rfl : pl = none:=hl
     have HR:=hid hr
     clear ihl ihr hn hb hr
     go_enter Tryz.func189,Tryz.ntmps189
     go_wp2_with fail
     go_quiet (fail)
     go_wp2
     go_ret2
     have hq : Below w.heap.size w (w.drewN nq):=⟨rfl,rfl,rfl,Nat.le_refl _,fun _ _ => rfl⟩
     exact ⟨_,_,rfl,HT.out.below hq,HR.out.below hq,hq⟩
   | node k' v' l' r' =>
     obtain ⟨b2,hpl⟩ : ∃ b2,pl = some ⟨b2,0,none⟩:=by obtain ⟨b2,_,_,e,_⟩:=hl; exact ⟨b2,e⟩
     subst hpl
     have hs : (Tr.node k v (.node k' v' l' r') r).size = 1 + (Tr.node k' v' l' r').size + r.size:=rfl
     have sf:=size_first (Tr.node k' v' l' r')
     have IH:=hid (ihl _ w hl (by simp) (by omega))
     have HR:=hid hr
     have HN:=hid (show (Tr.first (Tr.node k' v' l' r')).2.size + r.size < 1000000000 by omega)
     clear ihl ihr hn hb hr hl hs sf
     go_enter Tryz.func189,Tryz.ntmps189
     go_wp2_with fail
     refine IH.out.mono ?_
     rintro e w1 ⟨q,q',rfl,t1,t2,g1⟩
     have k01:=(g1.cell (p:=⟨b,0,none⟩) hlt).trans k0
     have k11:=(g1.cell (p:=⟨b,1,none⟩) hlt).trans k1
     have k31:=(g1.cell (p:=⟨b,3,none⟩) hlt).trans k3
     have hlt1 : b < w1.heap.size:=Nat.lt_of_lt_of_le hlt g1.size
     have HE:=s_evenH k v t2 (HR.out.below g1) HN.out
     have T1:=hid t1
     have G1:=hid g1
     clear k0 k1 k2 k3 t1 t2 g1
     go_wp2_with fail
     go_region_held3 (fun w' => w'.cell? ⟨b,0,none⟩ = some (.string k) ∧ w'.cell? ⟨b,1,none⟩ = some (.string v) ∧ w'.cell? ⟨b,3,none⟩ = some (.pointer pr))
       (first
         | go_keep
         | exact ⟨(g2.cell (p:=⟨b,0,none⟩) hlt1).trans k01,(g2.cell (p:=⟨b,1,none⟩) hlt1).trans k11,(g2.cell (p:=⟨b,3,none⟩) hlt1).trans k31⟩)
       (first
         | (go_at_call 188; (with_reducible refine (HE.out _ ?_).mono ?_); exact (Below.refl _ _).drew; rintro e w2 ⟨p2,rfl,t2,g2,_⟩))
     go_wp2
     go_ret2
     exact ⟨_,_,rfl,T1.out.below g2,t2,G1.out.trans (g2.mono G1.out.size)⟩
set_option maxHeartbeats 2000000 in
theorem s_drop (k : ByteArray) : ∀ (t : Tr ByteArray ByteArray) (p : Option Addr) (w : World),STree w t p → t.size < 900000000 →
 Calls Tryz.prog 163 #[.pointer p,.string k] w fun e w' => ∃ q,e = .returned (.pointer q) ∧ STree w' (t.drop slt k) q ∧ Below w.heap.size w w':=by
 intro t
 induction t with
 | leaf =>
   rintro p w rfl hn
   go_enter Tryz.func163,Tryz.ntmps163
   go_wp2
   go_ret
   exact ⟨none,rfl,rfl,Below.refl _ _⟩
 | node k' v' l r ihl ihr =>
   rintro p w ⟨b,pl,pr,rfl,hb,hl,hr⟩ hn
   have hs : (Tr.node k' v' l r).size = 1 + l.size + r.size:=rfl
   have sl:=size_drop (lt:=slt) l k
   have sr:=size_drop (lt:=slt) r k
   have hlt:=lt_of_block hb
   have k0 : w.cell? ⟨b,0,none⟩ = some (.string k'):=blk_cell hb 0
   have k1 : w.cell? ⟨b,1,none⟩ = some (.string v'):=blk_cell hb 1
   have k2 : w.cell? ⟨b,2,none⟩ = some (.pointer pl):=blk_cell hb 2
   have k3 : w.cell? ⟨b,3,none⟩ = some (.pointer pr):=blk_cell hb 3
   have IHL:=s_laterO (fun w1 (hb1 : Below w.heap.size w w1) => ihl pl w1 (hl.below hb1) (by omega))
   have IHR:=s_laterO (fun w1 (hb1 : Below w.heap.size w w1) => ihr pr w1 (hr.below hb1) (by omega))
   have HL:=hid hl
   have HR:=hid hr
   have HN1:=hid (show (l.drop slt k).size + r.size < 1000000000 by omega)
   have HN2:=hid (show l.size + (r.drop slt k).size < 1000000000 by omega)
   have HN:=hid hn
   clear ihl ihr hs sl sr hn hb hl hr
   cases c1 : slt k k' with
   | true =>
     have hp:=hid (Tr.drop_lt (v':=v') (l:=l) (r:=r) c1)
     have q1 : Op.bytesLess k.toList k'.toList = true:=c1
     clear c1
     go_enter Tryz.func163,Tryz.ntmps163
     go_wp2_with fail
     go_region_held3 (fun w' => w'.cell? ⟨b,0,none⟩ = some (.string k') ∧ w'.cell? ⟨b,1,none⟩ = some (.string v') ∧ w'.cell? ⟨b,2,none⟩ = some (.pointer pl) ∧ w'.cell? ⟨b,3,none⟩ = some (.pointer pr))
       (first
         | go_keep
         | exact ⟨(g2.cell (p:=⟨b,0,none⟩) hlt).trans k0,(g2.cell (p:=⟨b,1,none⟩) hlt).trans k1,(g2.cell (p:=⟨b,2,none⟩) hlt).trans k2,(g2.cell (p:=⟨b,3,none⟩) hlt).trans k3⟩
         | exact ⟨(g1.cell (p:=⟨b,0,none⟩) hlt).trans k0,(g1.cell (p:=⟨b,1,none⟩) hlt).trans k1,(g1.cell (p:=⟨b,2,none⟩) hlt).trans k2,(g1.cell (p:=⟨b,3,none⟩) hlt).trans k3⟩)
       (first
         | (go_at_call 163; (with_reducible refine (IHL.out _ ?_).mono ?_); exact (Below.refl _ _).drew; rintro e w1 ⟨p1,rfl,t1,g1⟩)
         | (go_at_call 188; (with_reducible refine (s_even _ k' v' (l.drop slt k) r p1 pr t1 ?_ ?_).mono ?_); exact (HR.out).below g1; exact HN1.out; rintro e w2 ⟨p2,rfl,t2,g2'⟩; have g2:=g1.trans (g2'.mono g1.size)))
     go_wp2
     go_ret
     rw [hp.out]
     exact ⟨some p2,rfl,t2,g2⟩
   | false =>
     cases c2 : slt k' k with
     | true =>
       have hp:=hid (Tr.drop_gt (v':=v') (l:=l) (r:=r) c1 c2)
       have q1 : Op.bytesLess k.toList k'.toList = false:=c1
       have q2 : (k.toList == k'.toList) = false:=slt_gt c1 c2
       clear c1 c2
       go_enter Tryz.func163,Tryz.ntmps163
       go_wp2_with fail
       go_region_held3 (fun w' => w'.cell? ⟨b,0,none⟩ = some (.string k') ∧ w'.cell? ⟨b,1,none⟩ = some (.string v') ∧ w'.cell? ⟨b,2,none⟩ = some (.pointer pl) ∧ w'.cell? ⟨b,3,none⟩ = some (.pointer pr))
         (first
           | go_keep
           | exact ⟨(g2.cell (p:=⟨b,0,none⟩) hlt).trans k0,(g2.cell (p:=⟨b,1,none⟩) hlt).trans k1,(g2.cell (p:=⟨b,2,none⟩) hlt).trans k2,(g2.cell (p:=⟨b,3,none⟩) hlt).trans k3⟩
           | exact ⟨(g1.cell (p:=⟨b,0,none⟩) hlt).trans k0,(g1.cell (p:=⟨b,1,none⟩) hlt).trans k1,(g1.cell (p:=⟨b,2,none⟩) hlt).trans k2,(g1.cell (p:=⟨b,3,none⟩) hlt).trans k3⟩)
         (first
           | (go_at_call 163; (with_reducible refine (IHR.out _ ?_).mono ?_); exact (Below.refl _ _).drew; rintro e w1 ⟨p1,rfl,t1,g1⟩)
           | (go_at_call 188; (with_reducible refine (s_even _ k' v' l (r.drop slt k) pl p1 ?_ t1 ?_).mono ?_); exact (HL.out).below g1; exact HN2.out; rintro e w2 ⟨p2,rfl,t2,g2'⟩; have g2:=g1.trans (g2'.mono g1.size)))
       go_wp2
       go_ret
       rw [hp.out]
       exact ⟨some p2,rfl,t2,g2⟩
     | false =>
       obtain rfl:=slt_ord.eq _ _ c1 c2
       have q1 : Op.bytesLess k.toList k.toList = false:=c1
       cases r with
       | leaf =>
         have hp:=hid (Tr.drop_eq0 (v':=v') (l:=l) c1)
         obtain rfl : pr = none:=HR.out
         clear c1 c2
         go_enter Tryz.func163,Tryz.ntmps163
         go_wp2
         go_ret
         rw [hp.out]
         exact ⟨pl,rfl,HL.out,Below.refl _ _⟩
       | node kk2 v2 l2 r2 =>
         obtain ⟨b2,hpr⟩ : ∃ b2,pr = some ⟨b2,0,none⟩:=by obtain ⟨b2,_,_,e,_⟩:=HR.out; exact ⟨b2,e⟩
         subst hpr
         obtain ⟨pk,pv,pl3,pr3,e1,_⟩:=Tr.first_node (Tr.node kk2 v2 l2 r2) (by simp)
         have hp:=hid (Tr.drop_eq1 (v':=v') (l:=l) c1 e1)
         have sf:=size_first (Tr.node kk2 v2 l2 r2)
         have HF:=hid (s_first _ _ w HR.out (by simp) (by have:=HN.out; simp only [Tr.size] at this ⊢; omega))
         have HN3:=hid (show l.size + (Tr.first (Tr.node kk2 v2 l2 r2)).2.size < 1000000000 by have:=HN.out; simp only [Tr.size] at this sf ⊢; omega)
         have E1:=hid e1
         clear c1 c2 e1 sf
         go_enter Tryz.func163,Tryz.ntmps163
         go_wp2_with fail
         refine HF.out.mono ?_
         rintro e w1 ⟨q,q',rfl,t1,t2,g1⟩
         rw [E1.out] at t1
         obtain ⟨b3,x1,x2,e3,hb3,_,_⟩:=t1
         obtain rfl:=Option.some.inj e3
         have k01 : w1.cell? ⟨b3,0,none⟩ = some (.string pk):=blk_cell hb3 0
         have k11 : w1.cell? ⟨b3,1,none⟩ = some (.string pv):=blk_cell hb3 1
         have k21:=(g1.cell (p:=⟨b,2,none⟩) hlt).trans k2
         have hlt1 : b < w1.heap.size:=Nat.lt_of_lt_of_le hlt g1.size
         have hlt3:=lt_of_block hb3
         have HE:=s_evenH pk pv (HL.out.below g1) t2 HN3.out
         have G1:=hid g1
         clear k0 k1 k2 k3 t2 g1 hb3
         go_wp2_with fail
         go_region_held3 (fun w' => w'.cell? ⟨b3,0,none⟩ = some (.string pk) ∧ w'.cell? ⟨b3,1,none⟩ = some (.string pv) ∧ w'.cell? ⟨b,2,none⟩ = some (.pointer pl))
           (first
             | go_keep
             | exact ⟨(g2.cell (p:=⟨b3,0,none⟩) hlt3).trans k01,(g2.cell (p:=⟨b3,1,none⟩) hlt3).trans k11,(g2.cell (p:=⟨b,2,none⟩) hlt1).trans k21⟩)
           (first
             | (go_at_call 188; (with_reducible refine (HE.out _ ?_).mono ?_); exact (Below.refl _ _).drew; rintro e w2 ⟨p2,rfl,t2,g2,_⟩))
         go_wp2
         go_ret
         rw [hp.out]
         exact ⟨_,rfl,t2,G1.out.trans (g2.mono G1.out.size)⟩
def getRes (o : Option ByteArray) : Value:=.tuple #[.string (o.getD ByteArray.empty),.bool o.isSome]
set_option maxHeartbeats 2000000 in
theorem s_get (k : ByteArray) (t : Tr ByteArray ByteArray) (p : Option Addr) (w : World) (h : STree w t p) :
 Calls Tryz.prog 152 #[.pointer p,.string k] w fun e w' => e = .returned (getRes (t.get slt k)) ∧ w = w':=by
 go_enter Tryz.func152,Tryz.ntmps152
 go_wp2
 go_loopg [0] (t.size + 1) (fun g s wr => ∃ (x : Tr ByteArray ByteArray) (q : Option Addr),g = x.size + 1 ∧ s = .pointer q ∧ w = wr ∧ Hid (STree w x q) ∧ Hid (x.get slt k = t.get slt k))
 case atStart => exact ⟨t,p,rfl,rfl,rfl,h,rfl⟩
 case round =>
  obtain ⟨x,q,rfl,rfl,rfl,hx,he⟩:=hrel
  cases x with
  | leaf =>
    obtain rfl : q = none:=hx.out
    go_wp2
    go_ret2
    exact ⟨by rw [← he.out]; rfl,rfl⟩
  | node k' v' l r =>
    obtain ⟨b,pl,pr,rfl,hb,hl,hr⟩:=hx.out
    have k0 : w.cell? ⟨b,0,none⟩ = some (.string k'):=blk_cell hb 0
    have k1 : w.cell? ⟨b,1,none⟩ = some (.string v'):=blk_cell hb 1
    have k2 : w.cell? ⟨b,2,none⟩ = some (.pointer pl):=blk_cell hb 2
    have k3 : w.cell? ⟨b,3,none⟩ = some (.pointer pr):=blk_cell hb 3
    have HL:=hid hl
    have HR:=hid hr
    clear h hb hl hr
    cases c1 : slt k k' with
    | true =>
      have h2 : Hid (l.get slt k = t.get slt k):=hid (by rw [← he.out]; exact (if_pos c1).symm)
      have q1 : Op.bytesLess k.toList k'.toList = true:=c1
      clear c1
      go_wp2
      go_roundg (l.size + 1)
      case measure => simp [Tr.size]; omega
      case rel => exact ⟨l,pl,rfl,rfl,rfl,HL,h2⟩
    | false =>
      cases c2 : slt k' k with
      | true =>
        have h2 : Hid (r.get slt k = t.get slt k):=hid (by rw [← he.out]; exact ((if_neg (by simp [c1])).trans (if_pos c2)).symm)
        have q1 : Op.bytesLess k.toList k'.toList = false:=c1
        have q2 : (k.toList == k'.toList) = false:=slt_gt c1 c2
        clear c1 c2
        go_wp2
        go_roundg (r.size + 1)
        case measure => simp [Tr.size]; omega
        case rel => exact ⟨r,pr,rfl,rfl,rfl,HR,h2⟩
      | false =>
        obtain rfl:=slt_ord.eq _ _ c1 c2
        have h2 : Hid (some v' = t.get slt k):=hid (by rw [← he.out]; exact ((if_neg (by simp [c1])).trans (if_neg (by simp [c1]))).symm)
        have q1 : Op.bytesLess k.toList k.toList = false:=c1
        clear c1 c2
        go_wp2
        go_ret2
        exact ⟨by rw [← h2.out]; rfl,rfl⟩
structure STab (w : World) (tb : Nat) (t : Tr ByteArray ByteArray) (ver : Int) : Prop where
 ex : ∃ root,IsBlk w tb (tabCells 0 0 root ver) 160 ∧ STree w t root
set_option maxHeartbeats 400000 in
theorem t_new (w : World) : Calls Tryz.prog 63 #[] w fun e w' => ∃ tb,e = .returned (.pointer (some ⟨tb,0,none⟩)) ∧ STab w' tb .leaf 0 ∧ w.heap.size ≤ tb ∧ tb < w'.heap.size ∧ Below w.heap.size w w':=by
 go_enter Tryz.func63,Tryz.ntmps63
 go_wp2
 go_ret
 exact ⟨w.heap.size,rfl,⟨none,blk_new w _,rfl⟩,Nat.le_refl _,by simp,(Below.refl _ _).alloc (Nat.le_refl _) _⟩
set_option maxHeartbeats 2000000 in
theorem t_put (w : World) (tb : Nat) (t : Tr ByteArray ByteArray) (ver : Int) (k : ByteArray) (v : ByteArray) (h : STab w tb t ver) (h0 : 0 ≤ ver) (h1 : ver < 1000000000) (hs : t.size < 900000000) :
 Calls Tryz.prog 129 #[.pointer (some ⟨tb,0,none⟩),.string k,.string v] w fun e w' => e = .returned (.tuple #[]) ∧ STab w' tb (t.put slt k v) (ver + 1) ∧ Keeps (OnlyS tb) w w':=by
 obtain ⟨root,hb,ht⟩:=h.ex
 have H:=hid h
 have HT:=hid ht
 have HS:=hid hs
 clear h ht hs
 go_enter_defers Tryz.func129,Tryz.ntmps129
 go_wp2_with fail
 refine (t_lock w tb root ver hb).mono ?_
 rintro e w1 ⟨rfl,hb1,hk1,hz1⟩
 have HB:=hid hb
 have HK1:=hid hk1
 have HZ1:=hid hz1
 clear hb hk1 hz1
 go_wp2_with fail
 refine (t_add w1 tb _ _ root ver hb1 h0 h1).mono ?_
 rintro e w2 ⟨⟨v2,rfl⟩,hb2,hk2,hz2⟩
 have HK2:=hid (HK1.out.trans' hk2)
 have ht2:=HT.out.keepT (kept_T HB.out (by decide) HK2.out)
 have hc : w2.cell? ⟨tb,6,none⟩ = some (.pointer root):=blk_cell hb2 6
 have HP:=hid (s_put k v t root w2 ht2 HS.out)
 have HB2:=hid hb2
 clear hb1 hk2 hz2 ht2 hb2
 go_wp2_with fail
 refine HP.out.mono ?_
 rintro e w3 ⟨q,rfl,ht3,hg3⟩
 have hb3 : IsBlk w3 tb (tabCells 1 (-1073741824) root (ver + 1)) 160:=(hg3.block tb (lt_of_block HB2.out)).trans HB2.out
 have hc3 : w3.cell? ⟨tb,6,none⟩ = some (.pointer root):=blk_cell hb3 6
 have hz3 : w3.frozen? ⟨tb,6,none⟩ = false:=blk_free hb3 6
 have HB3:=hid hb3
 have HG3:=hid hg3
 have HT3:=hid ht3
 clear hc hb3 hg3 ht3
 go_wp2_with fail
 refine leaves_cons (f:=77) (args:=#[.pointer (some ⟨tb,0,none⟩)]) (by simp) (by simp [go_sem]) ?_
 have hb4:=blk_set HB3.out 6 (.pointer (some q))
 refine (t_unlockD _ tb .returning (some q) (ver + 1) hb4).mono ?_
 rintro e u' w5 ⟨rfl,rfl,hb5,hk5,_⟩
 have hk4 : Keeps (OnlyS tb) w3 (w3.setCell ⟨tb,6,none⟩ (.pointer (some q))):=keeps_setS _ _ _ _
 refine ⟨_,results_none rfl _ _ _,rfl,⟨some q,hb5,?_⟩,?_⟩
 ·exact HT3.out.keepT (kept_T HB3.out (by decide) (hk4.trans' hk5))
 ·exact ((HK2.out.trans' ((Keeps.of_below HG3.out).mono (fun _ _ h => h.elim))).trans' hk4).trans' hk5
def delT (t : Tr ByteArray ByteArray) (k : ByteArray) : Tr ByteArray ByteArray:=if (t.get slt k).isSome then t.drop slt k else t
set_option maxHeartbeats 2000000 in
theorem t_delete (w : World) (tb : Nat) (t : Tr ByteArray ByteArray) (ver : Int) (k : ByteArray) (h : STab w tb t ver) (h0 : 0 ≤ ver) (h1 : ver < 1000000000) (hs : t.size < 900000000) :
 Calls Tryz.prog 128 #[.pointer (some ⟨tb,0,none⟩),.string k] w fun e w' => e = .returned (.bool (t.get slt k).isSome) ∧ STab w' tb (delT t k) (ver + 1) ∧ Keeps (OnlyS tb) w w':=by
 obtain ⟨root,hb,ht⟩:=h.ex
 have HT:=hid ht
 have HS:=hid hs
 clear h ht hs
 go_enter_defers Tryz.func128,Tryz.ntmps128
 go_wp2_with fail
 refine (t_lock w tb root ver hb).mono ?_
 rintro e w1 ⟨rfl,hb1,hk1,hz1⟩
 have HB:=hid hb
 have HK1:=hid hk1
 clear hb hk1 hz1
 go_wp2_with fail
 refine (t_add w1 tb _ _ root ver hb1 h0 h1).mono ?_
 rintro e w2 ⟨⟨v2,rfl⟩,hb2,hk2,hz2⟩
 have HK2:=hid (HK1.out.trans' hk2)
 have ht2:=HT.out.keepT (kept_T HB.out (by decide) HK2.out)
 have hc : w2.cell? ⟨tb,6,none⟩ = some (.pointer root):=blk_cell hb2 6
 have hz : w2.frozen? ⟨tb,6,none⟩ = false:=blk_free hb2 6
 have HB2:=hid hb2
 have HG:=hid (s_get k t root w2 ht2)
 have HP:=hid (s_drop k t root w2 ht2 HS.out)
 have HT2:=hid ht2
 clear hb1 hk2 hz2 ht2 hb2
 go_wp2_with fail
 refine HG.out.mono ?_
 rintro e w2' ⟨rfl,rfl⟩
 cases hg : (t.get slt k) with
 | none =>
   have HD : Hid (delT t k = t):=hid (by unfold delT; rw [hg]; rfl)
   have HI : Hid ((t.get slt k).isSome = false):=hid (by rw [hg]; rfl)
   clear hg
   simp only [getRes,Option.getD,Option.isSome]
   go_wp2_with fail
   refine leaves_cons (f:=77) (args:=#[.pointer (some ⟨tb,0,none⟩)]) (by simp) (by simp [go_sem]) ?_
   refine (t_unlockD _ tb .returning root (ver + 1) HB2.out).mono ?_
   rintro e u' w5 ⟨rfl,rfl,hb5,hk5,_⟩
   refine ⟨_,results_tmp rfl _ _ _,by rw [HI.out]; rfl,⟨root,hb5,?_⟩,HK2.out.trans' hk5⟩
   rw [HD.out]
   exact HT2.out.keepT (kept_T HB2.out (by decide) hk5)
 | some x =>
   have HD : Hid (delT t k = t.drop slt k):=hid (by unfold delT; rw [hg]; rfl)
   have HI : Hid ((t.get slt k).isSome = true):=hid (by rw [hg]; rfl)
   clear hg
   simp only [getRes,Option.getD,Option.isSome]
   go_wp2_with fail
   refine HP.out.mono ?_
   rintro e w3 ⟨q,rfl,ht3,hg3⟩
   have hb3 : IsBlk w3 tb (tabCells 1 (-1073741824) root (ver + 1)) 160:=(hg3.block tb (lt_of_block HB2.out)).trans HB2.out
   have hc3 : w3.cell? ⟨tb,6,none⟩ = some (.pointer root):=blk_cell hb3 6
   have hz3 : w3.frozen? ⟨tb,6,none⟩ = false:=blk_free hb3 6
   have HB3:=hid hb3
   have HG3:=hid hg3
   have HT3:=hid ht3
   clear hc hz hb3 hg3 ht3
   go_wp2_with fail
   refine leaves_cons (f:=77) (args:=#[.pointer (some ⟨tb,0,none⟩)]) (by simp) (by simp [go_sem]) ?_
   have hb4:=blk_set HB3.out 6 (.pointer q)
   refine (t_unlockD _ tb .returning q (ver + 1) hb4).mono ?_
   rintro e u' w5 ⟨rfl,rfl,hb5,hk5,_⟩
   have hk4 : Keeps (OnlyS tb) w3 (w3.setCell ⟨tb,6,none⟩ (.pointer q)):=keeps_setS _ _ _ _
   refine ⟨_,results_tmp rfl _ _ _,by rw [HI.out]; rfl,⟨q,hb5,?_⟩,?_⟩
   ·rw [HD.out]
    exact HT3.out.keepT (kept_T HB3.out (by decide) (hk4.trans' hk5))
   ·exact ((HK2.out.trans' ((Keeps.of_below HG3.out).mono (fun _ _ h => h.elim))).trans' hk4).trans' hk5
structure SSnap (w : World) (sb : Nat) (t : Tr ByteArray ByteArray) (ver : Int) : Prop where
 ex : ∃ root,IsBlk w sb #[.pointer root,.int .i64 ver] 150 ∧ STree w t root
theorem SSnap.keeps {S : Nat → Prop} {w w' : World} {sb : Nat} {t : Tr ByteArray ByteArray} {ver : Int} (h : SSnap w sb t ver) (hk : Keeps S w w') (h1 : ¬ S sb) (h2 : ∀ b cs,IsBlk w b cs 188 → ¬ S b) : SSnap w' sb t ver:=by
 obtain ⟨root,hb,ht⟩:=h.ex
 exact ⟨root,hk.obj hb h1,ht.keeps hk h2⟩
theorem STab.keeps {S : Nat → Prop} {w w' : World} {tb : Nat} {t : Tr ByteArray ByteArray} {ver : Int} (h : STab w tb t ver) (hk : Keeps S w w') (h1 : ¬ S tb) (h2 : ∀ b cs,IsBlk w b cs 188 → ¬ S b) : STab w' tb t ver:=by
 obtain ⟨root,hb,ht⟩:=h.ex
 exact ⟨root,hk.obj hb h1,ht.keeps hk h2⟩
theorem SSnap.below {w w' : World} {sb : Nat} {t : Tr ByteArray ByteArray} {ver : Int} (h : SSnap w sb t ver) (hk : Below w.heap.size w w') : SSnap w' sb t ver :=
 h.keeps (Keeps.of_below hk) (fun h => h) (fun _ _ _ h => h)
theorem STab.below {w w' : World} {tb : Nat} {t : Tr ByteArray ByteArray} {ver : Int} (h : STab w tb t ver) (hk : Below w.heap.size w w') : STab w' tb t ver :=
 h.keeps (Keeps.of_below hk) (fun h => h) (fun _ _ _ h => h)
set_option maxHeartbeats 2000000 in
theorem t_snapshot (w : World) (tb : Nat) (t : Tr ByteArray ByteArray) (ver : Int) (h : STab w tb t ver) :
 Calls Tryz.prog 96 #[.pointer (some ⟨tb,0,none⟩)] w fun e w' => ∃ sb,e = .returned (.pointer (some ⟨sb,0,none⟩)) ∧ SSnap w' sb t ver ∧ w.heap.size ≤ sb ∧ Below w.heap.size w w':=by
 obtain ⟨root,hb,ht⟩:=h.ex
 have HT:=hid ht
 clear h ht
 go_enter_defers Tryz.func96,Tryz.ntmps96
 go_wp2_with fail
 refine (t_rlock w tb root ver hb).mono ?_
 rintro e w1 ⟨rfl,hb1,hk1,hz1⟩
 have HB:=hid hb
 have HK1:=hid hk1
 have HB1:=hid hb1
 have HZ:=hid hz1
 have hc : w1.cell? ⟨tb,6,none⟩ = some (.pointer root):=blk_cell hb1 6
 have HL : Hid (∀ w2,Below w1.heap.size w1 w2 → Calls Tryz.prog 148 #[.pointer (some ⟨tb,7,none⟩)] w2 fun e w' => e = .returned (.int .i64 ver) ∧ w2 = w') :=
  hid (fun w2 hb2 => t_load w2 tb _ _ root ver ((hb2.block tb (lt_of_block HB1.out)).trans HB1.out))
 clear hb hk1 hb1 hz1
 go_wp2_with fail
 go_region_held3 (fun w' => w'.cell? ⟨tb,6,none⟩ = some (.pointer root))
   (first | go_keep)
   (first
     | (go_at_call 148; (with_reducible refine (HL.out _ ?_).mono ?_); exact (Below.refl _ _).drew; rintro e w2 ⟨rfl,rfl⟩))
 go_wp2_with fail
 refine leaves_cons (f:=93) (args:=#[.pointer (some ⟨tb,0,none⟩)]) (by simp) (by simp [go_sem]) ?_
 have hA : Below w1.heap.size w1 (w1.alloc (.cells #[.pointer root,.int .i64 ver] 150)).drew:=((Below.refl _ _).alloc (Nat.le_refl _) _).drew
 have hb3 : IsBlk (w1.alloc (.cells #[.pointer root,.int .i64 ver] 150)).drew tb (tabCells 0 1 root ver) 160:=(hA.block tb (lt_of_block HB1.out)).trans HB1.out
 have hs3 : IsBlk (w1.alloc (.cells #[.pointer root,.int .i64 ver] 150)).drew w1.heap.size #[.pointer root,.int .i64 ver] 150:=blk_new w1 _
 refine (t_runlockD _ tb .returning root ver hb3).mono ?_
 rintro e u' w5 ⟨rfl,rfl,hb5,hk5,_⟩
 have ht1:=HT.out.keepT (kept_T HB.out (by decide) HK1.out)
 have ht3:=ht1.below hA
 have ht5:=ht3.keepT (kept_T hb3 (by decide) hk5)
 have hne : w1.heap.size ≠ tb:=fun e => by have:=lt_of_block HB1.out; omega
 exact ⟨_,results_tmp rfl _ _ _,w1.heap.size,rfl,⟨root,hk5.obj hs3 hne,ht5⟩,by rw [HZ.out]; exact Nat.le_refl _,((HK1.out.below (hA.mono (by rw [HZ.out]; exact Nat.le_refl _))).trans' hk5).back HB.out hb5⟩
set_option maxHeartbeats 400000 in
theorem t_sget (w : World) (sb : Nat) (t : Tr ByteArray ByteArray) (ver : Int) (k : ByteArray) (h : SSnap w sb t ver) :
 Calls Tryz.prog 100 #[.pointer (some ⟨sb,0,none⟩),.string k] w fun e w' => e = .returned (getRes (t.get slt k)) ∧ w = w':=by
 obtain ⟨root,hb,ht⟩:=h.ex
 have hc : w.cell? ⟨sb,0,none⟩ = some (.pointer root):=blk_cell hb 0
 have HG:=hid (s_get k t root w ht)
 clear h hb ht
 go_enter Tryz.func100,Tryz.ntmps100
 go_wp2_with fail
 refine HG.out.mono ?_
 rintro e w' ⟨rfl,rfl⟩
 simp only [getRes]
 go_wp2
 go_ret2
 exact ⟨rfl,rfl⟩
set_option maxHeartbeats 400000 in
theorem t_slen (w : World) (sb : Nat) (t : Tr ByteArray ByteArray) (ver : Int) (h : SSnap w sb t ver) :
 Calls Tryz.prog 43 #[.pointer (some ⟨sb,0,none⟩)] w fun e w' => e = .returned (.int .i64 (t.size : Int)) ∧ w = w':=by
 obtain ⟨root,hb,ht⟩:=h.ex
 have hc : w.cell? ⟨sb,0,none⟩ = some (.pointer root):=blk_cell hb 0
 have HG:=hid (s_many w t root ht)
 clear h hb ht
 go_enter Tryz.func43,Tryz.ntmps43
 go_wp2_with fail
 refine HG.out.mono ?_
 rintro e w' ⟨rfl,rfl⟩
 go_wp2
 go_ret
 exact ⟨rfl,rfl⟩
end Ss
end Go.Proofs.YtagdchgkjjpacaaGreat
