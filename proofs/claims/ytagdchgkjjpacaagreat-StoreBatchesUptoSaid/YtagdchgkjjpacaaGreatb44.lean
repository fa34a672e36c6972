/- The walks of package store's undo and of Checkpoint's deferred function. -/
import Derived.Test.YtagdchgkjjpacaaGreatb43
set_option maxRecDepth 100000
open Go.Lib (hid)
set_option linter.unusedSimpArgs false
set_option linter.unusedVariables false
set_option linter.unusedSectionVars false
namespace Go.Proofs.YtagdchgkjjpacaaGreat
open Go.RowKit Go.Shelf
structure StW (w0 w : World) (fb : Nat) (S : Nat → Prop) (k : Nat) (G : FsS) (sb : Nat) (c : StC) (m : Prs) (n : Nat) (w' : World) : Prop where
 ex : ∃ T, Hd w0 w' fb G k T ∧ PureS T w' ∧ ∀ i, T i → S i ∨ w.heap.size ≤ i
 st : StB w' sb c m n
 keeps : Keeps (fun i => S i ∨ i = sb) w w'
section
variable {w0 w w' W W' : World} {fb k k' sb n : Nat} {F G : FsS} {S T : Nat → Prop} {c c' : StC} {m : Prs}
theorem StW.trans (h : StW w0 W fb T k G sb c m n w') (hT : ∀ i, T i → S i ∨ w.heap.size ≤ i) (hk : Keeps (fun i => S i ∨ i = sb) w W) : StW w0 w fb S k G sb c m n w' := by
 obtain ⟨U, h1, h2, h3⟩ := h.ex
 exact ⟨⟨U, h1, h2, fun i hi => by rcases h3 i hi with e | e; exact hT i e; exact .inr (Nat.le_trans hk.size e)⟩, h.st, hk.trans h.keeps fun i hi e => by
  rcases e with e | e
  ·rcases hT i e with e | e; exact .inl e; omega
  ·exact .inr e⟩
theorem StW.more (h : StW w0 w fb S k G sb c m n w') (hk : k ≤ k') : StW w0 w fb S k' G sb c m n w' := by
 obtain ⟨U, h1, h2, h3⟩ := h.ex
 exact ⟨⟨U, ⟨h1.fs, h1.low, h1.below, h1.ok.mono hk⟩, h2, h3⟩, h.st, h.keeps⟩
theorem StW.same (h : Hd w0 w fb F k S) (hp : PureS S w) (hs : StB w sb c m n) (hb : Below w.heap.size w w') : StW w0 w fb S k F sb c m n w' :=
 ⟨⟨S, h.read hb, hp.below h.fs.lt hb, fun _ e => .inl e⟩, hs.below hb, (Keeps.of_below hb).mono fun _ _ e => e.elim⟩
theorem StW.met (h : Hd w0 W fb G k T) (hp : PureS T W) (hs : StB W sb c m n) (hlow : w0.heap.size ≤ sb) (hs4 : StIn w' sb c') (hc : c'.tb = c.tb) (hk4 : Keeps (Only sb) W w') (hT : ∀ i, T i → S i ∨ w.heap.size ≤ i) (hk : Keeps (fun i => S i ∨ i = sb) w W) : StW w0 w fb S k G sb c' m n w' := by
 have hn : ¬ T sb := hp.not hs.blk (by decide) (by decide) (by decide)
 exact ⟨⟨T, h.keepsOut hk4 (fun i (e : i = sb) => by rw [e]; exact hn) (fun i (e : i = sb) => by rw [e]; exact hlow), hp.keeps h.fs.lt hk4 (fun i (e : i = sb) => by rw [e]; exact hn), hT⟩, hs.reblk hk4 hs4 hc, hk.trans hk4 fun i _ (e : i = sb) => .inr e⟩
set_option maxHeartbeats 4000000 in
theorem st_undo (h : Hd w0 w fb F k S) (hp : PureS S w) (hk : k < 900000) (hs : StB w sb c m n) (hfb : c.fb = fb) (hlow : w0.heap.size ≤ sb) (nm : ByteArray) :
 Calls Tryz.prog 81 #[.pointer (some ⟨sb, 0, none⟩), .string nm] w fun e w' => e = .returned (.tuple #[]) ∧ StW w0 w fb S (k + 1) (undoR (F, c.stuck) nm).1 sb { c with stuck := (undoR (F, c.stuck) nm).2 } m n w' := by
 have H := hid h
 have HP := hid hp
 have HS := hid hs
 have HC := hid (And.intro hk (And.intro hfb hlow))
 have s0 : w.cell? ⟨sb, 0, none⟩ = some (.pointer (some ⟨fb, 0, none⟩)) := by rw [← hfb]; exact blk_cell hs.blk 0
 clear h hp hs hk hfb hlow
 obtain ⟨o, ho⟩ : ∃ o, o = F.find nm := ⟨_, rfl⟩
 have HO := hid ho
 have HSZ := hid (d_size H.out nm)
 rw [← ho] at HSZ
 clear ho
 cases o with
 | none =>
   have HEQ : Hid (undoR (F, c.stuck) nm = (F, c.stuck)) := hid (by unfold undoR; simp only; rw [← HO.out])
   go_enter Tryz.func81, Tryz.ntmps81
   go_wp2_with (fail)
   refine HSZ.out.mono ?_
   rintro e wx ⟨rfl, rfl⟩
   simp only [sizeRes]
   go_wp2_with (fail)
   go_end0
   rw [HEQ.out]
   exact ⟨rfl, (StW.same H.out HP.out (by exact HS.out) (Below.refl _ _)).more (by omega)⟩
 | some x =>
   have HEQ : Hid (undoR (F, c.stuck) nm = ((F.remove nm).1, c.stuck || (F.remove nm).2 == 5)) := hid (by unfold undoR; simp only; rw [← HO.out])
   go_enter Tryz.func81, Tryz.ntmps81
   go_wp2_with (fail)
   refine HSZ.out.mono ?_
   rintro e wx ⟨rfl, rfl⟩
   simp only [sizeRes]
   go_wp2_with (fail)
   refine (d_remove H.out (by have := HC.out.1; omega) nm).mono ?_
   rintro e w1 ⟨rfl, hh, hkk⟩
   have HF := hid (FwP.of hh hkk)
   have HS1 := hid (HS.out.pure HP.out hkk)
   clear hh hkk s0
   go_wp2_with (fail)
   refine (st_met HS1.out.blk _).mono ?_
   rintro e w2 ⟨rfl, hs2, hk2⟩
   have HS2 := hid hs2
   have HK2 := hid hk2
   clear hs2 hk2
   go_wp2_with (fail)
   go_end0
   rw [HEQ.out]
   obtain ⟨T, t1, t2, t3⟩ := HF.out.ex
   exact ⟨rfl, StW.met t1 t2 HS1.out HC.out.2.2 HS2.out rfl HK2.out t3 (HF.out.keeps.mono fun _ _ e => .inl e)⟩
def ckU (F : FsS) (c : StC) (N : Nat) (e : Int) (done : Bool) : FsS × Bool := if done = false ∧ e ≠ 5 then undoR (undoR (F, c.stuck || e == 5) (baseNm c.dir N)) (nmOf c.dir sNext) else (F, c.stuck || e == 5)
theorem StW.box (h : StW w0 w fb S k G sb c m n w') (hp : PureS S w) (hs : StIn w sb c') {b : Nat} {cs : Array Value} {T : TypeId} (hb : IsBlk w b cs T) (h1 : T ≠ 102) (h2 : T ≠ 107) (h3 : T ≠ 5) (h4 : T ≠ 126) : IsBlk w' b cs T :=
 h.keeps.obj hb fun e => by
  rcases e with e | e
  ·exact hp.not hb h1 h2 h3 e
  ·subst e; exact h4 (blk_type hb hs)
set_option maxHeartbeats 8000000 in
theorem q_ckpt1 {x0 x1 x2 x3 N : Nat} {er : Int} {done : Bool} (u : FrameMode) (h : Hd w0 w fb F k S) (hp : PureS S w) (hk : k < 800000) (hs : StB w sb c m n) (hfb : c.fb = fb) (hlow : w0.heap.size ≤ sb) (hdir : c.dir.size ≤ 900) (hN : N < 100000000)
 (i0 : IsBlk w x0 #[.pointer (some ⟨sb, 0, none⟩)] 49) (i1 : IsBlk w x1 #[.int .i64 er] 27) (i2 : IsBlk w x2 #[.bool done] 4) (i3 : IsBlk w x3 #[.int .i64 (N : Int)] 3) :
 CallsD Tryz.prog 80 #[.pointer (some ⟨x0, 0, none⟩), .pointer (some ⟨x1, 0, none⟩), .pointer (some ⟨x2, 0, none⟩), .pointer (some ⟨x3, 0, none⟩)] u w fun e u' w' => u' = u ∧ e = .returned (.tuple #[]) ∧ StW w0 w fb S (k + 2) (ckU F c N er done).1 sb { c with stuck := (ckU F c N er done).2 } m n w' := by
 have H := hid h
 have HP := hid hp
 have HS := hid hs
 have HX := hid (And.intro i0 (And.intro i1 (And.intro i2 i3)))
 have HC := hid (And.intro hk (And.intro hfb (And.intro hlow (And.intro hdir hN))))
 have c0 : w.cell? ⟨x0, 0, none⟩ = some (.pointer (some ⟨sb, 0, none⟩)) := blk_cell i0 0
 have c1 : w.cell? ⟨x1, 0, none⟩ = some (.int .i64 er) := blk_cell i1 0
 clear h hp hs i0 i1 i2 i3 hk hfb hlow hdir hN
 go_enter_d Tryz.func80, Tryz.ntmps80
 go_wp2_with (fail)
 refine (st_met HS.out.blk er).mono ?_
 rintro e w1 ⟨rfl, hs1, hk1⟩
 have HW1 : Hid (StW w0 w fb S k F sb (c.met er) m n w1) := hid (StW.met H.out HP.out HS.out HC.out.2.2.1 hs1 rfl hk1 (fun _ e => .inl e) (Keeps.refl _ _))
 have HX1 : Hid (IsBlk w1 x0 #[.pointer (some ⟨sb, 0, none⟩)] 49 ∧ IsBlk w1 x1 #[.int .i64 er] 27 ∧ IsBlk w1 x2 #[.bool done] 4 ∧ IsBlk w1 x3 #[.int .i64 (N : Int)] 3) := hid
   ⟨HW1.out.box HP.out HS.out.blk HX.out.1 (by decide) (by decide) (by decide) (by decide), HW1.out.box HP.out HS.out.blk HX.out.2.1 (by decide) (by decide) (by decide) (by decide), HW1.out.box HP.out HS.out.blk HX.out.2.2.1 (by decide) (by decide) (by decide) (by decide), HW1.out.box HP.out HS.out.blk HX.out.2.2.2 (by decide) (by decide) (by decide) (by decide)⟩
 clear hs1 hk1 c0 c1
 have c1 : w1.cell? ⟨x1, 0, none⟩ = some (.int .i64 er) := blk_cell HX1.out.2.1 0
 have c2 : w1.cell? ⟨x2, 0, none⟩ = some (.bool done) := blk_cell HX1.out.2.2.1 0
 have HFIN : Hid (¬ (done = false ∧ er ≠ 5) → StW w0 w fb S (k + 2) (ckU F c N er done).1 sb { c with stuck := (ckU F c N er done).2 } m n w1) := hid fun hc => by
  have e : ckU F c N er done = (F, c.stuck || er == 5) := by unfold ckU; rw [if_neg hc]
  rw [e]
  exact HW1.out.more (by omega)
 cases done with
 | true =>
   have HF2 := hid (HFIN.out (by simp))
   clear HFIN
   go_wp2_with (fail)
   go_end0
   exact ⟨rfl, HF2.out⟩
 | false =>
   by_cases he5 : er = 5
   ·have HF2 := hid (HFIN.out (by simp [he5]))
    have t0 : (er != 5) = false := by simp [he5]
    clear HFIN
    go_wp2_with (fail)
    go_end0
    exact ⟨rfl, HF2.out⟩
   have t0 : (er != 5) = true := by simp [he5]
   have HCK : Hid (ckU F c N er false = undoR (undoR (F, c.stuck || er == 5) (baseNm c.dir N)) (nmOf c.dir sNext)) := hid (by unfold ckU; rw [if_pos ⟨rfl, he5⟩])
   clear HFIN he5
   obtain ⟨T1, hd1, hp1, ht1⟩ := HW1.out.ex
   have HD1 := hid hd1
   have HP1 := hid hp1
   have HT1 := hid ht1
   clear hd1 hp1 ht1
   go_upto_region 2 with (fail)
   clear c1 c2
   have c0 : w1.cell? ⟨x0, 0, none⟩ = some (.pointer (some ⟨sb, 0, none⟩)) := blk_cell HX1.out.1 0
   have c3 : w1.cell? ⟨x3, 0, none⟩ = some (.int .i64 (N : Int)) := blk_cell HX1.out.2.2.2 0
   have HBN : Hid (∀ V, Below w1.heap.size w1 V → Calls Tryz.prog 66 #[.pointer (some ⟨sb, 0, none⟩), .int .i64 (N : Int)] V fun e w' => e = .returned (.string (baseNm c.dir N)) ∧ (w'.cell? ⟨x0, 0, none⟩ = some (.pointer (some ⟨sb, 0, none⟩)) ∧ w'.cell? ⟨x3, 0, none⟩ = some (.int .i64 (N : Int))) ∧ Hid (Below w1.heap.size w1 w')) := hid fun V hV => by
    refine (st_baseName (c := c.met er) (HW1.out.st.below hV).blk (by have := HC.out.2.2.2.1; show c.dir.size ≤ _; omega) N HC.out.2.2.2.2 (N : Int) rfl).mono ?_
    rintro e w' ⟨he, hb⟩
    have hb2 := hV.trans (hb.mono hV.size)
    exact ⟨he, ⟨blk_cell ((hb2.block _ (lt_of_block HX1.out.1)).trans HX1.out.1) 0, blk_cell ((hb2.block _ (lt_of_block HX1.out.2.2.2)).trans HX1.out.2.2.2) 0⟩, hid hb2⟩
   have HUN : Hid (∀ V, Below w1.heap.size w1 V → Calls Tryz.prog 81 #[.pointer (some ⟨sb, 0, none⟩), .string (baseNm c.dir N)] V fun e w' => e = .returned (.tuple #[]) ∧ (w'.cell? ⟨x0, 0, none⟩ = some (.pointer (some ⟨sb, 0, none⟩)) ∧ w'.cell? ⟨x3, 0, none⟩ = some (.int .i64 (N : Int))) ∧ Hid (StW w0 w1 fb T1 (k + 1) (undoR (F, c.stuck || er == 5) (baseNm c.dir N)).1 sb { c with stuck := (undoR (F, c.stuck || er == 5) (baseNm c.dir N)).2 } m n w')) := hid fun V hV => by
    refine (st_undo (c := c.met er) (HD1.out.read hV) (HP1.out.below HD1.out.fs.lt hV) (by have := HC.out.1; omega) (HW1.out.st.below hV) HC.out.2.1 HC.out.2.2.1 (baseNm c.dir N)).mono ?_
    rintro e w' ⟨he, hw⟩
    have h2 := hw.trans (w := w1) (S := T1) (fun _ e => .inl e) ((Keeps.of_below hV).mono fun _ _ e => e.elim)
    exact ⟨he, ⟨blk_cell (h2.box HP1.out HW1.out.st.blk HX1.out.1 (by decide) (by decide) (by decide) (by decide)) 0, blk_cell (h2.box HP1.out HW1.out.st.blk HX1.out.2.2.2 (by decide) (by decide) (by decide) (by decide)) 0⟩, hid h2⟩
   have hb0 : Below w1.heap.size w1 w1.drew := (Below.refl _ _).drew
   go_region_held3 (fun w' => w'.cell? ⟨x0, 0, none⟩ = some (.pointer (some ⟨sb, 0, none⟩)) ∧ w'.cell? ⟨x3, 0, none⟩ = some (.int .i64 (N : Int)))
     (first
       | go_keep
       | exact s3
       | exact s2)
     (first
       | (go_at_call 66; (with_reducible refine (HBN.out _ ?_).mono ?_); exact hb0; rintro e w2 ⟨rfl, s2, HB2⟩)
       | (go_at_call 81; (with_reducible refine (HUN.out _ HB2.out).mono ?_); rintro e w3 ⟨rfl, s3, HW3⟩))
   clear hb0 s2 c0 c3
   have HX3 : Hid (IsBlk w3 x0 #[.pointer (some ⟨sb, 0, none⟩)] 49) := hid (HW3.out.box HP1.out HW1.out.st.blk HX1.out.1 (by decide) (by decide) (by decide) (by decide))
   have HW3' : Hid (StW w0 w fb S (k + 1) (undoR (F, c.stuck || er == 5) (baseNm c.dir N)).1 sb { c with stuck := (undoR (F, c.stuck || er == 5) (baseNm c.dir N)).2 } m n w3) := hid (HW3.out.trans HT1.out HW1.out.keeps)
   obtain ⟨U, hU⟩ : ∃ U, U = undoR (F, c.stuck || er == 5) (baseNm c.dir N) := ⟨_, rfl⟩
   rw [← hU] at HW3' HCK
   clear HW3 hU HUN HBN HX1 HD1 HP1 HT1
   obtain ⟨T3, hd3, hp3, ht3⟩ := HW3'.out.ex
   have HD3 := hid hd3
   have HP3 := hid hp3
   have HT3 := hid ht3
   clear hd3 hp3 ht3
   have c0 : w3.cell? ⟨x0, 0, none⟩ = some (.pointer (some ⟨sb, 0, none⟩)) := blk_cell HX3.out 0
   have HNM : Hid (∀ V, Below w3.heap.size w3 V → Calls Tryz.prog 65 #[.pointer (some ⟨sb, 0, none⟩), .string sNext] V fun e w' => e = .returned (.string (nmOf c.dir sNext)) ∧ V = w') := hid fun V hV =>
    st_name (c := { c with stuck := U.2 }) (HW3'.out.st.below hV).blk (by have := HC.out.2.2.2.1; show c.dir.size ≤ _; omega) sNext (by decide)
   have HUN : Hid (∀ V, Below w3.heap.size w3 V → Calls Tryz.prog 81 #[.pointer (some ⟨sb, 0, none⟩), .string (nmOf c.dir sNext)] V fun e w' => e = .returned (.tuple #[]) ∧ w'.cell? ⟨x0, 0, none⟩ = some (.pointer (some ⟨sb, 0, none⟩)) ∧ Hid (StW w0 w3 fb T3 (k + 1 + 1) (undoR U (nmOf c.dir sNext)).1 sb { c with stuck := (undoR U (nmOf c.dir sNext)).2 } m n w')) := hid fun V hV => by
    refine (st_undo (c := { c with stuck := U.2 }) (HD3.out.read hV) (HP3.out.below HD3.out.fs.lt hV) (by have := HC.out.1; omega) (HW3'.out.st.below hV) HC.out.2.1 HC.out.2.2.1 (nmOf c.dir sNext)).mono ?_
    rintro e w' ⟨he, hw⟩
    have h2 := hw.trans (w := w3) (S := T3) (fun _ e => .inl e) ((Keeps.of_below hV).mono fun _ _ e => e.elim)
    exact ⟨he, blk_cell (h2.box HP3.out HW3'.out.st.blk HX3.out (by decide) (by decide) (by decide) (by decide)) 0, hid h2⟩
   have hb0 : Below w3.heap.size w3 w3.drew := (Below.refl _ _).drew
   go_upto_region 3 with (fail)
   go_region_held3 (fun w' => w'.cell? ⟨x0, 0, none⟩ = some (.pointer (some ⟨sb, 0, none⟩)))
     (first
       | go_keep
       | exact s4)
     (first
       | (go_at_call 65; (with_reducible refine (HNM.out _ ?_).mono ?_); exact hb0; rintro e w4 ⟨rfl, rfl⟩)
       | (go_at_call 81; (with_reducible refine (HUN.out _ ?_).mono ?_); exact hb0; rintro e w5 ⟨rfl, s4, HW5⟩))
   go_wp2_with (fail)
   go_end0
   rw [HCK.out]
   exact ⟨rfl, HW5.out.trans HT3.out HW3'.out.keeps⟩
end
end Go.Proofs.YtagdchgkjjpacaaGreat
