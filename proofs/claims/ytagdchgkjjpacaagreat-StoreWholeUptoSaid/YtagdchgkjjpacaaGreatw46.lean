/- The walk of exlaw4.recovers: a store that is opened, interrupted as often as crashes are left. -/
import Derived.Test.YtagdchgkjjpacaaGreatw45
set_option maxRecDepth 100000
open Go.Lib (hid)
set_option linter.unusedSimpArgs false
set_option linter.unusedVariables false
set_option linter.unusedSectionVars false
namespace Go.Proofs.YtagdchgkjjpacaaGreat
open Go.RowKit Go.Shelf
structure SCr where
 arm : Int
 keep : Int
 chk : Bool
def scrKind : ElKind SCr := ⟨fun c => [.int .i64 c.arm, .int .i64 c.keep, .bool c.chk], 3, fun _ => rfl, by decide, fun c u hu => by
 simp only [List.mem_cons, List.not_mem_nil, or_false] at hu
 rcases hu with rfl | rfl | rfl <;> rfl⟩
theorem scr_cells {w : World} {a : Option Addr} {n cap : Nat} {xs : List SCr} (h : RdAt scrKind w (.slice a n cap) xs) {i : Nat} {c : SCr} (hc : xs[i]? = some c) :
 ∃ g off, a = some ⟨g, off, none⟩ ∧ w.cell? ⟨g, off + i * 3, none⟩ = some (.int .i64 c.arm) ∧ w.cell? ⟨g, off + i * 3 + 1, none⟩ = some (.int .i64 c.keep) ∧ w.cell? ⟨g, off + i * 3 + 2, none⟩ = some (.bool c.chk) := by
 obtain ⟨a', cap', e, hh⟩ := h
 injection e with e1 _ _
 subst e1
 obtain ⟨g, off, ea, hc⟩ := hh i c hc
 exact ⟨g, off, ea, hc 0 (by decide), hc 1 (by decide), hc 2 (by decide)⟩
structure CrsAt (w : World) (v : Value) (cs : List SCr) : Prop where
 rd : RdAt scrKind w v cs
 bd : ∀ c ∈ cs, -9223372036854775808 ≤ c.arm ∧ c.arm ≤ 9223372036854775807
def keepN (n : ByteArray) (k : Int) : Int := if k < 0 ∨ 1000000 < k then k else k % ((n.size : Int) + 7)
theorem g_keep {w : World} (n : ByteArray) (k : Int) (hn : n.size ≤ 1000000000) : Calls Tryz.prog 39 #[.string n, .int .i64 k] w fun e w' => e = .returned (.int .i64 (keepN n k)) ∧ w = w' := by
 have hn' : (n.size : Int) ≤ 1000000000 := by omega
 have hn0 : (0 : Int) ≤ (n.size : Int) := by omega
 by_cases h0 : k < 0
 ·have hk : Hid (keepN n k = k) := hid (by unfold keepN; rw [if_pos (.inl h0)])
  go_enter Tryz.func39, Tryz.ntmps39
  go_wp2
  go_ret
  rw [hk.out]
  exact ⟨rfl, rfl⟩
 by_cases h1 : 1000000 < k
 ·have hk : Hid (keepN n k = k) := hid (by unfold keepN; rw [if_pos (.inr h1)])
  go_enter Tryz.func39, Tryz.ntmps39
  go_wp2
  go_ret
  rw [hk.out]
  exact ⟨rfl, rfl⟩
 have hk : Hid (keepN n k = k % ((n.size : Int) + 7)) := hid (by unfold keepN; rw [if_neg (by omega)])
 have k0 : 0 ≤ k := by omega
 have k1 : k ≤ 1000000 := by omega
 clear h0 h1
 go_enter Tryz.func39, Tryz.ntmps39
 go_wp2
 go_ret
 rw [hk.out]
 exact ⟨rfl, rfl⟩
def KeepP (w w' : World) : Prop := ∀ b cs T, IsBlk w b cs T → T ≠ 102 → T ≠ 107 → T ≠ 5 → IsBlk w' b cs T
theorem KeepP.trans {a b c : World} (h : KeepP a b) (k : KeepP b c) : KeepP a c := fun x cs T hb h1 h2 h3 => k x cs T (h x cs T hb h1 h2 h3) h1 h2 h3
theorem KeepP.of {S : Nat → Prop} {w w' : World} (hp : PureS S w) (hk : Keeps S w w') : KeepP w w' := fun _ _ _ hb h1 h2 h3 => hp.obj hk hb h1 h2 h3
theorem okName_short {n : ByteArray} (h : okName n = true) : n.size ≤ 100 := by
 unfold okName at h
 simp only [Bool.and_eq_true, decide_eq_true_eq] at h
 exact h.1.1.1.2
structure StV (w0 w : World) (fb : Nat) (dir : ByteArray) (size : Int) (n c V : Nat) (F : FsS) (S : Nat → Prop) (lb sb tb : Nat) (s : StS) : Prop where
 db : Db w0 w fb F (1600 * c) S lb sb tb s (600000000 + 500 * c)
 on : On F s size n
 dir : s.dir = dir
 few : F.files.length ≤ 4 * n + 2
 wt : wgt s.all ≤ V
section
variable {w0 w w' wr W : World} {fb k n c V lb sb tb q : Nat} {size : Int} {dir : ByteArray} {F G : FsS} {S T : Nat → Prop} {s : StS} {m : Prs} {l : List Chg}
theorem Sto.stv (h : Sto w0 w fb dir size n c V F S lb sb tb s) : StV w0 w fb dir size n c V F S lb sb tb s := ⟨h.db, h.on, h.dir, h.few, h.wt⟩
theorem StV.below (h : StV w0 w fb dir size n c V F S lb sb tb s) (hb : Below w.heap.size w w') : StV w0 w' fb dir size n c V F S lb sb tb s := ⟨h.db.below hb, h.on, h.dir, h.few, h.wt⟩
theorem StV.more (h : StV w0 w fb dir size n c V F S lb sb tb s) {n' c' V' : Nat} (hn : n ≤ n') (hc : c ≤ c') (hV : V ≤ V') (h9 : n' ≤ 900) : StV w0 w fb dir size n' c' V' F S lb sb tb s :=
 ⟨h.db.more (by omega) (by omega), h.on.mono hn h9, h.dir, by have := h.few; omega, Nat.le_trans h.wt hV⟩
theorem StV.wrote (h : StV w0 w fb dir size n c V F S lb sb tb s) (hn : n + 1 ≤ 900) {R : StS × FsS × Int} (o : WrOut F s size n l R) (hp : WrsPost w0 w fb S (1600 * (c + 1)) (600000000 + 500 * (c + 1)) lb sb tb R.1 R.2.1 w') (h5 : R.2.2 ≠ 5) :
 (∃ S', StV w0 w' fb dir size (n + 1) (c + 1) (V + batV l) R.2.1 S' lb sb tb R.1 ∧ ∀ i, S' i → S i ∨ w.heap.size ≤ i) ∧ R.2.1.room = F.room ∧
   ((R.2.2 ≠ 0 ∧ R.1.all = s.all) ∨ (R.2.2 = 0 ∧ R.1.all = applyB s.all l)) := by
 obtain ⟨T, h1, h2⟩ := hp.ex
 have hfew := h.few
 have hwt := h.wt
 have hbv : batV l = 3000 + batW l := rfl
 rcases o with ⟨e, he, h5', henc, rfl⟩ | ⟨henc, hl, rfl⟩ | ⟨henc, hl, hR, on, ha, hq, hd, st⟩ | ⟨henc, hl, hR, on, ha, hq, hd, hf, st⟩ | ⟨henc, hl, hR, hd, arm, disk, few, rise⟩
 ·refine ⟨⟨T, ⟨h1, h.on.mono (Nat.le_succ n) hn, h.dir, by show F.files.length ≤ _; omega, by show wgt s.all ≤ _; omega⟩, h2⟩, rfl, .inl ⟨by show (e : Int) ≠ 0; omega, rfl⟩⟩
 ·refine ⟨⟨T, ⟨h1, h.on.mono (Nat.le_succ n) hn, h.dir, by show F.files.length ≤ _; omega, by show wgt s.all ≤ _; omega⟩, h2⟩, rfl, .inr ⟨rfl, by rw [hl]; rfl⟩⟩
 ·have hz := encB_zero henc
  have hw := flat_weigh hz.1
  have hfl := applyB_fit l s.all
  have hsf := st.few
  refine ⟨⟨T, ⟨h1, on, by rw [hd.1]; exact h.dir, by omega, by rw [ha]; omega⟩, h2⟩, st.room, .inr ⟨hR, ha⟩⟩
 ·have hsf := st.few
  refine ⟨⟨T, ⟨h1, on, by rw [hd.1]; exact h.dir, by omega, by rw [ha]; omega⟩, h2⟩, st.room, .inl ⟨by omega, ha⟩⟩
 ·exact absurd hR h5
theorem StV.write (h : StV w0 w fb dir size n c V F S lb sb tb s) (hdir : DirS dir) (hn : n ≤ 90) (hc : c ≤ 400) {a : Option Addr} {cap : Nat} (hr : RdAt chgKind w0 (.slice a l.length cap) l) (hl : l.length ≤ 1048576) :
 Calls Tryz.prog 25 #[.pointer (some ⟨sb, 0, none⟩), .slice a l.length cap] w fun e w' => e = .returned (.int .i64 (writeS s F l).2.2) ∧ WrOut F s size n l (writeS s F l) ∧ WrsPost w0 w fb S (1600 * (c + 1)) (600000000 + 500 * (c + 1)) lb sb tb (writeS s F l).1 (writeS s F l).2.1 w' := by
 have ho := swrite_out h.on (by omega) (by have := h.few; omega) l
 have hds : s.dir.size ≤ 70 := by rw [h.dir]; exact hdir.small
 refine (st_write h.db (by omega) ?_ (by have := h.on.nl; omega) (by have := h.on.nq; omega) (by omega) (hr.below h.db.lg.hd.below) (fun hne => h.db.args hr hne) (by omega)).mono fun e w' ⟨he, hp⟩ => ⟨he, ho, ?_⟩
 ·rw [h.on.ldir, nm_size]
  have : sLog.size = 3 := rfl
  omega
 ·obtain ⟨T, h1, h2⟩ := hp.ex
  exact ⟨⟨T, h1.more (by omega) (by omega), h2⟩, hp.keeps⟩
theorem StV.ckpt (h : StV w0 w fb dir size n c V F S lb sb tb s) (hn : n + 1 ≤ 900) {R : StS × FsS × Int} (o : ChkOut F s size n R) (hp : WrsPost w0 w fb S (1600 * (c + 1)) (600000000 + 500 * (c + 1)) lb sb tb R.1 R.2.1 w') (h5 : R.2.1.down = false) :
 (∃ S', StV w0 w' fb dir size (n + 1) (c + 1) V R.2.1 S' lb sb tb R.1 ∧ ∀ i, S' i → S i ∨ w.heap.size ≤ i) ∧ R.2.1.room = F.room ∧ R.1.all = s.all := by
 obtain ⟨T, h1, h2⟩ := hp.ex
 have hfew := h.few
 have hwt := h.wt
 rcases o with ⟨hR, on, ha, hq, hd, hb, lg, st⟩ | ⟨hR, on, ha, hq, hd, hf, st⟩ | ⟨hR, hd, arm, disk, few⟩
 ·have hsf := st.few
  exact ⟨⟨T, ⟨h1, on, by rw [hd]; exact h.dir, by omega, by rw [ha]; exact hwt⟩, h2⟩, st.room, ha⟩
 ·have hsf := st.few
  exact ⟨⟨T, ⟨h1, on, by rw [hd]; exact h.dir, by omega, by rw [ha]; exact hwt⟩, h2⟩, st.room, ha⟩
 ·rw [hd] at h5; cases h5
theorem StV.chk (h : StV w0 w fb dir size n c V F S lb sb tb s) (hdir : DirS dir) (hn : n ≤ 90) (hc : c ≤ 400) (hV : V ≤ 200000) :
 Calls Tryz.prog 26 #[.pointer (some ⟨sb, 0, none⟩)] w fun e w' => e = .returned (.int .i64 (chkS s F).2.2) ∧ ChkOut F s size n (chkS s F) ∧ WrsPost w0 w fb S (1600 * (c + 1)) (600000000 + 500 * (c + 1)) lb sb tb (chkS s F).1 (chkS s F).2.1 w' := by
 have ho := chk_out h.on (by rw [h.dir]; exact hdir) (by omega) (by have := h.few; omega)
 have hds : s.dir.size ≤ 70 := by rw [h.dir]; exact hdir.small
 have hls : s.log.dir.size ≤ 1000 := by
  rw [h.on.ldir, nm_size]
  have : sLog.size = 3 := rfl
  omega
 have him := img_len s.seq h.on.fit.ok
 have hwt := h.wt
 refine (st_checkpoint h.db (by omega) (by omega) hls (by have := h.on.nl; omega) (by have := h.on.nq; omega) (by omega) h.on.fit.ok (by omega) (by rw [h.on.top]; have := h.on.nb; omega)).mono fun e w' ⟨he, hp⟩ => ⟨he, ho, ?_⟩
 obtain ⟨T, h1, h2⟩ := hp.ex
 exact ⟨⟨T, h1.more (by omega) (by omega), h2⟩, hp.keeps⟩
end
section
variable {w0 w w' wr W : World} {fb k n c V lb sb tb q : Nat} {size : Int} {dir : ByteArray} {F G : FsS} {S T : Nat → Prop} {s : StS} {m : Prs}
theorem d_armX (h : Hd w0 w fb F k S) (z : Int) (h0 : -9223372036854775808 ≤ z) (h1 : z ≤ 9223372036854775807) : Calls Tryz.prog 36 #[.pointer (some ⟨fb, 0, none⟩), .int .i64 z] w fun e w' => e = .returned (.tuple #[]) ∧ Hd w0 w' fb { F with armed := max z 0 } k (New w w' S) ∧ Keeps S w w' := by
 obtain ⟨mb, rs, h2⟩ := h.fs
 refine (f_arm h2 z h0 h1).mono ?_
 rintro e w' ⟨rfl, hp⟩
 exact ⟨rfl, h.post hp (h.ok.arm (by omega) (by omega)), hp.2⟩
theorem d_crash_fn (h : Hd w0 w fb F k S) (g : Nat) (lb : Array Value) (eg : ∀ args w, (callFunc g args).run Tryz.prog w = .ok (.enter g args) w) (keep : Int)
 (hg : ∀ n z W, n.size ≤ 100 → Keeps S w W → Calls Tryz.prog g (#[.string n, .int .i64 z] ++ lb) W fun e W' => e = .returned (.int .i64 (keepN n keep)) ∧ W = W') :
 Calls Tryz.prog 35 #[.pointer (some ⟨fb, 0, none⟩), .func (.func g) #[] lb] w fun e w' => e = .returned (.tuple #[]) ∧ Hd w0 w' fb (F.crash fun n _ => keepN n keep) k (New w w' S) ∧ Keeps S w w' := by
 obtain ⟨mb, rs, hf⟩ := h.fs
 refine (f_crash hf h.ok g lb eg (fun n _ => keepN n keep) (fun _ => False) (fun _ e => e.elim) (fun _ W => Keeps S w W) (fun W hb => (Keeps.of_below hb).mono fun _ _ e => e.elim) ?_ ?_ ?_).mono ?_
 ·intro j W W' U h1 h2 h3
  exact h1.trans h2 (fun i hi e => by
   rcases h3 i e with e | e
   ·exact e
   ·omega)
 ·intro i n x W hx _ hI
  have hn := okName_short (h.ok.valid _ (List.mem_of_getElem? hx))
  refine (hg n _ W hn hI).mono ?_
  rintro e W' ⟨rfl, rfl⟩
  exact ⟨rfl, hI, Keeps.refl _ _⟩
 ·intro i n x W _ _ hI
  exact hI
 ·rintro e w' ⟨rfl, hk, hf, _⟩
  exact ⟨rfl, h.post ⟨hf, hk⟩ (h.ok.crash _), hk⟩
theorem FwP.arm (h : FwP w0 w fb S k G wr) (z : Int) (h0 : -9223372036854775808 ≤ z) (h1 : z ≤ 9223372036854775807) : Calls Tryz.prog 36 #[.pointer (some ⟨fb, 0, none⟩), .int .i64 z] wr fun e w' => e = .returned (.tuple #[]) ∧ FwP w0 w fb S k { G with armed := max z 0 } w' ∧ KeepP wr w' := by
 obtain ⟨T, g1, g2, g3⟩ := h.ex
 refine (d_armX g1 z h0 h1).mono ?_
 rintro e w' ⟨rfl, hh, hk⟩
 exact ⟨rfl, (FwP.of hh hk).trans g3 h.keeps, KeepP.of g2 hk⟩
theorem FwP.below (h : FwP w0 w fb S k G wr) (hb : Below wr.heap.size wr W) : FwP w0 w fb S k G W := by
 obtain ⟨T, h1, h2, h3⟩ := h.ex
 exact ⟨⟨T, h1.read hb, h2.below h1.fs.lt hb, h3⟩, h.keeps.trans' ((Keeps.of_below hb).mono fun _ _ e => e.elim)⟩
theorem FwP.low (h : FwP w0 w fb S k G wr) : Below w0.heap.size w0 wr := by
 obtain ⟨T, g1, _⟩ := h.ex
 exact g1.below
theorem FwP.crash (h : FwP w0 w fb S k G wr) (g : Nat) (lb : Array Value) (eg : ∀ args w, (callFunc g args).run Tryz.prog w = .ok (.enter g args) w) (keep : Int)
 (hg : ∀ n z W, n.size ≤ 100 → KeepP wr W → Below w0.heap.size w0 W → Calls Tryz.prog g (#[.string n, .int .i64 z] ++ lb) W fun e W' => e = .returned (.int .i64 (keepN n keep)) ∧ W = W') :
 Calls Tryz.prog 35 #[.pointer (some ⟨fb, 0, none⟩), .func (.func g) #[] lb] wr fun e w' => e = .returned (.tuple #[]) ∧ FwP w0 w fb S k (G.crash fun n _ => keepN n keep) w' ∧ KeepP wr w' := by
 obtain ⟨T, g1, g2, g3⟩ := h.ex
 refine (d_crash_fn g1 g lb eg keep fun n z W hn hk => hg n z W hn (KeepP.of g2 hk) (below_keeps g1.below hk g1.low g1.below.size)).mono ?_
 rintro e w' ⟨rfl, hh, hk⟩
 exact ⟨rfl, (FwP.of hh hk).trans g3 h.keeps, KeepP.of g2 hk⟩
theorem StV.arm (h : StV w0 w fb dir size n c V F S lb sb tb s) (z : Int) (h0 : -9223372036854775808 ≤ z) (h1 : z ≤ 9223372036854775807) :
 Calls Tryz.prog 36 #[.pointer (some ⟨fb, 0, none⟩), .int .i64 z] w fun e w' => e = .returned (.tuple #[]) ∧ (∃ T, StV w0 w' fb dir size n c V { F with armed := max z 0 } T lb sb tb s ∧ ∀ i, T i → S i ∨ w.heap.size ≤ i) ∧ Keeps S w w' := by
 refine (d_armX h.db.lg.hd z h0 h1).mono ?_
 rintro e w' ⟨rfl, hh, hk⟩
 have ha := h.db.apart
 have hT : ∀ i, PS (New w w' S) w' i → S i ∨ w.heap.size ≤ i := fun i hi => by
  rcases hi.1 with e | e
  ·exact .inl e
  ·exact .inr e.1
 refine ⟨rfl, ⟨_, ⟨⟨⟨hh.ps, ⟨h.db.pure.obj hk h.db.lg.log.blk (by decide) (by decide) (by decide), fun e => ?_, h.db.lg.log.low⟩⟩, PS.pure _ _, h.db.st.pure h.db.pure hk, h.db.low⟩, h.on.ext h.db.lg.hd.ok.rise h.on.up fun _ _ => rfl, h.dir, h.few, h.wt⟩, hT⟩, hk⟩
 rcases hT _ e with e | e
 ·exact h.db.lg.log.out e
 ·omega
theorem FwP.open_ (h : FwP w0 w fb S (1600 * c) G wr) (hD : Disk G dir n q m) (hdir : DirS dir) (h16 : 16 ≤ size) (h20 : size ≤ 1048576) (hd : G.down = false) (hc : c ≤ 400) (hf : G.files.length ≤ 4 * n + 2) (hw : wgt m ≤ V) :
 Calls Tryz.prog 24 #[.pointer (some ⟨fb, 0, none⟩), .string dir, .agg #[.int .i64 size]] wr fun e w' => KeepP wr w' ∧ Step (inDir dir) 0 0 G (openS G dir size).1 ∧
   ((∃ T lb sb tb s, e = .returned (.tuple #[.pointer (some ⟨sb, 0, none⟩), .int .i64 0]) ∧ StV w0 w' fb dir size n (c + 1) V (openS G dir size).1 T lb sb tb s ∧ s.all = m ∧ s.seq = q ∧ (∀ i, T i → S i ∨ w.heap.size ≤ i) ∧ Keeps S w w' ∧ wr.heap.size ≤ lb ∧ wr.heap.size ≤ sb ∧ wr.heap.size ≤ tb) ∨
     (e = .returned (.tuple #[.pointer none, .int .i64 5]) ∧ (openS G dir size).1.down = true ∧ G.armed ≠ 0 ∧ Disk (openS G dir size).1 dir n q m ∧ FwP w0 w fb S (1600 * (c + 1)) (openS G dir size).1 w')) := by
 obtain ⟨T, g1, g2, g3⟩ := h.ex
 refine (open_disk g1 hD hdir h16 h20 hd hc).mono fun e w' ⟨ho, hk, hp⟩ => ⟨KeepP.of (PS.pure T wr) hk, ho.step, ?_⟩
 have hsf := ho.step.few
 have hk2 : Keeps S w w' := h.keeps.trans hk fun i hi e => by
  rcases g3 i e.1 with e | e
  ·exact e
  ·omega
 have hT2 : ∀ U : Nat → Prop, (∀ i, U i → PS T wr i ∨ wr.heap.size ≤ i) → ∀ i, U i → S i ∨ w.heap.size ≤ i := fun U hU i hi => by
  rcases hU i hi with e | e
  ·exact g3 i e.1
  ·exact .inr (Nat.le_trans h.keeps.size e)
 rcases hp with ⟨s, lb, sb, tb, U, e1, e2, e3, hdb, hU, h1, h2, h3⟩ | ⟨e1, e2, e3, U, e4, e5, e6⟩
 ·rcases ho.out with ⟨s2, k1, k2, k3, k4, k5, k6⟩ | ⟨k1, _⟩
  ·rw [e1] at k1
   obtain rfl : s = s2 := Option.some.inj k1
   exact .inl ⟨U, lb, sb, tb, s, e3, ⟨hdb.more (Nat.le_refl _) (by omega), k6, k3, by omega, by rw [k5]; exact hw⟩, k5, k4, hT2 U hU, hk2, h1, h2, h3⟩
  ·rw [e1] at k1; cases k1
 ·rcases ho.out with ⟨s2, k1, _⟩ | ⟨k1, k2, k3, k4, k5⟩
  ·rw [e1] at k1; cases k1
  ·exact .inr ⟨by rw [e3, k2], k3, k4, k5, ⟨⟨U, e5, e4, hT2 U e6⟩, hk2⟩⟩
theorem Disk.armed (h : Disk F dir n q m) (hr : Rise slt F.files) (z : Int) : Disk { F with armed := z } dir n q m := h.apart hr fun _ _ => rfl
theorem x_rec1 {bl bi i : Nat} {a : Option Addr} {cap : Nat} {cs : List SCr} {c : SCr} (h1 : IsBlk W bl #[.slice a cs.length cap] 71) (h2 : IsBlk W bi #[.int .i64 (i : Int)] 3) (hr : RdAt scrKind W (.slice a cs.length cap) cs) (hc : cs[i]? = some c) (hn : cs.length ≤ 1000) (nm : ByteArray) (hnm : nm.size ≤ 1000000000) (z : Int) :
 Calls Tryz.prog 95 (#[.string nm, .int .i64 z] ++ #[.pointer (some ⟨bl, 0, none⟩), .pointer (some ⟨bi, 0, none⟩)]) W fun e W' => e = .returned (.int .i64 (keepN nm c.keep)) ∧ W = W' := by
 show Calls Tryz.prog 95 #[.string nm, .int .i64 z, .pointer (some ⟨bl, 0, none⟩), .pointer (some ⟨bi, 0, none⟩)] W _
 obtain ⟨g, off, rfl, d0, d1, d2⟩ := scr_cells hr hc
 have c1 : W.cell? ⟨bl, 0, none⟩ = some (.slice (some ⟨g, off, none⟩) cs.length cap) := blk_cell h1 0
 have c2 : W.cell? ⟨bi, 0, none⟩ = some (.int .i64 (i : Int)) := blk_cell h2 0
 have q0 : (0 : Int) ≤ (i : Int) := by omega
 have q1 : (i : Int) < (cs.length : Int) := by have := (List.getElem?_eq_some_iff.1 hc).1; omega
 have HK := hid (fun W' => g_keep (w := W') nm c.keep hnm)
 clear h1 h2 hr hc hnm
 go_enter Tryz.func95, Tryz.ntmps95
 go_wp2_with (fail)
 refine (HK.out W).mono ?_
 rintro e w' ⟨rfl, rfl⟩
 go_wp2_with (fail)
 go_ret
 exact ⟨rfl, rfl⟩
def ptrNat (v : Value) (w : World) : Nat := match v with
 | .pointer (some a) => match w.cell? a with
   | some x => (intOf x).toNat
   | none => 0
 | _ => 0
theorem ptrNat_blk {b i : Nat} {T : TypeId} (h : IsBlk w b #[.int .i64 (i : Int)] T) : ptrNat (.pointer (some ⟨b, 0, none⟩)) w = i := by
 have c := blk_cell h 0
 have c : w.cell? ⟨b, 0, none⟩ = some (.int .i64 (i : Int)) := c
 simp [ptrNat, c, intOf]
structure RcI (w0 w : World) (fb : Nat) (S : Nat → Prop) (c n q : Nat) (m : Prs) (R : Int) (bl : Nat) (v : Value) (i bi : Nat) (wr : World) : Prop where
 ex : ∃ G, FwP w0 w fb S (1600 * (c + i)) G wr ∧ Disk G nmDb n q m ∧ G.down = false ∧ G.files.length ≤ 4 * n + 2 ∧ G.room = R
 bl : IsBlk wr bl #[v] 71
 bi : IsBlk wr bi #[.int .i64 (i : Int)] 3
def RcPost (w0 w : World) (fb : Nat) (size : Int) (n c V q : Nat) (m : Prs) (R : Int) (S : Nat → Prop) (e : Ending) (w' : World) : Prop :=
 ∃ (G : FsS) (T : Nat → Prop) (lb sb tb : Nat) (s : StS), e = .returned (.pointer (some ⟨sb, 0, none⟩)) ∧ Hid (StV w0 w' fb nmDb size n c V G T lb sb tb s ∧ s.all = m ∧ s.seq = q ∧ G.armed = 0 ∧ G.room = R ∧ Keeps S w w' ∧ ∀ i, T i → S i ∨ w.heap.size ≤ i)
theorem eg_rec1 : ∀ args w, (callFunc 95 args).run Tryz.prog w = .ok (.enter 95 args) w := enters_of Tryz.func95 (P := Tryz.prog) (by kernel_rfl) rfl
set_option maxHeartbeats 4000000 in
theorem x_recovers {v : Value} {cs : List SCr} (hv : CrsAt w0 v cs) (hcs : cs.length ≤ 10) (h : FwP w0 w fb S (1600 * c) F w) (hD : Disk F nmDb n q m) (h16 : 16 ≤ size) (h20 : size ≤ 1048576) (hd : F.down = false) (hc : c ≤ 300) (hn : n ≤ 900) (hf : F.files.length ≤ 4 * n + 2) (hw : wgt m ≤ V) :
 Calls Tryz.prog 40 #[.pointer (some ⟨fb, 0, none⟩), .int .i64 size, v] w (RcPost w0 w fb size n (c + cs.length + 1) V q m F.room S) := by
 obtain ⟨a, cap, rfl, -⟩ := hv.rd
 have HV := hid hv
 have HCS := hid hcs
 have hcl : (cs.length : Int) ≤ 10 := by omega
 have HP := hid (And.intro h16 (And.intro h20 (And.intro hc (And.intro hn hw))))
 obtain ⟨w1, hw1⟩ : ∃ x, x = (w.alloc (.cells #[.slice a cs.length cap] 71)).alloc (.cells #[.int .i64 0] 3) := ⟨_, rfl⟩
 have hB1 : Below w.heap.size w w1 := by rw [hw1]; exact ((Below.refl _ _).alloc (Nat.le_refl _) _).alloc (by simp) _
 have HI : Hid (RcI w0 w fb S c n q m F.room w.heap.size (.slice a cs.length cap) 0 (w.heap.size + 1) w1) := hid ⟨⟨F, by
  obtain ⟨T, g1, g2, g3⟩ := h.ex
  exact (FwP.refl (g1.read hB1) (g2.below g1.fs.lt hB1)).trans g3 ((Keeps.of_below hB1).mono fun _ _ e => e.elim), hD, hd, hf, rfl⟩, by rw [hw1]; exact blk_alloc (blk_new w _), by
  rw [hw1]
  have h1 := blk_new (w.alloc (.cells #[.slice a cs.length cap] 71)) (.cells #[.int .i64 0] 3)
  rw [World.size_alloc] at h1
  exact h1⟩
 clear hv hcs h16 h20 hc hn hw h hD hd hf hB1
 have HW1 := hid hw1
 clear hw1
 go_enter Tryz.func40, Tryz.ntmps40
 go_upto_region 2 with (fail)
 rw [← HW1.out]
 have hcs0 : (0 : Int) ≤ (cs.length : Int) := by omega
 go_loopw [7] (fun pv wr => ∃ i bi : Nat, i ≤ cs.length ∧ pv = .pointer (some ⟨bi, 0, none⟩) ∧ Hid (RcI w0 w fb S c n q m F.room w.heap.size (.slice a cs.length cap) i bi wr)) (fun pv wr => cs.length - ptrNat pv wr)
 case atStart => exact ⟨0, _, Nat.zero_le _, rfl, HI⟩
 case round =>
  clear HI
  obtain ⟨i, bi, hi, rfl, HR⟩ := hrel
  obtain ⟨G, hfw, hD, hup, hfl, hrm⟩ := HR.out.ex
  have HFW := hid hfw
  have HD := hid (And.intro hD (And.intro hup (And.intro hfl hrm)))
  have HN := hid (ptrNat_blk HR.out.bi)
  have c5 : wr.cell? ⟨w.heap.size, 0, none⟩ = some (.slice a cs.length cap) := blk_cell HR.out.bl 0
  have c7 : wr.cell? ⟨bi, 0, none⟩ = some (.int .i64 (i : Int)) := blk_cell HR.out.bi 0
  have q0 : (0 : Int) ≤ (i : Int) := by omega
  clear hfw hD hup hfl hrm
  by_cases hlt : i < cs.length
  ·have q1 : (i : Int) < (cs.length : Int) := by omega
   obtain ⟨x, hx⟩ : ∃ x, cs[i]? = some x := ⟨_, List.getElem?_eq_getElem hlt⟩
   obtain ⟨g, off, rfl, d0, d1, d2⟩ := scr_cells (HV.out.rd.below HFW.out.low) hx
   have HX := hid hx
   have HBD := hid (HV.out.bd x (List.mem_of_getElem? hx))
   have HLT := hid hlt
   clear hx hlt hi
   go_wp2_with (fail)
   refine (HFW.out.arm x.arm HBD.out.1 HBD.out.2).mono ?_
   rintro e w2 ⟨rfl, h2, k2⟩
   have HF2 := hid h2
   have HK2 := hid k2
   clear h2 k2 c5 c7 d0 d1 d2
   go_wp2_with (fail)
   refine (HF2.out.open_ (V := V) (HD.out.1.armed (by obtain ⟨T, g1, _⟩ := HFW.out.ex; exact g1.ok.rise) _) dirS_db HP.out.1 HP.out.2.1 HD.out.2.1 (by have := HP.out.2.2.1; have := HCS.out; have := HLT.out; omega) HD.out.2.2.1 HP.out.2.2.2.2).mono ?_
   rintro e w3 ⟨k3, st3, h3⟩
   generalize (openS _ nmDb size).1 = H at st3 h3
   have HK3 := hid (HK2.out.trans k3)
   have HST := hid st3
   clear k3 st3
   rcases h3 with ⟨T, lb, sb, tb, s, rfl, h3, h4, h5, h6, h7, -⟩ | ⟨rfl, h3, h4, h5, h6⟩
   ·have HS3 := hid h3
    have HS4 := hid (And.intro h4 (And.intro h5 (And.intro h6 h7)))
    clear h3 h4 h5 h6 h7
    go_wp2_with (first | (go_at_call 19; refine (r_num _ _).mono ?_; rintro e w' ⟨rfl, rfl⟩))
    refine (d_down HS3.out.db.lg.hd).mono ?_
    rw [HS3.out.on.up]
    rintro e w4 ⟨rfl, rfl⟩
    go_wp2_with (fail)
    refine (HS3.out.arm 0 (by decide) (by decide)).mono ?_
    rintro e w5 ⟨rfl, ⟨U, h5, h6⟩, k5⟩
    have HFIN : Hid (StV w0 w5 fb nmDb size n (c + cs.length + 1) V { H with armed := max 0 0 } U lb sb tb s ∧ s.all = m ∧ s.seq = q ∧ ({ H with armed := max 0 0 } : FsS).armed = 0 ∧ ({ H with armed := max 0 0 } : FsS).room = F.room ∧ Keeps S w w5 ∧ ∀ i, U i → S i ∨ w.heap.size ≤ i) := hid ⟨h5.more (Nat.le_refl _) (by have := HLT.out; omega) (Nat.le_refl _) h5.on.n1, HS4.out.1, HS4.out.2.1, rfl, HST.out.room.trans HD.out.2.2.2, HS4.out.2.2.2.trans k5 fun j hj e => by
     rcases HS4.out.2.2.1 j e with e | e
     ·exact e
     ·omega, fun j hj => by
     rcases h6 j hj with e | e
     ·exact HS4.out.2.2.1 j e
     ·exact .inr (Nat.le_trans HS4.out.2.2.2.size e)⟩
    clear h5 h6 k5
    go_wp2_with (fail)
    go_ret
    exact ⟨_, U, lb, sb, tb, s, rfl, HFIN⟩
   ·have HF3 := hid h6
    have HD3 := hid (And.intro h5 (And.intro h3 h4))
    clear h3 h4 h5 h6
    have e95 := eg_rec1
    go_wp2_with (first | (go_at_call 19; refine (r_num _ _).mono ?_; rintro e w' ⟨rfl, rfl⟩))
    refine (HF3.out.crash 95 _ e95 x.keep fun nm z W hnm hkW hbW => x_rec1 (hkW _ _ _ (HK3.out _ _ _ HR.out.bl (by decide) (by decide) (by decide)) (by decide) (by decide) (by decide)) (hkW _ _ _ (HK3.out _ _ _ HR.out.bi (by decide) (by decide) (by decide)) (by decide) (by decide) (by decide)) (HV.out.rd.below hbW) HX.out (by have := HCS.out; omega) nm (by omega) z).mono ?_
    rintro e w4 ⟨rfl, h4, k4⟩
    have HF4 := hid h4
    have HK4 := hid (HK3.out.trans k4)
    have c7 : w4.cell? ⟨bi, 0, none⟩ = some (.int .i64 (i : Int)) := blk_cell (HK4.out _ _ _ HR.out.bi (by decide) (by decide) (by decide)) 0
    clear h4 k4 e95
    go_wp2_with (fail)
    have hB : Below w4.heap.size w4 (w4.alloc (.cells #[.int .i64 ((i : Int) + 1)] 3)) := (Below.refl _ _).alloc (Nat.le_refl _) _
    have hN : IsBlk (w4.alloc (.cells #[.int .i64 ((i : Int) + 1)] 3)) w4.heap.size #[.int .i64 (((i + 1 : Nat)) : Int)] 3 := blk_new w4 _
    refine ⟨⟨i + 1, _, HLT.out, rfl, hid ⟨⟨_, HF4.out.below hB, HD3.out.1.crash _, rfl, ?_, ?_⟩, ?_, hN⟩⟩, ?_⟩
    ·rw [crash_len]
     have h1 := HST.out.few
     have h2 := HD.out.2.2.1
     have h1 : H.files.length ≤ G.files.length + 0 := h1
     omega
    ·exact HST.out.room.trans HD.out.2.2.2
    ·exact (hB.block _ (lt_of_block (HK4.out _ _ _ HR.out.bl (by decide) (by decide) (by decide)))).trans (HK4.out _ _ _ HR.out.bl (by decide) (by decide) (by decide))
    ·rw [ptrNat_blk hN, HN.out]
     have := HLT.out
     omega
  ·have q1 : ¬ (i : Int) < (cs.length : Int) := by omega
   obtain rfl : i = cs.length := by omega
   clear hlt hi
   go_wp2_with (fail)
   refine (HFW.out.arm 0 (by decide) (by decide)).mono ?_
   rintro e w2 ⟨rfl, h2, k2⟩
   have HF2 := hid h2
   have HK2 := hid k2
   clear h2 k2 c5 c7
   go_wp2_with (fail)
   refine (HF2.out.open_ (V := V) (HD.out.1.armed (by obtain ⟨T, g1, _⟩ := HFW.out.ex; exact g1.ok.rise) _) dirS_db HP.out.1 HP.out.2.1 HD.out.2.1 (by have := HP.out.2.2.1; have := HCS.out; omega) HD.out.2.2.1 HP.out.2.2.2.2).mono ?_
   rintro e w3 ⟨k3, st3, h3⟩
   generalize (openS _ nmDb size).1 = H at st3 h3
   have HST := hid st3
   clear k3 st3
   rcases h3 with ⟨T, lb, sb, tb, s, rfl, h3, h4, h5, h6, h7, -⟩ | ⟨rfl, h3, h4, h5, h6⟩
   ·have HFIN : Hid (StV w0 w3 fb nmDb size n (c + cs.length + 1) V H T lb sb tb s ∧ s.all = m ∧ s.seq = q ∧ H.armed = 0 ∧ H.room = F.room ∧ Keeps S w w3 ∧ ∀ i, T i → S i ∨ w.heap.size ≤ i) := hid ⟨h3, h4, h5, (HST.out.calm rfl).1, HST.out.room.trans HD.out.2.2.2, h7, h6⟩
    clear h3 h4 h5 h6 h7
    go_wp2_with (fail)
    go_ret
    exact ⟨_, T, lb, sb, tb, s, rfl, HFIN⟩
   ·exact absurd rfl h4
end
end Go.Proofs.YtagdchgkjjpacaaGreat
