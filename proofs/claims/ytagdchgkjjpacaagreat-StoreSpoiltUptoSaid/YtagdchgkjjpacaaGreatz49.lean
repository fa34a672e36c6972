/- An open store on its disk: the calls of exlaw4's statements, nothing armed. -/
import Derived.Test.YtagdchgkjjpacaaGreatz43
import Derived.Test.YtagdchgkjjpacaaGreatz48
import Derived.Test.YtagdchgkjjpacaaGreatz11
import Derived.Test.YtagdchgkjjpacaaGreatRows
import Derived.ProofKit
import Derived.OpenShut
import Derived.JoinedCond
import Derived.Deep.Slices
import Derived.Deep.Fields
import Derived.ChangeSame
import Derived.Test.YtagdchgkjjpacaaGreatz07
import Derived.Test.YtagdchgkjjpacaaGreatz40
set_option maxRecDepth 100000
set_option linter.unusedSimpArgs false
set_option linter.unusedVariables false
set_option linter.unusedSectionVars false
namespace Go.Proofs.YtagdchgkjjpacaaGreat
open Go.RowKit Go.Shelf
def batV (l : List Chg) : Nat := 3000 + batW l
theorem flat_weigh {l : List Chg} (h : chkB l = 0) : (l.flatMap chgB).length ≤ batV l := by
 obtain ⟨h1, h2⟩ := chkB_ok h
 have h3 : ∀ l : List Chg, (∀ c ∈ l, 1 ≤ c.key.size ∧ c.key.size ≤ 200 ∧ (c.drop = false → c.val.size ≤ 65536)) → (l.flatMap chgB).length ≤ 6 * l.length + batW l := by
  intro l
  induction l with
  | nil => intro _; simp
  | cons c l ih =>
    intro hl
    have h1 := hl c (by simp)
    have h2 := ih fun c hc => hl c (by simp [hc])
    have h4 : batW (c :: l) = chgW c + batW l := by simp [batW]
    have h5 : chgW c = min c.key.size 20000 + min c.val.size 80000 := rfl
    rw [List.flatMap_cons, List.length_append, chgB_len, List.length_cons, h4, h5]
    split
    ·omega
    ·rename_i hd
     have := h1.2.2 (by simpa using hd)
     omega
 have := h3 l h2
 unfold batV
 omega
theorem encB_zero {q : Nat} {l : List Chg} (h : (encB ((q : Int) + 1) l).2 = 0) : chkB l = 0 ∧ (batB (q + 1) l).length ≤ 1048576 := by
 rw [encB_seq] at h
 by_cases hc : chkB l = 0
 ·rw [if_neg (by simp [hc])] at h
  by_cases hl : 1048576 < (batB (q + 1) l).length
  ·rw [if_pos hl] at h; cases h
  ·exact ⟨hc, by omega⟩
 ·rw [if_pos hc] at h
  exact absurd h hc
theorem encB_code (q r : Nat) (l : List Chg) : (encB ((q : Int) + 1) l).2 = (encB ((r : Int) + 1) l).2 := by
 rw [encB_seq, encB_seq, batB_len, batB_len]
 split
 ·rfl
 ·split <;> rfl
structure Sto (w0 w : World) (fb : Nat) (dir : ByteArray) (size : Int) (n c V : Nat) (F : FsS) (S : Nat → Prop) (lb sb tb : Nat) (s : StS) : Prop where
 db : Db w0 w fb F (1600 * c) S lb sb tb s (600000000 + 500 * c)
 on : On F s size n
 dir : s.dir = dir
 few : F.files.length ≤ 4 * n + 2
 used : F.used ≤ 810000 * (n : Int)
 wt : wgt s.all ≤ V
def StoU (S : Nat → Prop) (lb sb tb : Nat) (i : Nat) : Prop := S i ∨ i = lb ∨ i = sb ∨ i = tb
section
variable {w0 w w' : World} {fb n c V lb sb tb k N : Nat} {dir : ByteArray} {size : Int} {F G : FsS} {S : Nat → Prop} {s : StS} {l : List Chg}
theorem Db.notU (h : Db w0 w fb F k S lb sb tb s N) {b : Nat} {cs : Array Value} {T : TypeId} (hb : IsBlk w b cs T) (h1 : T ≠ 102) (h2 : T ≠ 107) (h3 : T ≠ 5) (h4 : T ≠ 165) (h5 : T ≠ 126) (h6 : T ≠ 160) : ¬ StoU S lb sb tb b := by
 obtain ⟨t, ver, ⟨root, ht, _⟩, _⟩ := h.st.tab
 rintro (e | e | e | e)
 ·exact h.pure.not hb h1 h2 h3 e
 ·exact blk_ne_type hb h.lg.log.blk h4 e
 ·exact blk_ne_type hb h.st.blk h5 e
 ·exact blk_ne_type hb ht h6 e
theorem Db.lowU (h : Db w0 w fb F k S lb sb tb s N) {b : Nat} (hb : b < w0.heap.size) : ¬ StoU S lb sb tb b := by
 rintro (e | e | e | e)
 ·have := h.lg.hd.low _ e; omega
 ·have := h.lg.log.low; omega
 ·have := h.low.1; omega
 ·have := h.low.2; omega
theorem Sto.below (h : Sto w0 w fb dir size n c V F S lb sb tb s) (hb : Below w.heap.size w w') : Sto w0 w' fb dir size n c V F S lb sb tb s := ⟨h.db.below hb, h.on, h.dir, h.few, h.used, h.wt⟩
theorem Sto.more (h : Sto w0 w fb dir size n c V F S lb sb tb s) {n' c' V' : Nat} (hn : n ≤ n') (hc : c ≤ c') (hV : V ≤ V') (h9 : n' ≤ 900) : Sto w0 w fb dir size n' c' V' F S lb sb tb s :=
 ⟨h.db.more (by omega) (by omega), h.on.mono hn h9, h.dir, by have := h.few; omega, by have := h.used; omega, Nat.le_trans h.wt hV⟩
theorem Db.args (h : Db w0 w fb F k S lb sb tb s N) {a : Option Addr} {cap : Nat} (hr : RdAt chgKind w0 (.slice a l.length cap) l) (hl : l ≠ []) : ∀ g, (Value.slice a l.length cap).ownBlock = some g → ¬ S g ∧ g ≠ lb ∧ g ≠ sb ∧ g ≠ tb := fun g hg => by
 obtain ⟨off, x, hx⟩ := hr.first hl hg
 have h0 : ∃ u, w0.cell? ⟨g, off, none⟩ = some u := by
  rw [hx, List.getElem?_eq_getElem (by rw [chgKind.len]; exact chgKind.pos)]; exact ⟨_, rfl⟩
 obtain ⟨u, hu⟩ := h0
 have h2 := h.lowU (World.block_lt_of_cell? w0 _ hu)
 exact ⟨fun e => h2 (.inl e), fun e => h2 (.inr (.inl e)), fun e => h2 (.inr (.inr (.inl e))), fun e => h2 (.inr (.inr (.inr e)))⟩
theorem Sto.wrote (h : Sto w0 w fb dir size n c V F S lb sb tb s) (hn : n + 1 ≤ 900) (hB : batW l ≤ 80000) {R : StS × FsS × Int} (o : WrOut F s size n l R) (hp : WrsPost w0 w fb S (1600 * (c + 1)) (600000000 + 500 * (c + 1)) lb sb tb R.1 R.2.1 w') (h5 : R.2.2 ≠ 5) :
 (∃ S', Sto w0 w' fb dir size (n + 1) (c + 1) (V + batV l) R.2.1 S' lb sb tb R.1 ∧ ∀ i, S' i → S i ∨ w.heap.size ≤ i) ∧ (F.armed = 0 → R.2.1.armed = 0) ∧ R.2.1.room = F.room ∧
   ((R.2.2 = ((encB ((s.seq : Int) + 1) l).2 : Int) ∧ R.2.2 ≠ 0 ∧ R.1.all = s.all ∧ R.1.seq = s.seq) ∨
     (R.2.2 = 0 ∧ (encB ((s.seq : Int) + 1) l).2 = 0 ∧ R.1.all = applyB s.all l ∧ R.1.seq = if l = [] then s.seq else s.seq + 1) ∨
     (R.2.2 = 4 ∧ (encB ((s.seq : Int) + 1) l).2 = 0 ∧ R.1.all = s.all ∧ R.1.seq = s.seq ∧ F.room - F.used < ((18 + batV l : Nat) : Int))) := by
 obtain ⟨T, h1, h2⟩ := hp.ex
 have hfew := h.few
 have hused := h.used
 have hwt := h.wt
 have hbv : batV l = 3000 + batW l := rfl
 rcases o with ⟨e, he, h5', henc, rfl⟩ | ⟨henc, hl, rfl⟩ | ⟨henc, hl, hR, on, ha, hq, hd, st⟩ | ⟨henc, hl, hR, on, ha, hq, hd, hf, st⟩ | ⟨henc, hl, hR, hd, arm, disk, few, rise⟩
 ·refine ⟨⟨T, ⟨h1, h.on.mono (Nat.le_succ n) hn, h.dir, by show F.files.length ≤ _; omega, by show F.used ≤ _; omega, by show wgt s.all ≤ _; omega⟩, h2⟩, fun e => e, rfl, .inl ⟨by rw [henc], by show (e : Int) ≠ 0; omega, rfl, rfl⟩⟩
 ·refine ⟨⟨T, ⟨h1, h.on.mono (Nat.le_succ n) hn, h.dir, by show F.files.length ≤ _; omega, by show F.used ≤ _; omega, by show wgt s.all ≤ _; omega⟩, h2⟩, fun e => e, rfl, .inr (.inl ⟨rfl, henc, by rw [hl]; rfl, by rw [if_pos hl]⟩)⟩
 ·have hz := encB_zero henc
  have hw := flat_weigh hz.1
  have hfl := applyB_fit l s.all
  have hbl := batB_len (s.seq + 1) l
  have hsf := st.few
  have hsu := st.used
  refine ⟨⟨T, ⟨h1, on, by rw [hd.1]; exact h.dir, by omega, by omega, by rw [ha]; omega⟩, h2⟩, fun e => (st.calm e).1, st.room, .inr (.inl ⟨hR, henc, ha, by rw [if_neg hl]; exact hq⟩)⟩
 ·have hz := encB_zero henc
  have hw := flat_weigh hz.1
  have hbl := batB_len (s.seq + 1) l
  have hsf := st.few
  have hsu := st.used
  refine ⟨⟨T, ⟨h1, on, by rw [hd.1]; exact h.dir, by omega, by omega, by rw [ha]; omega⟩, h2⟩, fun e => (st.calm e).1, st.room, .inr (.inr ⟨hR, henc, ha, hq, by omega⟩)⟩
 ·exact absurd hR h5
theorem Sto.write (h : Sto w0 w fb dir size n c V F S lb sb tb s) (hdir : DirS dir) (hn : n ≤ 90) (hc : c ≤ 400) {a : Option Addr} {cap : Nat} (hr : RdAt chgKind w0 (.slice a l.length cap) l) (hl : l.length ≤ 1048576) :
 Calls Tryz.prog 25 #[.pointer (some ⟨sb, 0, none⟩), .slice a l.length cap] w fun e w' => e = .returned (.int .i64 (writeS s F l).2.2) ∧ WrOut F s size n l (writeS s F l) ∧ WrsPost w0 w fb S (1600 * (c + 1)) (600000000 + 500 * (c + 1)) lb sb tb (writeS s F l).1 (writeS s F l).2.1 w' := by
 have ho := swrite_out h.on (by omega) (by have := h.few; omega) l
 have hds : s.dir.size ≤ 70 := by rw [h.dir]; exact hdir.small
 refine (st_write h.db (by omega) ?_ (by have := h.on.nl; omega) (by have := h.on.nq; omega) (by omega) (hr.below h.db.lg.hd.below) (fun hne => h.db.args hr hne) (by omega)).mono fun e w' ⟨he, hp⟩ => ⟨he, ho, ?_⟩
 ·rw [h.on.ldir, nm_size]
  have : sLog.size = 3 := rfl
  omega
 ·obtain ⟨T, h1, h2⟩ := hp.ex
  exact ⟨⟨T, h1.more (by omega) (by omega), h2⟩, hp.keeps⟩
theorem Sto.ckpt (h : Sto w0 w fb dir size n c V F S lb sb tb s) (hn : n + 1 ≤ 900) (hV : V ≤ 200000) {R : StS × FsS × Int} (o : ChkOut F s size n R) (hp : WrsPost w0 w fb S (1600 * (c + 1)) (600000000 + 500 * (c + 1)) lb sb tb R.1 R.2.1 w') (h5 : R.2.1.down = false) :
 (∃ S', Sto w0 w' fb dir size (n + 1) (c + 1) V R.2.1 S' lb sb tb R.1 ∧ ∀ i, S' i → S i ∨ w.heap.size ≤ i) ∧ (F.armed = 0 → R.2.1.armed = 0) ∧ R.2.1.room = F.room ∧ R.1.all = s.all ∧ R.1.seq = s.seq ∧
   ((R.2.2 = 0 ∧ R.1.base ≠ 0 ∧ LogOn R.2.1 R.1.log [[]]) ∨ (R.2.2 = 4 ∧ F.room - F.used < 810000)) := by
 obtain ⟨T, h1, h2⟩ := hp.ex
 have hfew := h.few
 have hused := h.used
 have hwt := h.wt
 have him := img_len s.seq h.on.fit.ok
 rcases o with ⟨hR, on, ha, hq, hd, hb, lg, st⟩ | ⟨hR, on, ha, hq, hd, hf, st⟩ | ⟨hR, hd, arm, disk, few⟩
 ·have hsf := st.few
  have hsu := st.used
  exact ⟨⟨T, ⟨h1, on, by rw [hd]; exact h.dir, by omega, by omega, by rw [ha]; exact hwt⟩, h2⟩, fun e => (st.calm e).1, st.room, ha, hq, .inl ⟨hR, by omega, lg⟩⟩
 ·have hsf := st.few
  have hsu := st.used
  exact ⟨⟨T, ⟨h1, on, by rw [hd]; exact h.dir, by omega, by omega, by rw [ha]; exact hwt⟩, h2⟩, fun e => (st.calm e).1, st.room, ha, hq, .inr ⟨hR, by omega⟩⟩
 ·rw [hd] at h5; cases h5
theorem Sto.chk (h : Sto w0 w fb dir size n c V F S lb sb tb s) (hdir : DirS dir) (hn : n ≤ 90) (hc : c ≤ 400) (hV : V ≤ 200000) :
 Calls Tryz.prog 26 #[.pointer (some ⟨sb, 0, none⟩)] w fun e w' => e = .returned (.int .i64 (chkS s F).2.2) ∧ ChkOut F s size n (chkS s F) ∧ WrsPost w0 w fb S (1600 * (c + 1)) (600000000 + 500 * (c + 1)) lb sb tb (chkS s F).1 (chkS s F).2.1 w' := by
 have ho := chk_out h.on (by rw [h.dir]; exact hdir) (by omega) (by have := h.few; omega)
 have hds : s.dir.size ≤ 70 := by rw [h.dir]; exact hdir.small
 have hls : s.log.dir.size ≤ 1000 := by
  rw [h.on.ldir, nm_size]
  have : sLog.size = 3 := rfl
  omega
 have him := img_len s.seq h.on.fit.ok
 have hwt := h.wt
 refine (st_checkpoint h.db (by omega) (by omega) hls (by have := h.on.nl; omega) (by have := h.on.nq; omega) (by omega) h.on.fit.ok (by omega) (by rw [h.on.top]; have := h.on.nb; omega)).mono fun e w' ⟨he, hp⟩ => ⟨he, ho, ?_⟩
 obtain ⟨T, h1, h2⟩ := hp.ex
 exact ⟨⟨T, h1.more (by omega) (by omega), h2⟩, hp.keeps⟩
theorem disk_last {q : Nat} {m : Prs} (h : Disk F dir n q m) (hdir : DirS dir) (h16 : 16 ≤ size) (h20 : size ≤ 1048576) (hd : F.down = false) (h0 : (openL F (nmOf dir sLog) size).2.2.2 = 0) : (openL F (nmOf dir sLog) size).2.1.last ≤ 1000 := by
 obtain ⟨b, f, q0, m0, first, old, cur, cc, t, sy, ro, rc, a, ma, d⟩ := h
 have ho := d.log (size := size) (hdir.seg 1) h16 h20 hd
 have hl := d.nl
 have hn := d.n1
 rcases ho.out with ⟨cut, e, _⟩ | ⟨e, _⟩
 ·rw [e]
  show first + (old ++ cur).length ≤ 1000
  omega
 ·rw [e] at h0
  cases h0
theorem open_disk {q : Nat} {m : Prs} (h : Hd w0 w fb F (1600 * c) S) (hD : Disk F dir n q m) (hdir : DirS dir) (h16 : 16 ≤ size) (h20 : size ≤ 1048576) (hd : F.down = false) (hc : c ≤ 400) :
 Calls Tryz.prog 24 #[.pointer (some ⟨fb, 0, none⟩), .string dir, .agg #[.int .i64 size]] w fun e w' => OpenOut F dir size n q m (openS F dir size) ∧ OpnPost w0 w fb (PS S w) (1600 * (c + 1)) (openS F dir size) e w' := by
 have ho := sopen_out (size := size) hD hdir h16 h20 hd
 refine (st_open2 h.ps (PS.pure _ _) (by omega) dir (by have := hdir.small; omega) size (fun h0 => disk_last hD hdir h16 h20 hd h0)).mono fun e w' hp => ⟨ho, ?_⟩
 refine ⟨hp.1, ?_⟩
 rcases hp.2 with ⟨s, lb, sb, tb, T, e1, e2, e3, hdb, hT⟩ | ⟨e1, e2, e3, T, e4, e5, e6⟩
 ·exact .inl ⟨s, lb, sb, tb, T, e1, e2, e3, hdb.more (by omega) (Nat.le_refl _), hT⟩
 ·exact .inr ⟨e1, e2, e3, T, e4, ⟨e5.fs, e5.low, e5.below, e5.ok.mono (by omega)⟩, e6⟩
theorem open_calm {q : Nat} {m : Prs} (h : Hd w0 w fb F (1600 * c) S) (hD : Disk F dir n q m) (hdir : DirS dir) (h16 : 16 ≤ size) (h20 : size ≤ 1048576) (hd : F.down = false) (hc : c ≤ 400) (ha : F.armed = 0) (hf : F.files.length ≤ 4 * n + 2) (hu : F.used ≤ 810000 * (n : Int)) (hw : wgt m ≤ V) :
 Calls Tryz.prog 24 #[.pointer (some ⟨fb, 0, none⟩), .string dir, .agg #[.int .i64 size]] w fun e w' => ∃ G T lb sb tb s, e = .returned (.tuple #[.pointer (some ⟨sb, 0, none⟩), .int .i64 0]) ∧ Sto w0 w' fb dir size n (c + 1) V G T lb sb tb s ∧ s.all = m ∧ s.seq = q ∧ G.armed = 0 ∧ G.room = F.room ∧ Keeps (PS S w) w w' ∧ ((∀ i, T i → S i ∨ w.heap.size ≤ i) ∧ w.heap.size ≤ lb ∧ w.heap.size ≤ sb ∧ w.heap.size ≤ tb) ∧ Step (inDir dir) 0 0 F G := by
 refine (open_disk h hD hdir h16 h20 hd hc).mono fun e w' ⟨ho, hk, hp⟩ => ?_
 obtain ⟨st, o⟩ := ho
 rcases hp with ⟨s, lb, sb, tb, T, e1, e2, e3, hdb, hT, h1, h2, h3⟩ | ⟨e1, e2, _⟩
 ·rcases o with ⟨s2, k1, k2, k3, k4, k5, k6⟩ | ⟨k1, _⟩
  ·rw [e1] at k1
   obtain rfl : s = s2 := Option.some.inj k1
   have hsf := st.few
   have hsu := st.used
   refine ⟨_, T, lb, sb, tb, s, e3, ⟨hdb.more (Nat.le_refl _) (by omega), k6, k3, by omega, by omega, by rw [k5]; exact hw⟩, k5, k4, (st.calm ha).1, st.room, hk, ⟨fun i hi => ?_, h1, h2, h3⟩, st⟩
   rcases hT i hi with e | e
   ·exact .inl e.1
   ·exact .inr e
  ·rw [e1] at k1; cases k1
 ·rcases o with ⟨s2, k1, _⟩ | ⟨_, _, _, k, _⟩
  ·rw [e1] at k1; cases k1
  ·exact absurd ha k
theorem open_fresh (h : Hd w0 w fb F (1600 * c) S) (hcc : c ≤ 400) (hno : ∀ k x, F.find k = some x → ¬ inDir dir k) (hdir : DirS dir) (h16 : 16 ≤ size) (h20 : size ≤ 1048576) (hd : F.down = false) (ha : F.armed = 0) (hf : F.files.length ≤ 5) (hu : F.used ≤ 810000) :
 Calls Tryz.prog 24 #[.pointer (some ⟨fb, 0, none⟩), .string dir, .agg #[.int .i64 size]] w fun e w' => ∃ G T lb sb tb s, e = .returned (.tuple #[.pointer (some ⟨sb, 0, none⟩), .int .i64 0]) ∧ Sto w0 w' fb dir size 1 (c + 1) 0 G T lb sb tb s ∧ s.all = [] ∧ s.seq = 0 ∧ G.armed = 0 ∧ G.room = F.room ∧ Keeps (PS S w) w w' ∧ ((∀ i, T i → S i ∨ w.heap.size ≤ i) ∧ w.heap.size ≤ lb ∧ w.heap.size ≤ sb ∧ w.heap.size ≤ tb) ∧ G.used = F.used ∧ G.files = putL slt F.files (segName (nmOf dir sLog) 1) (fl []) := by
 obtain ⟨G, s, hO, hon, h1, h2, h3, h4, h5, h6, h7⟩ := sopen_fresh (size := size) (n := 1) h.ok.rise hno hdir h16 h20 hd ha (by omega) (by omega) (by omega)
 have hsg : Segs F (nmOf dir sLog) 1 [] := ⟨h.ok.rise, Nat.le_refl _, by simp, fun i d hi => by simp at hi, fun k x hx hk => absurd (inDir_seg dir hk) (hno k x hx)⟩
 obtain ⟨G2, e1, _⟩ := open_none hsg hdir.log h16 h20 hd ha (by omega)
 have hfl : G.files.length ≤ F.files.length + 1 := by rw [h7]; exact put_len_le h.ok.rise _ _
 refine (st_open2 h.ps (PS.pure _ _) (by omega) dir (by have := hdir.small; omega) size (fun _ => by rw [e1]; show (1 : Nat) ≤ 1000; decide)).mono fun e w' hp => ?_
 rw [hO] at hp
 rcases hp with ⟨hkp, ⟨s2, lb, sb, tb, T, k1, k2, k3, hdb, hT, k4, k5, k6⟩ | ⟨k1, _⟩⟩
 ·obtain rfl : s = s2 := Option.some.inj k1
  refine ⟨G, T, lb, sb, tb, s, k3, ⟨hdb.more (by omega) (by omega), hon, h1, by omega, by rw [h6]; omega, by rw [h3]; exact Nat.le_refl _⟩, h3, h2, h4, h5, hkp, ⟨fun i hi => ?_, k4, k5, k6⟩, h6, h7⟩
  rcases hT i hi with e | e
  ·exact .inl e.1
  ·exact .inr e
 ·cases k1
theorem StB.keepsOther {N : Nat} {cc : StC} {m : Prs} {U : Nat → Prop} (h : StB w sb cc m N) (hk : Keeps U w w') (h1 : ¬ U sb) (h2 : ¬ U cc.tb) (h3 : ∀ b cs, IsBlk w b cs 188 → ¬ U b) : StB w' sb cc m N := by
 obtain ⟨t, ver, ht, k2, k3⟩ := h.tab
 obtain ⟨root, hb, htr⟩ := ht
 exact ⟨hk.obj h.blk h1, ⟨t, ver, Ss.STab.keeps ⟨root, hb, htr⟩ hk h2 (fun b cs hbk e => h3 b cs hbk e), k2, k3⟩, h.rise, h.len⟩
theorem Sto.moved (h : Sto w0 w fb dir size n c V F S lb sb tb s) {U : Nat → Prop} {n' c' : Nat} {G : FsS} {T : Nat → Prop} (hk : Keeps U w w') (h1 : ¬ U lb) (h2 : ¬ U sb) (h3 : ¬ U tb) (h4 : ∀ b cs, IsBlk w b cs 188 → ¬ U b) (hd : Hd w0 w' fb G (1600 * c') T) (hp : PureS T w') (hT : ∀ i, T i → S i ∨ w.heap.size ≤ i)
 (hup : G.down = false) (ho : ∀ m, inDir dir m → G.find m = F.find m) (hf : G.files.length ≤ 4 * n' + 2) (hu : G.used ≤ 810000 * (n' : Int)) (hn : n ≤ n') (hc : c ≤ c') (h9 : n' ≤ 900) : Sto w0 w' fb dir size n' c' V G T lb sb tb s := by
 have ha := h.db.apart
 refine ⟨⟨⟨hd, ⟨hk.obj h.db.lg.log.blk h1, fun e => ?_, h.db.lg.log.low⟩⟩, hp, (h.db.st.keepsOther hk h2 h3 h4).mono (by omega), h.db.low⟩, (h.on.ext hd.ok.rise hup (by rw [h.dir]; exact ho)).mono hn h9, h.dir, hf, hu, h.wt⟩
 rcases hT _ e with e | e
 ·exact h.db.lg.log.out e
 ·omega
theorem Disk.apart {q : Nat} {m : Prs} (h : Disk F dir n q m) (hr : Rise slt G.files) (ho : ∀ k, inDir dir k → G.find k = F.find k) : Disk G dir n q m :=
 h.ext hr (fun k hk _ => ho k hk) fun k x hx hi => .inl ⟨x, by rw [← ho k hi]; exact hx⟩
theorem WrOut.step {R : StS × FsS × Int} (h : WrOut F s size n l R) (h5 : R.2.2 ≠ 5) : ∃ i u, Step (inDir s.dir) i u F R.2.1 := by
 rcases h with ⟨e, he, h5', henc, rfl⟩ | ⟨henc, hl, rfl⟩ | ⟨henc, hl, hR, on, ha, hq, hd, st⟩ | ⟨henc, hl, hR, on, ha, hq, hd, hf, st⟩ | ⟨henc, hl, hR, _⟩
 ·exact ⟨0, 0, Step.refl _ _⟩
 ·exact ⟨0, 0, Step.refl _ _⟩
 ·exact ⟨_, _, st.mono (fun k e => inDir_seg s.dir e) (Nat.le_refl _) (Int.le_refl _)⟩
 ·exact ⟨_, _, st.mono (fun k e => inDir_seg s.dir e) (Nat.le_refl _) (Int.le_refl _)⟩
 ·exact absurd hR h5
theorem ChkOut.step {R : StS × FsS × Int} (h : ChkOut F s size n R) (h5 : R.2.1.down = false) : ∃ i u, Step (inDir s.dir) i u F R.2.1 := by
 rcases h with ⟨hR, on, ha, hq, hd, hb, lg, st⟩ | ⟨hR, on, ha, hq, hd, hf, st⟩ | ⟨hR, hd, _⟩
 ·exact ⟨_, _, st⟩
 ·exact ⟨_, _, st⟩
 ·rw [hd] at h5; cases h5
end
open Go.ChangeShapes Go.WideShapes Go.ChangeAt Go.RowKit
theorem Tryz.own : ownKnob Tryz.prog.godebug = none := by kernel_rfl
theorem Tryz.laidOut : laidOutB Tryz.prog = true := by kernel_rfl
theorem cellsStr : Tryz.prog.cellsOf 9 = 1 := by kernel_rfl
instance : Inhabited FOp := ⟨⟨0, 0, .empty, .empty, []⟩⟩
section
variable {H : Type} {enc : TypeId × Value → H} {W : World} {base : Nat} {spare : Nat → Bool} {held : Bool}
theorem spot_of_cell {a : Addr} {v : Value} (h : W.cell? a = some v) : a.spot = none := by
 unfold World.cell? at h
 split at h
 ·split at h
  ·simp at h
  ·rename_i hn; cases hs : a.spot with
   | none => rfl
   | some k => rw [hs] at hn; simp at hn
 ·simp at h
theorem add_plain {a : Addr} (h : a.spot = none) (n : Nat) : a.add n = ⟨a.block, a.off + n, none⟩ := by
 obtain ⟨b, o, sp⟩ := a
 have : sp = none := h
 subst this
 unfold Addr.add
 split
 ·rename_i h0; subst h0; rfl
 ·rfl
end
theorem cellsChg : Tryz.prog.cellsOf 42 = 3 := by kernel_rfl
theorem cellsChgs : Tryz.prog.cellsOf 22 = 1 := by kernel_rfl
theorem cellsBool : Tryz.prog.cellsOf 4 = 1 := by kernel_rfl
instance instSlV2 : Inhabited SlV := ⟨⟨none, 0, 0⟩⟩
instance : Inhabited Chg := ⟨⟨.empty, .empty, false⟩⟩
theorem bulkPos {H : Type} (d : DataW H) : 1 ≤ Rows.uptoBulk d := by
 cases d with
 | lit l => cases l <;> simp [Rows.uptoBulk]
 | nil => simp [Rows.uptoBulk]
 | ptr d => simp [Rows.uptoBulk]
 | slice a b => simp [Rows.uptoBulk]
 | agg a => simp [Rows.uptoBulk]
 | iface a b => simp [Rows.uptoBulk]
 | map a => simp [Rows.uptoBulk]
 | held a => simp [Rows.uptoBulk]
theorem bulkLen {H : Type} : ∀ l : List (DataW H), l.length ≤ Rows.uptoBulkAll l
 | [] => by simp [Rows.uptoBulkAll]
 | d :: l => by
   have := bulkPos d
   have := bulkLen l
   simp only [Rows.uptoBulkAll, List.length_cons]
   omega
theorem bulkMem {H : Type} {d : DataW H} : ∀ {l : List (DataW H)}, d ∈ l → Rows.uptoBulk d ≤ Rows.uptoBulkAll l
 | x :: l, h => by
   simp only [Rows.uptoBulkAll]
   rcases List.mem_cons.1 h with e | e
   ·subst e; omega
   ·have := bulkMem e; omega
section
variable {H : Type} {enc : TypeId × Value → H} {W : World} {base : Nat} {spare : Nat → Bool} {held : Bool}
theorem chg_open {n : Nat} {cs : List Value} {x : DataW H × List MemPlace} (h : DataW.trod enc Tryz.prog W base spare held n 42 cs = some x) :
 ∃ c : Chg, cs = [.string c.key, .string c.val, .bool c.drop] ∧ c.key.size ≤ Rows.uptoBulk x.1 ∧ c.val.size ≤ Rows.uptoBulk x.1 := by
 obtain ⟨xs, m, _, ex, hl, hx, hf⟩ := DataW.trod_struct Tryz.underlying42 h
 have hl : cs.length = 3 := hl.trans cellsChg
 have hx : xs.length = 3 := hx
 obtain ⟨c0, c1, c2, rfl⟩ : ∃ c0 c1 c2, cs = [c0, c1, c2] := by
  match cs, hl with
  | [c0, c1, c2], _ => exact ⟨_, _, _, rfl⟩
 obtain ⟨y0, y1, y2, rfl⟩ : ∃ y0 y1 y2, xs = [y0, y1, y2] := by
  match xs, hx with
  | [c0, c1, c2], _ => exact ⟨_, _, _, rfl⟩
 have g0 : DataW.trod enc Tryz.prog W base spare held m 9 (([c0, c1, c2].drop 0).take (Tryz.prog.cellsOf 9)) = some y0 := hf 0 _ rfl
 rw [cellsStr] at g0
 have g1 : DataW.trod enc Tryz.prog W base spare held m 9 (([c0, c1, c2].drop 1).take (Tryz.prog.cellsOf 9)) = some y1 := hf 1 _ rfl
 rw [cellsStr] at g1
 have g2 : DataW.trod enc Tryz.prog W base spare held m 4 (([c0, c1, c2].drop 2).take (Tryz.prog.cellsOf 4)) = some y2 := hf 2 _ rfl
 rw [cellsBool] at g2
 obtain ⟨k, e0, z0, _⟩ := DataW.trod_string Tryz.underlying9 (x := y0) g0
 obtain ⟨v, e1, z1, _⟩ := DataW.trod_string Tryz.underlying9 (x := y1) g1
 obtain ⟨d, e2, z2⟩ := DataW.trod_bool Tryz.underlying4 (x := y2) g2
 injection e0 with e0 _
 injection e1 with e1 _
 injection e2 with e2 _
 subst e0 e1 e2
 refine ⟨⟨k, v, d⟩, rfl, ?_, ?_⟩
 ·rw [ex]
  have h1 := bulkMem (d := y0.1) (l := ([y0, y1, y2].map (·.1))) (by simp)
  rw [z0] at h1
  have e : (Rows.uptoBulk (.lit (.string k.data.toList) : DataW H)) = k.data.toList.length + 1 := by simp [Rows.uptoBulk]
  rw [e] at h1
  have e2 : k.data.toList.length = k.size := rfl
  show k.size ≤ Rows.uptoBulk (.agg _)
  simp only [Rows.uptoBulk]
  rw [z0]
  omega
 ·rw [ex]
  have h1 := bulkMem (d := y1.1) (l := ([y0, y1, y2].map (·.1))) (by simp)
  rw [z1] at h1
  have e : (Rows.uptoBulk (.lit (.string v.data.toList) : DataW H)) = v.data.toList.length + 1 := by simp [Rows.uptoBulk]
  rw [e] at h1
  have e2 : v.data.toList.length = v.size := rfl
  show v.size ≤ Rows.uptoBulk (.agg _)
  simp only [Rows.uptoBulk]
  rw [z1]
  omega
theorem chgs_open {n : Nat} {cs : List Value} {x : DataW H × List MemPlace} (h : DataW.trod enc Tryz.prog W base spare held n 22 cs = some x) :
 ∃ (a : Option Addr) (cap : Nat) (l : List Chg), cs = [.slice a l.length cap] ∧ RdAt chgKind W (.slice a l.length cap) l ∧ l.length ≤ Rows.uptoBulk x.1 ∧ ∀ c ∈ l, c.key.size ≤ Rows.uptoBulk x.1 ∧ c.val.size ≤ Rows.uptoBulk x.1 := by
 rcases Go.Deep.open_slice Tryz.underlying22 h with ⟨hcs, _⟩ | ⟨a, len, cap, m, nn, D, Pl, hcs, _, hl, hm, hmm, hx, hi⟩
 ·exact ⟨none, 0, [], hcs, ⟨none, 0, rfl, fun j x hx => by simp at hx⟩, Nat.zero_le _, fun c hc => by simp at hc⟩
 ·have hlm : len ≤ m := by rw [hmm]; split <;> omega
  have cell : ∀ i, i < len → ∃ c : Chg, W.cell? ((a.add (i * 3)).add 0) = some (.string c.key) ∧ W.cell? ((a.add (i * 3)).add 1) = some (.string c.val) ∧ W.cell? ((a.add (i * 3)).add 2) = some (.bool c.drop) ∧ c.key.size ≤ Rows.uptoBulk (D i) ∧ c.val.size ≤ Rows.uptoBulk (D i) := by
   intro i hil
   obtain ⟨cs', hc, ht⟩ := hi i (by omega)
   rw [cellsChg] at hc
   obtain ⟨c, rfl, b1, b2⟩ := chg_open ht
   obtain ⟨_, _, hat⟩ := World.cells?_some hc
   exact ⟨c, hat 0 (by omega), hat 1 (by omega), hat 2 (by omega), b1, b2⟩
  obtain ⟨f, hf⟩ := Go.Deep.choose_lt cell
  have hlen : ((List.range len).map f).length = len := by rw [List.length_map, List.length_range]
  have hbulk : Rows.uptoBulkAll ((List.range len).map D) ≤ Rows.uptoBulk x.1 := by
   rw [hx]
   simp only [Rows.uptoBulk]
   omega
  refine ⟨some a, cap, (List.range len).map f, by rw [hlen]; exact hcs, ⟨some a, cap, by rw [hlen], fun j x hxj => ?_⟩, ?_, fun c hc => ?_⟩
  ·have hj : j < len := by
    have := (List.getElem?_eq_some_iff.1 hxj).1
    omega
   have ex : x = f j := by
    rw [List.getElem?_map, List.getElem?_range hj] at hxj
    exact (Option.some.inj hxj).symm
   subst ex
   obtain ⟨z0, _⟩ := hf 0 (by omega)
   have sp : a.spot = none := spot_of_cell z0
   obtain ⟨k0, k1, k2, _⟩ := hf j hj
   have e : ∀ u, (a.add (j * 3)).add u = ⟨a.block, a.off + j * 3 + u, none⟩ := fun u => by
    rw [add_plain sp (j * 3)]
    exact add_plain rfl u
   rw [e] at k0 k1 k2
   refine ⟨a.block, a.off, ?_, fun i hi3 => ?_⟩
   ·have := add_plain sp 0
    rw [show a.add 0 = a from rfl] at this
    rw [this]
   ·have hi3 : i < 3 := hi3
    match i, hi3 with
    | 0, _ => exact k0
    | 1, _ => exact k1
    | 2, _ => exact k2
  ·have h1 := bulkLen ((List.range len).map D)
   rw [List.length_map, List.length_range] at h1
   rw [hlen]
   omega
  ·obtain ⟨j, hj⟩ := List.getElem?_of_mem hc
   have hj2 : j < len := by
    have := (List.getElem?_eq_some_iff.1 hj).1
    omega
   have ex : c = f j := by
    rw [List.getElem?_map, List.getElem?_range hj2] at hj
    exact (Option.some.inj hj).symm
   obtain ⟨_, _, _, b1, b2⟩ := hf j hj2
   have h2 := bulkMem (d := D j) (l := (List.range len).map D) (List.mem_map.2 ⟨j, List.mem_range.2 hj2, rfl⟩)
   rw [ex]
   omega
theorem bats_open {r : Reach} {b0 : Nat} {v : Value} {d : DataW H} {p : List MemPlace} (hv : Value.okWide Tryz.prog W r b0 26 v) (h : DataW.Trod enc Tryz.prog W base spare held 26 v d p) (hb : Rows.uptoBulk d ≤ 1048576) :
 ∃ ls : List (List Chg), BatsAt W v ls := by
 obtain ⟨a0, l0, c0, rfl⟩ := okWide_slice Tryz.underlying26 hv
 obtain ⟨fuel, hf⟩ := h
 rcases Go.Deep.open_slice1 Tryz.underlying26 cellsChgs hf with ⟨hcs, _⟩ | ⟨a, len, cap, m, n, V, D, Pl, hcs, _, hl, hm, hmm, hx, hi⟩
 ·have hcs : [Value.slice a0 l0 c0] = [Value.slice none 0 0] := hcs
  injection hcs with e _
  injection e with e1 e2 e3
  subst e1 e2 e3
  exact ⟨[], ⟨[], ⟨none, 0, rfl, fun j x hx => by simp at hx⟩, rfl, fun j s r hs => by simp at hs⟩, Nat.zero_le _, fun l hl => by simp at hl⟩
 ·have hcs : [Value.slice a0 l0 c0] = [Value.slice (some a) len cap] := hcs
  injection hcs with e _
  injection e with e1 e2 e3
  subst e1 e2 e3
  have hlm : l0 ≤ m := by rw [hmm]; split <;> omega
  have hd : d = .slice ((List.range l0).map D) ((List.range (m - l0)).map fun i => D (l0 + i)) := congrArg (·.1) hx
  have hbulk : Rows.uptoBulkAll ((List.range l0).map D) ≤ 1048576 := by
   rw [hd] at hb
   simp only [Rows.uptoBulk] at hb
   omega
  have cell : ∀ i, i < l0 → ∃ x : SlV × List Chg, W.cell? (a.add i) = some x.1.val ∧ x.1.len = x.2.length ∧ RdAt chgKind W x.1.val x.2 ∧ x.2.length ≤ 1048576 ∧ ∀ c ∈ x.2, c.key.size ≤ 1048576 ∧ c.val.size ≤ 1048576 := by
   intro i hil
   obtain ⟨hc, ht⟩ := hi i (by omega)
   obtain ⟨ba, bc, l, e, hr, h1, h2⟩ := chgs_open ht
   injection e with e _
   rw [e] at hc
   have h3 := bulkMem (d := D i) (l := (List.range l0).map D) (List.mem_map.2 ⟨i, List.mem_range.2 hil, rfl⟩)
   have h1 : l.length ≤ Rows.uptoBulk (D i) := h1
   have h2 : ∀ c ∈ l, c.key.size ≤ Rows.uptoBulk (D i) ∧ c.val.size ≤ Rows.uptoBulk (D i) := h2
   exact ⟨(⟨ba, l.length, bc⟩, l), hc, rfl, hr, by show l.length ≤ 1048576; omega, fun c hc => by have := h2 c hc; omega⟩
  obtain ⟨f, hf'⟩ := Go.Deep.choose_lt cell
  have at1 : ∀ {α : Type} (g : Nat → α) (j : Nat) (x : α), ((List.range l0).map g)[j]? = some x → j < l0 ∧ x = g j := by
   intro α g j x hx
   have hj : j < l0 := by
    have := (List.getElem?_eq_some_iff.1 hx).1
    rwa [List.length_map, List.length_range] at this
   rw [List.getElem?_map, List.getElem?_range hj] at hx
   exact ⟨hj, (Option.some.inj hx).symm⟩
  refine ⟨(List.range l0).map fun i => (f i).2, ⟨(List.range l0).map fun i => (f i).1, ⟨some a, c0, by simp, fun j x hx => ?_⟩, by simp, fun j s r hs hr => ?_⟩, ?_, fun l hl => ?_⟩
  ·obtain ⟨hj, rfl⟩ := at1 _ _ _ hx
   have sp : a.spot = none := spot_of_cell (hf' 0 (by omega)).1
   have z := (hf' j hj).1
   rw [add_plain sp] at z
   refine ⟨a.block, a.off, by have := add_plain sp 0; rw [show a.add 0 = a from rfl] at this; rw [this], fun i hi => ?_⟩
   have hi0 : i = 0 := by have : i < 1 := hi; omega
   subst hi0
   show W.cell? ⟨a.block, a.off + j * 1 + 0, none⟩ = some _
   rw [Nat.mul_one, Nat.add_zero]
   exact z
  ·obtain ⟨hj, rfl⟩ := at1 _ _ _ hs
   obtain ⟨_, rfl⟩ := at1 _ _ _ hr
   exact ⟨(hf' j hj).2.1, (hf' j hj).2.2.1⟩
  ·have h1 := bulkLen ((List.range l0).map D)
   rw [List.length_map, List.length_range] at h1
   rw [List.length_map, List.length_range]
   omega
  ·obtain ⟨j, hj⟩ := List.getElem?_of_mem hl
   obtain ⟨hj2, e⟩ := at1 _ _ _ hj
   rw [e]
   exact (hf' j hj2).2.2.2
end
end Go.Proofs.YtagdchgkjjpacaaGreat
