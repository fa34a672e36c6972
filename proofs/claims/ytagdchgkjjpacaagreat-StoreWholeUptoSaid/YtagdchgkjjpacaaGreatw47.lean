/- Plain law of a store: an opening of its own disk changes nothing. No program. -/
import Derived.Test.YtagdchgkjjpacaaGreatw44
import Derived.Test.YtagdchgkjjpacaaGreatw46
import Derived.Deep.DeepCutAuto
set_option maxRecDepth 100000
open Go.Lib (hid)
set_option linter.unusedSimpArgs false
set_option linter.unusedVariables false
namespace Go.Proofs.YtagdchgkjjpacaaGreat
theorem open_same {F : FsS} {s : StS} {size : Int} {n : Nat} (h : On F s size n) (hdir : DirS s.dir) (h16 : 16 ≤ size) (h20 : size ≤ 1048576) (ha : F.armed = 0) : (openS F s.dir size).1 = F := by
 obtain ⟨f, q0, m0, segs, rc, h1, h2, h3, h4, h5⟩ := h.ex
 obtain ⟨pre, c, rfl⟩ : ∃ pre c, segs = pre ++ [c] := ⟨_, _, (List.dropLast_concat_getLast h2.ne).symm⟩
 have hsg : Segs F (nmOf s.dir sLog) s.log.first (pre.map fl ++ [⟨c ++ [], c.length⟩]) := by
  rw [List.append_nil]
  have := h2.sg
  rw [h.ldir] at this
  simpa using this
 have ho := (open_log hsg (Nat.le_refl _) (by simp) h3 (by unfold headOf; simp) (hdir.seg 1) h16 h20 h.up).out
 have hS : openS F s.dir size = openW s.dir s.base f q0 m0 (openL F (nmOf s.dir sLog) size) := by
  unfold openS
  rw [if_neg (by simp [hdir.seg 1, hdir.base 1]), if_neg (by omega), if_neg (by simp [h.up]), h1.man]
  rfl
 rcases ho with ⟨cut, e, -, -, e2⟩ | ⟨-, -, e, -⟩
 rotate_left
 ·exact absurd ha e
 have e2 := e2 rfl
 rw [e2] at e
 rw [hS, e]
 have hrep : replayR rc q0 m0 = some (s.seq, s.all) := replay_do h4
 show (openP s.dir s.base f ⟨nmOf s.dir sLog, size, s.log.first, s.log.first + pre.length, cut, false⟩ F (replayR rc q0 m0)).1 = F
 rw [hrep]
 unfold openP
 simp only
 rw [if_neg (by
  show ¬ s.log.first < f
  rcases h1.is with ⟨_, k, _⟩ | ⟨k, _⟩
  ·omega
  ·rw [h5 (by omega)]; omega)]
 show (openC s.dir s.base s.seq s.all ⟨nmOf s.dir sLog, size, s.log.first, s.log.first + pre.length, cut, false⟩ (cleanR s.dir s.base (namesL (dirOf s.dir) F.files) F)).1 = F
 rw [clean_none]
 ·rfl
 ·intro k hk hg
  obtain ⟨⟨x, hx⟩, hin⟩ := (mem_names h2.sg.rise).1 hk
  have hb : s.base < 100000000 := by
   have := h.nb
   have := h.n1
   omega
  rcases h.only k x hx hin with e | ⟨e, e3 | e3⟩
  ·exact e (gone_seg hg)
  ·rw [e3] at hg
   rcases hg with g | g
   ·have g2 := nth_man s.dir
    rw [g, nth_next] at g2
    exact absurd g2 (by decide)
   ·exact g.1 (man_base s.dir)
  ·rw [e3] at hg
   rcases hg with g | g
   ·have g2 := baseNum_nm s.dir hb
    rw [g, next_base] at g2
    omega
   ·exact g.2 (baseNum_nm s.dir hb)
set_option linter.unusedSectionVars false
open Go.RowKit Go.Shelf
def KeepO (w w' : World) : Prop := ∀ b cs T, IsBlk w b cs T → T ∈ [85, 73, 64, 9, 4, 3] → IsBlk w' b cs T
section
variable {w0 w w' wr W : World} {fb k n c V lb sb tb q N : Nat} {size : Int} {dir : ByteArray} {F G : FsS} {S T : Nat → Prop} {s : StS} {m M M' : Prs} {l : List Chg} {v : Value}
theorem KeepO.trans {a b c : World} (h : KeepO a b) (k : KeepO b c) : KeepO a c := fun x cs T hb hT => k x cs T (h x cs T hb hT) hT
theorem KeepO.below (h : Below w.heap.size w w') : KeepO w w' := fun _ _ _ hb _ => (h.block _ (lt_of_block hb)).trans hb
theorem KeepP.keepO (h : KeepP w w') : KeepO w w' := fun b cs T hb hT => h b cs T hb (fun e => by subst e; revert hT; decide) (fun e => by subst e; revert hT; decide) (fun e => by subst e; revert hT; decide)
theorem Db.keepO (h : Db w0 w fb F k S lb sb tb s N) (hk : Keeps (StoU S lb sb tb) w w') : KeepO w w' := fun b cs T hb hT => hk.obj hb (h.notU hb (fun e => by subst e; revert hT; decide) (fun e => by subst e; revert hT; decide) (fun e => by subst e; revert hT; decide) (fun e => by subst e; revert hT; decide) (fun e => by subst e; revert hT; decide) (fun e => by subst e; revert hT; decide))
theorem KeepO.sl (h : KeepO w w') (hs : SlAt prKind 85 w v m) : SlAt prKind 85 w' v m := hs.block fun g hg => by
 obtain ⟨cs, hcs⟩ := hs.own g hg
 exact (h g cs _ hcs (by decide)).trans hcs.symm
def WhUp (w0 : World) (fb : Nat) (size : Int) (n c V sb : Nat) (M : Prs) (wr : World) : Prop := ∃ F S s lb tb, StV w0 wr fb nmDb size n c V F S lb sb tb s ∧ s.all = M
def WhDn (w0 : World) (fb : Nat) (n c V : Nat) (M M' : Prs) (wr : World) : Prop :=
 ∃ F S, Hd w0 wr fb F (1600 * c) S ∧ PureS S wr ∧ F.down = true ∧ (∀ kf, (∃ q, Disk (F.crash kf) nmDb n q M) ∨ ∃ q, Disk (F.crash kf) nmDb n q M') ∧ F.files.length ≤ 4 * n + 2 ∧ wgt M ≤ V ∧ wgt M' ≤ V ∧ M.length ≤ 100000000 ∧ M'.length ≤ 100000000
theorem On.small (h : On F s size n) : s.all.length ≤ 450000 := by
 have h1 := h.fit
 have := h.nq
 have := h.n1
 have := h1.len
 omega
theorem WhUp.below (h : WhUp w0 fb size n c V sb M wr) (hb : Below wr.heap.size wr W) : WhUp w0 fb size n c V sb M W := by
 obtain ⟨F, S, s, lb, tb, h1, h2⟩ := h
 exact ⟨F, S, s, lb, tb, h1.below hb, h2⟩
theorem WhDn.below (h : WhDn w0 fb n c V M M' wr) (hb : Below wr.heap.size wr W) : WhDn w0 fb n c V M M' W := by
 obtain ⟨F, S, h1, h2, h3⟩ := h
 exact ⟨F, S, h1.read hb, h2.below h1.fs.lt hb, h3⟩
theorem WhUp.low (h : WhUp w0 fb size n c V sb M wr) : Below w0.heap.size w0 wr := by
 obtain ⟨F, S, s, lb, tb, h1, h2⟩ := h
 exact h1.db.lg.hd.below
theorem WhDn.low (h : WhDn w0 fb n c V M M' wr) : Below w0.heap.size w0 wr := by
 obtain ⟨F, S, h1, h2, h3⟩ := h
 exact h1.below
theorem WhUp.more (h : WhUp w0 fb size n c V sb M wr) {n' c' V' : Nat} (hn : n ≤ n') (hc : c ≤ c') (hV : V ≤ V') (h9 : n' ≤ 900) : WhUp w0 fb size n' c' V' sb M wr := by
 obtain ⟨F, S, s, lb, tb, h1, h2⟩ := h
 exact ⟨F, S, s, lb, tb, h1.more hn hc hV h9, h2⟩
theorem WhUp.arm (h : WhUp w0 fb size n c V sb M wr) (z : Int) (h0 : -9223372036854775808 ≤ z) (h1 : z ≤ 9223372036854775807) :
 Calls Tryz.prog 36 #[.pointer (some ⟨fb, 0, none⟩), .int .i64 z] wr fun e w' => e = .returned (.tuple #[]) ∧ WhUp w0 fb size n c V sb M w' ∧ KeepO wr w' := by
 obtain ⟨F, S, s, lb, tb, g1, g2⟩ := h
 refine (g1.arm z h0 h1).mono ?_
 rintro e w' ⟨rfl, ⟨T, k1, k2⟩, k3⟩
 exact ⟨rfl, ⟨_, T, s, lb, tb, k1, g2⟩, (KeepP.of g1.db.pure k3).keepO⟩
theorem WhUp.chk (h : WhUp w0 fb size n c V sb M wr) (hn : n ≤ 90) (hc : c ≤ 400) (hV : V ≤ 200000) :
 Calls Tryz.prog 26 #[.pointer (some ⟨sb, 0, none⟩)] wr fun e w' => ∃ r : Int, e = .returned (.int .i64 r) ∧ (WhUp w0 fb size (n + 1) (c + 1) V sb M w' ∨ WhDn w0 fb (n + 1) (c + 1) V M M w') ∧ KeepO wr w' := by
 obtain ⟨F, S, s, lb, tb, g1, g2⟩ := h
 refine (g1.chk dirS_db hn hc hV).mono ?_
 rintro e w' ⟨rfl, ho, hp⟩
 refine ⟨_, rfl, ?_, g1.db.keepO hp.keeps⟩
 have hsm := g1.on.small
 cases hd : (chkS s F).2.1.down with
 | false =>
   obtain ⟨⟨T, k1, -⟩, -, k2⟩ := g1.ckpt (by omega) ho hp hd
   exact .inl ⟨_, T, _, lb, tb, k1, k2.trans g2⟩
 | true =>
   right
   rcases ho with ⟨hR, on, _⟩ | ⟨hR, on, _⟩ | ⟨hR, _, arm, disk, few⟩
   ·rw [on.up] at hd; cases hd
   ·rw [on.up] at hd; cases hd
   ·obtain ⟨T, k1, -⟩ := hp.ex
    rw [g1.dir, g2] at disk
    rw [g2] at hsm
    have hf := g1.few
    have hw := g1.wt
    rw [g2] at hw
    exact ⟨_, T, k1.lg.hd, k1.pure, hd, fun kf => .inl ⟨_, disk.crash kf⟩, by omega, hw, hw, by omega, by omega⟩
theorem WhUp.write (h : WhUp w0 fb size n c V sb M wr) (hn : n ≤ 90) (hc : c ≤ 400) {a : Option Addr} {cap : Nat} (hr : RdAt chgKind w0 (.slice a l.length cap) l) (hl : l.length ≤ 1048576) :
 Calls Tryz.prog 25 #[.pointer (some ⟨sb, 0, none⟩), .slice a l.length cap] wr fun e w' => ∃ r : Int, e = .returned (.int .i64 r) ∧ ((r = 0 ∧ WhUp w0 fb size (n + 1) (c + 1) (V + batV l) sb (applyB M l) w') ∨ (r ≠ 0 ∧ r ≠ 5 ∧ WhUp w0 fb size (n + 1) (c + 1) (V + batV l) sb M w') ∨ (r = 5 ∧ WhDn w0 fb (n + 1) (c + 1) (V + batV l) M (applyB M l) w')) ∧ KeepO wr w' := by
 obtain ⟨F, S, s, lb, tb, g1, g2⟩ := h
 refine (g1.write dirS_db hn hc hr hl).mono ?_
 rintro e w' ⟨rfl, ho, hp⟩
 refine ⟨_, rfl, ?_, g1.db.keepO hp.keeps⟩
 have hsm := g1.on.small
 by_cases h5 : (writeS s F l).2.2 = 5
 ·right; right
  refine ⟨h5, ?_⟩
  rcases ho with ⟨e, he, h5', henc, hR⟩ | ⟨henc, hl0, hR⟩ | ⟨henc, hl0, hR, _⟩ | ⟨henc, hl0, hR, _⟩ | ⟨henc, hl0, hR, hd, arm, disk, few, rise⟩
  ·rw [hR] at h5
   have h5 : (e : Int) = 5 := h5
   omega
  ·rw [hR] at h5
   have h5 : (0 : Int) = 5 := h5
   omega
  ·omega
  ·omega
  ·obtain ⟨T, k1, -⟩ := hp.ex
   have hz := encB_zero henc
   have hw1 := flat_weigh hz.1
   have hfl := applyB_fit l s.all
   have hc5 := (chkB_ok hz.1).1
   have hf := g1.few
   have hw := g1.wt
   rw [g1.dir, g2] at disk
   rw [g2] at hsm hw hfl
   exact ⟨_, T, k1.lg.hd, k1.pure, hd, fun kf => by
    rcases disk kf with e | e
    ·exact .inl ⟨_, e⟩
    ·exact .inr ⟨_, e⟩, by omega, by omega, by omega, by omega, by omega⟩
 ·obtain ⟨⟨T, k1, -⟩, -, k2⟩ := g1.wrote (by omega) ho hp h5
  rcases k2 with ⟨k2, k3⟩ | ⟨k2, k3⟩
  ·exact .inr (.inl ⟨k2, h5, _, T, _, lb, tb, k1, k3.trans g2⟩)
  ·exact .inl ⟨k2, _, T, _, lb, tb, k1, by rw [k3, g2]⟩
theorem WhUp.down_ (h : WhUp w0 fb size n c V sb M wr) : Calls Tryz.prog 37 #[.pointer (some ⟨fb, 0, none⟩)] wr fun e w' => e = .returned (.bool false) ∧ wr = w' := by
 obtain ⟨F, S, s, lb, tb, g1, g2⟩ := h
 have := d_down g1.db.lg.hd
 rwa [g1.on.up] at this
theorem WhDn.down_ (h : WhDn w0 fb n c V M M' wr) : Calls Tryz.prog 37 #[.pointer (some ⟨fb, 0, none⟩)] wr fun e w' => e = .returned (.bool true) ∧ wr = w' := by
 obtain ⟨F, S, g1, g2, g3, _⟩ := h
 have := d_down g1
 rwa [g3] at this
def WhCr (w0 : World) (fb n c V : Nat) (M2 : Prs) (wr : World) : Prop :=
 ∃ F S q, FwP w0 wr fb S (1600 * c) F wr ∧ Disk F nmDb n q M2 ∧ F.down = false ∧ F.files.length ≤ 4 * n + 2 ∧ wgt M2 ≤ V ∧ M2.length ≤ 100000000
theorem WhUp.hd (h : WhUp w0 fb size n c V sb M wr) : ∃ F S, Hd w0 wr fb F (1600 * c) S ∧ PureS S wr ∧ (∀ kf, (∃ q, Disk (F.crash kf) nmDb n q M) ∨ ∃ q, Disk (F.crash kf) nmDb n q M) ∧ F.files.length ≤ 4 * n + 2 ∧ wgt M ≤ V ∧ wgt M ≤ V ∧ M.length ≤ 100000000 ∧ M.length ≤ 100000000 := by
 obtain ⟨F, S, s, lb, tb, g1, g2⟩ := h
 have hd := g1.on.disk
 have hw := g1.wt
 have hs := g1.on.small
 rw [g1.dir, g2] at hd
 rw [g2] at hw hs
 exact ⟨F, S, g1.db.lg.hd, g1.db.pure, fun kf => .inl ⟨_, hd.crash kf⟩, g1.few, hw, hw, by omega, by omega⟩
theorem wh_crash (h : WhUp w0 fb size n c V sb M wr ∧ M' = M ∨ WhDn w0 fb n c V M M' wr) (g : Nat) (cap : Array Value) (eg : ∀ args w, (callFunc g args).run Tryz.prog w = .ok (.enter g args) w) (keep : Int)
 (hg : ∀ n z W, n.size ≤ 100 → KeepO wr W → Calls Tryz.prog g (#[.string n, .int .i64 z] ++ cap) W fun e W' => e = .returned (.int .i64 (keepN n keep)) ∧ W = W') :
 Calls Tryz.prog 35 #[.pointer (some ⟨fb, 0, none⟩), .func (.func g) #[] cap] wr fun e w' => e = .returned (.tuple #[]) ∧ (∃ M2, (M2 = M ∨ M2 = M') ∧ WhCr w0 fb n c V M2 w') ∧ KeepO wr w' := by
 have h : ∃ F S, Hd w0 wr fb F (1600 * c) S ∧ PureS S wr ∧ (∀ kf, (∃ q, Disk (F.crash kf) nmDb n q M) ∨ ∃ q, Disk (F.crash kf) nmDb n q M') ∧ F.files.length ≤ 4 * n + 2 ∧ wgt M ≤ V ∧ wgt M' ≤ V ∧ M.length ≤ 100000000 ∧ M'.length ≤ 100000000 := by
  rcases h with ⟨h, rfl⟩ | ⟨F, S, h1, h2, h3, h4⟩
  ·exact h.hd
  ·exact ⟨F, S, h1, h2, h4⟩
 obtain ⟨F, S, h1, h2, h3, h4, h5, h6, h7, h8⟩ := h
 refine ((FwP.refl h1 h2).crash g cap eg keep fun n z W hn hk _ => hg n z W hn hk.keepO).mono ?_
 rintro e w' ⟨rfl, k1, k2⟩
 refine ⟨rfl, ?_, k2.keepO⟩
 obtain ⟨T, j1, j2, -⟩ := k1.ex
 have hl : (F.crash fun n _ => keepN n keep).files.length ≤ 4 * n + 2 := by rw [crash_len]; exact h4
 rcases h3 (fun n _ => keepN n keep) with ⟨q, e⟩ | ⟨q, e⟩
 ·exact ⟨M, .inl rfl, _, T, q, FwP.refl j1 j2, e, rfl, hl, h5, h7⟩
 ·exact ⟨M', .inr rfl, _, T, q, FwP.refl j1 j2, e, rfl, hl, h6, h8⟩
theorem wh_recovers (h : WhCr w0 fb n c V M wr) {v : Value} {cs : List SCr} (hv : CrsAt w0 v cs) (hcs : cs.length ≤ 10) (h16 : 16 ≤ size) (h20 : size ≤ 1048576) (hc : c ≤ 300) (hn : n ≤ 900) :
 Calls Tryz.prog 40 #[.pointer (some ⟨fb, 0, none⟩), .int .i64 size, v] wr fun e w' => ∃ (sb : Nat), e = .returned (.pointer (some ⟨sb, 0, none⟩)) ∧ Hid (KeepO wr w' ∧ ∃ G T lb tb s, StV w0 w' fb nmDb size n (c + cs.length + 1) V G T lb sb tb s ∧ s.all = M ∧ G.armed = 0) := by
 obtain ⟨F, S, q, h1, h2, h3, h4, h5, h6⟩ := h
 obtain ⟨T, j1, j2, j3⟩ := h1.ex
 refine (x_recovers hv hcs (FwP.refl j1 j2) h2 h16 h20 h3 hc hn h4 h5).mono ?_
 rintro e w' ⟨G, U, lb, sb, tb, s, rfl, H⟩
 obtain ⟨k1, k2, k3, k4, k5, k6, k7⟩ := H.out
 exact ⟨sb, rfl, hid ⟨(KeepP.of j2 k6).keepO, G, U, lb, tb, s, k1, k2, k4⟩⟩
theorem x_who1 {cb : Nat} {x : SCr} (h1 : IsBlk W cb #[.int .i64 x.arm, .int .i64 x.keep, .bool x.chk] 73) (nm : ByteArray) (hnm : nm.size ≤ 1000000000) (z : Int) :
 Calls Tryz.prog 38 (#[.string nm, .int .i64 z] ++ #[.pointer (some ⟨cb, 0, none⟩)]) W fun e W' => e = .returned (.int .i64 (keepN nm x.keep)) ∧ W = W' := by
 show Calls Tryz.prog 38 #[.string nm, .int .i64 z, .pointer (some ⟨cb, 0, none⟩)] W _
 have c1 : W.cell? ⟨cb, 1, none⟩ = some (.int .i64 x.keep) := blk_cell h1 1
 have HK := hid (fun W' => g_keep (w := W') nm x.keep hnm)
 clear h1 hnm
 go_enter Tryz.func38, Tryz.ntmps38
 go_wp2_with (fail)
 refine (HK.out W).mono ?_
 rintro e w' ⟨rfl, rfl⟩
 go_wp2_with (fail)
 go_ret
 exact ⟨rfl, rfl⟩
end
end Go.Proofs.YtagdchgkjjpacaaGreat
