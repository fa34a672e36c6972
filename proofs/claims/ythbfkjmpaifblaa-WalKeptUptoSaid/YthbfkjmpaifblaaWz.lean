/- The walk of the statement WalKept: the crash that keeps what a number says; the records' loop; the crashes' loop. -/
import Derived.Test.YthbfkjmpaifblaaWv
namespace Go.Proofs.Ythbfkjmpaifblaa
open Go.RowKit Go.Shelf

section
variable {w : World}
/-- How many bytes of a file a crash keeps, by a number. -/
def keepN (n : ByteArray) (k : Int) : Int := if k < 0 ∨ 1000000 < k then k else k % ((n.size : Int) + 7)
theorem g_keep (n : ByteArray) (k : Int) (hn : n.size ≤ 1000000000) : Calls Try.prog 43 #[.string n, .int .i64 k] w fun e w' => e = .returned (.int .i64 (keepN n k)) ∧ w = w' := by
  have hn' : (n.size : Int) ≤ 1000000000 := by omega
  have hn0 : (0 : Int) ≤ (n.size : Int) := by omega
  by_cases h0 : k < 0
  · have hk : Hid (keepN n k = k) := Lib.hid (by unfold keepN; rw [if_pos (.inl h0)])
    go_enter Try.func43, Try.ntmps43
    go_wp2
    go_ret
    rw [hk.out]
    exact ⟨rfl, rfl⟩
  by_cases h1 : 1000000 < k
  · have hk : Hid (keepN n k = k) := Lib.hid (by unfold keepN; rw [if_pos (.inr h1)])
    go_enter Try.func43, Try.ntmps43
    go_wp2
    go_ret
    rw [hk.out]
    exact ⟨rfl, rfl⟩
  have hk : Hid (keepN n k = k % ((n.size : Int) + 7)) := Lib.hid (by unfold keepN; rw [if_neg (by omega)])
  have k0 : 0 ≤ k := by omega
  have k1 : k ≤ 1000000 := by omega
  clear h0 h1
  go_enter Try.func43, Try.ntmps43
  go_wp2
  go_ret
  rw [hk.out]
  exact ⟨rfl, rfl⟩
end
/-- The crashes, as an argument. -/
def CrAt (w : World) (v : Value) (cs : List (Int × Int)) : Prop :=
  ∃ a cap, v = .slice a cs.length cap ∧ ∀ (j : Nat) (x : Int × Int), cs[j]? = some x → ∃ g off, a = some ⟨g, off, none⟩ ∧ w.cell? ⟨g, off + j * 2 + 0, none⟩ = some (.int .i64 x.1) ∧ w.cell? ⟨g, off + j * 2 + 1, none⟩ = some (.int .i64 x.2) ∧
    (-9223372036854775808 ≤ x.1 ∧ x.1 ≤ 9223372036854775807)
section
variable {w0 w w' W : World} {fb k lb : Nat} {F G : FsS} {S T U : Nat → Prop} {L L' : LogS} {v u : Value} {l qs pre : List (List UInt8)} {b p : List UInt8} {N : Nat}
theorem okName_short {n : ByteArray} (h : okName n = true) : n.size ≤ 100 := by
  unfold okName at h
  simp only [Bool.and_eq_true, decide_eq_true_eq] at h
  exact h.1.1.1.2
set_option maxRecDepth 100000 in
theorem x_kept1 {bx : Nat} {keep : Int} (hb : IsBlk W bx #[.int .i64 keep] 3) (n : ByteArray) (hn : n.size ≤ 1000000000) (m : Int) :
    Calls Try.prog 42 (#[.string n, .int .i64 m] ++ #[.pointer (some ⟨bx, 0, none⟩)]) W fun e W' => e = .returned (.int .i64 (keepN n keep)) ∧ W = W' := by
  show Calls Try.prog 42 #[.string n, .int .i64 m, .pointer (some ⟨bx, 0, none⟩)] W _
  have c : W.cell? ⟨bx, 0, none⟩ = some (.int .i64 keep) := blk_cell hb 0
  have HK := Lib.hid (fun W' => g_keep (w := W') n keep hn)
  clear hb
  go_enter Try.func42, Try.ntmps42
  go_wp2_with (fail)
  refine (HK.out W).mono ?_
  rintro e w' ⟨rfl, rfl⟩
  go_wp2_with (fail)
  go_ret
  exact ⟨rfl, rfl⟩
theorem d_crash_keep (h : Hd w0 w fb F k S) (bx : Nat) (keep : Int) (hb : IsBlk w bx #[.int .i64 keep] 3) (hS : ¬ S bx) :
    Calls Try.prog 41 #[.pointer (some ⟨fb, 0, none⟩), .func (.func 42) #[] #[.pointer (some ⟨bx, 0, none⟩)]] w fun e w' => e = .returned (.tuple #[]) ∧ Hd w0 w' fb (F.crash fun n _ => keepN n keep) k (New w w' S) ∧ Keeps S w w' := by
  have eg := enters_of Try.func42 (P := Try.prog) (by kernel_rfl) rfl
  obtain ⟨mb, rs, hf⟩ := h.fs
  refine (f_crash hf h.ok 42 #[.pointer (some ⟨bx, 0, none⟩)] eg (fun n _ => keepN n keep) (fun _ => False) (fun _ e => e.elim) (fun _ W => Keeps S w W) (fun W hb => (Keeps.of_below hb).mono fun _ _ e => e.elim) ?_ ?_ ?_).mono ?_
  · intro j W W' U h1 h2 h3
    exact h1.trans h2 (fun i hi e => by
      rcases h3 i e with e | e
      · exact e
      · omega)
  · intro i n x W hx _ hI
    have hn := okName_short (h.ok.valid _ (List.mem_of_getElem? hx))
    refine (x_kept1 (hI.obj hb hS) n (by simp only at hn; omega) _).mono ?_
    rintro e W' ⟨rfl, rfl⟩
    exact ⟨rfl, hI, Keeps.refl _ _⟩
  · intro i n x W _ _ hI
    exact hI
  · rintro e w' ⟨rfl, hk, hf, _⟩
    exact ⟨rfl, h.post ⟨hf, hk⟩ (h.ok.crash _), hk⟩
theorem WantAt.pushK (h : WantAt w0 S w v qs) (hL : Lg w0 w fb F k S lb L) {a : Option Addr} {c : Nat} {r : List UInt8} (hs : RdAt byteKind w0 (.slice a r.length c) r) (hn : qs.length ≤ 1000) (ty : TypeId) :
    ∃ v' w', (Builtin.append_ #[25, 25] ty #[v, .slice (some ⟨w.heap.size, 0, none⟩) 1 1]).run Try.prog (w.alloc (.cells #[.slice a r.length c] 22)) = .ok v' w' ∧ Hid (WantAt w0 S w' v' (qs ++ [r]) ∧ Lg w0 w' fb F k S lb L ∧ Keeps (fun k => v.ownBlock = some k) w w') := by
  obtain ⟨ss, h1, h2⟩ := h.ex
  have hal : Below w.heap.size w (w.alloc (.cells #[.slice a r.length c] 22)) := (Below.refl _ _).alloc (Nat.le_refl _) _
  have hu : RdAt slKind (w.alloc (.cells #[.slice a r.length c] 22)) (.slice (some ⟨w.heap.size, 0, none⟩) 1 1) [⟨a, r.length, c⟩] := by
    refine ⟨_, 1, rfl, fun j x hx => ⟨w.heap.size, 0, rfl, fun i hi => ?_⟩⟩
    match j, hx with
    | 0, hx =>
      simp only [List.getElem?_cons_zero, Option.some.injEq] at hx
      subst hx
      have hi0 : i = 0 := by have : i < 1 := hi; omega
      subst hi0
      exact one_slice w _
  obtain ⟨v', w', hr, hs', hk, ho, _⟩ := append_sls (h1.below hal) hu (by have := h2.1; simp only [List.length_singleton]; omega) ty
  have hL2 := hL.below hal
  refine ⟨v', w', hr, Lib.hid ⟨⟨⟨_, hs', ?_⟩, fun g hg => ?_⟩, hL2.keepsOut hk (fun i e => (h.out i e).1) (fun i e e2 => ?_) (fun i e => (h.out i e).2), ((Keeps.of_below hal).mono (fun _ _ e => e.elim)).trans' hk⟩⟩
  · refine ⟨by simp [h2.1], fun j t q ht hq => ?_⟩
    by_cases hj : j < ss.length
    · rw [List.getElem?_append_left hj] at ht
      rw [List.getElem?_append_left (by rw [← h2.1]; exact hj)] at hq
      exact h2.2 j t q ht hq
    · rw [List.getElem?_append_right (by omega)] at ht
      rw [List.getElem?_append_right (by have := h2.1; omega), ← h2.1] at hq
      cases hm : j - ss.length with
      | zero => rw [hm] at ht hq; simp only [List.getElem?_cons_zero, Option.some.injEq] at ht hq; subst ht hq; exact hs
      | succ m => rw [hm] at ht; simp at ht
  · rcases ho g hg with e | e
    · exact h.out g e
    · have h3 := hal.size
      exact ⟨fun e2 => by have := hL.hd.fs.lt g e2; omega, by have := hL.hd.below.size; omega⟩
  · subst e2
    obtain ⟨cur, hc⟩ := h1.own i e
    exact blk_ne_type hc hL.log.blk (by decide) rfl
/-- WalKept between two crashes: nx records were tried, c crashes were. -/
structure KeI (w wr : World) (fb lb : Nat) (size : Int) (l : List (List UInt8)) (nx c : Nat) (vw : Value) (F : FsS) (L : LogS) (S : Nat → Prop) (pre : List (List UInt8)) (b : List UInt8) (qs : List (List UInt8)) : Prop where
  lg : Lg w wr fb F (3 + 3 * nx + 3 * c) S lb L
  on : LogOn F L (pre ++ [b])
  holds : Holds (pre ++ [b]) qs
  want : WantAt w S wr vw qs
  size : L.size = size
  dir : L.dir = nmW
  first : L.first = 1
  last : L.last ≤ 1 + nx
  few : F.files.length ≤ 1 + nx
  used : F.used ≤ ((8 * nx + ((l.take nx).map List.length).sum : Nat) : Int)
  len : qs.length ≤ nx
/-- WalKept ahead of a crash: the last write may have met the failing step. -/
structure KeT (w wr : World) (fb : Nat) (l : List (List UInt8)) (nx c : Nat) (mb : Int) (vw : Value) (F : FsS) (S : Nat → Prop) (pre : List (List UInt8)) (b t p : List UInt8) (qs : List (List UInt8)) : Prop where
  hd : Hd w wr fb F (3 + 3 * nx + 3 * c) S
  sg : Segs F nmW 1 (pre.map fl ++ [⟨b ++ t, b.length⟩])
  holds : Holds (pre ++ [b]) qs
  want : WantAt w S wr vw qs
  cnt : pre.length ≤ nx
  few : F.files.length ≤ 1 + nx
  used : F.used ≤ ((8 * nx + ((l.take nx).map List.length).sum : Nat) : Int)
  len : qs.length ≤ nx
  torn : (mb = -1 ∧ t = [] ∧ p = []) ∨ ∃ m : Nat, mb = (m : Int) ∧ l[m]? = some p ∧ m < nx ∧ qs.length + 1 ≤ nx ∧ (t = [] ∨ t = frameOf p) ∧ p.length ≤ 1048576
theorem KeI.below {wr : World} {size : Int} {nx c : Nat} {vw : Value} (h : KeI w wr fb lb size l nx c vw F L S pre b qs) (hb : Below wr.heap.size wr w') : KeI w w' fb lb size l nx c vw F L S pre b qs :=
  ⟨h.lg.below hb, h.on, h.holds, h.want.below hb, h.size, h.dir, h.first, h.last, h.few, h.used, h.len⟩
theorem KeI.cnt {wr : World} {size : Int} {nx c : Nat} {vw : Value} (h : KeI w wr fb lb size l nx c vw F L S pre b qs) : pre.length + 1 ≤ 1 + nx := by
  have h1 := h.on.last
  have h2 := h.first
  have h3 := h.last
  rw [List.length_append, List.length_singleton] at h1
  omega
theorem KeI.calm {wr : World} {size : Int} {nx c : Nat} {vw : Value} (h : KeI w wr fb lb size l nx c vw F L S pre b qs) : KeT w wr fb l nx c (-1) vw F S pre b [] [] qs := by
  have hsg := h.on.sg
  rw [h.dir, h.first] at hsg
  refine ⟨h.lg.hd, by simpa using hsg, h.holds, h.want, by have := h.cnt; omega, h.few, h.used, h.len, .inl ⟨rfl, rfl, rfl⟩⟩
/-- A record more is tried. -/
theorem KeI.try_ {wr : World} {size : Int} {nx c : Nat} {vw : Value} {r : List UInt8} (h : KeI w wr fb lb size l nx c vw F L S pre b qs) (hr : l[nx]? = some r) (hrn : r.length ≤ 1048576) (hj : nx < 60) (hP : LPost w wr fb S lb (appendL L F r).2.1 (3 + 3 * nx + 3 * c + 3) (appendL L F r).1 w') :
    ((appendL L F r).2.2 = 0 ∧ ∀ (w2 : World) (v2 : Value), Lg w w2 fb (appendL L F r).2.1 (3 + 3 * nx + 3 * c + 3) (New wr w' S) lb (appendL L F r).1 → WantAt w (New wr w' S) w2 v2 (qs ++ [r]) → ∃ pre' b', KeI w w2 fb lb size l (nx + 1) c v2 (appendL L F r).2.1 (appendL L F r).1 (New wr w' S) pre' b' (qs ++ [r])) ∨
    ((appendL L F r).2.2 = 4 ∧ ∃ pre' b', KeI w w' fb lb size l (nx + 1) c vw (appendL L F r).2.1 (appendL L F r).1 (New wr w' S) pre' b' qs) ∨
    ((appendL L F r).2.2 = 5 ∧ ∃ pre' b' t, KeT w w' fb l (nx + 1) c (nx : Int) vw (appendL L F r).2.1 (New wr w' S) pre' b' t r qs) := by
  have hsum := sum_take l hr
  have hlt : L.last < 99999999 := by have := h.last; omega
  have hff : F.files.length < 400 := by have := h.few; omega
  have hus := h.used
  have hek : 3 + 3 * nx + 3 * c + 3 = 3 + 3 * (nx + 1) + 3 * c := by omega
  have hcnt := h.cnt
  have hfst := h.first
  have hlen := h.len
  have hfew := h.few
  have hH := h.holds
  rcases append_out h.on hrn hlt hff with ⟨e0, hfit, hC, eL, hLog⟩ | ⟨e4, hfit, hC, eL, hLog⟩ | ⟨e5, hT⟩
  · left
    have hlast : (appendL L F r).1.last ≤ 1 + (nx + 1) := by
      have h1 := hLog.last
      have h2 : (appendL L F r).1.first = L.first := by rw [eL]
      split at h1 <;> simp only [List.length_append, List.length_singleton] at h1 <;> omega
    refine ⟨e0, fun w2 v2 hg hw => ?_⟩
    rw [hek] at hg
    have fin : ∀ pre' b', LogOn (appendL L F r).2.1 (appendL L F r).1 (pre' ++ [b']) → Holds (pre' ++ [b']) (qs ++ [r]) → ∃ pre' b', KeI w w2 fb lb size l (nx + 1) c v2 (appendL L F r).2.1 (appendL L F r).1 (New wr w' S) pre' b' (qs ++ [r]) := fun pre' b' h1 h2 =>
      ⟨pre', b', hg, h1, h2, hw, by rw [eL]; exact h.size, by rw [eL]; exact h.dir, by rw [eL]; exact h.first, hlast, by have := hC.few; omega, by rw [hC.used, hsum]; omega, by simp; omega⟩
    split at hLog
    · exact fin (pre ++ [b]) (frameOf r) hLog (hH.fresh hrn)
    · exact fin pre (b ++ frameOf r) hLog (hH.next hrn)
  · right; left
    have hlast : (appendL L F r).1.last ≤ 1 + (nx + 1) := by
      have h1 := hLog.last
      have h2 : (appendL L F r).1.first = L.first := by rw [eL]
      split at h1 <;> simp only [List.length_append, List.length_singleton] at h1 <;> omega
    have fin : ∀ pre' b', LogOn (appendL L F r).2.1 (appendL L F r).1 (pre' ++ [b']) → Holds (pre' ++ [b']) qs → ∃ pre' b', KeI w w' fb lb size l (nx + 1) c vw (appendL L F r).2.1 (appendL L F r).1 (New wr w' S) pre' b' qs := fun pre' b' h1 h2 =>
      ⟨pre', b', by rw [← hek]; exact hP.lg, h1, h2, h.want.post h.lg hP, by rw [eL]; exact h.size, by rw [eL]; exact h.dir, by rw [eL]; exact h.first, hlast, by have := hC.few; omega, by rw [hC.used, hsum]; omega, by omega⟩
    refine ⟨e4, ?_⟩
    split at hLog
    · exact fin (pre ++ [b]) [] hLog hH.new
    · exact fin pre b hLog hH
  · right; right
    refine ⟨e5, ?_⟩
    obtain ⟨pre', b', t, hps, ht, hS⟩ := hT.ex
    rw [h.dir, h.first] at hS
    refine ⟨pre', b', t, by rw [← hek]; exact hP.lg.hd, hS, ?_, h.want.post h.lg hP, ?_, by have := hT.few; omega, by have := hT.used; rw [hsum]; omega, by omega, .inr ⟨nx, rfl, hr, by omega, by omega, ht, hrn⟩⟩
    · rcases hps with e | e
      · rw [e]; exact hH
      · rw [e]; exact hH.new
    · rcases hps with e | e
      · have := congrArg List.length e; simp only [List.length_append, List.length_singleton] at this; omega
      · have := congrArg List.length e; simp only [List.length_append, List.length_singleton] at this; omega
theorem KeI.arm {wr : World} {size : Int} {nx c : Nat} {vw : Value} (h : KeI w wr fb lb size l nx c vw F L S pre b qs) (n : Int) (h0 : -9223372036854775808 ≤ n) (h1 : n ≤ 9223372036854775807) :
    Calls Try.prog 40 #[.pointer (some ⟨fb, 0, none⟩), .int .i64 n] wr fun e w' => e = .returned (.tuple #[]) ∧ KeI w w' fb lb size l nx c vw { F with armed := max n 0 } L (New wr w' S) pre b qs := by
  obtain ⟨mb, rs, hf⟩ := h.lg.hd.fs
  refine (f_arm hf n h0 h1).mono fun e w' ⟨he, hp⟩ => ?_
  have hL := h.lg.op hp (h.lg.hd.ok.arm (by omega) (by omega))
  exact ⟨he, hL.1, ⟨h.on.sg.congr rfl, h.on.ne, h.on.last, h.on.free, h.on.up, h.on.name⟩, h.holds, h.want.keeps hp.2 (fun i e => .inl e) (fun i e => by
    rcases e with e | e
    · exact .inl e
    · exact .inr e.1), h.size, h.dir, h.first, h.last, h.few, h.used, h.len⟩
/-- Open behind the crash. -/
theorem KeT.again {wr : World} {nx c : Nat} {mb size : Int} {vw : Value} {t : List UInt8} (h : KeT w wr fb l nx c mb vw F S pre b t p qs) (h16 : 16 ≤ size) (h20 : size ≤ 1048576) (hnx : nx ≤ 60) (hs : (l.map List.length).sum ≤ 1048576) (keep : Int) :
    ∃ G' L' rs, openL (F.crash fun n _ => keepN n keep) nmW size = (G', L', rs, 0) ∧ (∀ f m, scanNums (segNums (F.crash fun n _ => keepN n keep) nmW) 0 0 = some (f, m) → (m + 1 - f) * (F.crash fun n _ => keepN n keep).used.toNat ≤ 80000000) ∧
      (rs = qs ∨ (rs = qs ++ [p] ∧ ∃ m : Nat, mb = (m : Int) ∧ l[m]? = some p ∧ qs.length + 1 ≤ nx)) ∧
      ∀ (w2 : World) (lb2 : Nat) (S2 : Nat → Prop) (v2 : Value), Lg w w2 fb G' (3 + 3 * nx + 3 * c + 3) S2 lb2 L' → WantAt w S2 w2 v2 rs → ∃ c', KeI w w2 fb lb2 size l nx (c + 1) v2 G' L' S2 pre c' rs := by
  obtain ⟨j, hj⟩ := torn_crash h.sg fun n _ => keepN n keep
  have ht : t = [] ∨ t = frameOf p := by
    rcases h.torn with ⟨_, e, _⟩ | ⟨_, _, _, _, _, e, _⟩
    · exact .inl e
    · exact e
  have hp : p.length ≤ 1048576 := by
    rcases h.torn with ⟨_, _, e⟩ | ⟨_, _, _, _, _, _, e⟩
    · rw [e]; simp
    · exact e
  have hcu := crash_used h.hd.ok fun n _ => keepN n keep
  obtain ⟨G', L', rs, hA, hrs⟩ := reopen hj h.holds ht hp dirOk_w h16 h20 rfl rfl
  have hfew : (F.crash fun n _ => keepN n keep).files.length = F.files.length := by rw [crash_files, List.length_map]
  have hus := h.used
  have hst := sum_take_le l nx
  have hcnt := h.cnt
  refine ⟨G', L', rs, hA.open_, fun f m hfm => ?_, ?_, fun w2 lb2 S2 v2 hL hW => ?_⟩
  · rw [hj.nums (by simp)] at hfm
    simp only [Option.some.injEq, Prod.mk.injEq, List.length_append, List.length_map, List.length_singleton] at hfm
    obtain ⟨rfl, rfl⟩ := hfm
    exact Nat.le_trans (Nat.mul_le_mul (show 1 + (pre.length + 1) - 1 + 1 - 1 ≤ 61 by omega) (show (F.crash fun n _ => keepN n keep).used.toNat ≤ 1050000 by omega)) (by omega)
  · rcases hA.recs with e | e
    · exact .inl e
    · rcases h.torn with ⟨_, e2, _⟩ | ⟨m, e1, e2, _, e3, _, _⟩
      · exact .inl (hrs e2).1
      · exact .inr ⟨e, m, e1, e2, e3⟩
  · obtain ⟨c', h1, h2⟩ := hA.log
    have hl := h1.last
    rw [List.length_append, List.length_singleton, hA.hfirst] at hl
    refine ⟨c', by rw [show 3 + 3 * nx + 3 * (c + 1) = 3 + 3 * nx + 3 * c + 3 by omega]; exact hL, h1, h2, hW, hA.hsize, hA.hdir, hA.hfirst, by omega, by rw [hA.few, hfew]; exact h.few, ?_, ?_⟩
    · have := hA.used; omega
    · have hlen := h.len
      rcases hA.recs with e | e
      · rw [e]; exact hlen
      · rcases h.torn with ⟨_, e2, _⟩ | ⟨m, _, _, _, e3, _, _⟩
        · rw [(hrs e2).1]; exact hlen
        · rw [e, List.length_append, List.length_singleton]; exact e3
theorem KeT.below {wr : World} {nx c : Nat} {mb : Int} {vw : Value} {t : List UInt8} (h : KeT w wr fb l nx c mb vw F S pre b t p qs) (hb : Below wr.heap.size wr w') : KeT w w' fb l nx c mb vw F S pre b t p qs :=
  ⟨h.hd.read hb, h.sg, h.holds, h.want.below hb, h.cnt, h.few, h.used, h.len, h.torn⟩
/-- The box that the crash's function reads. -/
theorem KeT.box {wr : World} {nx c : Nat} {mb : Int} {vw : Value} {t : List UInt8} (h : KeT w wr fb l nx c mb vw F S pre b t p qs) (keep : Int) :
    KeT w (wr.alloc (.cells #[.int .i64 keep] 3)) fb l nx c mb vw F S pre b t p qs ∧ IsBlk (wr.alloc (.cells #[.int .i64 keep] 3)) wr.heap.size #[.int .i64 keep] 3 ∧ ¬ S wr.heap.size :=
  ⟨h.below ((Below.refl _ _).alloc (Nat.le_refl _) _), blk_new wr _, fun e => by have := h.hd.fs.lt _ e; omega⟩
theorem KeT.crash {wr W2 : World} {nx c : Nat} {mb : Int} {vw : Value} {t : List UInt8} (h : KeT w wr fb l nx c mb vw F S pre b t p qs) (hb : Below wr.heap.size wr W2) {keep : Int} (hbx : IsBlk W2 wr.heap.size #[.int .i64 keep] 3) :
    Calls Try.prog 41 #[.pointer (some ⟨fb, 0, none⟩), .func (.func 42) #[] #[.pointer (some ⟨wr.heap.size, 0, none⟩)]] W2 fun e w' => e = .returned (.tuple #[]) ∧ ∃ S', Hd w w' fb (F.crash fun n _ => keepN n keep) (3 + 3 * nx + 3 * c) S' ∧ WantAt w S' w' vw qs := by
  refine (d_crash_keep (h.hd.read hb) _ keep hbx (fun e => by have := h.hd.fs.lt _ e; omega)).mono fun e w' ⟨he, hd, hK⟩ => ⟨he, _, hd, (h.want.below hb).keeps hK (fun i e => .inl e) (fun i e => by
    rcases e with e | e
    · exact .inl e
    · exact .inr e.1)⟩
end
end Go.Proofs.Ythbfkjmpaifblaa
