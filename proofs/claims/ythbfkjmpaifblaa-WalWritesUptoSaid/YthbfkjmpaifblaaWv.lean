/- The walk of the statement WalFull. -/
import Derived.Test.YthbfkjmpaifblaaWu
namespace Go.Proofs.Ythbfkjmpaifblaa
open Go.RowKit Go.Shelf

/-- A list of the program's own of records that were there at the start. -/
structure WantAt (w0 : World) (S : Nat → Prop) (w : World) (v : Value) (qs : List (List UInt8)) : Prop where
  ex : ∃ ss, SlAt slKind 22 w v ss ∧ Reads w0 ss qs
  out : ∀ g, v.ownBlock = some g → ¬ S g ∧ w0.heap.size ≤ g
section
variable {w0 w w' W : World} {fb k lb : Nat} {F G : FsS} {S T U : Nat → Prop} {L : LogS} {v u : Value} {l qs : List (List UInt8)} {N : Nat}
theorem WantAt.nil (w0 : World) (S : Nat → Prop) (w : World) : WantAt w0 S w (.slice none 0 0) [] := ⟨⟨[], SlAt.nil, ⟨rfl, fun j s r hs => by simp at hs⟩⟩, fun g hg => by simp [Value.ownBlock] at hg⟩
theorem WantAt.lr (h : WantAt w0 S w v qs) (hb : Below w0.heap.size w0 w) : LrAt w v qs := by
  obtain ⟨ss, h1, h2⟩ := h.ex
  exact ⟨ss, h1.rd, h2.below hb⟩
theorem WantAt.shape (h : WantAt w0 S w v qs) : ∃ a cap, v = .slice a qs.length cap := by
  obtain ⟨ss, h1, h2⟩ := h.ex
  obtain ⟨a, cap, e⟩ := h1.shape
  exact ⟨a, cap, by rw [e, h2.1]⟩
theorem WantAt.below (h : WantAt w0 S w v qs) (hb : Below w.heap.size w w') : WantAt w0 S w' v qs := by
  obtain ⟨ss, h1, h2⟩ := h.ex
  exact ⟨⟨ss, h1.below hb, h2⟩, h.out⟩
/-- What writes elsewhere leaves. -/
theorem WantAt.keeps (h : WantAt w0 S w v qs) (hk : Keeps U w w') (hU : ∀ i, U i → S i ∨ ∃ cs X, IsBlk w i cs X ∧ X ≠ 22) (hT : ∀ i, T i → S i ∨ w.heap.size ≤ i) : WantAt w0 T w' v qs := by
  obtain ⟨ss, h1, h2⟩ := h.ex
  refine ⟨⟨ss, h1.keeps hk (fun g hg e => ?_), h2⟩, fun g hg => ⟨fun e => ?_, (h.out g hg).2⟩⟩
  · rcases hU g e with e2 | ⟨cs, X, hb, hX⟩
    · exact (h.out g hg).1 e2
    · obtain ⟨cur, hc⟩ := h1.own g hg
      exact blk_ne_type hc hb (fun e => hX e.symm) rfl
  · rcases hT g e with e2 | e2
    · exact (h.out g hg).1 e2
    · obtain ⟨cur, hc⟩ := h1.own g hg
      have := lt_of_block hc
      omega
theorem WantAt.post {F' : FsS} {k' : Nat} {L' : LogS} (h : WantAt w0 S w v qs) (hL : Lg w0 w fb F k S lb L) (hP : LPost w0 w fb S lb F' k' L' w') : WantAt w0 (New w w' S) w' v qs :=
  h.keeps hP.keeps (fun i e => by
    rcases e with e | e
    · exact .inl e
    · exact .inr ⟨_, _, e ▸ hL.log.blk, by decide⟩) (fun i e => by
    rcases e with e | e
    · exact .inl e
    · exact .inr e.1)
theorem one_slice (W : World) (s : Value) : (W.alloc (.cells #[s] 22)).cell? ⟨W.heap.size, 0, none⟩ = some s := blk_cell (cs := #[s]) (heap_alloc_new W _) 0
theorem WantAt.push (h : WantAt w0 S w v qs) (hL : Lg w0 w fb F k S lb L) {a : Option Addr} {c : Nat} {r : List UInt8} (hs : RdAt byteKind w0 (.slice a r.length c) r) (hn : qs.length ≤ 1000) (ty : TypeId) :
    ∃ v' w', (Builtin.append_ #[25, 25] ty #[v, .slice (some ⟨w.heap.size, 0, none⟩) 1 1]).run Try.prog (w.alloc (.cells #[.slice a r.length c] 22)) = .ok v' w' ∧ Hid (WantAt w0 S w' v' (qs ++ [r]) ∧ Lg w0 w' fb F k S lb L) := by
  obtain ⟨ss, h1, h2⟩ := h.ex
  have hal : Below w.heap.size w (w.alloc (.cells #[.slice a r.length c] 22)) := (Below.refl _ _).alloc (Nat.le_refl _) _
  have hu : RdAt slKind (w.alloc (.cells #[.slice a r.length c] 22)) (.slice (some ⟨w.heap.size, 0, none⟩) 1 1) [⟨a, r.length, c⟩] := by
    refine ⟨_, 1, rfl, fun j x hx => ⟨w.heap.size, 0, rfl, fun i hi => ?_⟩⟩
    match j, hx with
    | 0, hx =>
      simp only [List.getElem?_cons_zero, Option.some.injEq] at hx
      subst hx
      have hi0 : i = 0 := by have : i < 1 := hi; omega
      subst hi0
      exact one_slice w _
  obtain ⟨v', w', hr, hs', hk, ho, _⟩ := append_sls (h1.below hal) hu (by have := h2.1; simp only [List.length_singleton]; omega) ty
  have hL2 := hL.below hal
  refine ⟨v', w', hr, Lib.hid ⟨⟨⟨_, hs', ?_⟩, fun g hg => ?_⟩, hL2.keepsOut hk (fun i e => (h.out i e).1) (fun i e e2 => ?_) (fun i e => (h.out i e).2)⟩⟩
  · refine ⟨by simp [h2.1], fun j t q ht hq => ?_⟩
    by_cases hj : j < ss.length
    · rw [List.getElem?_append_left hj] at ht
      rw [List.getElem?_append_left (by rw [← h2.1]; exact hj)] at hq
      exact h2.2 j t q ht hq
    · rw [List.getElem?_append_right (by omega)] at ht
      rw [List.getElem?_append_right (by have := h2.1; omega), ← h2.1] at hq
      cases hm : j - ss.length with
      | zero => rw [hm] at ht hq; simp only [List.getElem?_cons_zero, Option.some.injEq] at ht hq; subst ht hq; exact hs
      | succ m => rw [hm] at ht; simp at ht
  · rcases ho g hg with e | e
    · exact h.out g e
    · have h3 := hal.size
      exact ⟨fun e2 => by have := hL.hd.fs.lt g e2; omega, by have := hL.hd.below.size; omega⟩
  · subst e2
    obtain ⟨cur, hc⟩ := h1.own i e
    exact blk_ne_type hc hL.log.blk (by decide) rfl
theorem crash_used (h : FsOk F k) (kf : ByteArray → Int → Int) : (F.crash kf).used ≤ F.used := by
  have h2 := (h.crash kf).used
  rw [h2, h.used, crash_files]
  have hs := h.synced
  generalize F.files = fs at hs
  induction fs with
  | nil => exact Int.le_refl _
  | cons x r ih =>
    rw [List.map_cons, sumLen_cons, sumLen_cons]
    have h1 := (crashFile_le (kf := kf) (n := x.1) (hs x (by simp))).1
    have h3 := ih fun y hy => hs y (by simp [hy])
    simp only at h1 ⊢
    omega
/-- WalFull under way. -/
structure FuI (w wr : World) (fb lb : Nat) (size : Int) (l : List (List UInt8)) (j : Nat) (vw : Value) (F : FsS) (L : LogS) (S : Nat → Prop) (pre : List (List UInt8)) (b : List UInt8) (qs : List (List UInt8)) : Prop where
  lg : Lg w wr fb F (3 + 3 * j) S lb L
  on : LogOn F L (pre ++ [b])
  holds : Holds (pre ++ [b]) qs
  want : WantAt w S wr vw qs
  calm : F.armed = 0
  size : L.size = size
  dir : L.dir = nmW
  first : L.first = 1
  last : L.last ≤ 1 + j
  few : F.files.length ≤ 1 + j
  used : F.used ≤ ((8 * j + ((l.take j).map List.length).sum : Nat) : Int)
  len : qs.length ≤ j
/-- An argument's bytes lie elsewhere. -/
theorem Lg.arg (h : Lg w0 w fb F k S lb L) {u : Value} {p : List UInt8} (hu : RdAt byteKind w0 u p) : ∀ g, u.ownBlock = some g → p ≠ [] → ¬ S g ∧ g ≠ lb := fun g hg hne => by
  obtain ⟨off, x, hx⟩ := hu.first hne hg
  have hlt : g < w0.heap.size := World.block_lt_of_cell? w0 _ (by rw [hx]; rfl)
  exact ⟨fun e => by have := h.hd.low g e; omega, fun e => by have := h.log.low; omega⟩
theorem FuI.below {wr : World} {size : Int} {j : Nat} {vw : Value} {pre : List (List UInt8)} {b : List UInt8} (h : FuI w wr fb lb size l j vw F L S pre b qs) (hb : Below wr.heap.size wr w') : FuI w w' fb lb size l j vw F L S pre b qs :=
  ⟨h.lg.below hb, h.on, h.holds, h.want.below hb, h.calm, h.size, h.dir, h.first, h.last, h.few, h.used, h.len⟩
theorem FuI.segs_len {wr : World} {size : Int} {j : Nat} {vw : Value} {pre : List (List UInt8)} {b : List UInt8} (h : FuI w wr fb lb size l j vw F L S pre b qs) : (pre ++ [b]).length ≤ 1 + j := by
  have h1 := h.on.last
  have h2 := h.first
  have h3 := h.last
  omega
theorem sum_take (l : List (List UInt8)) {j : Nat} {r : List UInt8} (h : l[j]? = some r) : ((l.take (j + 1)).map List.length).sum = ((l.take j).map List.length).sum + r.length := by
  obtain ⟨hj, e⟩ := List.getElem?_eq_some_iff.1 h
  rw [List.take_succ_eq_append_getElem hj, List.map_append, List.sum_append, e]
  simp
theorem sum_take_le (l : List (List UInt8)) (j : Nat) : ((l.take j).map List.length).sum ≤ (l.map List.length).sum := by
  conv => rhs; rw [← List.take_append_drop j l, List.map_append, List.sum_append]
  omega
/-- A record more, that was written. -/
theorem FuI.done {wr : World} {size : Int} {j : Nat} {vw : Value} {pre : List (List UInt8)} {b r : List UInt8} (h : FuI w wr fb lb size l j vw F L S pre b qs) (hr : l[j]? = some r) (hrn : r.length ≤ 1048576) (hj : j < 60) (hP : LPost w wr fb S lb (appendL L F r).2.1 (3 + 3 * j + 3) (appendL L F r).1 w') :
    ((appendL L F r).2.2 = 0 ∧ (8 + (r.length : Int) ≤ F.room - F.used) ∧ ∀ (w2 : World) (v2 : Value), Lg w w2 fb (appendL L F r).2.1 (3 + 3 * j + 3) (New wr w' S) lb (appendL L F r).1 → WantAt w (New wr w' S) w2 v2 (qs ++ [r]) → ∃ pre' b', FuI w w2 fb lb size l (j + 1) v2 (appendL L F r).2.1 (appendL L F r).1 (New wr w' S) pre' b' (qs ++ [r])) ∨
    ((appendL L F r).2.2 = 4 ∧ ¬ (8 + (r.length : Int) ≤ F.room - F.used) ∧ ∃ pre' b', FuI w w' fb lb size l (j + 1) vw (appendL L F r).2.1 (appendL L F r).1 (New wr w' S) pre' b' qs) := by
  have hsum := sum_take l hr
  have hlt : L.last < 99999999 := by have := h.last; omega
  have hff : F.files.length < 400 := by have := h.few; omega
  have hus := h.used
  have hek : 3 + 3 * j + 3 = 3 + 3 * (j + 1) := by omega
  rcases append_out h.on hrn hlt hff with ⟨e0, hfit, hC, eL, hLog⟩ | ⟨e4, hfit, hC, eL, hLog⟩ | ⟨_, hT⟩
  · left
    have hH := h.holds
    have hlast : (appendL L F r).1.last ≤ 1 + (j + 1) := by
      have h1 := hLog.last
      have h2 : (appendL L F r).1.first = L.first := by rw [eL]
      have h3 := h.segs_len
      have h4 := h.first
      split at h1 <;> simp only [List.length_append, List.length_singleton] at h1 h3 <;> omega
    refine ⟨e0, by omega, fun w2 v2 hg hw => ?_⟩
    rw [hek] at hg
    have fin : ∀ pre' b', LogOn (appendL L F r).2.1 (appendL L F r).1 (pre' ++ [b']) → Holds (pre' ++ [b']) (qs ++ [r]) → ∃ pre' b', FuI w w2 fb lb size l (j + 1) v2 (appendL L F r).2.1 (appendL L F r).1 (New wr w' S) pre' b' (qs ++ [r]) := fun pre' b' h1 h2 =>
      ⟨pre', b', hg, h1, h2, hw, hC.calm h.calm, by rw [eL]; exact h.size, by rw [eL]; exact h.dir, by rw [eL]; exact h.first, hlast, by have := hC.few; have := h.few; omega, by rw [hC.used, hsum]; omega, by have := h.len; simp; omega⟩
    split at hLog
    · exact fin (pre ++ [b]) (frameOf r) hLog (hH.fresh hrn)
    · exact fin pre (b ++ frameOf r) hLog (hH.next hrn)
  · right
    have hH := h.holds
    have hlast : (appendL L F r).1.last ≤ 1 + (j + 1) := by
      have h1 := hLog.last
      have h2 : (appendL L F r).1.first = L.first := by rw [eL]
      have h3 := h.segs_len
      have h4 := h.first
      split at h1 <;> simp only [List.length_append, List.length_singleton] at h1 h3 <;> omega
    have fin : ∀ pre' b', LogOn (appendL L F r).2.1 (appendL L F r).1 (pre' ++ [b']) → Holds (pre' ++ [b']) qs → ∃ pre' b', FuI w w' fb lb size l (j + 1) vw (appendL L F r).2.1 (appendL L F r).1 (New wr w' S) pre' b' qs := fun pre' b' h1 h2 =>
      ⟨pre', b', by rw [← hek]; exact hP.lg, h1, h2, h.want.post h.lg hP, hC.calm h.calm, by rw [eL]; exact h.size, by rw [eL]; exact h.dir, by rw [eL]; exact h.first, hlast, by have := hC.few; have := h.few; omega, by rw [hC.used, hsum]; omega, by have := h.len; omega⟩
    refine ⟨e4, by omega, ?_⟩
    split at hLog
    · exact fin (pre ++ [b]) [] hLog hH.new
    · exact fin pre b hLog hH
  · exact absurd h.calm hT.arm
set_option maxRecDepth 100000 in
set_option maxHeartbeats 8000000 in
theorem l_walFull (hl : ListsAt w v l 1048576) (size cap0 : Int) (_ : -9223372036854775808 ≤ size) (_ : size ≤ 9223372036854775807) (hc1 : -9223372036854775808 ≤ cap0) (hc2 : cap0 ≤ 9223372036854775807) :
    Calls Try.prog 9 #[.int .i64 size, .int .i64 cap0, v] w fun e w' => e = .returned (.bool true) ∧ Below w.heap.size w w' := by
  obtain ⟨a0, c0, rfl⟩ := hl.rd.shape
  have HL := Lib.hid hl
  have HC := Lib.hid (And.intro hc1 hc2)
  clear hl hc1 hc2
  go_enter Try.func9, Try.ntmps9
  go_wp2_with (fail)
  refine (x_wfirst (w := w)).mono ?_
  rintro e w1 ⟨rfl, hb1⟩
  have HB1 := Lib.hid hb1
  clear hb1
  go_wp2_with (fail)
  refine (x_wfew (HL.out.below HB1.out)).mono ?_
  rintro e w2 ⟨bb, rfl, hbf, hb2⟩
  have HB2 : Hid (Below w.heap.size w w2) := Lib.hid (HB1.out.trans (hb2.mono HB1.out.size))
  clear hb2
  cases bb with
  | false =>
    clear hbf
    go_wp2_with (fail)
    go_ret
    exact ⟨rfl, HB2.out⟩
  | true =>
    have hle : l.length ≤ 60 := hbf rfl
    have HLE := Lib.hid hle
    have hm : (l.length : Int) ≤ 60 := by omega
    clear hbf hle
    by_cases h16 : size < 16
    · go_wp2_with (fail)
      go_ret
      exact ⟨rfl, HB2.out⟩
    by_cases h20 : (1048576 : Int) < size
    · go_wp2_with (fail)
      go_ret
      exact ⟨rfl, HB2.out⟩
    by_cases hc0 : cap0 < 0
    · go_wp2_with (fail)
      go_ret
      exact ⟨rfl, HB2.out⟩
    have HSZ : Hid (16 ≤ size ∧ size ≤ 1048576) := Lib.hid (by omega)
    go_wp2_with (fail)
    clear h16 h20 hc0
    refine (f_new cap0 HC.out.1 HC.out.2).mono ?_
    rintro e w3 ⟨fb, rfl, hf, hb⟩
    have HF : Hid (Hd w w3 fb (FsS.new cap0) 0 (New w2 w3 fun _ => False)) := Lib.hid ⟨hf, fun i e => by rcases e with e | e; exact e.elim; have := HB2.out.size; omega, HB2.out.trans (hb.mono HB2.out.size), FsOk.new0 cap0⟩
    clear hf hb
    go_wp2_with (fail)
    refine (w_open HF.out (by omega) nmW (by decide) size (fun f l _ => by show (l + 1 - f) * 0 ≤ _; omega)).mono ?_
    obtain ⟨G, ho, hlog, hcalm, hroom, hused, hfiles⟩ := open_none (F := FsS.new cap0) (dir := nmW) (size := size) (segs_new _ _) dirOk_w HSZ.out.1 HSZ.out.2 rfl rfl (by show (0 : Nat) < 400; decide)
    rw [ho]
    rintro e w4 ⟨lv, u, rfl, hO⟩
    obtain ⟨lb, rfl, -, T, -, hlg, hx⟩ := hO.good rfl
    have HI : Hid (∃ F L S pre b qs, FuI w w4 fb lb size l 0 (.slice none 0 0) F L S pre b qs ∧ (Value.slice none 0 0).ownBlock = none) := Lib.hid
      ⟨G, _, T, [], [], [], ⟨hlg, hlog, Holds.empty, WantAt.nil _ _ _, hcalm, rfl, rfl, rfl, Nat.le_refl _, by rw [hfiles]; exact Nat.le_refl _, by rw [hused]; exact Int.le_refl _, Nat.le_refl _⟩, rfl⟩
    obtain ⟨au, cu, rfl⟩ := hx.shape
    clear hO hlg hx hlog ho hcalm hroom hused hfiles HF
    go_wp2_with (first | (go_at_call 27; refine (r_num _ _).mono ?_; rintro e w' ⟨rfl, rfl⟩))
    go_loopw [13, 14] (fun vw i wr => ∃ j : Nat, j ≤ l.length ∧ i = .int .i64 (j : Int) ∧ Hid (∃ F L S pre b qs, FuI w wr fb lb size l j vw F L S pre b qs)) (fun _ i _ => l.length - (intOf i).toNat)
    case atStart => exact ⟨0, Nat.zero_le _, rfl, Lib.hid (by obtain ⟨F, L, S, pre, b, qs, h, _⟩ := HI.out; exact ⟨F, L, S, pre, b, qs, h⟩)⟩
    case round =>
      obtain ⟨j, hj, rfl, HX⟩ := hrel
      obtain ⟨F, L, S, pre, b, qs, hI⟩ := HX.out
      obtain ⟨va, vc, rfl⟩ := hI.want.shape
      have HI2 := Lib.hid hI
      by_cases hlt : j < l.length
      · obtain ⟨r, hr⟩ : ∃ r, l[j]? = some r := ⟨_, List.getElem?_eq_getElem hlt⟩
        obtain ⟨g, off, cap, a, c, hv, hc, hrd, -, -, hrn⟩ := HL.out.at_ hr
        injection hv with hv _ hv3
        subst hv hv3
        have HRD := Lib.hid hrd
        have HRR := Lib.hid hr
        have HRN := Lib.hid hrn
        have HJ : Hid (j < 60) := Lib.hid (by have := HLE.out; omega)
        have CELL : Hid (∀ W, Below w.heap.size w W → W.cell? ⟨g, off + j, none⟩ = some (.slice a r.length c)) := Lib.hid fun W hW => (hW.cell (p := ⟨g, off + j, none⟩) (World.block_lt_of_cell? w _ hc)).trans hc
        have hc2 := CELL.out wr hI.lg.hd.below
        have HDN := Lib.hid (fun (w' : World) hP => hI.done (w' := w') hr hrn HJ.out hP)
        have hfr : wrap64 (F.room - F.used) = F.room - F.used := IntWalk.wrap64_in _ (by have := hI.lg.hd.ok.room0; have := hI.lg.hd.ok.room1; have := hI.lg.hd.ok.used0; have := hI.lg.hd.ok.fits; omega)
        have hk1 : (0 : Int) ≤ (j : Int) := by omega
        have hk2 : (j : Int) < (l.length : Int) := by omega
        clear hI hc hrd hr hrn
        go_wp2_with (first | (go_at_call 44; refine (d_room HI2.out.lg.hd).mono ?_; rintro e w' ⟨rfl, rfl⟩) | (go_at_call 45; refine (d_used HI2.out.lg.hd).mono ?_; rintro e w' ⟨rfl, rfl⟩))
        rw [hfr]
        refine (w_append HI2.out.lg (by have := HJ.out; omega) (by rw [HI2.out.dir]; decide) (by have := HI2.out.last; have := HJ.out; omega) (HRD.out.below HI2.out.lg.hd.below) (HI2.out.lg.arg HRD.out) (by have := HRN.out; omega)).mono ?_
        rintro e w6 ⟨rfl, hP⟩
        have hdn := HDN.out w6 hP
        have HW6 := Lib.hid (HI2.out.want.post HI2.out.lg hP)
        have HP6 := Lib.hid hP
        obtain ⟨R, hR⟩ : ∃ R, R = appendL L F r := ⟨_, rfl⟩
        rw [← hR] at hdn HP6 ⊢
        obtain ⟨Fr, hFr⟩ : ∃ Fr, Fr = F.room - F.used := ⟨_, rfl⟩
        rw [← hFr] at hdn ⊢
        obtain ⟨S6, hS6⟩ : ∃ S6, S6 = New wr w6 S := ⟨_, rfl⟩
        rw [← hS6] at hdn HW6
        have HL6 : Hid (Lg w w6 fb R.2.1 (3 + 3 * j + 3) S6 lb R.1) := Lib.hid (by rw [hS6]; exact HP6.out.lg)
        have HC6 := CELL.out w6 HL6.out.hd.below
        have HFRM := Lib.hid (fun W (hW : Below w.heap.size w W) => h_frame (HRD.out.below hW) (by have := HRN.out; omega))
        obtain ⟨M, hM⟩ : ∃ M : Nat, M = (frameOf r).length := ⟨_, rfl⟩
        have hM8 : M = 8 + r.length := by rw [hM, frameOf_len]
        have HM := Lib.hid hM
        clear hP hR hFr hS6 hfr hc2 HDN hM
        rcases hdn with ⟨e0, hfit, hnx⟩ | ⟨e4, hfit, hnx⟩
        · have hle : (M : Int) ≤ Fr := by omega
          have HNX := Lib.hid hnx
          rw [e0]
          clear hnx e0 hfit hM8
          go_wp2_with (first | (go_at_call 27; refine (r_num _ _).mono ?_; rintro e w' ⟨rfl, rfl⟩))
          refine (HFRM.out _ HL6.out.hd.below).mono ?_
          rintro e w7 ⟨v7, rfl, hf7⟩
          obtain ⟨a7, c7, rfl⟩ := hf7.sl.shape
          rw [← HM.out]
          have HL7 := Lib.hid (HL6.out.below hf7.below)
          have HW7 := Lib.hid (HW6.out.below hf7.below)
          have HC7 := CELL.out w7 HL7.out.hd.below
          obtain ⟨v8, w8, hrun, hp8⟩ := HW7.out.push HL7.out HRD.out (by have := HI2.out.len; have := HJ.out; omega) 25
          have HNX2 : Hid (∃ F L S pre b qs, FuI w w8 fb lb size l (j + 1) v8 F L S pre b qs) := Lib.hid (by
            obtain ⟨pre', b', h⟩ := HNX.out w8 v8 hp8.out.2 hp8.out.1
            exact ⟨_, _, _, pre', b', _, h⟩)
          clear hf7 HC6 hp8
          go_wp2_with (first | (at_builtin; refine wpList_append_run rfl (.tmp 98) (.tmp 103) 25 rfl _ _ rfl rfl _ _ hrun ?_))
          go_roundw
          case rel => exact ⟨j + 1, by omega, by go_num, HNX2⟩
          case measure => simp [intOf]; omega
        · have hle : ¬ (M : Int) ≤ Fr := by omega
          have HNX := Lib.hid hnx
          rw [e4]
          clear hnx e4 hfit hM8
          go_wp2_with (first | (go_at_call 27; refine (r_num _ _).mono ?_; rintro e w' ⟨rfl, rfl⟩))
          refine (HFRM.out _ HL6.out.hd.below).mono ?_
          rintro e w7 ⟨v7, rfl, hf7⟩
          obtain ⟨a7, c7, rfl⟩ := hf7.sl.shape
          rw [← HM.out]
          have HNX2 : Hid (∃ F L S pre b qq, FuI w w7 fb lb size l (j + 1) (.slice va qs.length vc) F L S pre b qq) := Lib.hid (by
            obtain ⟨pre', b', h⟩ := HNX.out
            exact ⟨_, _, _, pre', b', _, h.below hf7.below⟩)
          clear hf7 HC6
          go_wp2_with (fail)
          go_roundw
          case rel => exact ⟨j + 1, by omega, by go_num, HNX2⟩
          case measure => simp [intOf]; omega
      · obtain rfl : j = l.length := by omega
        have hk1 : ¬ ((l.length : Int) < (l.length : Int)) := by omega
        clear hI
        go_wp2_with (fail)
        obtain ⟨G6, hG6⟩ : ∃ G6, G6 = F.crash fun _ _ => 0 := ⟨_, rfl⟩
        refine (d_crash_nil HI2.out.lg.hd).mono ?_
        rintro e w6 ⟨rfl, hd, hK⟩
        have hW6 := HI2.out.want.keeps (T := New wr w6 S) hK (fun i e => .inl e) (fun i e => by
          rcases e with e | e
          · exact .inl e
          · exact .inr e.1)
        obtain ⟨S6, hS6⟩ : ∃ S6, S6 = New wr w6 S := ⟨_, rfl⟩
        rw [← hS6] at hd hW6
        rw [← hG6] at hd
        have hseg := HI2.out.on.crash fun _ _ => 0
        rw [← hG6, HI2.out.dir, HI2.out.first] at hseg
        have HD6 := Lib.hid hd
        have HW6 := Lib.hid hW6
        have hsl := HI2.out.segs_len
        have hus : ∀ f m, scanNums (segNums G6 nmW) 0 0 = some (f, m) → (m + 1 - f) * G6.used.toNat ≤ 80000000 := fun f m hfm => by
          rw [hseg.nums (by simp)] at hfm
          simp only [Option.some.injEq, Prod.mk.injEq, List.length_map] at hfm
          obtain ⟨rfl, rfl⟩ := hfm
          have h1 : G6.used ≤ F.used := by rw [hG6]; exact crash_used HI2.out.lg.hd.ok _
          have h2 := HI2.out.used
          have h3 := sum_take_le l l.length
          have h4 := HL.out.bulk
          have h5 := HLE.out
          exact Nat.le_trans (Nat.mul_le_mul (show 1 + (pre ++ [b]).length - 1 + 1 - 1 ≤ 62 by omega) (show G6.used.toNat ≤ 1050000 by omega)) (by omega)
        have hdn : G6.down = false := by rw [hG6]; rfl
        have har : G6.armed = 0 := by rw [hG6]; rfl
        obtain ⟨G', L', rs, hA, hrs⟩ := reopen (j := 0) (t := []) (p := []) (pre := pre) (c := b) (size := size) (by simpa using hseg) HI2.out.holds (.inl rfl) (by simp) dirOk_w HSZ.out.1 HSZ.out.2 hdn har
        have HRS : Hid (rs = qs ∧ openL G6 nmW size = (G', L', rs, 0)) := Lib.hid ⟨(hrs rfl).1, hA.open_⟩
        have HUS := Lib.hid hus
        clear hd hK hS6 hG6 hseg hsl hW6 hus hdn har hA hrs
        go_wp2_with (fail)
        refine (w_open HD6.out (by have := HLE.out; omega) nmW (by decide) size HUS.out).mono ?_
        rw [HRS.out.2]
        rintro e w7 ⟨lv, u, rfl, hO⟩
        obtain ⟨lb7, rfl, -, T7, -, hlg, hx⟩ := hO.good rfl
        rw [HRS.out.1] at hx
        have HX7 := Lib.hid hx.rd
        have HB7 : Hid (Below w.heap.size w w7) := Lib.hid hlg.hd.below
        have HW7 : Hid (LrAt w7 (.slice va qs.length vc) qs) := Lib.hid ((HW6.out.keeps (T := S6) hO.keeps (fun i e => .inl e) (fun i e => .inl e)).lr HB7.out)
        obtain ⟨a7, c7, rfl⟩ := hx.shape
        clear hO hlg hx
        go_wp2_with (first | (go_at_call 27; refine (r_num _ _).mono ?_; rintro e w' ⟨rfl, rfl⟩))
        refine (r_sameLists HX7.out HW7.out (by have := HI2.out.len; have := HLE.out; omega) (fun q hq => ?_)).mono ?_
        · obtain ⟨_, _, _, h3⟩ := HI2.out.holds
          exact Nat.le_trans (h3 q hq) (by omega)
        rintro e w8 ⟨rfl, hb8⟩
        have HR : Hid (Below w.heap.size w w8) := Lib.hid (HB7.out.trans (hb8.mono HB7.out.size))
        clear hb8
        go_wp2_with (fail)
        go_ret
        exact ⟨rfl, HR.out⟩
end
end Go.Proofs.Ythbfkjmpaifblaa
