/- The program's own table of segments: a list of byte lists, each with an array of its own. -/
import Derived.Test.YthbfkjmpaifblaaWxa
namespace Go.Proofs.Ythbfkjmpaifblaa
open Go.RowKit Go.Shelf

structure TabAt (w0 : World) (S : Nat → Prop) (w : World) (v : Value) (segs : List (List UInt8)) : Prop where
  ex : ∃ ss : List SlV, SlAt slKind 22 w v ss ∧ Hold w ss segs ∧ (ss.Pairwise fun s t => ∀ g, s.val.ownBlock = some g → t.val.ownBlock ≠ some g) ∧ ∀ s ∈ ss, ∀ g, s.val.ownBlock = some g → ¬ S g ∧ w0.heap.size ≤ g
  out : ∀ g, v.ownBlock = some g → ¬ S g ∧ w0.heap.size ≤ g
section
variable {w0 w w' : World} {fb k lb : Nat} {F : FsS} {S T U : Nat → Prop} {L : LogS} {v u : Value} {segs pre : List (List UInt8)} {b ys : List UInt8}
theorem TabAt.shape (h : TabAt w0 S w v segs) : ∃ a cap, v = .slice a segs.length cap := by
  obtain ⟨ss, h1, h2, _⟩ := h.ex
  rw [← h2.1]
  exact h1.shape
theorem TabAt.keeps (h : TabAt w0 S w v segs) (hk : Keeps U w w') (hU : ∀ i, U i → S i ∨ ∃ cs X, IsBlk w i cs X ∧ X ≠ 22 ∧ X ≠ 5) (hT : ∀ i, T i → S i ∨ w.heap.size ≤ i) : TabAt w0 T w' v segs := by
  obtain ⟨ss, h1, h2, h3, h4⟩ := h.ex
  refine ⟨⟨ss, h1.keeps hk (fun g hg e => ?_), ⟨h2.1, fun j s r hs hr => (h2.2 j s r hs hr).keeps hk (fun g hg e => ?_)⟩, h3, fun s hs g hg => ⟨fun e => ?_, (h4 s hs g hg).2⟩⟩, fun g hg => ⟨fun e => ?_, (h.out g hg).2⟩⟩
  · rcases hU g e with e2 | ⟨cs, X, hb, hX, _⟩
    · exact (h.out g hg).1 e2
    · obtain ⟨cur, hc⟩ := h1.own g hg
      exact blk_ne_type hc hb (fun e => hX e.symm) rfl
  · rcases hU g e with e2 | ⟨cs, X, hb, _, hX⟩
    · exact (h4 s (List.mem_of_getElem? hs) g hg).1 e2
    · obtain ⟨cur, hc⟩ := (h2.2 j s r hs hr).own g hg
      exact blk_ne_type hc hb (fun e => hX e.symm) rfl
  · rcases hT g e with e2 | e2
    · exact (h4 s hs g hg).1 e2
    · obtain ⟨i, hi⟩ := List.getElem?_of_mem hs
      have hil := (List.getElem?_eq_some_iff.1 hi).1
      obtain ⟨cur, hc⟩ := (h2.2 i s _ hi (List.getElem?_eq_getElem (l := segs) (i := i) (by have := h2.1; omega))).own g hg
      have := lt_of_block hc
      omega
  · rcases hT g e with e2 | e2
    · exact (h.out g hg).1 e2
    · obtain ⟨cur, hc⟩ := h1.own g hg
      have := lt_of_block hc
      omega
theorem TabAt.below (h : TabAt w0 S w v segs) (hb : Below w.heap.size w w') : TabAt w0 S w' v segs := h.keeps (Keeps.of_below hb) (fun _ e => e.elim) (fun _ e => .inl e)
theorem TabAt.post {F' : FsS} {k' : Nat} {L' : LogS} (h : TabAt w0 S w v segs) (hL : Lg w0 w fb F k S lb L) (hP : LPost w0 w fb S lb F' k' L' w') : TabAt w0 (New w w' S) w' v segs := h.keeps hP.keeps (fun i e => by
    rcases e with e | e
    · exact .inl e
    · exact .inr ⟨_, _, e ▸ hL.log.blk, by decide, by decide⟩) (fun i e => by
    rcases e with e | e
    · exact .inl e
    · exact .inr e.1)
theorem sl_at {g off n cap : Nat} {ss : List SlV} (h : SlAt slKind 22 w (.slice (some ⟨g, off, none⟩) n cap) ss) : n = ss.length ∧ n ≤ cap ∧ cap ≤ 9223372036854775807 ∧ ∃ cur, IsBlk w g cur 22 ∧ off + cap ≤ cur.size ∧ ∀ (i : Nat) (s : SlV), ss[i]? = some s → cur[off + i]? = some s.val := by
  rcases h with ⟨e1, _⟩ | ⟨g', off', cap', cur, e1, hb, hn, hm, hs, hr⟩
  · simp at e1
  · simp only [Value.slice.injEq, Option.some.injEq, Addr.mk.injEq, and_true] at e1
    obtain ⟨⟨rfl, rfl⟩, rfl, rfl⟩ := e1
    have hs1 : slKind.size = 1 := rfl
    rw [hs1, Nat.mul_one] at hs
    unfold maxLen at hm
    refine ⟨rfl, hn, hm, cur, hb, hs, fun i s hi => ?_⟩
    have hil := (List.getElem?_eq_some_iff.1 hi).1
    have h2 := hr i (by rw [hs1]; omega)
    have h3 := flat_at (enc := slKind.enc) slKind.len ss i 0 s hi (by decide)
    rw [hs1, Nat.mul_one, Nat.add_zero] at h3
    rw [h2, h3]
    rfl
theorem sl_of {g off n cap : Nat} {ss : List SlV} {cur : Array Value} (hn : n = ss.length) (hc : n ≤ cap) (hm : cap ≤ 9223372036854775807) (hb : IsBlk w g cur 22) (hs : off + cap ≤ cur.size) (h : ∀ (i : Nat) (s : SlV), ss[i]? = some s → cur[off + i]? = some s.val) : SlAt slKind 22 w (.slice (some ⟨g, off, none⟩) n cap) ss := by
  subst hn
  have hs1 : slKind.size = 1 := rfl
  refine .inr ⟨g, off, cap, cur, rfl, hb, hc, by unfold maxLen; omega, by rw [hs1]; omega, fun i hi => ?_⟩
  rw [hs1, Nat.mul_one] at hi
  have hi2 := List.getElem?_eq_getElem hi
  have h3 := flat_at (enc := slKind.enc) slKind.len ss i 0 _ hi2 (by decide)
  rw [hs1, Nat.mul_one, Nat.add_zero] at h3
  rw [h i _ hi2, h3]
  rfl
/-- What lies at a place. -/
theorem TabAt.at_ (h : TabAt w0 S w v segs) {i : Nat} (hi : segs[i]? = some b) : ∃ g off cap a c, v = .slice (some ⟨g, off, none⟩) segs.length cap ∧ segs.length ≤ cap ∧ cap ≤ 9223372036854775807 ∧ w.cell? ⟨g, off + i, none⟩ = some (.slice a b.length c) ∧ w.frozen? ⟨g, off + i, none⟩ = false ∧ SlAt byteKind 5 w (.slice a b.length c) b := by
  obtain ⟨ss, h1, h2, h3, h4⟩ := h.ex
  have hil := (List.getElem?_eq_some_iff.1 hi).1
  have hs := List.getElem?_eq_getElem (l := ss) (i := i) (by have := h2.1; omega)
  obtain ⟨s, hs⟩ : ∃ s, ss[i]? = some s := ⟨_, hs⟩
  have hsl := h2.2 i s b hs hi
  obtain ⟨a, c, e⟩ := hsl.shape
  have h1' := h1
  rcases h1' with ⟨_, e1⟩ | ⟨g, off, cap, cur, e1, _⟩
  · rw [e1] at hs; simp at hs
  · subst e1
    obtain ⟨hn, hc, hm, cur, hb, hz, hr⟩ := sl_at h1
    refine ⟨g, off, cap, a, c, by rw [h2.1], by rw [← h2.1]; exact hc, hm, ?_, blk_free hb _, by rw [← e]; exact hsl⟩
    rw [blk_cell hb, hr i s hs, e]
theorem one_nil (W : World) : RdAt slKind (W.alloc (.cells #[.slice none 0 0] 22)) (.slice (some ⟨W.heap.size, 0, none⟩) 1 1) [⟨none, 0, 0⟩] := one_sl W ⟨none, 0, 0⟩
/-- An empty segment is laid behind the others. -/
theorem TabAt.push (h : TabAt w0 S w v segs) (hL : Lg w0 w fb F k S lb L) (hn : segs.length ≤ 1000) (ty : TypeId) :
    ∃ v' w', (Builtin.append_ #[25, 25] ty #[v, .slice (some ⟨w.heap.size, 0, none⟩) 1 1]).run Try.prog (w.alloc (.cells #[.slice none 0 0] 22)) = .ok v' w' ∧ Hid (TabAt w0 S w' v' (segs ++ [[]]) ∧ Lg w0 w' fb F k S lb L) := by
  obtain ⟨ss, h1, h2, h3, h4⟩ := h.ex
  have hal : Below w.heap.size w (w.alloc (.cells #[.slice none 0 0] 22)) := (Below.refl _ _).alloc (Nat.le_refl _) _
  obtain ⟨v', w', hr, hs', hk, ho, _⟩ := append_sls (h1.below hal) (one_nil w) (by have := h2.1; simp only [List.length_singleton]; omega) ty
  have hL2 := hL.below hal
  refine ⟨v', w', hr, Lib.hid ⟨⟨⟨_, hs', Hold.snoc ⟨h2.1, fun j s r hs hr => ((h2.2 j s r hs hr).below hal).keeps hk (fun g hg e => ?_)⟩ SlAt.nil, ?_, fun s hs g hg => ?_⟩, fun g hg => ?_⟩, hL2.keepsOut hk (fun i e => (h.out i e).1) (fun i e e2 => ?_) (fun i e => (h.out i e).2)⟩⟩
  · obtain ⟨c1, hb1⟩ := h1.own g e
    obtain ⟨c2, hb2⟩ := (h2.2 j s r hs hr).own g hg
    exact blk_ne_type hb2 hb1 (by decide) rfl
  · rw [List.pairwise_append]
    refine ⟨h3, List.pairwise_singleton _ _, fun s hs t ht g hg => ?_⟩
    rw [List.mem_singleton.1 ht]
    simp [Value.ownBlock]
  · rcases List.mem_append.1 hs with e | e
    · exact h4 s e g hg
    · rw [List.mem_singleton.1 e] at hg
      simp [Value.ownBlock] at hg
  · rcases ho g hg with e | e
    · exact h.out g e
    · have h3 := hal.size
      exact ⟨fun e2 => by have := hL.hd.fs.lt g e2; omega, by have := hL.hd.below.size; omega⟩
  · subst e2
    obtain ⟨cur, hc⟩ := h1.own i e
    exact blk_ne_type hc hL.log.blk (by decide) rfl
/-- The first ones are taken away. -/
theorem TabAt.drop {g off n cap : Nat} (h : TabAt w0 S w (.slice (some ⟨g, off, none⟩) n cap) segs) {d : Nat} (hd : d ≤ segs.length) : TabAt w0 S w (.slice (some ⟨g, off + d, none⟩) (n - d) (cap - d)) (segs.drop d) := by
  obtain ⟨ss, h1, h2, h3, h4⟩ := h.ex
  obtain ⟨hn, hc, hm, cur, hb, hz, hr⟩ := sl_at h1
  have hl := h2.1
  refine ⟨⟨ss.drop d, sl_of (by rw [List.length_drop, hn]) (by omega) (by omega) hb (by omega) (fun i s hi => ?_), ⟨by simp [hl], fun j s r hs hq => ?_⟩, h3.sublist (List.drop_sublist _ _), fun s hs => h4 s (List.mem_of_mem_drop hs)⟩, fun i e => h.out i e⟩
  · rw [List.getElem?_drop] at hi
    have := hr _ _ hi
    rwa [show off + d + i = off + (d + i) by omega]
  · rw [List.getElem?_drop] at hs hq
    exact h2.2 _ s r hs hq
theorem pair_set {α : Type} {R : α → α → Prop} (hsym : ∀ a b, R a b → R b a) : ∀ {l : List α} {i : Nat} {y : α}, l.Pairwise R → (∀ j z, j ≠ i → l[j]? = some z → R y z) → (l.set i y).Pairwise R
  | [], _, _, _, _ => by simp
  | x :: l, 0, y, h, hy => by
    rw [List.set_cons_zero, List.pairwise_cons]
    rw [List.pairwise_cons] at h
    exact ⟨fun z hz => by obtain ⟨j, hj⟩ := List.getElem?_of_mem hz; exact hy (j + 1) z (by omega) (by simpa using hj), h.2⟩
  | x :: l, i + 1, y, h, hy => by
    rw [List.set_cons_succ, List.pairwise_cons]
    rw [List.pairwise_cons] at h
    refine ⟨fun z hz => ?_, pair_set hsym h.2 fun j z hj hz => hy (j + 1) z (by omega) (by simpa using hz)⟩
    rcases List.mem_or_eq_of_mem_set hz with e | e
    · exact h.1 z e
    · rw [e]; exact hsym _ _ (hy 0 x (by omega) rfl)
/-- A segment grows. -/
theorem TabAt.grow {g off n cap : Nat} (h : TabAt w0 S w (.slice (some ⟨g, off, none⟩) n cap) segs) (hL : Lg w0 w fb F k S lb L) {i : Nat} (hi : segs[i]? = some b) :
    ∃ a c, w.cell? ⟨g, off + i, none⟩ = some (.slice a b.length c) ∧ (∀ W, Below w.heap.size w W → W.cell? ⟨g, off + i, none⟩ = some (.slice a b.length c)) ∧
      ∀ (w2 : World) (u : Value) (ys : List UInt8) (ty : TypeId), Below w.heap.size w w2 → RdAt byteKind w2 u ys → b.length + ys.length ≤ 1000000000 →
        ∃ a3 c3 w3, (Builtin.append_ #[22, 22] ty #[.slice a b.length c, u]).run Try.prog w2 = .ok (.slice a3 (b.length + ys.length) c3) w3 ∧ w3.cell? ⟨g, off + i, none⟩ = some (.slice a b.length c) ∧ w3.frozen? ⟨g, off + i, none⟩ = false ∧ Below w0.heap.size w2 w3 ∧
          Hid (TabAt w0 S (w3.setCell ⟨g, off + i, none⟩ (.slice a3 (b.length + ys.length) c3)) (.slice (some ⟨g, off, none⟩) n cap) (segs.set i (b ++ ys)) ∧ Lg w0 (w3.setCell ⟨g, off + i, none⟩ (.slice a3 (b.length + ys.length) c3)) fb F k S lb L) := by
  obtain ⟨ss, h1, h2, h3, h4⟩ := h.ex
  obtain ⟨hn, hc, hm, cur, hb, hz, hr⟩ := sl_at h1
  have hil := (List.getElem?_eq_some_iff.1 hi).1
  obtain ⟨s, hs⟩ : ∃ s, ss[i]? = some s := ⟨_, List.getElem?_eq_getElem (l := ss) (i := i) (by have := h2.1; omega)⟩
  have hsm := List.mem_of_getElem? hs
  have hsl := h2.2 i s b hs hi
  obtain ⟨a, c, e⟩ := hsl.shape
  have hcell : w.cell? ⟨g, off + i, none⟩ = some (.slice a b.length c) := by rw [blk_cell hb, hr i s hs, e]
  refine ⟨a, c, hcell, fun W hW => (hW.cell (p := ⟨g, off + i, none⟩) (lt_of_block hb)).trans hcell, fun w2 u ys ty hw2 hu hys => ?_⟩
  rw [e] at hsl
  have hsl2 := hsl.below hw2
  obtain ⟨v3, w3, hrun, hs3, hk3, ho3, _⟩ := append_bytes hsl2 hu (by omega) ty
  obtain ⟨a3, c3, rfl⟩ := hs3.shape
  rw [List.length_append] at hs3 ho3 hrun
  have hb2 : IsBlk w2 g cur 22 := (hw2.block _ (lt_of_block hb)).trans hb
  have hown : ∀ x, (Value.slice a b.length c).ownBlock = some x → ¬ S x ∧ w0.heap.size ≤ x := fun x hx => h4 s hsm x (by rw [e]; exact hx)
  have hng : (Value.slice a b.length c).ownBlock ≠ some g := fun ex => by
    obtain ⟨c1, hb1⟩ := hsl2.own g ex
    exact blk_ne_type hb1 hb2 (by decide) rfl
  have hb3 : IsBlk w3 g cur 22 := hk3.obj hb2 hng
  have hL2 := hL.below hw2
  have hgS := h.out g rfl
  have hL3 : Lg w0 w3 fb F k S lb L := hL2.keepsOut hk3 (fun x ex => (hown x ex).1) (fun x ex e2 => by
    subst e2
    obtain ⟨c1, hb1⟩ := hsl2.own x ex
    exact blk_ne_type hb1 hL2.log.blk (by decide) rfl) (fun x ex => (hown x ex).2)
  have hks : Keeps (fun x => x = g) w3 (w3.setCell ⟨g, off + i, none⟩ (.slice a3 (b.length + ys.length) c3)) := (Keeps.refl (fun x => x = g) w3).setCell (p := ⟨g, off + i, none⟩) (fun _ => rfl) _
  have hL4 := hL3.keepsOut hks (fun x ex => by subst ex; exact hgS.1) (fun x ex e2 => by
    subst ex; subst e2
    exact blk_ne_type hb3 hL3.log.blk (by decide) rfl) (fun x ex => by subst ex; exact hgS.2)
  refine ⟨a3, c3, w3, hrun, by rw [blk_cell hb3, hr i s hs, e], blk_free hb3 _, hk3.to_below hL2.hd.below.size (fun x hx ex => by have := (hown x ex).2; omega), Lib.hid ⟨⟨⟨ss.set i ⟨a3, b.length + ys.length, c3⟩, ?_, ⟨by simp [h2.1], fun j t q ht hq => ?_⟩, ?_, fun t ht x hx => ?_⟩, h.out⟩, hL4⟩⟩
  · refine sl_of (by rw [List.length_set]; exact hn) hc hm (blk_set hb3 _ _) (by simpa using hz) fun j t ht => ?_
    rw [Array.getElem?_setIfInBounds]
    rw [List.getElem?_set] at ht
    by_cases hji : i = j
    · subst hji
      rw [if_pos rfl] at ht
      have : i < ss.length := by have := h2.1; omega
      rw [if_pos this] at ht
      rw [if_pos rfl, if_pos (by omega), ← Option.some.inj ht]
    · rw [if_neg hji] at ht
      rw [if_neg (by omega)]
      exact hr j t ht
  · rw [List.getElem?_set] at ht hq
    have hil2 : i < ss.length := by have := h2.1; omega
    by_cases hji : i = j
    · subst hji
      rw [if_pos rfl, if_pos hil2] at ht
      rw [if_pos rfl, if_pos hil] at hq
      rw [← Option.some.inj ht, ← Option.some.inj hq]
      exact hs3.keeps hks fun x ex e2 => by
        subst e2
        obtain ⟨c1, hb1⟩ := hs3.own x ex
        exact blk_ne_type hb1 hb3 (by decide) rfl
    · rw [if_neg hji] at ht hq
      have hj := ((h2.2 j t q ht hq).below hw2)
      have hj3 := hj.keeps hk3 (fun x ex e2 => by
        have hp := List.pairwise_iff_getElem.1 h3
        have hjl := (List.getElem?_eq_some_iff.1 ht)
        have hsl' := (List.getElem?_eq_some_iff.1 hs)
        obtain ⟨hjl, et⟩ := hjl
        obtain ⟨hsl', es⟩ := hsl'
        rcases Nat.lt_or_gt_of_ne hji with hlt | hlt
        · have := hp i j hsl' hjl hlt x (by rw [es, e]; exact e2)
          rw [et] at this
          exact this ex
        · have := hp j i hjl hsl' hlt x (by rw [et]; exact ex)
          rw [es, e] at this
          exact this e2)
      exact hj3.keeps hks fun x ex e2 => by
        subst e2
        obtain ⟨c1, hb1⟩ := hj3.own x ex
        exact blk_ne_type hb1 hb3 (by decide) rfl
  · refine pair_set (fun s t hst x hx ex => hst x ex hx) h3 fun j z hji hz x hx ex => ?_
    have hjq := (List.getElem?_eq_some_iff.1 hz).1
    have hzq := h2.2 j z _ hz (List.getElem?_eq_getElem (l := segs) (i := j) (by have := h2.1; omega))
    rcases ho3 x hx with e2 | e2
    · have hp := List.pairwise_iff_getElem.1 h3
      obtain ⟨hjl, et⟩ := (List.getElem?_eq_some_iff.1 hz)
      obtain ⟨hsl', es⟩ := (List.getElem?_eq_some_iff.1 hs)
      rcases Nat.lt_or_gt_of_ne hji with hlt | hlt
      · have := hp j i hjl hsl' hlt x (by rw [et]; exact ex)
        rw [es, e] at this
        exact this e2
      · have := hp i j hsl' hjl hlt x (by rw [es, e]; exact e2)
        rw [et] at this
        exact this ex
    · obtain ⟨c1, hb1⟩ := hzq.own x ex
      have := lt_of_block hb1
      have := hw2.size
      omega
  · rcases List.mem_or_eq_of_mem_set ht with e2 | e2
    · exact h4 t e2 x hx
    · rw [e2] at hx
      rcases ho3 x hx with e3 | e3
      · exact hown x e3
      · exact ⟨fun e4 => by have := hL2.hd.fs.lt x e4; omega, by have := hL2.hd.below.size; omega⟩
/-- The table at the beginning: one empty segment. -/
theorem TabAt.first (hlow : w0.heap.size ≤ w.heap.size) (hS : ∀ i, S i → i < w.heap.size) :
    TabAt w0 S ((w.alloc (.cells #[] 5)).alloc (.cells #[.slice (some ⟨w.heap.size, 0, none⟩) 0 0] 22)) (.slice (some ⟨w.heap.size + 1, 0, none⟩) 1 1) [[]] := by
  have hb1 : IsBlk ((w.alloc (.cells #[] 5)).alloc (.cells #[.slice (some ⟨w.heap.size, 0, none⟩) 0 0] 22)) (w.heap.size + 1) #[.slice (some ⟨w.heap.size, 0, none⟩) 0 0] 22 := by
    have := blk_new (w.alloc (.cells #[] 5)) (.cells #[.slice (some ⟨w.heap.size, 0, none⟩) 0 0] 22)
    rwa [show (w.alloc (.cells #[] 5)).heap.size = w.heap.size + 1 by simp] at this
  have hb0 : IsBlk ((w.alloc (.cells #[] 5)).alloc (.cells #[.slice (some ⟨w.heap.size, 0, none⟩) 0 0] 22)) w.heap.size #[] 5 :=
    (((Below.refl (w.heap.size + 1) (w.alloc (.cells #[] 5))).alloc (by simp) (.cells #[.slice (some ⟨w.heap.size, 0, none⟩) 0 0] 22)).block _ (by omega)).trans (blk_new w _)
  refine ⟨⟨[⟨some ⟨w.heap.size, 0, none⟩, 0, 0⟩], sl_of rfl (Nat.le_refl _) (by decide) hb1 (by simp) (fun i s hi => ?_), ⟨rfl, fun j s r hs hr => ?_⟩, List.pairwise_singleton _ _, fun s hs g hg => ?_⟩, fun g hg => ?_⟩
  · match i, hi with
    | 0, hi =>
      simp only [List.getElem?_cons_zero, Option.some.injEq] at hi
      subst hi
      rfl
  · match j, hs, hr with
    | 0, hs, hr =>
      simp only [List.getElem?_cons_zero, Option.some.injEq] at hs hr
      subst hs hr
      exact .inr ⟨w.heap.size, 0, 0, #[], rfl, hb0, Nat.le_refl _, Nat.zero_le _, by simp, fun i hi => by simp at hi⟩
  · rw [List.mem_singleton.1 hs] at hg
    simp only [Value.ownBlock, Option.some.injEq] at hg
    subst hg
    exact ⟨fun e => by have := hS _ e; omega, hlow⟩
  · simp only [Value.ownBlock, Option.some.injEq] at hg
    subst hg
    exact ⟨fun e => by have := hS _ e; omega, by omega⟩
end
end Go.Proofs.Ythbfkjmpaifblaa
