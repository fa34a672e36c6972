/- The walk of the file system's Names: a range over the map, a sort. -/
import Derived.Test.YthbfkjmpaifblaaFsF
import Derived.Sort.Walk0
namespace Go.Proofs.Ythbfkjmpaifblaa
open Go.RowKit Go.Shelf Go.Sort

theorem mapBlock_heap (w : World) (g : Nat) (f : Array Value → Array Value) {cs : Array Value} {T : TypeId} (h : IsBlk w g cs T) : IsBlk (mapBlock w g f) g (f cs) T := by
  show (w.heap.modify g (onCells f))[g]? = _
  rw [Array.getElem?_modify, if_pos rfl]
  have : w.heap[g]? = some (.cells cs T (0, 0)) := h
  rw [this]; rfl
theorem keeps_mapBlock (w : World) (g : Nat) (f : Array Value → Array Value) : Keeps (fun k => some g = some k) w (mapBlock w g f) :=
  ⟨rfl, rfl, rfl, by simp [mapBlock], fun k _ hn => by
    show (w.heap.modify g (onCells f))[k]? = _
    rw [Array.getElem?_modify, if_neg (fun e => hn (by rw [e]))]⟩
theorem keeps_grow {S : Nat → Prop} (w : World) (os : Array Obj) : Keeps S w (grow w os) :=
  ⟨rfl, rfl, rfl, by simp [grow], fun k hk _ => by
    show (w.heap ++ os)[k]? = _
    rw [Array.getElem?_append_left hk]⟩
theorem keeps_ahead {S : Nat → Prop} (w : World) (n : Nat) : Keeps S w (Sort.ahead w n) := ⟨rfl, rfl, rfl, Nat.le_refl _, fun _ _ _ => rfl⟩
theorem text_flat (L : List ByteArray) : L.flatMap textKind.enc = L.map Value.string := by
  induction L with
  | nil => rfl
  | cons x xs ih => simp only [List.flatMap_cons, List.map_cons, ih]; rfl
theorem put_texts {w : World} {g off cap k : Nat} {cur : Array Value} (hb : IsBlk w g cur 9) (hc : k ≤ cap) (hm : cap ≤ maxLen) (hs : off + cap * textKind.size ≤ cur.size) (M : List (List UInt8)) (hM : M.length = k) (n : Nat) (os : Array Obj) :
    SlAt textKind 9 (grow (putRow encStr (Sort.ahead w n) g off M.toArray) os) (.slice (some ⟨g, off, none⟩) k cap) (M.map fun x => (⟨x.toArray⟩ : ByteArray)) ∧ Keeps (fun i => (Value.slice (some ⟨g, off, none⟩) k cap).ownBlock = some i) w (grow (putRow encStr (Sort.ahead w n) g off M.toArray) os) := by
  have hl : (M.map (fun x => (⟨x.toArray⟩ : ByteArray))).length = k := by rw [List.length_map, hM]
  have hb1 : IsBlk (Sort.ahead w n) g cur 9 := hb
  have hb2 : IsBlk (putRow encStr (Sort.ahead w n) g off M.toArray) g (putCells encStr off M.toArray cur) 9 := mapBlock_heap (Sort.ahead w n) g _ hb1
  have hb3 := (keeps_grow (S := fun _ => False) (putRow encStr (Sort.ahead w n) g off M.toArray) os).obj hb2 (fun e => e.elim)
  have e1 : ∀ j : Nat, j * textKind.size = j := fun j => Nat.mul_one j
  refine ⟨.inr ⟨g, off, cap, _, by rw [hl], hb3, by rw [hl]; exact hc, hm, ?_, ?_⟩, ?_⟩
  · simp only [putCells, Array.size_mapIdx]; exact hs
  · intro i hi
    rw [text_flat]
    rw [e1] at hi hs
    rw [hl] at hi
    have hsz : off + i < cur.size := by omega
    simp only [putCells]
    rw [Array.getElem?_mapIdx, Array.getElem?_eq_getElem hsz, Option.map_some]
    rw [if_pos (by simp only [List.size_toArray]; omega)]
    rw [Nat.add_sub_cancel_left, getElem!_pos _ i (by simp only [List.size_toArray]; omega)]
    rw [List.map_map, List.getElem?_map, List.getElem?_eq_getElem (by omega), Option.map_some, List.getElem_toArray]
    rfl
  · exact ((keeps_ahead w n).trans' (keeps_mapBlock (Sort.ahead w n) g _)).trans' (keeps_grow _ os)
theorem f_sort {w : World} {v : Value} {L : List ByteArray} (h : SlAt textKind 9 w v L) (hn : L.length < 4611686018427387904) :
    Calls Try.prog 64 #[v] w fun e w' => e = .returned (.tuple #[]) ∧ ∃ L', L'.Perm L ∧ L'.Pairwise (fun a b => slt b a = false) ∧ SlAt textKind 9 w' v L' ∧ Keeps (fun k => v.ownBlock = some k) w w' := by
  rcases h with ⟨rfl, rfl⟩ | ⟨g, off, cap, cur, rfl, hb, hc, hm, hs, hr⟩
  · refine (Try.slices_Sort_string_none none 0 w).mono ?_
    rintro e w' ⟨rfl, rfl⟩
    exact ⟨rfl, [], List.Perm.nil, List.Pairwise.nil, SlAt.nil, Keeps.refl _ _⟩
  · have hcur : ∀ i, i < L.length → cur[off + i]? = (L.map Value.string)[i]? := by
      intro i hi
      have := hr i (by show i < L.length * 1; omega)
      rw [this, text_flat]
    have hH : Holds encStr w g off (L.map fun x => x.data.toList).toArray := by
      intro j hj
      simp only [List.size_toArray, List.length_map] at hj
      refine ⟨?_, ?_⟩
      · rw [blk_cell hb, hcur j hj]
        rw [getElem!_pos _ j (by simpa using hj)]
        simp [hj]
      · exact blk_free hb _
    have hblk := lt_of_block hb
    have := Try.slices_Sort_string g off cap (L.map fun x => x.data.toList) w hH hblk (by simpa using hn)
    rw [List.length_map] at this
    refine this.mono ?_
    rintro e w' ⟨rfl, n, os, rfl⟩
    have hperm := List.mergeSort_perm (L.map fun x => x.data.toList) (fun x y => decide (x ≤ y))
    have hpair : (List.mergeSort (L.map fun x => x.data.toList) (fun x y => decide (x ≤ y))).Pairwise (fun a b => decide (a ≤ b) = true) := List.pairwise_mergeSort (fun a b c h k => by
        simp only [decide_eq_true_eq] at *; exact List.le_trans h k) (fun a b => by
        simp only [Bool.or_eq_true, decide_eq_true_eq]; exact List.le_total a b) _
    generalize List.mergeSort (L.map fun x => x.data.toList) (fun x y => decide (x ≤ y)) = M at hperm hpair ⊢
    have hlen : M.length = L.length := by rw [hperm.length_eq, List.length_map]
    refine ⟨rfl, M.map (fun x => ⟨x.toArray⟩), ?_, ?_, (put_texts hb hc hm hs M hlen n os).1, (put_texts hb hc hm hs M hlen n os).2⟩
    · refine (hperm.map (fun x => (⟨x.toArray⟩ : ByteArray))).trans ?_
      rw [List.map_map]
      have : ((fun x => (⟨x.toArray⟩ : ByteArray)) ∘ fun x : ByteArray => x.data.toList) = id := by funext x; simp
      rw [this, List.map_id]
    · rw [List.pairwise_map]
      refine hpair.imp ?_
      intro a b hab
      simp only [decide_eq_true_eq] at hab
      unfold slt
      rw [Lib.toList_data, Lib.toList_data, bytesLess_eq]
      simpa using hab
end Go.Proofs.Ythbfkjmpaifblaa
/- The walk of the file system's Names. -/
namespace Go.Proofs.Ythbfkjmpaifblaa
open Go.RowKit Go.Shelf Go.Sort

/-- The names that begin so. -/
def namesL {V : Type} (front : ByteArray) (m : List (ByteArray × V)) : List ByteArray := (m.filter fun x => Lib.hasPrefix x.1.data.toList front.data.toList).map (·.1)
theorem infoStr : (Try.prog.info? 9).map (fun i => (i.zero, i.size, i.bytes)) = some (some (.string ⟨#[]⟩), 1, 16) := by kernel_rfl
theorem append_texts {w : World} {v u : Value} {xs ys : List ByteArray} (hv : SlAt textKind 9 w v xs) (hu : RdAt textKind w u ys) (hn : xs.length + ys.length ≤ 1000000000) (ty : TypeId) :
    ∃ v' w', (Builtin.append_ #[47, 47] ty #[v, u]).run Try.prog w = .ok v' w' ∧ SlAt textKind 9 w' v' (xs ++ ys) ∧ Keeps (fun k => v.ownBlock = some k) w w' ∧
      (∀ k, v'.ownBlock = some k → v.ownBlock = some k ∨ w.heap.size ≤ k) ∧ (v' = .slice none 0 0 ↔ v = .slice none 0 0 ∧ ys = []) := by
  obtain ⟨i0, hi, hz0, hz1, hz2⟩ := info_parts infoStr
  exact run_append_sl (ek := textKind) 47 ty i0 _ 16 Try.underlying47 hi hz0 hz1 hz2 rfl hv hu (by unfold maxLen; omega) (by omega)

structure NmI (w : World) (mb : Nat) (rs : List (ByteArray × Pl)) (front : ByteArray) (s : Value) (left : List (ByteArray × Pl)) (wr : World) : Prop where
  ex : ∃ done, (done ++ left).Perm rs ∧ SlAt textKind 9 wr s (namesL front done) ∧ done.length ≤ rs.length
  rng : RangeAt strKind evP wr mb w.heap.size rs left
  new : ∀ k, s.ownBlock = some k → w.heap.size < k
  below : Below w.heap.size w wr
theorem sorted_unique : ∀ {a b : List ByteArray}, a.Perm b → a.Pairwise (fun x y => slt y x = false) → b.Pairwise (fun x y => slt y x = false) → a = b := by
  intro a b hp ha hb
  refine hp.eq_of_pairwise (le := fun x y => slt y x = false) ?_ ha hb
  intro x y _ _ h1 h2
  exact slt_ord.eq _ _ h2 h1
theorem namesL_rise {V : Type} {m : List (ByteArray × V)} (h : Rise slt m) (front : ByteArray) : (namesL front m).Pairwise (fun x y => slt y x = false) := by
  unfold namesL
  rw [List.pairwise_map]
  exact (List.Pairwise.filter _ h).imp (fun h => slt_ord.asymm h)
theorem namesL_perm {V : Type} {m m' : List (ByteArray × V)} (h : m.Perm m') (front : ByteArray) : (namesL front m).Perm (namesL front m') := (h.filter _).map _
theorem namesL_app {V : Type} (m m' : List (ByteArray × V)) (front : ByteArray) : namesL front (m ++ m') = namesL front m ++ namesL front m' := by unfold namesL; rw [List.filter_append, List.map_append]
theorem namesL_map {V W : Type} (f : V → W) (m : List (ByteArray × V)) (front : ByteArray) : namesL front (m.map fun x => (x.1, f x.2)) = namesL front m := by
  unfold namesL
  rw [List.filter_map, List.map_map]
  rfl
section
variable {w : World} {fb mb : Nat} {F : FsS} {S : Nat → Prop} {rs : List (ByteArray × Pl)}
/-- A list that lies in blocks of its own. -/
structure TextsAt (w w' : World) (v : Value) (L : List ByteArray) : Prop where
  sl : SlAt textKind 9 w' v L
  new : ∀ k, v.ownBlock = some k → w.heap.size ≤ k
  below : Below w.heap.size w w'
set_option maxRecDepth 100000 in
set_option maxHeartbeats 600000 in
theorem f_names (h : FsAt w fb F S mb rs) (hl : rs.length ≤ 1000000) (front : ByteArray) :
    Calls Try.prog 33 #[.pointer (some ⟨fb, 0, none⟩), .string front] w fun e w' => ∃ v, e = .returned v ∧ TextsAt w w' v (namesL front F.files) := by
  have c2 : w.cell? ⟨fb, 2, none⟩ = some (.map (some mb)) := blk_cell h.blk 2
  obtain ⟨W1, hrange, hR, hk1, hz1⟩ := h.map.range (P := Try.prog) (t := 74) Try.underlying74
  have H := Lib.hid h
  have HL := Lib.hid hl
  have HI : Hid (NmI w mb rs front (.slice none 0 0) rs W1) := Lib.hid ⟨⟨[], by simp, SlAt.nil, by simp⟩, hR, fun k e => by simp [Value.ownBlock] at e, hk1⟩
  clear h hR hk1 hz1 hl
  go_enter Try.func33, Try.ntmps33
  go_wp2_with (fail)
  go_loopg [5] (rs.length + 1) (fun g s wr => ∃ left : List (ByteArray × Pl), g = left.length + 1 ∧ Hid (NmI w mb rs front s left wr))
  case atStart => exact ⟨rs, rfl, HI⟩
  case round =>
    obtain ⟨left, rfl, HN⟩ := hrel
    rcases HN.out.rng.next (P := Try.prog) 0 with ⟨rfl, hrun⟩ | ⟨x, rest, w1, hp, hrun, hR, hk, hz, hent⟩
    · have HS : Hid (∃ done, done.Perm rs ∧ SlAt textKind 9 wr u5 (namesL front done) ∧ done.length ≤ rs.length) := Lib.hid (by
        obtain ⟨done, h1, h2, h3⟩ := HN.out.ex
        exact ⟨done, by simpa using h1, h2, h3⟩)
      go_wp2_with (fail)
      obtain ⟨done, h1, h2, h3⟩ := HS.out
      have hlen : (namesL front done).length ≤ 1000000 := by
        unfold namesL
        rw [List.length_map]
        exact Nat.le_trans (List.length_filter_le _ _) (Nat.le_trans h3 HL.out)
      refine (f_sort h2 (by omega)).mono ?_
      rintro e w2 ⟨rfl, L', hp, hs, hsl, hk2⟩
      have HE : Hid (TextsAt w w2 u5 (namesL front F.files)) := by
        have e : L' = namesL front F.files := by
          rw [H.out.files]
          refine (sorted_unique (hp.trans (namesL_perm h1 front)) hs (namesL_rise H.out.map.rise front)).trans ?_
          exact (namesL_map (fun q : Pl => q.fl) rs front).symm
        rw [e] at hsl
        exact Lib.hid ⟨hsl, fun k hk => Nat.le_of_lt (HN.out.new k hk), below_keeps HN.out.below hk2 (fun i e => Nat.le_of_lt (HN.out.new i e)) HN.out.below.size⟩
      clear h1 h2 h3 hlen hp hs hsl hk2
      go_wp2_with (fail)
      go_ret
      exact ⟨_, rfl, HE.out⟩
    · have hent' : (Instr.entry (.pointer (some ⟨w.heap.size, 0, none⟩))).run Try.prog w1 = .ok (.tuple #[.string x.1, evP x.2]) w1 := hent
      have hrun' : (Instr.next (.pointer (some ⟨w.heap.size, 0, none⟩)) false 0).run Try.prog wr = .ok (.tuple #[.bool true, .string x.1, evP x.2]) w1 := hrun
      have hlen : left.length = rest.length + 1 := by rw [hp.length_eq]; rfl
      have hk' : Keeps (fun i => i = w.heap.size) wr w1 := hk
      have hbw : Below w.heap.size w w1 := below_keeps HN.out.below hk (fun i e => by omega) HN.out.below.size
      have hsl : ∃ done, (done ++ x :: rest).Perm rs ∧ SlAt textKind 9 w1 u5 (namesL front done) ∧ done.length + 1 ≤ rs.length := by
        obtain ⟨done, h1, h2, h3⟩ := HN.out.ex
        refine ⟨done, (List.Perm.append_left done hp.symm).trans h1, h2.keeps hk (fun g hg e => ?_), ?_⟩
        · have := HN.out.new g hg; omega
        · have := ((List.Perm.append_left done hp.symm).trans h1).length_eq
          simp only [List.length_append, List.length_cons] at this; omega
      have HX := Lib.hid (And.intro hR (And.intro hbw hsl))
      have HNEW := Lib.hid HN.out.new
      have HPR := Try.strings_HasPrefix x.1 front w1
      clear hent hrun hk hk' hR hbw hsl hp hz
      cases hpre : Lib.hasPrefix x.1.data.toList front.data.toList with
      | false =>
        rw [hpre] at HPR
        have HI2 : Hid (NmI w mb rs front u5 rest w1) := Lib.hid (by
          obtain ⟨h1, h2, done, h3, h4, h5⟩ := HX.out
          exact ⟨⟨done ++ [x], by simpa using h3, by rw [namesL_app]; unfold namesL at h4 ⊢; simpa [hpre] using h4, by simpa using h5⟩, h1, HNEW.out, h2⟩)
        have HPR := Lib.hid HPR
        clear hpre
        go_wp2_with (fail)
        refine HPR.out.mono ?_
        rintro e w2 ⟨rfl, rfl⟩
        go_wp2_with (fail)
        go_roundg (rest.length + 1)
        case measure => omega
        case rel => exact ⟨rest, rfl, HI2⟩
      | true =>
        rw [hpre] at HPR
        have hu : RdAt textKind (w1.alloc (.cells #[.string x.1] 9)) (.slice (some ⟨w1.heap.size, 0, none⟩) 1 1) [x.1] := by
          refine ⟨_, 1, rfl, fun j y hy => ⟨w1.heap.size, 0, rfl, fun i hi => ?_⟩⟩
          match j, hy with
          | 0, hy =>
            simp only [List.getElem?_cons_zero, Option.some.injEq] at hy
            subst hy
            have hi0 : i = 0 := by have : i < 1 := hi; omega
            subst hi0
            exact blk_cell (cs := #[.string x.1]) (heap_alloc_new w1 _) 0
        have hal : Below w1.heap.size w1 (w1.alloc (.cells #[.string x.1] 9)) := (Below.refl _ _).alloc (Nat.le_refl _) _
        have HI2 : Hid (∃ v' w', (Builtin.append_ #[47, 47] 47 #[u5, .slice (some ⟨w1.heap.size, 0, none⟩) 1 1]).run Try.prog (w1.alloc (.cells #[.string x.1] 9)) = .ok v' w' ∧ NmI w mb rs front v' rest w') := Lib.hid (by
          obtain ⟨h1, h2, done, h3, h4, h5⟩ := HX.out
          have h4' := h4.below hal
          have hle : (namesL front done).length ≤ 1000000 := by
            unfold namesL
            rw [List.length_map]
            exact Nat.le_trans (List.length_filter_le _ _) (by have := HL.out; omega)
          obtain ⟨v', w', hrun, hs, hk, ho, _⟩ := append_texts h4' hu (by simp only [List.length_cons, List.length_nil]; omega) 47
          refine ⟨v', w', hrun, ⟨done ++ [x], by simpa using h3, by rw [namesL_app]; unfold namesL at hs ⊢; simpa [hpre] using hs, by simpa using h5⟩, ?_, ?_, ?_⟩
          · refine (h1.below hal).keeps hk ?_ ?_
            · intro e
              have := HNEW.out _ e
              have := H.out.lt _ H.out.smb
              omega
            · intro e
              have := HNEW.out _ e
              omega
          · intro k e
            rcases ho k e with e | e
            · exact HNEW.out k e
            · have := hal.size
              have := h1.lt
              have : w1.heap.size < (w1.alloc (.cells #[.string x.1] 9)).heap.size := by simp
              omega
          · exact below_keeps (h2.trans (hal.mono h2.size)) hk (fun i e => Nat.le_of_lt (HNEW.out i e)) (Nat.le_trans h2.size hal.size))
        obtain ⟨v', w2, hap, hN2⟩ := HI2.out
        have HN2 := Lib.hid hN2
        have HPR := Lib.hid HPR
        clear hpre hu hal hN2 HI2
        go_wp2_with (fail)
        refine HPR.out.mono ?_
        rintro e w3 ⟨rfl, rfl⟩
        go_wp2_with (at_builtin; refine wpList_append_run rfl (.tmp 19) (.tmp 21) 47 rfl _ _ rfl rfl _ _ hap ?_)
        go_roundg (rest.length + 1)
        case measure => omega
        case rel => exact ⟨rest, rfl, HN2⟩
end
end Go.Proofs.Ythbfkjmpaifblaa
