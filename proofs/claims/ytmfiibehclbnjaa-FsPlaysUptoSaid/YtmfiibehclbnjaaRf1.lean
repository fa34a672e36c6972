/- Where the reference's file system lies; its small functions' walks. -/
import Derived.Test.YtmfiibehclbnjaaFsHe
namespace Go.Proofs.Ytmfiibehclbnjaa
open Go.RowKit Go.Shelf

/-- A file of the reference, as it is laid. -/
structure RF where
  name : ByteArray
  a : Option Addr
  len : Nat
  cap : Nat
  synced : Nat
abbrev RF.val (r : RF) : Value := .slice r.a r.len r.cap
def rfKind : ElKind RF := ⟨fun r => [.string r.name, .slice r.a r.len r.cap, .int .i64 (r.synced : Int)], 3, fun _ => rfl, by decide, fun _ u hu => by
  simp only [List.mem_cons, List.not_mem_nil, or_false] at hu
  rcases hu with rfl | rfl | rfl <;> rfl⟩
structure RFor (w : World) (x : ByteArray × FileS) (r : RF) : Prop where
  name : r.name = x.1
  len : r.len = x.2.data.length
  sl : SlAt byteKind 5 w r.val x.2.data
  synced : r.synced = x.2.synced
/-- Two lists, one beside the other. -/
inductive All2 {α β : Type} (R : α → β → Prop) : List α → List β → Prop where
  | nil : All2 R [] []
  | cons {a : α} {b : β} {l : List α} {m : List β} (h : R a b) (t : All2 R l m) : All2 R (a :: l) (b :: m)
namespace All2
variable {α β : Type} {R Q : α → β → Prop} {l l' : List α} {m m' : List β}
theorem length (h : All2 R l m) : l.length = m.length := by
  induction h with
  | nil => rfl
  | cons _ _ ih => simp [ih]
theorem get (h : All2 R l m) : ∀ (j : Nat) (a : α) (b : β), l[j]? = some a → m[j]? = some b → R a b := by
  induction h with
  | nil => intro j a b h; simp at h
  | cons h _ ih =>
    intro j a b ha hb
    cases j with
    | zero =>
      simp only [List.getElem?_cons_zero, Option.some.injEq] at ha hb
      subst ha hb
      exact h
    | succ j => exact ih j a b (by simpa using ha) (by simpa using hb)
theorem imp (h : All2 R l m) (f : ∀ a b, a ∈ l → b ∈ m → R a b → Q a b) : All2 Q l m := by
  induction h with
  | nil => exact .nil
  | cons h _ ih => exact .cons (f _ _ (List.mem_cons_self ..) (List.mem_cons_self ..) h) (ih fun a b ha hb => f a b (List.mem_cons_of_mem _ ha) (List.mem_cons_of_mem _ hb))
theorem append (h : All2 R l m) (k : All2 R l' m') : All2 R (l ++ l') (m ++ m') := by
  induction h with
  | nil => exact k
  | cons h _ ih => exact .cons h ih
theorem filter (h : All2 R l m) {p : α → Bool} {q : β → Bool} (e : ∀ a b, R a b → p a = q b) : All2 R (l.filter p) (m.filter q) := by
  induction h with
  | nil => exact .nil
  | @cons a b l m h _ ih =>
    have e1 := e a b h
    cases hp : p a with
    | true => rw [List.filter_cons, if_pos hp, List.filter_cons, if_pos (e1 ▸ hp)]; exact .cons h ih
    | false => rw [List.filter_cons, if_neg (by simp [hp]), List.filter_cons, if_neg (by rw [← e1, hp]; simp)]; exact ih
theorem set (h : All2 R l m) (j : Nat) {a : α} {b : β} (hr : R a b) : All2 R (l.set j a) (m.set j b) := by
  induction h generalizing j with
  | nil => exact .nil
  | cons h t ih =>
    cases j with
    | zero => exact .cons hr t
    | succ j => exact .cons h (ih j)
theorem mem (h : All2 R l m) {b : β} (hb : b ∈ m) : ∃ a ∈ l, R a b := by
  induction h with
  | nil => simp at hb
  | cons h _ ih =>
    rcases List.mem_cons.1 hb with rfl | hb
    · exact ⟨_, List.mem_cons_self .., h⟩
    · obtain ⟨a, ha, hr⟩ := ih hb
      exact ⟨a, List.mem_cons_of_mem _ ha, hr⟩
end All2
abbrev refCells (F : FsS) (lv : Value) : Array Value := #[.int .i64 F.room, lv, .int .i64 F.steps, .int .i64 F.armed, .bool F.down]
/-- The reference's file system at block rb. -/
structure RefAt (w : World) (rb : Nat) (F : FsS) (S : Nat → Prop) (lv : Value) (rs : List RF) : Prop where
  blk : IsBlk w rb (refCells F lv) 67
  arr : SlAt rfKind 69 w lv rs
  all : All2 (RFor w) F.files rs
  sb : S rb
  sa : ∀ g, lv.ownBlock = some g → S g
  sd : ∀ r ∈ rs, ∀ g, r.val.ownBlock = some g → S g
  lt : ∀ k, S k → k < w.heap.size
section
variable {w w' : World} {rb : Nat} {F : FsS} {S T : Nat → Prop} {lv : Value} {rs : List RF}
theorem RFor.keeps {x : ByteArray × FileS} {r : RF} (h : RFor w x r) (hk : Keeps T w w') (hn : ∀ g, r.val.ownBlock = some g → ¬ T g) : RFor w' x r := ⟨h.name, h.len, h.sl.keeps hk hn, h.synced⟩
theorem RefAt.len (h : RefAt w rb F S lv rs) : rs.length = F.files.length := h.all.length.symm
theorem RefAt.each (h : RefAt w rb F S lv rs) (j : Nat) (x : ByteArray × FileS) (r : RF) (hx : F.files[j]? = some x) (hr : rs[j]? = some r) : RFor w x r := h.all.get j x r hx hr
theorem RefAt.keeps (h : RefAt w rb F S lv rs) (hk : Keeps T w w') (hT : ∀ k, T k → ¬ S k) : RefAt w' rb F S lv rs :=
  ⟨hk.obj h.blk (fun e => hT _ e h.sb), h.arr.keeps hk (fun g hg e => hT _ e (h.sa g hg)), h.all.imp fun x r _ hr hf => hf.keeps hk (fun g hg e => hT _ e (h.sd r hr g hg)), h.sb, h.sa, h.sd, fun k hs => Nat.lt_of_lt_of_le (h.lt k hs) hk.size⟩
theorem RefAt.below (h : RefAt w rb F S lv rs) (hk : Below w.heap.size w w') : RefAt w' rb F S lv rs := h.keeps (Keeps.of_below hk) (fun _ e => e.elim)
theorem RefAt.mono (h : RefAt w rb F S lv rs) (hs : ∀ k, S k → T k) (hl : ∀ k, T k → k < w.heap.size) : RefAt w rb F T lv rs :=
  ⟨h.blk, h.arr, h.all, hs _ h.sb, fun g hg => hs g (h.sa g hg), fun r hr g hg => hs g (h.sd r hr g hg), hl⟩
/-- A file's place in the array. -/
theorem RefAt.at_file (h : RefAt w rb F S lv rs) {j : Nat} {x : ByteArray × FileS} (hx : F.files[j]? = some x) :
    ∃ r g off cap, rs[j]? = some r ∧ RFor w x r ∧ lv = .slice (some ⟨g, off, none⟩) F.files.length cap ∧
      w.cell? ⟨g, off + j * 3, none⟩ = some (.string x.1) ∧ w.cell? ⟨g, off + j * 3 + 1, none⟩ = some (.slice r.a x.2.data.length r.cap) ∧ w.cell? ⟨g, off + j * 3 + 2, none⟩ = some (.int .i64 (x.2.synced : Int)) := by
  obtain ⟨hj, he⟩ := List.getElem?_eq_some_iff.1 hx
  have hr : rs[j]? = some (rs[j]'(by rw [h.len]; exact hj)) := List.getElem?_eq_getElem (by rw [h.len]; exact hj)
  generalize rs[j]'(by rw [h.len]; exact hj) = r at hr
  have hf := h.each j x r hx hr
  obtain ⟨a, cap, hv, hc⟩ := h.arr.rd
  obtain ⟨g, off, ha, hcell⟩ := hc j r hr
  have h0 := hcell 0 (by decide)
  have h1 := hcell 1 (by decide)
  have h2 := hcell 2 (by decide)
  refine ⟨r, g, off, cap, hr, hf, by rw [hv, ha, h.len], ?_, ?_, ?_⟩
  · rw [← hf.name]; exact h0
  · rw [← hf.len]; exact h1
  · rw [← hf.synced]; exact h2
theorem RefAt.shape (h : RefAt w rb F S lv rs) : ∃ a cap, lv = .slice a F.files.length cap := by
  obtain ⟨a, cap, e⟩ := h.arr.shape
  exact ⟨a, cap, by rw [e, h.len]⟩
/-- A cell of its own is set. -/
theorem RefAt.setCell (h : RefAt w rb F S lv rs) {F' : FsS} {i : Nat} {u : Value} (hF : F'.files = F.files) (hc : (refCells F lv).setIfInBounds i u = refCells F' lv) : RefAt (w.setCell ⟨rb, i, none⟩ u) rb F' S lv rs := by
  have k : Keeps (fun k => k = rb) w (w.setCell ⟨rb, i, none⟩ u) := (Keeps.refl (fun k => k = rb) w).setCell (p := ⟨rb, i, none⟩) (fun _ => rfl) u
  have hne : ∀ g cur (T : TypeId), w.heap[g]? = some (.cells cur T (0, 0)) → T ≠ 67 → g ≠ rb := fun g cur T hg hT e => blk_ne_type (b := g) (c := rb) hg h.blk hT e
  refine ⟨hc ▸ blk_set h.blk i u, h.arr.keeps k (fun g hg e => ?_), hF ▸ h.all.imp fun x r _ hr hf => hf.keeps k (fun g hg e => ?_), h.sb, h.sa, h.sd, fun k hs => by simpa using h.lt k hs⟩
  · obtain ⟨cur, hb⟩ := h.arr.own g hg
    exact hne g cur _ hb (by decide) e
  · obtain ⟨cur, hb⟩ := hf.sl.own g hg
    exact hne g cur _ hb (by decide) e
/-- Which error a write meets first; what is left of it. -/
def FsS.failS (F : FsS) : FsS := if 0 < F.armed then if F.armed = 1 then { F with armed := 0, down := true } else { F with armed := F.armed - 1, steps := F.steps + 1 } else { F with steps := F.steps + 1 }
set_option maxRecDepth 100000 in
set_option maxHeartbeats 1000000 in
theorem g_fails (h : RefAt w rb F S lv rs) (ha : F.armed ≤ 9223372036854775807) (hs0 : 0 ≤ F.steps) (hs : F.steps < 1000000000) :
    Calls Try.prog 77 #[.pointer (some ⟨rb, 0, none⟩)] w fun e w' => e = .returned (.bool (F.armed == 1)) ∧ RefAt w' rb F.failS S lv rs ∧ Keeps (Only rb) w w' ∧ w'.heap.size = w.heap.size := by
  have c3 : w.cell? ⟨rb, 3, none⟩ = some (.int .i64 F.armed) := blk_cell h.blk 3
  have z3 : w.frozen? ⟨rb, 3, none⟩ = false := blk_free h.blk 3
  have c2 : w.cell? ⟨rb, 2, none⟩ = some (.int .i64 F.steps) := blk_cell h.blk 2
  have z2 : w.frozen? ⟨rb, 2, none⟩ = false := blk_free h.blk 2
  have H := Lib.hid h
  by_cases h0 : 0 < F.armed
  · by_cases h1 : F.armed = 1
    · have hf : Hid (F.failS = { F with armed := 0, down := true }) := Lib.hid (by unfold FsS.failS; rw [if_pos h0, if_pos h1])
      have he : Hid ((F.armed == 1) = true) := Lib.hid (by rw [h1]; rfl)
      have c3b : (w.setCell ⟨rb, 3, none⟩ (.int .i64 0)).cell? ⟨rb, 3, none⟩ = some (.int .i64 0) := blk_cell (blk_set h.blk 3 _) 3
      have z4 : (w.setCell ⟨rb, 3, none⟩ (.int .i64 0)).frozen? ⟨rb, 4, none⟩ = false := blk_free (blk_set h.blk 3 _) 4
      have c4 : (w.setCell ⟨rb, 3, none⟩ (.int .i64 0)).cell? ⟨rb, 4, none⟩ = some (.bool F.down) := blk_cell (blk_set h.blk 3 _) 4
      rw [h1] at c3
      clear h h0 h1 ha
      go_enter Try.func77, Try.ntmps77
      go_wp2
      go_ret
      rw [hf.out, he.out]
      exact ⟨rfl, (H.out.setCell (F' := { F with armed := 0 }) (i := 3) (u := .int .i64 0) rfl rfl).setCell (F' := { F with armed := 0, down := true }) (i := 4) (u := .bool true) rfl rfl, (keeps_set w rb 3 _).trans' (keeps_set _ rb 4 _), by simp⟩
    · have hf : Hid (F.failS = { F with armed := F.armed - 1, steps := F.steps + 1 }) := Lib.hid (by unfold FsS.failS; rw [if_pos h0, if_neg h1])
      have he : Hid ((F.armed == 1) = false) := Lib.hid (beq_eq_false_iff_ne.2 h1)
      have hne : ((F.armed - 1) == 0) = false := beq_eq_false_iff_ne.2 (by omega)
      have c3b : (w.setCell ⟨rb, 3, none⟩ (.int .i64 (F.armed - 1))).cell? ⟨rb, 3, none⟩ = some (.int .i64 (F.armed - 1)) := blk_cell (blk_set h.blk 3 _) 3
      have z2b : (w.setCell ⟨rb, 3, none⟩ (.int .i64 (F.armed - 1))).frozen? ⟨rb, 2, none⟩ = false := blk_free (blk_set h.blk 3 _) 2
      have c2b : (w.setCell ⟨rb, 3, none⟩ (.int .i64 (F.armed - 1))).cell? ⟨rb, 2, none⟩ = some (.int .i64 F.steps) := blk_cell (blk_set h.blk 3 _) 2
      clear h h1
      go_enter Try.func77, Try.ntmps77
      go_wp2
      go_ret
      rw [hf.out, he.out]
      exact ⟨rfl, (H.out.setCell (F' := { F with armed := F.armed - 1 }) (i := 3) (u := .int .i64 (F.armed - 1)) rfl rfl).setCell (F' := { F with armed := F.armed - 1, steps := F.steps + 1 }) (i := 2) (u := .int .i64 (F.steps + 1)) rfl rfl, (keeps_set w rb 3 _).trans' (keeps_set _ rb 2 _), by simp⟩
  · have hf : Hid (F.failS = { F with steps := F.steps + 1 }) := Lib.hid (by unfold FsS.failS; rw [if_neg h0])
    have he : Hid ((F.armed == 1) = false) := Lib.hid (beq_eq_false_iff_ne.2 (by omega))
    clear h
    go_enter Try.func77, Try.ntmps77
    go_wp2
    go_ret
    rw [hf.out, he.out]
    exact ⟨rfl, H.out.setCell (F' := { F with steps := F.steps + 1 }) (i := 2) (u := .int .i64 (F.steps + 1)) rfl rfl, keeps_set w rb 2 _, by simp⟩
end
end Go.Proofs.Ytmfiibehclbnjaa
/- The walks of the reference's small functions: New, At, Used, Keep, Bytes. -/
namespace Go.Proofs.Ytmfiibehclbnjaa
open Go.RowKit Go.Shelf

theorem sumLen_snoc2 {F : FsS} {x : ByteArray × FileS} {j : Nat} (h : F.files[j]? = some x) : sumLen (F.files.take (j + 1)) = sumLen (F.files.take j) + x.2.data.length := by
  obtain ⟨hj, he⟩ := List.getElem?_eq_some_iff.1 h
  rw [List.take_succ_eq_append_getElem hj, he, sumLen_append, sumLen_cons]
  have : sumLen [] = 0 := rfl
  omega
theorem sumLen_take_le2 (l : List (ByteArray × FileS)) (j : Nat) : sumLen (l.take j) ≤ sumLen l := by
  have : sumLen l = sumLen (l.take j) + sumLen (l.drop j) := by rw [← sumLen_append, List.take_append_drop]
  have := sumLen_nonneg (l.drop j)
  omega
section
variable {w w' : World} {rb : Nat} {F : FsS} {S T : Nat → Prop} {lv : Value} {rs : List RF}
theorem g_new (m : Int) (h0 : -9223372036854775808 ≤ m) (h1 : m ≤ 9223372036854775807) :
    Calls Try.prog 42 #[.int .i64 m] w fun e w' => ∃ rb, e = .returned (.pointer (some ⟨rb, 0, none⟩)) ∧ RefAt w' rb (FsS.new m) (New w w' fun _ => False) (.slice none 0 0) [] ∧ Below w.heap.size w w' := by
  have hb := blk_new w (.cells (refCells (FsS.new m) (.slice none 0 0)) 67)
  have hk : Below w.heap.size w (w.alloc (.cells (refCells (FsS.new m) (.slice none 0 0)) 67)) := (Below.refl _ _).alloc (Nat.le_refl _) _
  have HB := Lib.hid (And.intro hb hk)
  clear hb hk
  go_enter Try.func42, Try.ntmps42
  go_wp2_with (fail)
  go_ret
  obtain ⟨hb, hk⟩ := HB.out
  refine ⟨w.heap.size, rfl, ⟨hb, SlAt.nil, .nil, .inr ⟨Nat.le_refl _, by simp⟩, fun g hg => by simp [Value.ownBlock] at hg, fun r hr => by simp at hr, new_lt (fun _ e => e.elim) hk.size⟩, hk⟩
set_option maxRecDepth 100000 in
set_option maxHeartbeats 1000000 in
theorem g_at_some (h : RefAt w rb F S lv rs) (hr : Rise slt F.files) (hl : F.files.length ≤ 400) {n : ByteArray} {x : FileS} {j : Nat} (hx : F.files[j]? = some (n, x)) :
    Calls Try.prog 70 #[.pointer (some ⟨rb, 0, none⟩), .string n] w fun e w' => e = .returned (.int .i64 (j : Int)) ∧ w = w' := by
  have c1 : w.cell? ⟨rb, 1, none⟩ = some lv := blk_cell h.blk 1
  obtain ⟨hj, he⟩ := List.getElem?_eq_some_iff.1 hx
  have hjl : (j : Int) < (F.files.length : Int) := by omega
  have hl' : (F.files.length : Int) ≤ 400 := by omega
  have H := Lib.hid h
  have HX := Lib.hid hx
  have HR := Lib.hid hr
  obtain ⟨a, cap, rfl⟩ := h.shape
  clear h hx he hr hl
  go_enter Try.func70, Try.ntmps70
  go_wp2_with (fail)
  go_loop [5] (fun i => ∃ q : Nat, q ≤ j ∧ i = .int .i64 q) (fun i => (j + 1) - (intOf i).toNat)
  case atStart => exact ⟨0, Nat.zero_le _, rfl⟩
  case round =>
    obtain ⟨q, hq, rfl⟩ := hrel
    have hql : q < F.files.length := by omega
    obtain ⟨⟨n2, y⟩, hy⟩ : ∃ y, F.files[q]? = some y := ⟨_, List.getElem?_eq_getElem hql⟩
    obtain ⟨r, g, off, cap2, _, _, e, d0, _, _⟩ := H.out.at_file hy
    simp only [Value.slice.injEq, true_and] at e
    obtain ⟨rfl, rfl⟩ := e
    have k1 : (0 : Int) ≤ (q : Int) := by omega
    have k2 : (q : Int) < (F.files.length : Int) := by omega
    simp only at d0
    by_cases hqj : q = j
    · subst hqj
      rw [HX.out] at hy
      simp only [Option.some.injEq, Prod.mk.injEq] at hy
      obtain ⟨rfl, rfl⟩ := hy
      have q1 := eqb_self n
      go_wp2_with (fail)
      go_ret
      exact ⟨rfl, rfl⟩
    · have hne : n2 ≠ n := by
        intro e
        subst e
        have hr := HR.out
        obtain ⟨h1, h2⟩ := List.getElem?_eq_some_iff.1 hy
        obtain ⟨h3, h4⟩ := List.getElem?_eq_some_iff.1 HX.out
        have := (List.pairwise_iff_getElem.1 hr) q j h1 h3 (by omega)
        rw [h2, h4, slt_ord.irr] at this
        cases this
      have q1 := eqb_ne hne
      clear hy hne
      go_wp2_with (fail)
      go_round
      case rel => exact ⟨q + 1, by omega, by go_num⟩
      case measure => simp [intOf]; omega
set_option maxRecDepth 100000 in
set_option maxHeartbeats 1000000 in
theorem g_at_none (h : RefAt w rb F S lv rs) (hl : F.files.length ≤ 400) {n : ByteArray} (hx : ∀ x ∈ F.files, x.1 ≠ n) :
    Calls Try.prog 70 #[.pointer (some ⟨rb, 0, none⟩), .string n] w fun e w' => e = .returned (.int .i64 (-1)) ∧ w = w' := by
  have c1 : w.cell? ⟨rb, 1, none⟩ = some lv := blk_cell h.blk 1
  have hl' : (F.files.length : Int) ≤ 400 := by omega
  have H := Lib.hid h
  have HX := Lib.hid hx
  obtain ⟨a, cap, rfl⟩ := h.shape
  clear h hx hl
  go_enter Try.func70, Try.ntmps70
  go_wp2_with (fail)
  go_loop [5] (fun i => ∃ q : Nat, q ≤ F.files.length ∧ i = .int .i64 q) (fun i => F.files.length - (intOf i).toNat)
  case atStart => exact ⟨0, Nat.zero_le _, rfl⟩
  case round =>
    obtain ⟨q, hq, rfl⟩ := hrel
    by_cases hql : q < F.files.length
    · obtain ⟨⟨n2, y⟩, hy⟩ : ∃ y, F.files[q]? = some y := ⟨_, List.getElem?_eq_getElem hql⟩
      obtain ⟨r, g, off, cap2, _, _, e, d0, _, _⟩ := H.out.at_file hy
      simp only [Value.slice.injEq, true_and] at e
      obtain ⟨rfl, rfl⟩ := e
      have k1 : (0 : Int) ≤ (q : Int) := by omega
      have k2 : (q : Int) < (F.files.length : Int) := by omega
      simp only at d0
      have hne : n2 ≠ n := HX.out _ (List.mem_of_getElem? hy)
      have q1 := eqb_ne hne
      clear hy hne
      go_wp2_with (fail)
      go_round
      case rel => exact ⟨q + 1, by omega, by go_num⟩
      case measure => simp [intOf]; omega
    · have k2 : ¬ (q : Int) < (F.files.length : Int) := by omega
      go_wp2_with (fail)
      go_ret
      exact ⟨rfl, rfl⟩
set_option maxRecDepth 100000 in
set_option maxHeartbeats 1000000 in
theorem g_used (h : RefAt w rb F S lv rs) {k : Nat} (ho : FsOk F k) :
    Calls Try.prog 72 #[.pointer (some ⟨rb, 0, none⟩)] w fun e w' => e = .returned (.int .i64 F.used) ∧ w = w' := by
  have c1 : w.cell? ⟨rb, 1, none⟩ = some lv := blk_cell h.blk 1
  have hl' : (F.files.length : Int) ≤ 400 := by have := ho.few; omega
  have HU : Hid (F.used = sumLen F.files ∧ F.used ≤ 67108864) := Lib.hid ⟨ho.used, by have := ho.fits; have := ho.room1; omega⟩
  have H := Lib.hid h
  obtain ⟨a, cap, rfl⟩ := h.shape
  clear h ho
  go_enter Try.func72, Try.ntmps72
  go_wp2_with (fail)
  go_loop [3, 4] (fun t i => ∃ (q : Nat) (s : Int), q ≤ F.files.length ∧ i = .int .i64 q ∧ t = .int .i64 s ∧ Hid (s = sumLen (F.files.take q))) (fun _ i => F.files.length - (intOf i).toNat)
  case atStart => exact ⟨0, 0, Nat.zero_le _, rfl, rfl, Lib.hid rfl⟩
  case round =>
    obtain ⟨q, s, hq, rfl, rfl, HQ⟩ := hrel
    by_cases hql : q < F.files.length
    · obtain ⟨⟨n2, y⟩, hy⟩ : ∃ y, F.files[q]? = some y := ⟨_, List.getElem?_eq_getElem hql⟩
      obtain ⟨r, g, off, cap2, _, _, e, _, d1, _⟩ := H.out.at_file hy
      simp only [Value.slice.injEq, true_and] at e
      obtain ⟨rfl, rfl⟩ := e
      have k1 : (0 : Int) ≤ (q : Int) := by omega
      have k2 : (q : Int) < (F.files.length : Int) := by omega
      have hy2 := sumLen_snoc2 hy
      have s0 : 0 ≤ s := by rw [HQ.out]; exact sumLen_nonneg _
      have s1 : s + y.data.length ≤ 67108864 := by
        have h2 := sumLen_take_le2 F.files (q + 1)
        have h3 := HQ.out; have h4 := HU.out
        simp only at hy2
        omega
      have HQ2 : Hid (s + y.data.length = sumLen (F.files.take (q + 1))) := Lib.hid (by rw [hy2, HQ.out])
      simp only at d1
      clear hy hy2
      go_wp2_with (fail)
      go_round
      case rel => exact ⟨q + 1, _, by omega, by go_num, rfl, HQ2⟩
      case measure => simp [intOf]; omega
    · have k2 : ¬ (q : Int) < (F.files.length : Int) := by omega
      have hq2 : q = F.files.length := by omega
      subst hq2
      obtain rfl : s = F.used := by
        have h1 := HQ.out
        rw [List.take_length] at h1
        rw [h1, ← HU.out.1]
      go_wp2_with (fail)
      go_ret
      exact ⟨rfl, rfl⟩
/-- How many bytes of a file a crash keeps, by a number. -/
def keepN (n : ByteArray) (k : Int) : Int := if k < 0 ∨ 1000000 < k then k else k % ((n.size : Int) + 7)
theorem g_keep (n : ByteArray) (k : Int) (hn : n.size ≤ 1000000000) : Calls Try.prog 82 #[.string n, .int .i64 k] w fun e w' => e = .returned (.int .i64 (keepN n k)) ∧ w = w' := by
  have hn' : (n.size : Int) ≤ 1000000000 := by omega
  have hn0 : (0 : Int) ≤ (n.size : Int) := by omega
  by_cases h0 : k < 0
  · have hk : Hid (keepN n k = k) := Lib.hid (by unfold keepN; rw [if_pos (.inl h0)])
    go_enter Try.func82, Try.ntmps82
    go_wp2
    go_ret
    rw [hk.out]
    exact ⟨rfl, rfl⟩
  by_cases h1 : 1000000 < k
  · have hk : Hid (keepN n k = k) := Lib.hid (by unfold keepN; rw [if_pos (.inr h1)])
    go_enter Try.func82, Try.ntmps82
    go_wp2
    go_ret
    rw [hk.out]
    exact ⟨rfl, rfl⟩
  have hk : Hid (keepN n k = k % ((n.size : Int) + 7)) := Lib.hid (by unfold keepN; rw [if_neg (by omega)])
  have k0 : 0 ≤ k := by omega
  have k1 : k ≤ 1000000 := by omega
  clear h0 h1
  go_enter Try.func82, Try.ntmps82
  go_wp2
  go_ret
  rw [hk.out]
  exact ⟨rfl, rfl⟩
set_option maxRecDepth 100000 in
set_option maxHeartbeats 1000000 in
theorem g_bytes {a : Option Addr} {cap : Nat} {ys : List UInt8} (hu : RdAt byteKind w (.slice a ys.length cap) ys) (hn : ys.length ≤ 1000000000) :
    Calls Try.prog 79 #[.slice a ys.length cap] w fun e w' => ∃ va vc, e = .returned (.slice va ys.length vc) ∧ FreshAt w w' (.slice va ys.length vc) ys := by
  have hk1 : Below w.heap.size w (w.alloc (.cells #[] 5)) := (Below.refl _ _).alloc (Nat.le_refl _) _
  have hs1 : SlAt byteKind 5 (w.alloc (.cells #[] 5)) (.slice (some ⟨w.heap.size, 0, none⟩) 0 0) ([] : List UInt8) := .inr ⟨w.heap.size, 0, 0, #[], rfl, heap_alloc_new w _, Nat.le_refl _, Nat.zero_le _, by simp, fun j hj => by simp at hj⟩
  obtain ⟨v', w2, hrun, hs2, hk2, ho2, _⟩ := append_bytes hs1 (hu.below hk1) (by simp; omega) 28
  have HF : Hid (FreshAt w w2 v' ys) := Lib.hid ⟨hs2, fun k hk => by
    rcases ho2 k hk with e | e
    · simp [Value.ownBlock] at e; omega
    · exact Nat.le_trans hk1.size e, below_keeps hk1 hk2 (fun i e => by simp [Value.ownBlock] at e; omega) hk1.size⟩
  clear hs1 hk1 hs2 hk2 ho2 hu
  have hn' : (ys.length : Int) ≤ 1000000000 := by omega
  go_enter Try.func79, Try.ntmps79
  go_wp2_with (at_builtin; refine wpList_append_run rfl (.tmp 3) (.tmp 4) 28 rfl _ _ rfl rfl _ _ hrun ?_)
  go_ret
  obtain ⟨va, vc, hv⟩ := HF.out.sl.shape
  subst hv
  exact ⟨va, vc, rfl, HF.out⟩
end
end Go.Proofs.Ytmfiibehclbnjaa
/- The walks of the reference's put and drop. -/
namespace Go.Proofs.Ytmfiibehclbnjaa
open Go.RowKit Go.Shelf

theorem infoRF : (Try.prog.info? 69).map (fun i => (i.zero, i.size, i.bytes)) = some (some (.agg #[.string ⟨#[]⟩, .slice none 0 0, .int .i64 0]), 3, 48) := by kernel_rfl
theorem append_rf {w : World} {v u : Value} {xs ys : List RF} (hv : SlAt rfKind 69 w v xs) (hu : RdAt rfKind w u ys) (hn : xs.length + ys.length ≤ 1000000) (ty : TypeId) :
    ∃ v' w', (Builtin.append_ #[65, 65] ty #[v, u]).run Try.prog w = .ok v' w' ∧ SlAt rfKind 69 w' v' (xs ++ ys) ∧ Keeps (fun k => v.ownBlock = some k) w w' ∧
      (∀ k, v'.ownBlock = some k → v.ownBlock = some k ∨ w.heap.size ≤ k) ∧ (v' = .slice none 0 0 ↔ v = .slice none 0 0 ∧ ys = []) := by
  obtain ⟨i0, hi, hz0, hz1, hz2⟩ := info_parts infoRF
  exact run_append_sl (ek := rfKind) 65 ty i0 _ 48 Try.underlying65 hi hz0 hz1 hz2 rfl hv hu (by unfold maxLen; omega) (by omega)
abbrev rfCells (r : RF) : Array Value := #[.string r.name, .slice r.a r.len r.cap, .int .i64 (r.synced : Int)]
abbrev rfAgg (r : RF) : Value := .agg (rfCells r)
/-- A list of files that grows, in blocks of its own. -/
structure RowI (w wr : World) (v : Value) (xs : List RF) : Prop where
  sl : SlAt rfKind 69 wr v xs
  new : ∀ g, v.ownBlock = some g → w.heap.size ≤ g
  below : Below w.heap.size w wr
theorem RowI.push {w wr : World} {v : Value} {xs : List RF} (h : RowI w wr v xs) (r : RF) (hl : xs.length ≤ 1000) :
    ∃ v' w', (Builtin.append_ #[65, 65] 65 #[v, .slice (some ⟨wr.heap.size, 0, none⟩) 1 1]).run Try.prog (wr.alloc (.cells (rfCells r) 69)) = .ok v' w' ∧ RowI w w' v' (xs ++ [r]) := by
  have hu : RdAt rfKind (wr.alloc (.cells (rfCells r) 69)) (.slice (some ⟨wr.heap.size, 0, none⟩) 1 1) [r] := by
    refine ⟨_, 1, rfl, fun j y hy => ⟨wr.heap.size, 0, rfl, fun i hi => ?_⟩⟩
    match j, hy with
    | 0, hy =>
      simp only [List.getElem?_cons_zero, Option.some.injEq] at hy
      subst hy
      have := blk_cell (w := wr.alloc (.cells (rfCells r) 69)) (cs := rfCells r) (heap_alloc_new wr _) i
      rw [show 0 + 0 * rfKind.size + i = i by omega]
      rw [this]
      simp [rfKind]
  have hal : Below wr.heap.size wr (wr.alloc (.cells (rfCells r) 69)) := (Below.refl _ _).alloc (Nat.le_refl _) _
  obtain ⟨v', w', hrun, hs, hk, ho, _⟩ := append_rf (h.sl.below hal) hu (by simp only [List.length_cons, List.length_nil]; omega) 65
  refine ⟨v', w', hrun, hs, fun g hg => ?_, below_keeps (h.below.trans (hal.mono h.below.size)) hk (fun i e => h.new i e) (Nat.le_trans h.below.size hal.size)⟩
  rcases ho g hg with e | e
  · exact h.new g e
  · have := hal.size; have := h.below.size; omega
theorem RowI.read {w wr w' : World} {v : Value} {xs : List RF} (h : RowI w wr v xs) (hb : Below wr.heap.size wr w') : RowI w w' v xs := ⟨h.sl.below hb, h.new, h.below.trans (hb.mono h.below.size)⟩
/-- Its array is another. -/
theorem RefAt.setArr {w wr : World} {rb : Nat} {F : FsS} {S : Nat → Prop} {lv : Value} {rs : List RF} (h : RefAt w rb F S lv rs) {v : Value} {l : List (ByteArray × FileS)} {xs : List RF} (hi : RowI w wr v xs) (ha : All2 (RFor wr) l xs) (hd : ∀ r ∈ xs, ∀ g, r.val.ownBlock = some g → S g) :
    RefAt (wr.setCell ⟨rb, 1, none⟩ v) rb { F with files := l } (New w (wr.setCell ⟨rb, 1, none⟩ v) S) v xs ∧ Keeps (Only rb) w (wr.setCell ⟨rb, 1, none⟩ v) := by
  have hw := h.below hi.below
  have k1 : Keeps (Only rb) wr (wr.setCell ⟨rb, 1, none⟩ v) := keeps_set _ _ _ _
  have hne : ∀ g cur (T : TypeId), wr.heap[g]? = some (.cells cur T (0, 0)) → T ≠ 67 → g ≠ rb := fun g cur T hg hT e => blk_ne_type (b := g) (c := rb) hg hw.blk hT e
  refine ⟨⟨blk_set hw.blk 1 v, hi.sl.keeps k1 (fun g hg e => ?_), ha.imp fun x r _ hr hf => hf.keeps k1 (fun g hg e => ?_), .inl h.sb, fun g hg => ?_, fun r hr g hg => .inl (hd r hr g hg), new_lt h.lt (Nat.le_trans hi.below.size k1.size)⟩, ((Keeps.of_below hi.below).mono fun _ _ e => e.elim).trans' k1⟩
  · obtain ⟨cur, hb⟩ := hi.sl.own g hg
    exact hne g cur _ hb (by decide) e
  · obtain ⟨cur, hb⟩ := hf.sl.own g hg
    exact hne g cur _ hb (by decide) e
  · obtain ⟨cur, hb⟩ := hi.sl.own g hg
    exact .inr ⟨hi.new g hg, by have := lt_of_block hb; simpa using this⟩
/-- The same as putL and dropL, at files as they are laid. -/
def putR (l : List RF) (n : ByteArray) (x : RF) : List RF := l.filter (fun r => slt r.name n) ++ x :: l.filter (fun r => slt n r.name)
def putTo (l : List RF) (n : ByteArray) (x : RF) (q : Nat) : List RF := (l.take q).filter (fun r => slt r.name n) ++ ((if (l.take q).any (fun r => slt n r.name) then [x] else []) ++ (l.take q).filter (fun r => slt n r.name))
def dropTo (l : List RF) (n : ByteArray) (q : Nat) : List RF := (l.take q).filter (fun r => slt r.name n || slt n r.name)
section
variable {l : List RF} {n : ByteArray} {x r : RF} {q : Nat}
theorem take_snoc (h : l[q]? = some r) : l.take (q + 1) = l.take q ++ [r] := by
  obtain ⟨hj, he⟩ := List.getElem?_eq_some_iff.1 h
  rw [List.take_succ_eq_append_getElem hj, he]
theorem dropTo_skip (h : l[q]? = some r) (hn : r.name = n) : dropTo l n (q + 1) = dropTo l n q := by
  unfold dropTo
  rw [take_snoc h, List.filter_append, List.filter_cons, if_neg (by rw [hn, slt_ord.irr]; simp)]
  simp
theorem slt_ne {a b : ByteArray} (h : a ≠ b) : (slt a b || slt b a) = true := by
  cases h1 : slt a b with
  | true => rfl
  | false =>
    cases h2 : slt b a with
    | true => rfl
    | false => exact absurd (slt_ord.eq _ _ h1 h2) h
theorem dropTo_push (h : l[q]? = some r) (hn : r.name ≠ n) : dropTo l n (q + 1) = dropTo l n q ++ [r] := by
  unfold dropTo
  rw [take_snoc h, List.filter_append, List.filter_cons, if_pos (slt_ne hn)]
  simp
theorem dropTo_len : (dropTo l n q).length ≤ l.length := by
  unfold dropTo
  refine Nat.le_trans (List.length_filter_le _ _) ?_
  rw [List.length_take]; omega
theorem putTo_len : (putTo l n x q).length ≤ l.length + l.length + 1 := by
  unfold putTo
  rw [List.length_append, List.length_append]
  have h1 := List.length_filter_le (fun r => slt r.name n) (l.take q)
  have h2 := List.length_filter_le (fun r => slt n r.name) (l.take q)
  have h3 : (l.take q).length ≤ l.length := by rw [List.length_take]; omega
  split <;> simp <;> omega
/-- Laid by rising names. -/
abbrev RiseR (l : List RF) : Prop := l.Pairwise fun a b => slt a.name b.name = true
theorem putTo_skip (h : l[q]? = some r) (hn : r.name = n) : putTo l n x (q + 1) = putTo l n x q := by
  unfold putTo
  have h1 : slt r.name n = false := by rw [hn, slt_ord.irr]
  have h2 : slt n r.name = false := by rw [hn, slt_ord.irr]
  have f1 : (l.take q ++ [r]).filter (fun r => slt r.name n) = (l.take q).filter (fun r => slt r.name n) := by rw [List.filter_append]; simp [h1]
  have f2 : (l.take q ++ [r]).filter (fun r => slt n r.name) = (l.take q).filter (fun r => slt n r.name) := by rw [List.filter_append]; simp [h2]
  have f3 : (l.take q ++ [r]).any (fun r => slt n r.name) = (l.take q).any (fun r => slt n r.name) := by rw [List.any_append]; simp [h2]
  rw [take_snoc h, f1, f2, f3]
theorem any_none (h : (l.take q).any (fun r => slt n r.name) = false) : (l.take q).filter (fun r => slt n r.name) = [] := by
  rw [List.filter_eq_nil_iff]
  intro a ha hb
  rw [List.any_eq_false] at h
  exact h a ha hb
theorem putTo_first (h : l[q]? = some r) (hd : (l.take q).any (fun r => slt n r.name) = false) (hg : slt n r.name = true) : putTo l n x (q + 1) = putTo l n x q ++ [x] ++ [r] ∧ (l.take (q + 1)).any (fun r => slt n r.name) = true := by
  have h1 : slt r.name n = false := slt_ord.asymm hg
  have h0 := any_none hd
  constructor
  · unfold putTo
    rw [take_snoc h, List.filter_append, List.filter_append, List.any_append, hd, h0, List.filter_cons, if_neg (by simp [h1]), List.filter_cons, if_pos hg]
    simp [hg]
  · rw [take_snoc h, List.any_append]; simp [hg]
theorem putTo_less (h : l[q]? = some r) (hd : (l.take q).any (fun r => slt n r.name) = false) (hg : slt n r.name = false) (hn : r.name ≠ n) : putTo l n x (q + 1) = putTo l n x q ++ [r] ∧ (l.take (q + 1)).any (fun r => slt n r.name) = false := by
  have h1 : slt r.name n = true := by
    have := slt_ne hn
    rw [hg, Bool.or_false] at this
    exact this
  have h0 := any_none hd
  constructor
  · unfold putTo
    rw [take_snoc h, List.filter_append, List.filter_append, List.any_append, hd, h0, List.filter_cons, if_pos h1, List.filter_cons, if_neg (by simp [hg])]
    simp [hg]
  · rw [take_snoc h, List.any_append, hd]; simp [hg]
theorem putTo_more (hr : RiseR l) (h : l[q]? = some r) (hd : (l.take q).any (fun r => slt n r.name) = true) : putTo l n x (q + 1) = putTo l n x q ++ [r] ∧ (l.take (q + 1)).any (fun r => slt n r.name) = true ∧ r.name ≠ n := by
  obtain ⟨y, hy, hyn⟩ := List.any_eq_true.1 hd
  obtain ⟨j, hj⟩ := List.getElem?_of_mem hy
  rw [List.getElem?_take] at hj
  split at hj
  · rename_i hjq
    obtain ⟨a1, a2⟩ := List.getElem?_eq_some_iff.1 hj
    obtain ⟨b1, b2⟩ := List.getElem?_eq_some_iff.1 h
    have := (List.pairwise_iff_getElem.1 hr) j q a1 b1 hjq
    rw [a2, b2] at this
    have hg : slt n r.name = true := slt_ord.tr _ _ _ hyn this
    have h1 : slt r.name n = false := slt_ord.asymm hg
    refine ⟨?_, ?_, ?_⟩
    · unfold putTo
      rw [take_snoc h, List.filter_append, List.filter_append, List.any_append, hd, List.filter_cons, if_neg (by simp [h1]), List.filter_cons, if_pos hg]
      simp
    · rw [take_snoc h, List.any_append, hd]; simp
    · rintro rfl
      rw [slt_ord.irr] at hg
      cases hg
  · cases hj
theorem putTo_end (hd : l.any (fun r => slt n r.name) = true) : putTo l n x l.length = putR l n x := by
  unfold putTo putR
  rw [List.take_length, hd]; simp
theorem putTo_end' (hd : l.any (fun r => slt n r.name) = false) : putTo l n x l.length ++ [x] = putR l n x := by
  unfold putTo putR
  have h0 := any_none (q := l.length) (l := l) (n := n) (by rw [List.take_length]; exact hd)
  rw [List.take_length] at h0
  rw [List.take_length, hd, h0]; simp
end
section
variable {w w' : World} {rb : Nat} {F : FsS} {S T : Nat → Prop} {lv : Value} {rs : List RF}
theorem All2.putR {y : FileS} {n : ByteArray} {r : RF} (h : All2 (RFor w) F.files rs) (hr : RFor w (n, y) r) : All2 (RFor w) (putL slt F.files n y) (putR rs n r) := by
  unfold putL Go.Proofs.Ytmfiibehclbnjaa.putR
  exact (h.filter fun a b hab => by rw [hab.name]).append (.cons hr (h.filter fun a b hab => by rw [hab.name]))
theorem All2.dropR {n : ByteArray} (h : All2 (RFor w) F.files rs) : All2 (RFor w) (dropL slt F.files n) (dropTo rs n rs.length) := by
  unfold dropL dropTo
  rw [List.take_length]
  exact h.filter fun a b hab => by rw [hab.name]
theorem riseR (h : All2 (RFor w) F.files rs) (hr : Rise slt F.files) : RiseR rs := by
  have e : rs.map (·.name) = F.files.map (·.1) := by
    clear hr
    generalize F.files = l at h
    induction h with
    | nil => rfl
    | cons h _ ih => rw [List.map_cons, List.map_cons, ih, h.name]
  have h1 : (F.files.map (·.1)).Pairwise (fun a b => slt a b = true) := by rw [List.pairwise_map]; exact hr
  rw [← e, List.pairwise_map] at h1
  exact h1
/-- What a change of the reference owes. -/
def RefPost (w : World) (rb : Nat) (F : FsS) (S : Nat → Prop) (w' : World) : Prop := ∃ lv rs, RefAt w' rb F (New w w' S) lv rs ∧ Keeps S w w'
theorem RefPost.from {a b c : World} {G : FsS} (k : RefPost b rb G S c) (h : Below a.heap.size a b) (hS : ∀ k, S k → k < a.heap.size) : RefPost a rb G S c := by
  obtain ⟨lv, rs, h1, h2⟩ := k
  refine ⟨lv, rs, h1.mono (fun i e => ?_) (fun i e => ?_), ((Keeps.of_below h).mono (fun _ _ e => e.elim)).trans' h2⟩
  · rcases e with e | e
    · exact .inl e
    · exact .inr ⟨by have := h.size; omega, e.2⟩
  · rcases e with e | e
    · have := hS i e; have := h.size; have := h2.size; omega
    · exact e.2
theorem RefAt.post (h : RefAt w rb F S lv rs) {G : FsS} {lv' : Value} {rs' : List RF} (h2 : RefAt w' rb G (New w w' S) lv' rs' ∧ Keeps (Only rb) w w') : RefPost w rb G S w' := ⟨lv', rs', h2.1, h2.2.mono fun k _ e => by have : k = rb := e; rw [this]; exact h.sb⟩
set_option maxRecDepth 100000 in
set_option maxHeartbeats 1000000 in
theorem g_drop (h : RefAt w rb F S lv rs) (hl : F.files.length ≤ 400) (n : ByteArray) :
    Calls Try.prog 80 #[.pointer (some ⟨rb, 0, none⟩), .string n] w fun e w' => e = .returned (.tuple #[]) ∧ RefPost w rb { F with files := dropL slt F.files n } S w' ∧ Keeps (Only rb) w w' := by
  have c1 : w.cell? ⟨rb, 1, none⟩ = some lv := blk_cell h.blk 1
  have hl' : (F.files.length : Int) ≤ 400 := by omega
  have H := Lib.hid h
  obtain ⟨a, cap, rfl⟩ := h.shape
  have HI : Hid (RowI w w (.slice none 0 0) (dropTo rs n 0)) := Lib.hid ⟨SlAt.nil, fun g hg => by simp [Value.ownBlock] at hg, Below.refl _ _⟩
  have HL : Hid (rs.length = F.files.length ∧ F.files.length ≤ 400) := Lib.hid ⟨h.len, hl⟩
  have hrb := lt_of_block h.blk
  have C1 := Lib.hid c1
  clear h hl
  go_enter Try.func80, Try.ntmps80
  go_wp2_with (fail)
  clear c1
  go_loopw [4, 5] (fun v i wr => ∃ q : Nat, q ≤ F.files.length ∧ i = .int .i64 q ∧ Hid (RowI w wr v (dropTo rs n q))) (fun _ i _ => F.files.length - (intOf i).toNat)
  case atStart => exact ⟨0, Nat.zero_le _, rfl, HI⟩
  case round =>
    obtain ⟨q, hq, rfl, HJ⟩ := hrel
    have c1 : wr.cell? ⟨rb, 1, none⟩ = some (.slice a F.files.length cap) := (HJ.out.below.cell (p := ⟨rb, 1, none⟩) hrb).trans C1.out
    by_cases hql : q < F.files.length
    · obtain ⟨⟨n2, y⟩, hy⟩ : ∃ y, F.files[q]? = some y := ⟨_, List.getElem?_eq_getElem hql⟩
      obtain ⟨r, g, off, cap2, hr, hf, e, d0, d1, d2⟩ := (H.out.below HJ.out.below).at_file hy
      simp only [Value.slice.injEq, true_and] at e
      obtain ⟨rfl, rfl⟩ := e
      have k1 : (0 : Int) ≤ (q : Int) := by omega
      have k2 : (q : Int) < (F.files.length : Int) := by omega
      simp only at d0 d1 d2
      have hn2 : r.name = n2 := hf.name
      by_cases hne : n2 = n
      · have HN : Hid (RowI w wr u4 (dropTo rs n (q + 1))) := Lib.hid (by rw [dropTo_skip hr (hn2.trans hne)]; exact HJ.out)
        subst hne
        have q1 := neb_self n2
        clear hr hf hn2 hy
        go_wp2_with (fail)
        go_roundw
        case rel => exact ⟨q + 1, by omega, by go_num, HN⟩
        case measure => simp [intOf]; omega
      · obtain ⟨v', w2, hrun, hi⟩ := HJ.out.push r (by have := dropTo_len (l := rs) (n := n) (q := q); have := HL.out; omega)
        rw [← dropTo_push hr (by rw [hn2]; exact hne)] at hi
        have HN := Lib.hid hi
        unfold rfCells at hrun
        rw [hn2, hf.len, hf.synced] at hrun
        have q1 : ¬ n2.toList = n.toList := fun e => hne (str_inj e)
        have q2 := eqb_ne hne
        have q3 := neb_ne hne
        simp only at hrun
        clear hr hf hn2 hy hi hne
        go_wp2_with (at_builtin; refine wpList_append_run rfl (.tmp 25) (.tmp 33) 65 rfl _ _ rfl rfl _ _ hrun ?_)
        go_roundw
        case rel => exact ⟨q + 1, by omega, by go_num, HN⟩
        case measure => simp [intOf]; omega
    · have k2 : ¬ (q : Int) < (F.files.length : Int) := by omega
      have hq2 : q = rs.length := by have := HL.out; omega
      subst hq2
      have z1 : wr.frozen? ⟨rb, 1, none⟩ = false := blk_free (H.out.below HJ.out.below).blk 1
      have HFIN := Lib.hid (H.out.setArr HJ.out (H.out.below HJ.out.below).all.dropR (fun r hr => H.out.sd r (List.mem_of_mem_take (List.mem_filter.1 hr).1)))
      obtain ⟨a', c', hv⟩ := HJ.out.sl.shape
      subst hv
      go_wp2_with (fail)
      go_end0
      exact ⟨rfl, H.out.post HFIN.out, HFIN.out.2⟩
/-- What is held by name, of a slot that is a bool of a list. -/
def doneB (l : List RF) (n : ByteArray) (q : Nat) : Bool := (l.take q).any (fun r => slt n r.name)
structure PutI (w wr : World) (v : Value) (rs : List RF) (n : ByteArray) (x : RF) (q : Nat) (d : Bool) : Prop where
  row : RowI w wr v (putTo rs n x q)
  done : doneB rs n q = d
theorem PutI.read {wr : World} {v : Value} {n : ByteArray} {x : RF} {q : Nat} {d : Bool} (h : PutI w wr v rs n x q d) (hb : Below wr.heap.size wr w') : PutI w w' v rs n x q d := ⟨h.row.read hb, h.done⟩
theorem PutI.push {wr : World} {v : Value} {n : ByteArray} {x : RF} {q : Nat} {d : Bool} (h : PutI w wr v rs n x q d) (r : RF) (hl : rs.length ≤ 400) :
    ∃ v' w', (Builtin.append_ #[65, 65] 65 #[v, .slice (some ⟨wr.heap.size, 0, none⟩) 1 1]).run Try.prog (wr.alloc (.cells (rfCells r) 69)) = .ok v' w' ∧ RowI w w' v' (putTo rs n x q ++ [r]) :=
  h.row.push r (by have := putTo_len (l := rs) (n := n) (x := x) (q := q); omega)
set_option maxRecDepth 100000 in
set_option maxHeartbeats 4000000 in
theorem g_put (h : RefAt w rb F S lv rs) (hl : F.files.length ≤ 400) (hr : Rise slt F.files) {n : ByteArray} {y : FileS} (x : RF) (hx : RFor w (n, y) x) (hxd : ∀ g, x.val.ownBlock = some g → S g) :
    Calls Try.prog 78 #[.pointer (some ⟨rb, 0, none⟩), .agg #[.string n, .slice x.a y.data.length x.cap, .int .i64 (y.synced : Int)]] w fun e w' => e = .returned (.tuple #[]) ∧ RefPost w rb { F with files := putL slt F.files n y } S w' := by
  have hbx := blk_new w (.cells #[.string n, .slice x.a y.data.length x.cap, .int .i64 (y.synced : Int)] 69)
  have hal : Below w.heap.size w (w.alloc (.cells #[.string n, .slice x.a y.data.length x.cap, .int .i64 (y.synced : Int)] 69)) := (Below.refl _ _).alloc (Nat.le_refl _) _
  have HBX : Hid (∀ wr, Below (w.alloc (.cells #[.string n, .slice x.a y.data.length x.cap, .int .i64 (y.synced : Int)] 69)).heap.size (w.alloc (.cells #[.string n, .slice x.a y.data.length x.cap, .int .i64 (y.synced : Int)] 69)) wr → wr.cell? ⟨w.heap.size, 0, none⟩ = some (.string n) ∧ wr.cell? ⟨w.heap.size, 1, none⟩ = some (.slice x.a y.data.length x.cap) ∧ wr.cell? ⟨w.heap.size, 2, none⟩ = some (.int .i64 (y.synced : Int))) := Lib.hid fun wr hb => by
    have hbk : IsBlk wr w.heap.size #[.string n, .slice x.a y.data.length x.cap, .int .i64 (y.synced : Int)] 69 := (hb.block _ (by simp)).trans hbx
    exact ⟨blk_cell hbk 0, blk_cell hbk 1, blk_cell hbk 2⟩
  generalize hW0 : w.alloc (.cells #[.string n, .slice x.a y.data.length x.cap, .int .i64 (y.synced : Int)] 69) = W0 at hal HBX
  have h0 := h.below hal
  have c1 : W0.cell? ⟨rb, 1, none⟩ = some lv := blk_cell h0.blk 1
  have hl' : (F.files.length : Int) ≤ 400 := by omega
  have H := Lib.hid h0
  have HX := Lib.hid (hx.keeps (Keeps.of_below hal) (fun _ _ e => e.elim))
  have HR := Lib.hid (riseR h0.all hr)
  obtain ⟨a, cap, rfl⟩ := h.shape
  have HI : Hid (PutI W0 W0 (.slice none 0 0) rs n x 0 false) := Lib.hid ⟨⟨SlAt.nil, fun g hg => by simp [Value.ownBlock] at hg, Below.refl _ _⟩, rfl⟩
  have HL : Hid (rs.length = F.files.length ∧ F.files.length ≤ 400) := Lib.hid ⟨h.len, hl⟩
  have hrb := lt_of_block h0.blk
  have C1 := Lib.hid c1
  have HAL := Lib.hid hal
  have H0LT := Lib.hid h.lt
  have HXN : Hid (x.name = n ∧ x.len = y.data.length ∧ x.synced = y.synced) := Lib.hid ⟨hx.name, hx.len, hx.synced⟩
  have HW := Lib.hid hW0
  clear h hl h0 hx hal hbx hr hW0
  go_enter Try.func78, Try.ntmps78
  go_wp2_with (fail)
  rw [HW.out]
  clear c1
  go_loopw [4, 5, 6] (fun v d i wr => ∃ (q : Nat) (b : Bool), q ≤ F.files.length ∧ i = .int .i64 q ∧ d = .bool b ∧ Hid (PutI W0 wr v rs n x q b)) (fun _ _ i _ => F.files.length - (intOf i).toNat)
  case atStart => exact ⟨0, false, Nat.zero_le _, rfl, rfl, HI⟩
  case round =>
    obtain ⟨q, b, hq, rfl, rfl, HJ⟩ := hrel
    have c1 : wr.cell? ⟨rb, 1, none⟩ = some (.slice a F.files.length cap) := (HJ.out.row.below.cell (p := ⟨rb, 1, none⟩) hrb).trans C1.out
    obtain ⟨b0, b1, b2⟩ := HBX.out wr HJ.out.row.below
    by_cases hql : q < F.files.length
    · obtain ⟨⟨n2, y2⟩, hy⟩ : ∃ y, F.files[q]? = some y := ⟨_, List.getElem?_eq_getElem hql⟩
      obtain ⟨r, g, off, cap2, hr, hf, e, d0, d1, d2⟩ := H.out.at_file hy
      simp only [Value.slice.injEq, true_and] at e
      obtain ⟨rfl, rfl⟩ := e
      have k1 : (0 : Int) ≤ (q : Int) := by omega
      have k2 : (q : Int) < (F.files.length : Int) := by omega
      simp only at d0 d1 d2
      have hn2 : r.name = n2 := hf.name
      have HFACT : Hid (∀ W, Below W0.heap.size W0 W → W.cell? ⟨rb, 1, none⟩ = some (.slice (some ⟨g, off, none⟩) F.files.length cap) ∧ (W.cell? ⟨w.heap.size, 0, none⟩ = some (.string n) ∧ W.cell? ⟨w.heap.size, 1, none⟩ = some (.slice x.a y.data.length x.cap) ∧ W.cell? ⟨w.heap.size, 2, none⟩ = some (.int .i64 (y.synced : Int))) ∧
          W.cell? ⟨g, off + q * 3, none⟩ = some (.string n2) ∧ W.cell? ⟨g, off + q * 3 + 1, none⟩ = some (.slice r.a y2.data.length r.cap) ∧ W.cell? ⟨g, off + q * 3 + 2, none⟩ = some (.int .i64 (y2.synced : Int))) := Lib.hid fun W hW => by
        have hc : ∀ a u, W0.cell? a = some u → W.cell? a = some u := fun a u hc => (hW.cell (p := a) (World.block_lt_of_cell? W0 _ hc)).trans hc
        exact ⟨hc _ _ C1.out, HBX.out W hW, hc _ _ d0, hc _ _ d1, hc _ _ d2⟩
      clear d0 d1 d2
      obtain ⟨_, _, d0, d1, d2⟩ := HFACT.out wr HJ.out.row.below
      by_cases hne : n2 = n
      · have HN : Hid (PutI W0 wr u4 rs n x (q + 1) b) := Lib.hid (by
          refine ⟨by rw [putTo_skip hr (hn2.trans hne)]; exact HJ.out.row, ?_⟩
          unfold doneB
          rw [take_snoc hr, List.any_append]
          have := HJ.out.done
          unfold doneB at this
          rw [this]; simp [hn2.trans hne, slt_ord.irr])
        subst hne
        have q1 := eqb_self n2
        clear hr hf hn2 hy
        go_wp2_with (fail)
        go_quiet (fail)
        go_wp2_with (fail)
        go_roundw
        case rel => exact ⟨q + 1, b, by omega, by go_num, rfl, Lib.hid (HN.out.read (below_drewN _ _ _))⟩
        case measure => simp [intOf]; omega
      · have q2 := eqb_ne hne
        have hne' : r.name ≠ n := by rw [hn2]; exact hne
        have hne9 := Lib.hid hne
        have HRF : Hid (rs[q]? = some r ∧ r.name = n2 ∧ r.len = y2.data.length ∧ r.synced = y2.synced ∧ r.name ≠ n) := Lib.hid ⟨hr, hn2, hf.len, hf.synced, hne'⟩
        clear hr hf hn2 hy hne hne'
        go_wp2_with (fail)
        go_quiet (fail)
        have hbd : Below wr.heap.size wr (wr.drewN nq) := below_drewN _ _ _
        generalize wr.drewN nq = W2 at hbd ⊢
        have HJ2 := Lib.hid (HJ.out.read hbd)
        obtain ⟨c1, ⟨b0, b1, b2⟩, d0, d1, d2⟩ := HFACT.out W2 HJ2.out.row.below
        clear hbd
        have HLR : Hid (rs.length ≤ 400) := Lib.hid (by have := HL.out; omega)
        cases b with
        | true =>
          go_wp2_with (fail)
          go_quiet (fail)
          have hbd : Below W2.heap.size W2 (W2.drewN nq) := below_drewN _ _ _
          generalize W2.drewN nq = W3 at hbd ⊢
          have HJ3 := Lib.hid (HJ2.out.read hbd)
          obtain ⟨c1, ⟨b0, b1, b2⟩, d0, d1, d2⟩ := HFACT.out W3 HJ3.out.row.below
          clear hbd
          have hp := putTo_more (x := x) HR.out HRF.out.1 HJ3.out.done
          obtain ⟨v', w2, hrun, hi⟩ := HJ3.out.push r HLR.out
          rw [← hp.1] at hi
          have HN : Hid (PutI W0 w2 v' rs n x (q + 1) true) := Lib.hid ⟨hi, hp.2.1⟩
          unfold rfCells at hrun
          rw [HRF.out.2.1, HRF.out.2.2.1, HRF.out.2.2.2.1] at hrun
          clear hp hi
          go_wp2_with (first | (at_builtin; refine wpList_append_run rfl (.tmp 46) (.tmp 54) 65 rfl _ _ rfl rfl _ _ hrun ?_))
          go_roundw
          case rel => exact ⟨q + 1, true, by omega, by go_num, rfl, HN⟩
          case measure => simp [intOf]; omega
        | false =>
          cases hg : slt n n2 with
          | true =>
            have hg' : Op.bytesLess n2.toList n.toList = false := slt_ord.asymm hg
            go_wp2_with (fail)
            go_quiet (fail)
            have hbd : Below W2.heap.size W2 (W2.drewN nq) := below_drewN _ _ _
            generalize W2.drewN nq = W3 at hbd ⊢
            have HJ3 := Lib.hid (HJ2.out.read hbd)
            obtain ⟨c1, ⟨b0, b1, b2⟩, d0, d1, d2⟩ := HFACT.out W3 HJ3.out.row.below
            clear hbd
            have hp := putTo_first (x := x) HRF.out.1 HJ3.out.done (by rw [HRF.out.2.1]; exact hg)
            obtain ⟨v1, w1, hrun0, hi1⟩ := HJ3.out.push x HLR.out
            obtain ⟨v', w2, hrun, hi⟩ := hi1.push r (by have := putTo_len (l := rs) (n := n) (x := x) (q := q); have := HLR.out; rw [List.length_append, List.length_singleton]; omega)
            rw [← hp.1] at hi
            have HF1 := Lib.hid (HFACT.out w1 hi1.below)
            have HN : Hid (PutI W0 w2 v' rs n x (q + 1) true) := Lib.hid ⟨hi, hp.2⟩
            unfold rfCells at hrun hrun0
            rw [HRF.out.2.1, HRF.out.2.2.1, HRF.out.2.2.2.1] at hrun
            rw [HXN.out.1, HXN.out.2.1, HXN.out.2.2] at hrun0
            clear hp hi hi1
            go_wp2_with (first | (at_builtin; refine wpList_append_run rfl (.tmp 42) (.tmp 44) 65 rfl _ _ rfl rfl _ _ hrun0 ?_; obtain ⟨c1, ⟨b0, b1, b2⟩, d0, d1, d2⟩ := HF1.out) | (at_builtin; refine wpList_append_run rfl (.tmp 46) (.tmp 54) 65 rfl _ _ rfl rfl _ _ hrun ?_))
            go_roundw
            case rel => exact ⟨q + 1, true, by omega, by go_num, rfl, HN⟩
            case measure => simp [intOf]; omega
          | false =>
            have hg' : Op.bytesLess n2.toList n.toList = true := by have := slt_ne hne9.out; rwa [hg, Bool.or_false] at this
            go_wp2_with (fail)
            go_quiet (fail)
            have hbd : Below W2.heap.size W2 (W2.drewN nq) := below_drewN _ _ _
            generalize W2.drewN nq = W3 at hbd ⊢
            have HJ3 := Lib.hid (HJ2.out.read hbd)
            obtain ⟨c1, ⟨b0, b1, b2⟩, d0, d1, d2⟩ := HFACT.out W3 HJ3.out.row.below
            clear hbd
            have hp := putTo_less (x := x) HRF.out.1 HJ3.out.done (by rw [HRF.out.2.1]; exact hg) HRF.out.2.2.2.2
            obtain ⟨v', w2, hrun, hi⟩ := HJ3.out.push r HLR.out
            rw [← hp.1] at hi
            have HN : Hid (PutI W0 w2 v' rs n x (q + 1) false) := Lib.hid ⟨hi, hp.2⟩
            unfold rfCells at hrun
            rw [HRF.out.2.1, HRF.out.2.2.1, HRF.out.2.2.2.1] at hrun
            clear hp hi
            go_wp2_with (first | (at_builtin; refine wpList_append_run rfl (.tmp 46) (.tmp 54) 65 rfl _ _ rfl rfl _ _ hrun ?_))
            go_roundw
            case rel => exact ⟨q + 1, false, by omega, by go_num, rfl, HN⟩
            case measure => simp [intOf]; omega
    · have k2 : ¬ (q : Int) < (F.files.length : Int) := by omega
      have hq2 : q = rs.length := by have := HL.out; omega
      subst hq2
      have hall := (H.out.all.putR HX.out)
      have hsd : ∀ r ∈ putR rs n x, ∀ g, r.val.ownBlock = some g → S g := by
        intro r hr g hg
        unfold putR at hr
        rcases List.mem_append.1 hr with hr | hr
        · exact H.out.sd r (List.mem_filter.1 hr).1 g hg
        rcases List.mem_cons.1 hr with rfl | hr
        · exact hxd g hg
        · exact H.out.sd r (List.mem_filter.1 hr).1 g hg
      have HSD := Lib.hid (And.intro hall hsd)
      clear hall hsd
      cases b with
      | true =>
        have hend : putTo rs n x rs.length = putR rs n x := putTo_end (by have := HJ.out.done; unfold doneB at this; rwa [List.take_length] at this)
        have HFIN : Hid (RowI W0 wr u4 (putR rs n x)) := Lib.hid (by rw [← hend]; exact HJ.out.row)
        obtain ⟨a', c', hv⟩ := HFIN.out.sl.shape
        subst hv
        have z1 : wr.frozen? ⟨rb, 1, none⟩ = false := blk_free (H.out.below HJ.out.row.below).blk 1
        have HE := Lib.hid (H.out.post (w := W0) (H.out.setArr HFIN.out (HSD.out.1.imp fun a b _ hb hf => hf.keeps (Keeps.of_below HFIN.out.below) (fun _ _ e => e.elim)) HSD.out.2))
        clear hend
        go_wp2_with (fail)
        go_end0
        exact ⟨rfl, HE.out.from HAL.out H0LT.out⟩
      | false =>
        have hend : putTo rs n x rs.length ++ [x] = putR rs n x := putTo_end' (by have := HJ.out.done; unfold doneB at this; rwa [List.take_length] at this)
        obtain ⟨v', w2, hrun, hi⟩ := HJ.out.push x (by have := HL.out; omega)
        rw [hend] at hi
        have HFIN : Hid (RowI W0 w2 v' (putR rs n x)) := Lib.hid hi
        obtain ⟨a', c', hv⟩ := hi.sl.shape
        subst hv
        have z1 : w2.frozen? ⟨rb, 1, none⟩ = false := blk_free (H.out.below hi.below).blk 1
        have c2 : w2.cell? ⟨rb, 1, none⟩ = some (.slice a F.files.length cap) := (hi.below.cell (p := ⟨rb, 1, none⟩) hrb).trans C1.out
        have HE := Lib.hid (H.out.post (w := W0) (H.out.setArr HFIN.out (HSD.out.1.imp fun a b _ hb hf => hf.keeps (Keeps.of_below HFIN.out.below) (fun _ _ e => e.elim)) HSD.out.2))
        unfold rfCells at hrun
        rw [HXN.out.1, HXN.out.2.1, HXN.out.2.2] at hrun
        clear hend hi
        go_wp2_with (first | (at_builtin; refine wpList_append_run rfl (.tmp 58) (.tmp 60) 65 rfl _ _ rfl rfl _ _ hrun ?_))
        go_end0
        exact ⟨rfl, HE.out.from HAL.out H0LT.out⟩
end
end Go.Proofs.Ytmfiibehclbnjaa
/- The walk of the reference's Valid: it is what the program's says. -/
namespace Go.Proofs.Ytmfiibehclbnjaa
open Go.RowKit Go.Shelf

theorem dec_ascii (s : ByteArray) (i : Nat) (h : (s.get! i).toNat < 128) : Utf8.decode s i = ((s.get! i).toNat, 1) := by
  unfold Utf8.decode
  simp only [Nat.add_zero]
  rw [if_pos h]
theorem dec_high (s : ByteArray) (i : Nat) (h : 128 ≤ (s.get! i).toNat) : 128 ≤ (Utf8.decode s i).1 := by
  unfold Utf8.decode
  simp only [Nat.add_zero]
  have hb : (s.get! i).toNat < 256 := UInt8.toNat_lt _
  rw [if_neg (by omega)]
  split
  · split
    · assumption
    · decide
  split
  · split
    · rename_i h2
      simp only [ge_iff_le, Bool.and_eq_true, decide_eq_true_eq] at h2
      simp only
      omega
    · decide
  split
  · split
    · rename_i h2
      simp only [ge_iff_le, Bool.and_eq_true, decide_eq_true_eq] at h2
      simp only
      omega
    · decide
  · decide
theorem odd_high {r : Nat} (h : 128 ≤ r) : oddR r = true := by
  unfold oddR
  have a1 : decide (r < 97) = false := decide_eq_false (by omega)
  have a2 : decide (122 < r) = true := decide_eq_true (by omega)
  have a3 : decide (57 < r) = true := decide_eq_true (by omega)
  have a4 : (r != 45) = true := bne_iff_ne.2 (by omega)
  have a5 : (r != 46) = true := bne_iff_ne.2 (by omega)
  have a6 : (r != 47) = true := bne_iff_ne.2 (by omega)
  rw [a1, a2, a3, a4, a5, a6]
  simp
theorem idx_none (s : ByteArray) : ∀ f pos, (∀ i, pos ≤ i → i < s.size → oddR (s.get! i).toNat = false) → Lib.idxFuncFrom oddR true s f pos = -1
  | 0, _, _ => rfl
  | f + 1, pos, h => by
    unfold Lib.idxFuncFrom
    by_cases hp : pos < s.size
    · rw [if_pos hp]
      have h1 := h pos (Nat.le_refl _) hp
      have h2 : (s.get! pos).toNat < 128 := by
        rcases Nat.lt_or_ge (s.get! pos).toNat 128 with h2 | h2
        · exact h2
        · rw [odd_high h2] at h1; cases h1
      rw [dec_ascii s pos h2, h1, if_neg (by simp)]
      exact idx_none s f (pos + 1) fun i hi hl => h i (by omega) hl
    · rw [if_neg hp]
theorem idx_some (s : ByteArray) : ∀ f pos i, s.size ≤ pos + f → pos ≤ i → i < s.size → oddR (s.get! i).toNat = true → 0 ≤ Lib.idxFuncFrom oddR true s f pos
  | 0, pos, i, h, h1, h2, _ => by omega
  | f + 1, pos, i, h, h1, h2, ho => by
    unfold Lib.idxFuncFrom
    rw [if_pos (by omega)]
    rcases Nat.lt_or_ge (s.get! pos).toNat 128 with h3 | h3
    · rw [dec_ascii s pos h3]
      by_cases hq : oddR (s.get! pos).toNat = true
      · rw [if_pos hq]; omega
      · rw [if_neg hq]
        have : pos ≠ i := by rintro rfl; exact hq ho
        exact idx_some s f (pos + 1) i (by omega) (by omega) h2 ho
    · rw [if_pos (odd_high (dec_high s pos h3))]; omega
/-- okName, byte for byte. -/
theorem okName_all (n : ByteArray) (h0 : n.size ≠ 0) (h1 : n.size ≤ 100) (h2 : n.get! 0 ≠ 47) (h3 : n.get! (n.size - 1) ≠ 47) (h : ∀ i, i < n.size → oddR (n.get! i).toNat = false) : okName n = true := by
  unfold okName Lib.idxFunc
  rw [idx_none n n.size 0 (fun i _ hi => h i hi)]
  simp [h0, h1, h2, h3]
theorem okName_odd (n : ByteArray) {i : Nat} (hi : i < n.size) (h : oddR (n.get! i).toNat = true) : okName n = false := by
  have := idx_some n n.size 0 i (by omega) (Nat.zero_le _) hi h
  unfold okName Lib.idxFunc
  rw [decide_eq_true this]; simp
theorem okName_first (n : ByteArray) (h : n.get! 0 = 47) : okName n = false := by unfold okName; simp [h]
theorem okName_last (n : ByteArray) (h : n.get! (n.size - 1) = 47) : okName n = false := by unfold okName; simp [h]
set_option maxRecDepth 100000 in
set_option maxHeartbeats 2000000 in
theorem g_valid (w : World) (n : ByteArray) (hn : n.size ≤ 9223372036854775807) : Calls Try.prog 71 #[.string n] w fun e w' => e = .returned (.bool (okName n)) ∧ w = w' := by
  by_cases h0 : n.size = 0
  · have : n = ⟨#[]⟩ := by
      obtain ⟨⟨l⟩⟩ := n
      have : l.length = 0 := h0
      rw [List.length_eq_zero_iff] at this; subst this; rfl
    subst this
    go_enter Try.func71, Try.ntmps71
    go_wp2_with (fail)
    go_ret
    exact ⟨rfl, rfl⟩
  have hE : n.toList.isEmpty = false := by
    rw [Lib.toList_data]
    cases hl : n.data.toList with
    | nil => exact absurd (by show n.data.toList.length = 0; rw [hl]; rfl) h0
    | cons _ _ => rfl
  by_cases h1 : 100 < n.size
  · have h1' : (100 : Int) < n.size := by omega
    have hk : okName n = false := by unfold okName; rw [decide_eq_false (by omega : ¬ n.size ≤ 100)]; simp
    rw [hk]
    have hn' : (n.size : Int) ≤ 9223372036854775807 := by omega
    clear h0 h1 hk hn
    go_enter Try.func71, Try.ntmps71
    go_wp2_with (fail)
    go_ret
    exact ⟨rfl, rfl⟩
  have h1' : (n.size : Int) ≤ 100 := by omega
  have h0' : (0 : Int) < n.size := by omega
  have gx : ∀ i (hi : i < n.size), n.get! i = n[i] := fun i hi => getElem!_pos n.data i hi
  have gb : ∀ b : UInt8, (b.toNat : Int) = 47 → b = 47 := fun b h => UInt8.toNat.inj (by simpa using (by omega : b.toNat = 47))
  have HF : Hid (((n[0]'(by omega)).toNat : Int) = 47 → okName n = false) := Lib.hid fun h => okName_first n (by rw [gx 0 (by omega)]; exact gb _ h)
  have HL : Hid (((n[n.size - 1]'(by omega)).toNat : Int) = 47 → okName n = false) := Lib.hid fun h => okName_last n (by rw [gx _ (by omega)]; exact gb _ h)
  have HO : Hid (∀ i (hi : i < n.size), oddR (n[i]'hi).toNat = true → okName n = false) := Lib.hid fun i hi h => okName_odd n hi (by rw [gx i hi]; exact h)
  have HA : Hid (¬ ((n[0]'(by omega)).toNat : Int) = 47 → ¬ ((n[n.size - 1]'(by omega)).toNat : Int) = 47 → (∀ i (hi : i < n.size), oddR (n[i]'hi).toNat = false) → okName n = true) := Lib.hid fun a1 a2 a3 =>
    okName_all n h0 (by omega) (by rw [gx 0 (by omega)]; intro e; rw [e] at a1; exact a1 rfl) (by rw [gx _ (by omega)]; intro e; rw [e] at a2; exact a2 rfl) (fun i hi => by rw [gx i hi]; exact a3 i hi)
  clear gx gb
  go_enter Try.func71, Try.ntmps71
  go_wp2_with (fail)
  · go_ret
    rw [HF.out (by assumption)]
    exact ⟨rfl, rfl⟩
  · rename_i hq
    have a1 : ¬ ((n[0]'(by omega)).toNat : Int) = 47 := by assumption
    have hb : ((n[n.size - 1]'(by omega)).toNat : Int) = 47 := by
      rcases hq with (hq | hq) | hq
      · exact absurd hq (by omega)
      · exact absurd (by simpa using hq) a1
      · simpa using hq
    go_ret
    rw [HL.out hb]
    exact ⟨rfl, rfl⟩
  · have hq : (((n[0]'(by omega)).toNat : Int) == 47) = false ∧ (((n[n.size - 1]'(by omega)).toNat : Int) == 47) = false := by
      have h : ((n.size : Int) ≤ 100 ∧ (((n[0]'(by omega)).toNat : Int) == 47) = false) ∧ (((n[n.size - 1]'(by omega)).toNat : Int) == 47) = false := by assumption
      exact ⟨h.1.2, h.2⟩
    have a1 : ¬ ((n[0]'(by omega)).toNat : Int) = 47 := by assumption
    have a2 : ¬ ((n[n.size - 1]'(by omega)).toNat : Int) = 47 := by simpa using hq.2
    have HA2 : Hid ((∀ i (hi : i < n.size), oddR (n[i]'hi).toNat = false) → okName n = true) := Lib.hid (HA.out a1 a2)
    clear hq a1 a2 HA HF HL
    go_loop [3] (fun i => ∃ k : Nat, k ≤ n.size ∧ i = .int .i64 k ∧ Hid (∀ j (hj : j < n.size), j < k → oddR (n[j]'hj).toNat = false)) (fun i => n.size - (intOf i).toNat)
    case atStart => exact ⟨0, Nat.zero_le _, rfl, Lib.hid fun j hj h => by omega⟩
    case round =>
      obtain ⟨k, hk, rfl, HK⟩ := hrel
      by_cases hlt : k < n.size
      · have k1 : (0 : Int) ≤ (k : Int) := by omega
        have k2 : (k : Int) < (n.size : Int) := by omega
        have hcase : (((n[k]'hlt).toNat : Int) < 45) ∨ (((n[k]'hlt).toNat : Int) = 45) ∨ (((n[k]'hlt).toNat : Int) = 46) ∨ (((n[k]'hlt).toNat : Int) = 47) ∨ (48 ≤ ((n[k]'hlt).toNat : Int) ∧ ((n[k]'hlt).toNat : Int) ≤ 57) ∨ (57 < ((n[k]'hlt).toNat : Int) ∧ ((n[k]'hlt).toNat : Int) < 97) ∨ (97 ≤ ((n[k]'hlt).toNat : Int) ∧ ((n[k]'hlt).toNat : Int) ≤ 122) ∨ (122 < ((n[k]'hlt).toNat : Int)) := by omega
        have hun : oddR (n[k]'hlt).toNat = true ↔ ((((n[k]'hlt).toNat : Int) < 97 ∨ 122 < ((n[k]'hlt).toNat : Int)) ∧ (((n[k]'hlt).toNat : Int) < 48 ∨ 57 < ((n[k]'hlt).toNat : Int)) ∧ ¬ ((n[k]'hlt).toNat : Int) = 45 ∧ ¬ ((n[k]'hlt).toNat : Int) = 46 ∧ ¬ ((n[k]'hlt).toNat : Int) = 47) := by
          unfold oddR
          simp only [Bool.and_eq_true, Bool.or_eq_true, decide_eq_true_eq, bne_iff_ne]
          omega
        have HUN := Lib.hid hun
        clear hun
        rcases hcase with hc | hc | hc | hc | hc | hc | hc | hc
        · skip
          have f0 : ((n[k]'hlt).toNat : Int) < 97 := by omega
          have f1 : ((n[k]'hlt).toNat : Int) < 48 := by omega
          have e1 : (((n[k]'hlt).toNat : Int) != 45) = true := bne_iff_ne.2 (by omega)
          have e2 : (((n[k]'hlt).toNat : Int) != 46) = true := bne_iff_ne.2 (by omega)
          have e3 : (((n[k]'hlt).toNat : Int) != 47) = true := bne_iff_ne.2 (by omega)
          have ho : Hid (okName n = false) := Lib.hid (HO.out k hlt (HUN.out.2 (by omega)))
          clear hc
          go_wp2_with (fail)
          go_ret
          rw [ho.out]
          exact ⟨rfl, rfl⟩
        · skip
          have hno : Hid (oddR (n[k]'hlt).toNat = false) := Lib.hid (by rw [Bool.eq_false_iff]; intro h; have := HUN.out.1 h; omega)
          go_wp2_with (fail)
          go_round
          case rel =>
            refine ⟨k + 1, by omega, by go_num, Lib.hid fun j hj h => ?_⟩
            by_cases hjk : j = k
            · subst hjk; exact hno.out
            · exact HK.out j hj (by omega)
          case measure => simp [intOf]; omega
        · skip
          have hno : Hid (oddR (n[k]'hlt).toNat = false) := Lib.hid (by rw [Bool.eq_false_iff]; intro h; have := HUN.out.1 h; omega)
          go_wp2_with (fail)
          go_round
          case rel =>
            refine ⟨k + 1, by omega, by go_num, Lib.hid fun j hj h => ?_⟩
            by_cases hjk : j = k
            · subst hjk; exact hno.out
            · exact HK.out j hj (by omega)
          case measure => simp [intOf]; omega
        · skip
          have hno : Hid (oddR (n[k]'hlt).toNat = false) := Lib.hid (by rw [Bool.eq_false_iff]; intro h; have := HUN.out.1 h; omega)
          go_wp2_with (fail)
          go_round
          case rel =>
            refine ⟨k + 1, by omega, by go_num, Lib.hid fun j hj h => ?_⟩
            by_cases hjk : j = k
            · subst hjk; exact hno.out
            · exact HK.out j hj (by omega)
          case measure => simp [intOf]; omega
        · skip
          have f0 : ((n[k]'hlt).toNat : Int) < 97 := by omega
          have f1 : 48 ≤ ((n[k]'hlt).toNat : Int) := by omega
          have f2 : ((n[k]'hlt).toNat : Int) ≤ 57 := by omega
          have e1 : (((n[k]'hlt).toNat : Int) != 45) = true := bne_iff_ne.2 (by omega)
          have e2 : (((n[k]'hlt).toNat : Int) != 46) = true := bne_iff_ne.2 (by omega)
          have e3 : (((n[k]'hlt).toNat : Int) != 47) = true := bne_iff_ne.2 (by omega)
          have hno : Hid (oddR (n[k]'hlt).toNat = false) := Lib.hid (by rw [Bool.eq_false_iff]; intro h; have := HUN.out.1 h; omega)
          clear hc
          go_wp2_with (fail)
          go_round
          case rel =>
            refine ⟨k + 1, by omega, by go_num, Lib.hid fun j hj h => ?_⟩
            by_cases hjk : j = k
            · subst hjk; exact hno.out
            · exact HK.out j hj (by omega)
          case measure => simp [intOf]; omega
        · skip
          have f0 : ((n[k]'hlt).toNat : Int) < 97 := by omega
          have f1 : 48 ≤ ((n[k]'hlt).toNat : Int) := by omega
          have f2 : 57 < ((n[k]'hlt).toNat : Int) := by omega
          have e1 : (((n[k]'hlt).toNat : Int) != 45) = true := bne_iff_ne.2 (by omega)
          have e2 : (((n[k]'hlt).toNat : Int) != 46) = true := bne_iff_ne.2 (by omega)
          have e3 : (((n[k]'hlt).toNat : Int) != 47) = true := bne_iff_ne.2 (by omega)
          have ho : Hid (okName n = false) := Lib.hid (HO.out k hlt (HUN.out.2 (by omega)))
          clear hc
          go_wp2_with (fail)
          go_ret
          rw [ho.out]
          exact ⟨rfl, rfl⟩
        · skip
          have f0 : 97 ≤ ((n[k]'hlt).toNat : Int) := by omega
          have f1 : ((n[k]'hlt).toNat : Int) ≤ 122 := by omega
          have e1 : (((n[k]'hlt).toNat : Int) != 45) = true := bne_iff_ne.2 (by omega)
          have e2 : (((n[k]'hlt).toNat : Int) != 46) = true := bne_iff_ne.2 (by omega)
          have e3 : (((n[k]'hlt).toNat : Int) != 47) = true := bne_iff_ne.2 (by omega)
          have hno : Hid (oddR (n[k]'hlt).toNat = false) := Lib.hid (by rw [Bool.eq_false_iff]; intro h; have := HUN.out.1 h; omega)
          clear hc
          go_wp2_with (fail)
          go_round
          case rel =>
            refine ⟨k + 1, by omega, by go_num, Lib.hid fun j hj h => ?_⟩
            by_cases hjk : j = k
            · subst hjk; exact hno.out
            · exact HK.out j hj (by omega)
          case measure => simp [intOf]; omega
        · skip
          have f0 : 97 ≤ ((n[k]'hlt).toNat : Int) := by omega
          have f1 : 122 < ((n[k]'hlt).toNat : Int) := by omega
          have f2 : 48 ≤ ((n[k]'hlt).toNat : Int) := by omega
          have f3 : 57 < ((n[k]'hlt).toNat : Int) := by omega
          have e1 : (((n[k]'hlt).toNat : Int) != 45) = true := bne_iff_ne.2 (by omega)
          have e2 : (((n[k]'hlt).toNat : Int) != 46) = true := bne_iff_ne.2 (by omega)
          have e3 : (((n[k]'hlt).toNat : Int) != 47) = true := bne_iff_ne.2 (by omega)
          have ho : Hid (okName n = false) := Lib.hid (HO.out k hlt (HUN.out.2 (by omega)))
          clear hc
          go_wp2_with (fail)
          go_ret
          rw [ho.out]
          exact ⟨rfl, rfl⟩
      · have k2 : ¬ (k : Int) < (n.size : Int) := by omega
        go_wp2_with (fail)
        go_ret
        rw [HA2.out fun i hi => HK.out i hi (by omega)]
        exact ⟨rfl, rfl⟩
end Go.Proofs.Ytmfiibehclbnjaa
/- The reference's array, a field of it set; which file a write meets. -/
namespace Go.Proofs.Ytmfiibehclbnjaa
open Go.RowKit Go.Shelf

theorem flat_set {α : Type} {enc : α → List Value} {size : Nat} (hl : ∀ x, (enc x).length = size) (hs : 0 < size) : ∀ (xs : List α) (i : Nat) (x x' : α) (c : Nat) (u : Value), xs[i]? = some x → c < size → enc x' = (enc x).set c u → (xs.set i x').flatMap enc = (xs.flatMap enc).set (i * size + c) u
  | [], _, _, _, _, _, h, _, _ => by simp at h
  | y :: xs, 0, x, x', c, u, h, hc, he => by
    simp only [List.getElem?_cons_zero, Option.some.injEq] at h
    subst h
    simp only [List.set_cons_zero, List.flatMap_cons, Nat.zero_mul, Nat.zero_add]
    rw [List.set_append_left _ _ (by rw [hl]; exact hc), he]
  | y :: xs, i + 1, x, x', c, u, h, hc, he => by
    simp only [List.getElem?_cons_succ] at h
    have := flat_set hl hs xs i x x' c u h hc he
    simp only [List.set_cons_succ, List.flatMap_cons]
    rw [List.set_append_right _ _ (by rw [hl, Nat.add_mul]; omega), hl, this]
    congr 2
    rw [Nat.add_mul]; omega
theorem SlAt.set1 {α : Type} {ek : ElKind α} {e : TypeId} {w : World} {g off len cap : Nat} {xs : List α} (h : SlAt ek e w (.slice (some ⟨g, off, none⟩) len cap) xs) {i : Nat} {x x' : α} {c : Nat} {u : Value} (hx : xs[i]? = some x) (hc : c < ek.size) (he : ek.enc x' = (ek.enc x).set c u) :
    SlAt ek e (w.setCell ⟨g, off + i * ek.size + c, none⟩ u) (.slice (some ⟨g, off, none⟩) len cap) (xs.set i x') := by
  rcases h with ⟨e1, _⟩ | ⟨g', off', cap', cur, e1, hb, hn, hm, hs, hr⟩
  · simp at e1
  · simp only [Value.slice.injEq, Option.some.injEq, Addr.mk.injEq, and_true] at e1
    obtain ⟨⟨rfl, rfl⟩, rfl, rfl⟩ := e1
    refine .inr ⟨g, off, cap, _, by rw [List.length_set], blk_set hb (off + i * ek.size + c) u, by rw [List.length_set]; exact hn, hm, by simpa using hs, fun j hj => ?_⟩
    rw [List.length_set] at hj
    rw [flat_set ek.len ek.pos xs i x x' c u hx hc he, Array.getElem?_setIfInBounds, List.getElem?_set, ← hr j hj]
    have hi := (List.getElem?_eq_some_iff.1 hx).1
    have hlt : i * ek.size + c < xs.length * ek.size := by
      have := Nat.mul_le_mul_right ek.size (Nat.succ_le_of_lt hi)
      rw [Nat.succ_mul] at this; omega
    by_cases hji : j = i * ek.size + c
    · subst hji
      rw [if_pos (by omega), if_pos rfl, flat_len ek.len, if_pos hlt]
      have : off + i * ek.size + c < cur.size := by
        have := Nat.mul_le_mul_right ek.size hn; omega
      rw [if_pos this]
    · rw [if_neg (by omega), if_neg (fun e => hji e.symm)]
theorem putL_set {l : List (ByteArray × FileS)} (hr : Rise slt l) {j : Nat} {n : ByteArray} {x : FileS} (hx : l[j]? = some (n, x)) (y : FileS) : putL slt l n y = l.set j (n, y) := by
  obtain ⟨hj, he⟩ := List.getElem?_eq_some_iff.1 hx
  have hs : l = l.take j ++ (n, x) :: l.drop (j + 1) := by
    have := List.take_append_drop j l
    rw [List.drop_eq_getElem_cons hj, he] at this
    exact this.symm
  have hl : (l.take j).length = j := by rw [List.length_take]; omega
  rw [hs] at hr
  conv => lhs; rw [hs]
  rw [putL_eq slt_ord hr]
  conv => rhs; rw [hs]
  rw [List.set_append_right _ _ (by omega), hl, Nat.sub_self, List.set_cons_zero]
/-- The same, but for what is not laid. -/
structure SameRef (F G : FsS) : Prop where
  room : F.room = G.room
  files : F.files = G.files
  steps : F.steps = G.steps
  armed : F.armed = G.armed
  down : F.down = G.down
section
variable {w w' : World} {rb k : Nat} {F G : FsS} {S T : Nat → Prop} {lv : Value} {rs : List RF} {n : ByteArray} {x y : FileS} {j : Nat}
theorem RefAt.same (h : RefAt w rb F S lv rs) (e : SameRef F G) : RefAt w rb G S lv rs := by
  refine ⟨?_, h.arr, e.files ▸ h.all, h.sb, h.sa, h.sd, h.lt⟩
  have : refCells G lv = refCells F lv := by unfold refCells; rw [e.room, e.steps, e.armed, e.down]
  rw [this]; exact h.blk
theorem RefPost.same (h : RefPost w rb F S w') (e : SameRef F G) : RefPost w rb G S w' := by
  obtain ⟨lv, rs, h1, h2⟩ := h
  exact ⟨lv, rs, h1.same e, h2⟩
theorem RefAt.quiet (h : RefAt w rb F S lv rs) (hb : Below w.heap.size w w') : RefPost w rb F S w' := ⟨lv, rs, (h.below hb).mono (fun _ e => .inl e) (new_lt h.lt hb.size), (Keeps.of_below hb).mono fun _ _ e => e.elim⟩
/-- Behind a change of its own block. -/
theorem RefPost.behind {a b c : World} (h : Keeps S a b) (hz : b.heap.size = a.heap.size) (k : RefPost b rb F S c) : RefPost a rb F S c := by
  obtain ⟨lv, rs, h1, h2⟩ := k
  refine ⟨lv, rs, h1.mono (fun i e => ?_) (fun i e => ?_), h.trans' h2⟩
  · rcases e with e | e
    · exact .inl e
    · exact .inr ⟨by omega, e.2⟩
  · rcases e with e | e
    · exact h1.lt i (.inl e)
    · exact e.2
theorem find_none_all (h : FsOk F k) (hx : F.find n = none) : ∀ x ∈ F.files, x.1 ≠ n := by
  rintro ⟨m, y⟩ hy rfl
  rw [h.find_of_mem hy] at hx
  cases hx
theorem find_some_at (hx : F.find n = some x) : ∃ j : Nat, F.files[j]? = some (n, x) := List.getElem?_of_mem (FsOk.find_mem hx)
theorem fail_one (h : F.armed = 1) : F.failS = { F with armed := 0, down := true } := by unfold FsS.failS; rw [if_pos (by omega), if_pos h]
theorem write_one {eff : FsS → FsS} (h : F.armed = 1) : F.write eff = (F.failS, 5) := by rw [fail_one h]; unfold FsS.write; rw [if_pos (by omega), if_pos h]
/-- What a write comes to that does not fail. -/
theorem write_ok {eff : FsS → FsS} (h : F.armed ≠ 1) (he : ∀ G, (eff G).room = G.room ∧ (eff G).steps = G.steps ∧ (eff G).armed = G.armed ∧ (eff G).down = G.down) (hf : ∀ a, (eff { F with armed := a }).files = (eff F).files) :
    (F.write eff).2 = 0 ∧ SameRef { F.failS with files := (eff F).files } (F.write eff).1 := by
  unfold FsS.write FsS.failS
  by_cases h0 : 0 < F.armed
  · rw [if_pos h0, if_neg h, if_pos h0, if_neg h]
    obtain ⟨e1, e2, e3, e4⟩ := he { F with armed := F.armed - 1 }
    exact ⟨rfl, ⟨e1.symm, (hf _).symm, by show F.steps + 1 = _ + 1; rw [e2], e3.symm, e4.symm⟩⟩
  · rw [if_neg h0, if_neg h0]
    obtain ⟨e1, e2, e3, e4⟩ := he F
    exact ⟨rfl, ⟨e1.symm, rfl, by show F.steps + 1 = _ + 1; rw [e2], e3.symm, e4.symm⟩⟩
theorem failS_files : F.failS.files = F.files := by unfold FsS.failS; repeat' split
                                                    all_goals rfl
/-- One field of a file is set. -/
theorem RefAt.setField {g off cap : Nat} (h : RefAt w rb F S (.slice (some ⟨g, off, none⟩) F.files.length cap) rs) (hx : F.files[j]? = some (n, x)) {r r' : RF} (hr : rs[j]? = some r) {c : Nat} {u : Value} (hc : c < 3) (he : rfKind.enc r' = (rfKind.enc r).set c u)
    (hf : RFor w (n, y) r') (hd : ∀ g, r'.val.ownBlock = some g → S g) :
    RefAt (w.setCell ⟨g, off + j * 3 + c, none⟩ u) rb { F with files := F.files.set j (n, y) } S (.slice (some ⟨g, off, none⟩) F.files.length cap) (rs.set j r') ∧ Keeps S w (w.setCell ⟨g, off + j * 3 + c, none⟩ u) := by
  have hSg : S g := h.sa g rfl
  have k : Keeps (Only g) w (w.setCell ⟨g, off + j * 3 + c, none⟩ u) := keeps_set _ _ _ _
  obtain ⟨cur, hb⟩ := h.arr.own g rfl
  have hne : ∀ b cur' (T : TypeId), w.heap[b]? = some (.cells cur' T (0, 0)) → T ≠ 69 → b ≠ g := fun b cur' T hb' hT e => blk_ne_type (b := b) (c := g) hb' hb hT e
  refine ⟨⟨k.obj h.blk (fun e => hne _ _ _ h.blk (by decide) e), h.arr.set1 hr hc he, ?_, h.sb, h.sa, ?_, fun i hi => by simpa using h.lt i hi⟩, k.mono fun i _ e => by have : i = g := e; rw [this]; exact hSg⟩
  · refine (h.all.set j hf).imp fun a b _ hb' hab => hab.keeps k fun g' hg' e => ?_
    obtain ⟨cur', hb2⟩ := hab.sl.own g' hg'
    exact hne _ _ _ hb2 (by decide) e
  · intro b hb' g' hg'
    rcases List.mem_or_eq_of_mem_set hb' with hb' | rfl
    · exact h.sd b hb' g' hg'
    · exact hd g' hg'
end
end Go.Proofs.Ytmfiibehclbnjaa
