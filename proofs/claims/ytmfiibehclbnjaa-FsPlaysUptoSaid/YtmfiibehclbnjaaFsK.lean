/- The walk of the file system's Names. -/
import Derived.Test.YtmfiibehclbnjaaFsJ
namespace Go.Proofs.Ytmfiibehclbnjaa
open Go.RowKit Go.Shelf Go.Sort

/-- The names that begin so. -/
def namesL {V : Type} (front : ByteArray) (m : List (ByteArray × V)) : List ByteArray := (m.filter fun x => Lib.hasPrefix x.1.data.toList front.data.toList).map (·.1)
theorem infoStr : (Try.prog.info? 9).map (fun i => (i.zero, i.size, i.bytes)) = some (some (.string ⟨#[]⟩), 1, 16) := by kernel_rfl
theorem append_texts {w : World} {v u : Value} {xs ys : List ByteArray} (hv : SlAt textKind 9 w v xs) (hu : RdAt textKind w u ys) (hn : xs.length + ys.length ≤ 1000000000) (ty : TypeId) :
    ∃ v' w', (Builtin.append_ #[42, 42] ty #[v, u]).run Try.prog w = .ok v' w' ∧ SlAt textKind 9 w' v' (xs ++ ys) ∧ Keeps (fun k => v.ownBlock = some k) w w' ∧
      (∀ k, v'.ownBlock = some k → v.ownBlock = some k ∨ w.heap.size ≤ k) ∧ (v' = .slice none 0 0 ↔ v = .slice none 0 0 ∧ ys = []) := by
  obtain ⟨i0, hi, hz0, hz1, hz2⟩ := info_parts infoStr
  exact run_append_sl (ek := textKind) 42 ty i0 _ 16 Try.underlying42 hi hz0 hz1 hz2 rfl hv hu (by unfold maxLen; omega) (by omega)

structure NmI (w : World) (mb : Nat) (rs : List (ByteArray × Pl)) (front : ByteArray) (s : Value) (left : List (ByteArray × Pl)) (wr : World) : Prop where
  ex : ∃ done, (done ++ left).Perm rs ∧ SlAt textKind 9 wr s (namesL front done) ∧ done.length ≤ rs.length
  rng : RangeAt strKind evP wr mb w.heap.size rs left
  new : ∀ k, s.ownBlock = some k → w.heap.size < k
  below : Below w.heap.size w wr
theorem sorted_unique : ∀ {a b : List ByteArray}, a.Perm b → a.Pairwise (fun x y => slt y x = false) → b.Pairwise (fun x y => slt y x = false) → a = b := by
  intro a b hp ha hb
  refine hp.eq_of_pairwise (le := fun x y => slt y x = false) ?_ ha hb
  intro x y _ _ h1 h2
  exact slt_ord.eq _ _ h2 h1
theorem namesL_rise {V : Type} {m : List (ByteArray × V)} (h : Rise slt m) (front : ByteArray) : (namesL front m).Pairwise (fun x y => slt y x = false) := by
  unfold namesL
  rw [List.pairwise_map]
  exact (List.Pairwise.filter _ h).imp (fun h => slt_ord.asymm h)
theorem namesL_perm {V : Type} {m m' : List (ByteArray × V)} (h : m.Perm m') (front : ByteArray) : (namesL front m).Perm (namesL front m') := (h.filter _).map _
theorem namesL_app {V : Type} (m m' : List (ByteArray × V)) (front : ByteArray) : namesL front (m ++ m') = namesL front m ++ namesL front m' := by unfold namesL; rw [List.filter_append, List.map_append]
theorem namesL_map {V W : Type} (f : V → W) (m : List (ByteArray × V)) (front : ByteArray) : namesL front (m.map fun x => (x.1, f x.2)) = namesL front m := by
  unfold namesL
  rw [List.filter_map, List.map_map]
  rfl
section
variable {w : World} {fb mb : Nat} {F : FsS} {S : Nat → Prop} {rs : List (ByteArray × Pl)}
/-- A list that lies in blocks of its own. -/
structure TextsAt (w w' : World) (v : Value) (L : List ByteArray) : Prop where
  sl : SlAt textKind 9 w' v L
  new : ∀ k, v.ownBlock = some k → w.heap.size ≤ k
  below : Below w.heap.size w w'
set_option maxRecDepth 100000 in
set_option maxHeartbeats 600000 in
theorem f_names (h : FsAt w fb F S mb rs) (hl : rs.length ≤ 1000000) (front : ByteArray) :
    Calls Try.prog 26 #[.pointer (some ⟨fb, 0, none⟩), .string front] w fun e w' => ∃ v, e = .returned v ∧ TextsAt w w' v (namesL front F.files) := by
  have c2 : w.cell? ⟨fb, 2, none⟩ = some (.map (some mb)) := blk_cell h.blk 2
  obtain ⟨W1, hrange, hR, hk1, hz1⟩ := h.map.range (P := Try.prog) (t := 71) Try.underlying71
  have H := Lib.hid h
  have HL := Lib.hid hl
  have HI : Hid (NmI w mb rs front (.slice none 0 0) rs W1) := Lib.hid ⟨⟨[], by simp, SlAt.nil, by simp⟩, hR, fun k e => by simp [Value.ownBlock] at e, hk1⟩
  clear h hR hk1 hz1 hl
  go_enter Try.func26, Try.ntmps26
  go_wp2_with (fail)
  go_loopg [5] (rs.length + 1) (fun g s wr => ∃ left : List (ByteArray × Pl), g = left.length + 1 ∧ Hid (NmI w mb rs front s left wr))
  case atStart => exact ⟨rs, rfl, HI⟩
  case round =>
    obtain ⟨left, rfl, HN⟩ := hrel
    rcases HN.out.rng.next (P := Try.prog) 0 with ⟨rfl, hrun⟩ | ⟨x, rest, w1, hp, hrun, hR, hk, hz, hent⟩
    · have HS : Hid (∃ done, done.Perm rs ∧ SlAt textKind 9 wr u5 (namesL front done) ∧ done.length ≤ rs.length) := Lib.hid (by
        obtain ⟨done, h1, h2, h3⟩ := HN.out.ex
        exact ⟨done, by simpa using h1, h2, h3⟩)
      go_wp2_with (fail)
      obtain ⟨done, h1, h2, h3⟩ := HS.out
      have hlen : (namesL front done).length ≤ 1000000 := by
        unfold namesL
        rw [List.length_map]
        exact Nat.le_trans (List.length_filter_le _ _) (Nat.le_trans h3 HL.out)
      refine (f_sort h2 (by omega)).mono ?_
      rintro e w2 ⟨rfl, L', hp, hs, hsl, hk2⟩
      have HE : Hid (TextsAt w w2 u5 (namesL front F.files)) := by
        have e : L' = namesL front F.files := by
          rw [H.out.files]
          refine (sorted_unique (hp.trans (namesL_perm h1 front)) hs (namesL_rise H.out.map.rise front)).trans ?_
          exact (namesL_map (fun q : Pl => q.fl) rs front).symm
        rw [e] at hsl
        exact Lib.hid ⟨hsl, fun k hk => Nat.le_of_lt (HN.out.new k hk), below_keeps HN.out.below hk2 (fun i e => Nat.le_of_lt (HN.out.new i e)) HN.out.below.size⟩
      clear h1 h2 h3 hlen hp hs hsl hk2
      go_wp2_with (fail)
      go_ret
      exact ⟨_, rfl, HE.out⟩
    · have hent' : (Instr.entry (.pointer (some ⟨w.heap.size, 0, none⟩))).run Try.prog w1 = .ok (.tuple #[.string x.1, evP x.2]) w1 := hent
      have hrun' : (Instr.next (.pointer (some ⟨w.heap.size, 0, none⟩)) false 0).run Try.prog wr = .ok (.tuple #[.bool true, .string x.1, evP x.2]) w1 := hrun
      have hlen : left.length = rest.length + 1 := by rw [hp.length_eq]; rfl
      have hk' : Keeps (fun i => i = w.heap.size) wr w1 := hk
      have hbw : Below w.heap.size w w1 := below_keeps HN.out.below hk (fun i e => by omega) HN.out.below.size
      have hsl : ∃ done, (done ++ x :: rest).Perm rs ∧ SlAt textKind 9 w1 u5 (namesL front done) ∧ done.length + 1 ≤ rs.length := by
        obtain ⟨done, h1, h2, h3⟩ := HN.out.ex
        refine ⟨done, (List.Perm.append_left done hp.symm).trans h1, h2.keeps hk (fun g hg e => ?_), ?_⟩
        · have := HN.out.new g hg; omega
        · have := ((List.Perm.append_left done hp.symm).trans h1).length_eq
          simp only [List.length_append, List.length_cons] at this; omega
      have HX := Lib.hid (And.intro hR (And.intro hbw hsl))
      have HNEW := Lib.hid HN.out.new
      have HPR := Try.strings_HasPrefix x.1 front w1
      clear hent hrun hk hk' hR hbw hsl hp hz
      cases hpre : Lib.hasPrefix x.1.data.toList front.data.toList with
      | false =>
        rw [hpre] at HPR
        have HI2 : Hid (NmI w mb rs front u5 rest w1) := Lib.hid (by
          obtain ⟨h1, h2, done, h3, h4, h5⟩ := HX.out
          exact ⟨⟨done ++ [x], by simpa using h3, by rw [namesL_app]; unfold namesL at h4 ⊢; simpa [hpre] using h4, by simpa using h5⟩, h1, HNEW.out, h2⟩)
        have HPR := Lib.hid HPR
        clear hpre
        go_wp2_with (fail)
        refine HPR.out.mono ?_
        rintro e w2 ⟨rfl, rfl⟩
        go_wp2_with (fail)
        go_roundg (rest.length + 1)
        case measure => omega
        case rel => exact ⟨rest, rfl, HI2⟩
      | true =>
        rw [hpre] at HPR
        have hu : RdAt textKind (w1.alloc (.cells #[.string x.1] 9)) (.slice (some ⟨w1.heap.size, 0, none⟩) 1 1) [x.1] := by
          refine ⟨_, 1, rfl, fun j y hy => ⟨w1.heap.size, 0, rfl, fun i hi => ?_⟩⟩
          match j, hy with
          | 0, hy =>
            simp only [List.getElem?_cons_zero, Option.some.injEq] at hy
            subst hy
            have hi0 : i = 0 := by have : i < 1 := hi; omega
            subst hi0
            exact blk_cell (cs := #[.string x.1]) (heap_alloc_new w1 _) 0
        have hal : Below w1.heap.size w1 (w1.alloc (.cells #[.string x.1] 9)) := (Below.refl _ _).alloc (Nat.le_refl _) _
        have HI2 : Hid (∃ v' w', (Builtin.append_ #[42, 42] 42 #[u5, .slice (some ⟨w1.heap.size, 0, none⟩) 1 1]).run Try.prog (w1.alloc (.cells #[.string x.1] 9)) = .ok v' w' ∧ NmI w mb rs front v' rest w') := Lib.hid (by
          obtain ⟨h1, h2, done, h3, h4, h5⟩ := HX.out
          have h4' := h4.below hal
          have hle : (namesL front done).length ≤ 1000000 := by
            unfold namesL
            rw [List.length_map]
            exact Nat.le_trans (List.length_filter_le _ _) (by have := HL.out; omega)
          obtain ⟨v', w', hrun, hs, hk, ho, _⟩ := append_texts h4' hu (by simp only [List.length_cons, List.length_nil]; omega) 42
          refine ⟨v', w', hrun, ⟨done ++ [x], by simpa using h3, by rw [namesL_app]; unfold namesL at hs ⊢; simpa [hpre] using hs, by simpa using h5⟩, ?_, ?_, ?_⟩
          · refine (h1.below hal).keeps hk ?_ ?_
            · intro e
              have := HNEW.out _ e
              have := H.out.lt _ H.out.smb
              omega
            · intro e
              have := HNEW.out _ e
              omega
          · intro k e
            rcases ho k e with e | e
            · exact HNEW.out k e
            · have := hal.size
              have := h1.lt
              have : w1.heap.size < (w1.alloc (.cells #[.string x.1] 9)).heap.size := by simp
              omega
          · exact below_keeps (h2.trans (hal.mono h2.size)) hk (fun i e => Nat.le_of_lt (HNEW.out i e)) (Nat.le_trans h2.size hal.size))
        obtain ⟨v', w2, hap, hN2⟩ := HI2.out
        have HN2 := Lib.hid hN2
        have HPR := Lib.hid HPR
        clear hpre hu hal hN2 HI2
        go_wp2_with (fail)
        refine HPR.out.mono ?_
        rintro e w3 ⟨rfl, rfl⟩
        go_wp2_with (at_builtin; refine wpList_append_run rfl (.tmp 19) (.tmp 21) 42 rfl _ _ rfl rfl _ _ hap ?_)
        go_roundg (rest.length + 1)
        case measure => omega
        case rel => exact ⟨rest, rfl, HN2⟩
end
end Go.Proofs.Ytmfiibehclbnjaa
