/- The walk of FsNames. -/
import Derived.Test.YtmfiibehclbnjaaFsHe
import Derived.Lib.PathFns
import Derived.IntWalk
namespace Go.Proofs.Ytmfiibehclbnjaa
open Go.RowKit Go.Shelf

section
variable {w : World}
set_option maxRecDepth 100000 in
theorem r_begins (s t : ByteArray) (hs : s.size ≤ 9223372036854775807) (ht : t.size ≤ 9223372036854775807) : Calls Try.prog 28 #[.string s, .string t] w fun e w' => e = .returned (.bool (Lib.hasPrefix s.data.toList t.data.toList)) ∧ w = w' := by
  have hs' : (s.size : Int) ≤ 9223372036854775807 := by omega
  have ht' : (t.size : Int) ≤ 9223372036854775807 := by omega
  by_cases hle : t.size ≤ s.size
  · have hle' : (t.size : Int) ≤ (s.size : Int) := by omega
    cases hp : Lib.hasPrefix s.data.toList t.data.toList with
    | true =>
      have he : s.extract 0 t.size = t := by
        rw [Lib.Pa.extract_upto]
        unfold Lib.hasPrefix at hp
        rw [List.isPrefixOf_iff_prefix, List.prefix_iff_eq_take] at hp
        have : t.data.toList.length = t.size := rfl
        rw [this] at hp
        rw [← hp]
      have hq : ((s.extract 0 t.size).toList == t.toList) = true := by rw [he]; simp
      clear hp he hs ht
      go_enter Try.func28, Try.ntmps28
      go_wp2
      go_ret
      exact ⟨rfl, rfl⟩
    | false =>
      have hq : ((s.extract 0 t.size).toList == t.toList) = false := by
        refine beq_eq_false_iff_ne.2 fun e => ?_
        have e := str_inj e
        rw [Lib.Pa.extract_upto] at e
        have e2 : s.data.toList.take t.size = t.data.toList := by have h9 := congrArg (fun b : ByteArray => b.data.toList) e; simpa using h9
        have : Lib.hasPrefix s.data.toList t.data.toList = true := by
          unfold Lib.hasPrefix
          rw [List.isPrefixOf_iff_prefix, List.prefix_iff_eq_take]
          exact e2.symm
        rw [hp] at this
        cases this
      clear hp hs ht
      go_enter Try.func28, Try.ntmps28
      go_wp2
      go_ret
      exact ⟨rfl, rfl⟩
  · have hle' : ¬ (t.size : Int) ≤ (s.size : Int) := by omega
    have hp : Lib.hasPrefix s.data.toList t.data.toList = false := by
      rw [Bool.eq_false_iff]
      intro h
      unfold Lib.hasPrefix at h
      rw [List.isPrefixOf_iff_prefix] at h
      have := h.length_le
      exact hle this
    rw [hp]
    clear hp hs ht
    go_enter Try.func28, Try.ntmps28
    go_wp2
    go_ret
    exact ⟨rfl, rfl⟩
theorem okName_size {n : ByteArray} (h : okName n = true) : n.size ≤ 100 := by
  unfold okName at h
  simp only [Bool.and_eq_true, decide_eq_true_eq] at h
  exact h.1.1.1.2
/-- Behind so many names: what is wanted, where it lies. -/
structure WaI (w wr : World) (F : FsS) (front : ByteArray) (s : Value) (j : Nat) : Prop where
  sl : SlAt textKind 9 wr s (namesL front (F.files.take j))
  new : ∀ g, s.ownBlock = some g → w.heap.size ≤ g
  below : Below w.heap.size w wr
theorem namesL_snoc {F : FsS} {front n : ByteArray} {x : FileS} {j : Nat} (h : F.files[j]? = some (n, x)) : namesL front (F.files.take (j + 1)) = namesL front (F.files.take j) ++ (if Lib.hasPrefix n.data.toList front.data.toList then [n] else []) := by
  obtain ⟨hj, he⟩ := List.getElem?_eq_some_iff.1 h
  rw [List.take_succ_eq_append_getElem hj, he, namesL_app]
  congr 1
  unfold namesL
  cases hp : Lib.hasPrefix n.data.toList front.data.toList with
  | true => rw [List.filter_cons, if_pos hp]; simp
  | false => rw [List.filter_cons, if_neg (by simp [hp])]; simp
theorem namesL_len {F : FsS} {front : ByteArray} {k j : Nat} (h : FsOk F k) : (namesL front (F.files.take j)).length ≤ 400 := by
  unfold namesL
  rw [List.length_map]
  refine Nat.le_trans (List.length_filter_le _ _) ?_
  rw [List.length_take]
  have := h.few
  omega
theorem sumLen_snoc {F : FsS} {n : ByteArray} {x : FileS} {j : Nat} (h : F.files[j]? = some (n, x)) : sumLen (F.files.take (j + 1)) = sumLen (F.files.take j) + x.data.length := by
  obtain ⟨hj, he⟩ := List.getElem?_eq_some_iff.1 h
  rw [List.take_succ_eq_append_getElem hj, he, sumLen_append, sumLen_cons]
  have : sumLen [] = 0 := rfl
  simp only
  omega
theorem sumLen_take_le (l : List (ByteArray × FileS)) (j : Nat) : sumLen (l.take j) ≤ sumLen l := by
  have : sumLen l = sumLen (l.take j) + sumLen (l.drop j) := by rw [← sumLen_append, List.take_append_drop]
  have := sumLen_nonneg (l.drop j)
  omega
/-- One text more. -/
theorem WaI.push {wr : World} {F : FsS} {front n : ByteArray} {x : FileS} {s : Value} {j k : Nat} (h : WaI w wr F front s j) (ho : FsOk F k) (hx : F.files[j]? = some (n, x)) (hp : Lib.hasPrefix n.data.toList front.data.toList = true) :
    ∃ v' w', (Builtin.append_ #[42, 42] 42 #[s, .slice (some ⟨wr.heap.size, 0, none⟩) 1 1]).run Try.prog (wr.alloc (.cells #[.string n] 9)) = .ok v' w' ∧ WaI w w' F front v' (j + 1) ∧ Below w.heap.size w w' := by
  have hu : RdAt textKind (wr.alloc (.cells #[.string n] 9)) (.slice (some ⟨wr.heap.size, 0, none⟩) 1 1) [n] := by
    refine ⟨_, 1, rfl, fun j y hy => ⟨wr.heap.size, 0, rfl, fun i hi => ?_⟩⟩
    match j, hy with
    | 0, hy =>
      simp only [List.getElem?_cons_zero, Option.some.injEq] at hy
      subst hy
      have hi0 : i = 0 := by have : i < 1 := hi; omega
      subst hi0
      exact blk_cell (cs := #[.string n]) (heap_alloc_new wr _) 0
  have hal : Below wr.heap.size wr (wr.alloc (.cells #[.string n] 9)) := (Below.refl _ _).alloc (Nat.le_refl _) _
  have hle := namesL_len (front := front) (j := j) ho
  obtain ⟨v', w', hrun, hs, hk, ho', _⟩ := append_texts (h.sl.below hal) hu (by simp only [List.length_cons, List.length_nil]; omega) 42
  have hb : Below w.heap.size w w' := below_keeps (h.below.trans (hal.mono h.below.size)) hk (fun i e => h.new i e) (Nat.le_trans h.below.size hal.size)
  refine ⟨v', w', hrun, ⟨?_, fun g hg => ?_, hb⟩, hb⟩
  · rw [namesL_snoc hx, if_pos hp]; exact hs
  · rcases ho' g hg with e | e
    · exact h.new g e
    · have := hal.size; have := h.below.size; omega
theorem WaI.skip {wr : World} {F : FsS} {front n : ByteArray} {x : FileS} {s : Value} {j : Nat} (h : WaI w wr F front s j) (hx : F.files[j]? = some (n, x)) (hp : Lib.hasPrefix n.data.toList front.data.toList = false) : WaI w wr F front s (j + 1) := by
  refine ⟨?_, h.new, h.below⟩
  rw [namesL_snoc hx, if_neg (by simp [hp]), List.append_nil]
  exact h.sl
theorem WaI.read {wr w' : World} {F : FsS} {front : ByteArray} {s : Value} {j : Nat} (h : WaI w wr F front s j) (hb : Below wr.heap.size wr w') : WaI w w' F front s j := ⟨h.sl.below hb, h.new, h.below.trans (hb.mono h.below.size)⟩
set_option maxRecDepth 100000 in
set_option maxHeartbeats 8000000 in
theorem l_names (v : Value) (os : List FOp) (h : FOpsAt w v os) (hm : os.length ≤ maxLen) (m : Int) (front : ByteArray) (h0 : -9223372036854775808 ≤ m) (h1 : m ≤ 9223372036854775807) (hz : front.size ≤ 9223372036854775807) :
    Calls Try.prog 5 #[.int .i64 m, v, .string front] w (TruePost w) := by
  have HOS := Lib.hid h
  have HM := Lib.hid hm
  obtain ⟨a, cap, rfl, hrd⟩ := h
  have HZ := Lib.hid hz
  have hz' : (front.size : Int) ≤ 9223372036854775807 := by omega
  have HM0 := Lib.hid (And.intro h0 h1)
  have HB0 : Hid (Below w.heap.size w w) := Lib.hid (Below.refl _ _)
  clear hrd hm hz h0 h1
  go_enter Try.func5, Try.ntmps5
  go_wp2_with (fail)
  refine x_first.mono ?_
  rintro e w1 ⟨rfl, hb⟩
  have HB1 := Lib.hid hb
  clear hb
  go_wp2_with (fail)
  refine (x_few w1 _ os (HOS.out.below HB1.out) HM.out).mono ?_
  rintro e w2 ⟨small, rfl, hs, hb⟩
  have HS := Lib.hid hs
  have HB2 : Hid (Below w.heap.size w w2) := Lib.hid (HB1.out.trans (hb.mono HB1.out.size))
  clear hb hs
  cases small with
  | false =>
    go_wp2_with (fail)
    go_ret
    exact TruePost.hid HB0 HB2.out
  | true =>
    by_cases h200 : (20000 : Int) < front.size
    · go_wp2_with (fail)
      go_ret
      exact TruePost.hid HB0 HB2.out
    go_wp2_with (fail)
    refine (d_made HOS.out (HS.out (by simp)) HB2.out m HM0.out.1 HM0.out.2).mono ?_
    rintro e w3 ⟨fb, rfl, hd⟩
    have HD := Lib.hid hd
    clear hd
    generalize (FsS.new m).toldAll os = F at HD
    generalize (New w2 w3 fun _ => False) = S at HD
    go_wp2_with (fail)
    refine (d_names HD.out).mono ?_
    rintro e w4 ⟨sa, sc, rfl, hrd, hb⟩
    have HD4 := Lib.hid (HD.out.read hb)
    have HRD := Lib.hid hrd
    have hlen : (F.files.length : Int) ≤ 400 := by have := HD4.out.ok.few; omega
    have HU : Hid (F.used = sumLen F.files ∧ F.used ≤ 67108864) := Lib.hid ⟨HD4.out.ok.used, by have := HD4.out.ok.fits; have := HD4.out.ok.room1; omega⟩
    have HW0 : Hid (WaI w4 w4 F front (.slice none 0 0) 0) := Lib.hid ⟨SlAt.nil, fun g hg => by simp [Value.ownBlock] at hg, Below.refl _ _⟩
    clear hrd hb
    go_wp2_with (fail)
    go_loopw [11, 12, 13] (fun s t i wr => ∃ (j : Nat) (q : Int), j ≤ F.files.length ∧ i = .int .i64 j ∧ t = .int .i64 q ∧ Hid (q = sumLen (F.files.take j)) ∧ Hid (WaI w4 wr F front s j)) (fun _ _ i _ => F.files.length - (intOf i).toNat)
    case atStart => exact ⟨0, 0, Nat.zero_le _, rfl, rfl, Lib.hid rfl, HW0⟩
    case round =>
      obtain ⟨j, q, hj, rfl, rfl, HQ, HJ⟩ := hrel
      by_cases hlt : j < F.files.length
      · obtain ⟨⟨n, y⟩, hy⟩ : ∃ y, F.files[j]? = some y := ⟨_, List.getElem?_eq_getElem hlt⟩
        have hfy := HD4.out.ok.find_at hy
        have hly := (HD4.out.ok.len hfy).1
        have hq0 : 0 ≤ q := by rw [HQ.out]; exact sumLen_nonneg _
        have hq1 : q + y.data.length ≤ 67108864 := by
          have h1 := sumLen_snoc hy
          have h2 := sumLen_take_le F.files (j + 1)
          have h3 := HQ.out; have h4 := HU.out
          omega
        have HQ2 : Hid (q + y.data.length = sumLen (F.files.take (j + 1))) := Lib.hid (by rw [sumLen_snoc hy, HQ.out])
        have HVN : Hid (okName n = true) := Lib.hid (HD4.out.ok.valid _ (List.mem_of_getElem? hy))
        obtain ⟨g, off, rfl, hc⟩ := text_cell (HRD.out.below HJ.out.below) rfl (j := j) (n := n) (by rw [List.getElem?_map, hy]; rfl)
        have k1 : (0 : Int) ≤ (j : Int) := by omega
        have k2 : (j : Int) < (F.files.length : Int) := by omega
        have HFY := Lib.hid hfy
        have HY := Lib.hid hy
        clear hy hfy
        have HSZ := Lib.hid (d_size (HD4.out.read HJ.out.below) n)
        rw [HFY.out] at HSZ
        go_wp2_with (fail)
        refine HSZ.out.mono ?_
        rintro e w5 ⟨rfl, rfl⟩
        simp only [sizeRes]
        have HV : Hid (∀ W, Calls Try.prog 23 #[.string n] W fun e w' => e = .returned (.bool true) ∧ Below W.heap.size W w') := Lib.hid fun W => by have := f_valid W n; rwa [HVN.out] at this
        go_wp2_with (fail)
        have hb1 : Below wr.heap.size wr wr.drew := (Below.refl _ _).drew
        by_cases hj0 : 0 < j
        · obtain ⟨jm, hjm⟩ : ∃ jm : Nat, j = jm + 1 := ⟨j - 1, by omega⟩
          obtain ⟨⟨n', y'⟩, hy'⟩ : ∃ y, F.files[jm]? = some y := ⟨_, List.getElem?_eq_getElem (by omega)⟩
          have hlt' : slt n' n = true := by
            have hr := HD4.out.ok.rise
            have hyy := HY.out
            rw [hjm] at hyy
            obtain ⟨ha, hb⟩ := List.getElem?_eq_some_iff.1 hy'
            obtain ⟨hc, hd⟩ := List.getElem?_eq_some_iff.1 hyy
            have := (List.pairwise_iff_getElem.1 hr) jm (jm + 1) ha hc (by omega)
            rw [hb, hd] at this
            exact this
          obtain ⟨g2, off2, hg2, hc'⟩ := text_cell (HRD.out.below HJ.out.below) rfl (j := jm) (n := n') (by rw [List.getElem?_map, hy']; rfl)
          simp only [Option.some.injEq, Addr.mk.injEq, and_true] at hg2
          obtain ⟨rfl, rfl⟩ := hg2
          have HV2 : Hid (∀ W, Below wr.heap.size wr W → Calls Try.prog 23 #[.string n] W fun e w' => e = .returned (.bool true) ∧ (w'.cell? ⟨g, off + j, none⟩ = some (.string n) ∧ w'.cell? ⟨g, off + jm, none⟩ = some (.string n')) ∧ Hid (Below wr.heap.size wr w')) := Lib.hid fun W hW => by
            refine (HV.out W).mono fun e w' ⟨he, hb⟩ => ?_
            have hB := hW.trans (hb.mono hW.size)
            exact ⟨he, ⟨(hB.cell (p := ⟨g, off + j, none⟩) (World.block_lt_of_cell? wr _ hc)).trans hc, (hB.cell (p := ⟨g, off + jm, none⟩) (World.block_lt_of_cell? wr _ hc')).trans hc'⟩, Lib.hid hB⟩
          have t1 : (0 : Int) < (j : Int) := by omega
          have t2 : IntKind.i64.wrap ((j : Int) - 1) = (j : Int) - 1 := IntWalk.i64_in _ (by omega)
          have t3 : (0 : Int) ≤ (j : Int) - 1 := by omega
          have t4 : ((j : Int) - 1).toNat = jm := by omega
          have t5 : (j : Int) - 1 < (F.files.length : Int) := by omega
          have t6 : (1 : Int) ≤ (j : Int) := by omega
          have t0 : decide (0 < j) = true := decide_eq_true hj0
          unfold slt at hlt'
          clear hy' hjm hj0
          go_region_held3 (fun w' => w'.cell? ⟨g, off + j, none⟩ = some (.string n) ∧ w'.cell? ⟨g, off + jm, none⟩ = some (.string n'))
            (first
              | go_keep
              | exact s1)
            (first
              | (go_at_call 18; (with_reducible refine (r_numE _ _).mono ?_); rintro e w2 ⟨rfl, rfl⟩)
              | (go_at_call 23; (with_reducible refine (HV2.out _ ?_).mono ?_); exact hb1; rintro e w2 ⟨rfl, s1, HB⟩))
          obtain ⟨f1, f2⟩ := s1
          have HJ2 := Lib.hid (HJ.out.read HB.out)
          clear hc hc' hb1 t0 t1 t2 t3 t4 t5 t6 hlt' HV2 HV HB f2
          cases hp : Lib.hasPrefix n.data.toList front.data.toList with
          | false =>
            have HB9 : Hid (∀ W, Calls Try.prog 28 #[.string n, .string front] W fun e w' => e = .returned (.bool false) ∧ W = w') := Lib.hid fun W => by
              have := r_begins (w := W) n front (by have := okName_size HVN.out; omega) HZ.out
              rwa [hp] at this
            have HN := Lib.hid (HJ2.out.skip HY.out hp)
            clear hp
            go_wp2_with (first | (go_at_call 28; refine (HB9.out _).mono ?_; rintro e w' ⟨rfl, rfl⟩))
            go_roundw
            case rel => exact ⟨j + 1, _, by omega, by go_num, rfl, HQ2, HN⟩
            case measure => simp [intOf]; omega
          | true =>
            have HB9 : Hid (∀ W, Calls Try.prog 28 #[.string n, .string front] W fun e w' => e = .returned (.bool true) ∧ W = w') := Lib.hid fun W => by
              have := r_begins (w := W) n front (by have := okName_size HVN.out; omega) HZ.out
              rwa [hp] at this
            obtain ⟨v', w6, hrun, hN, _⟩ := HJ2.out.push HD4.out.ok HY.out hp
            have HN := Lib.hid hN
            clear hp hN
            go_wp2_with (first | (go_at_call 28; refine (HB9.out _).mono ?_; rintro e w' ⟨rfl, rfl⟩) | (at_builtin; refine wpList_append_run rfl (.tmp 87) (.tmp 92) 42 rfl _ _ rfl rfl _ _ hrun ?_))
            go_roundw
            case rel => exact ⟨j + 1, _, by omega, by go_num, rfl, HQ2, HN⟩
            case measure => simp [intOf]; omega
        · have hj0 : j = 0 := by omega
          subst hj0
          replace hc : wr.cell? ⟨g, off, none⟩ = some (.string n) := hc
          have HV2 : Hid (∀ W, Below wr.heap.size wr W → Calls Try.prog 23 #[.string n] W fun e w' => e = .returned (.bool true) ∧ (w'.cell? ⟨g, off, none⟩ = some (.string n)) ∧ Hid (Below wr.heap.size wr w')) := Lib.hid fun W hW => by
            refine (HV.out W).mono fun e w' ⟨he, hb⟩ => ?_
            have hB := hW.trans (hb.mono hW.size)
            exact ⟨he, (hB.cell (p := ⟨g, off, none⟩) (World.block_lt_of_cell? wr _ hc)).trans hc, Lib.hid hB⟩
          refine wp_region_held_drew (S := fun w' => w'.cell? ⟨g, off, none⟩ = some (.string n)) (by kernel_rfl) ?_ (fun hHeld => ?_)
          · go_keep
          refine wpAnyH_take (i := 0) (oi := { dst := some 51, op := Op.move (Operand.tmp 15), type := 29, pos := "more.go:80", after := #[], guard := none }) (v := ?vv0) rfl (by kernel_rfl) (by kernel_rfl) (by kernel_rfl) (fun _ _ _ h => h) (Or.inl ⟨by rfl, ?hy0⟩) (by assumption) ?rs0
          case hy0 => (intro w hSw; (try dsimp only at hSw); go_simp) <;> with_reducible rfl
          try simp only [Act.put, List.setIfInBounds_toArray, List.set_cons_zero, List.set_cons_succ]
          refine wpAnyH_ready (rs := [1]) (by kernel_rfl) (by simp) ?_
          refine AllReadyH.cons (o := { dst := some 52, op := Op.call { callee := Callee.value (Operand.func 18), args := #[Operand.tmp 51], argTypes := #[29] }, type := 3, pos := "more.go:80", after := #[{ on := 0, ground := Ground.data }], guard := none }) rfl (fun K hK => ?_) AllReadyH.nil
          go_simp
          go_at_call 18; (with_reducible refine (r_numE _ _).mono ?_); rintro e w2 ⟨rfl, rfl⟩
          go_wp2_with fail
          refine hK.out _ _ ?_ (fun hHeld => ?_)
          · assumption
          clear hK K
          try simp only [Act.put, List.setIfInBounds_toArray, List.set_cons_zero, List.set_cons_succ]
          refine wpAnyH_take (i := 2) (oi := { dst := some 53, op := Op.binOp BinOp.neq 3 (Operand.tmp 52) (Operand.const (Value.int IntKind.i64 0)) 3, type := 4, pos := "more.go:80", after := #[{ on := 1, ground := Ground.data }], guard := none }) (v := ?vv2) rfl (by kernel_rfl) (by kernel_rfl) (by kernel_rfl) (fun _ _ _ h => h) (Or.inl ⟨by rfl, ?hy2⟩) (by assumption) ?rs2
          case hy2 => (intro w hSw; (try dsimp only at hSw); go_simp) <;> with_reducible rfl
          try simp only [Act.put, List.setIfInBounds_toArray, List.set_cons_zero, List.set_cons_succ]
          refine wpAnyH_take (i := 3) (oi := { dst := some 54, op := Op.move (Operand.tmp 53), type := 4, pos := "more.go:80", after := #[{ on := 2, ground := Ground.data }, { on := 1, ground := Ground.chain }], guard := none }) (v := ?vv3) rfl (by kernel_rfl) (by kernel_rfl) (by kernel_rfl) (fun _ _ _ h => h) (Or.inl ⟨by rfl, ?hy3⟩) (by assumption) ?rs3
          case hy3 => (intro w hSw; (try dsimp only at hSw); go_simp) <;> with_reducible rfl
          try simp only [Act.put, List.setIfInBounds_toArray, List.set_cons_zero, List.set_cons_succ]
          refine wpAnyH_take (i := 4) (oi := { dst := some 55, op := Op.move (Operand.tmp 10), type := 42, pos := "more.go:80", after := #[{ on := 3, ground := Ground.guard }], guard := some (3, false) }) (v := ?vv4) rfl (by kernel_rfl) (by kernel_rfl) (by kernel_rfl) (fun _ _ _ h => h) (Or.inl ⟨by rfl, ?hy4⟩) (by assumption) ?rs4
          case hy4 => (intro w hSw; (try dsimp only at hSw); go_simp) <;> with_reducible rfl
          try simp only [Act.put, List.setIfInBounds_toArray, List.set_cons_zero, List.set_cons_succ]
          refine wpAnyH_take (i := 5) (oi := { dst := some 56, op := Op.move (Operand.tmp 13), type := 3, pos := "more.go:80", after := #[{ on := 3, ground := Ground.guard }], guard := some (3, false) }) (v := ?vv5) rfl (by kernel_rfl) (by kernel_rfl) (by kernel_rfl) (fun _ _ _ h => h) (Or.inl ⟨by rfl, ?hy5⟩) (by assumption) ?rs5
          case hy5 => (intro w hSw; (try dsimp only at hSw); go_simp) <;> with_reducible rfl
          try simp only [Act.put, List.setIfInBounds_toArray, List.set_cons_zero, List.set_cons_succ]
          refine wpAnyH_take (i := 6) (oi := { dst := some 57, op := Op.indexAddr 42 (Operand.tmp 55) (Operand.tmp 56), type := 0, pos := "more.go:80", after := #[{ on := 4, ground := Ground.data }, { on := 5, ground := Ground.data }, { on := 3, ground := Ground.guard }], guard := some (3, false) }) (v := ?vv6) rfl (by kernel_rfl) (by kernel_rfl) (by kernel_rfl) (fun _ _ _ h => h) (Or.inl ⟨by rfl, ?hy6⟩) (by assumption) ?rs6
          case hy6 => (intro w hSw; (try dsimp only at hSw); go_simp) <;> with_reducible rfl
          try simp only [Act.put, List.setIfInBounds_toArray, List.set_cons_zero, List.set_cons_succ]
          refine wpAnyH_take (i := 7) (oi := { dst := some 58, op := Op.load 9 (Operand.tmp 57), type := 9, pos := "more.go:80", after := #[{ on := 6, ground := Ground.data }, { on := 3, ground := Ground.guard }], guard := some (3, false) }) (v := ?vv7) rfl (by kernel_rfl) (by kernel_rfl) (by kernel_rfl) (fun _ _ _ h => h) (Or.inl ⟨by rfl, ?hy7⟩) (by assumption) ?rs7
          case hy7 => (intro w hSw; (try dsimp only at hSw); go_simp) <;> with_reducible rfl
          try simp only [Act.put, List.setIfInBounds_toArray, List.set_cons_zero, List.set_cons_succ]
          refine wpAnyH_ready (rs := [8]) (by kernel_rfl) (by simp) ?_
          refine AllReadyH.cons (o := { dst := some 59, op := Op.call { callee := Callee.value (Operand.func 23), args := #[Operand.tmp 58], argTypes := #[9] }, type := 4, pos := "more.go:80", after := #[{ on := 7, ground := Ground.data }, { on := 3, ground := Ground.chain }, { on := 3, ground := Ground.guard }], guard := some (3, false) }) rfl (fun K hK => ?_) AllReadyH.nil
          go_simp
          go_at_call 23; (with_reducible refine (HV2.out _ ?_).mono ?_); exact hb1; rintro e w2 ⟨rfl, f1, HB⟩
          go_wp2_with fail
          refine hK.out _ _ ?_ (fun hHeld => ?_)
          · exact f1
          clear hK K
          try simp only [Act.put, List.setIfInBounds_toArray, List.set_cons_zero, List.set_cons_succ]
          refine wpAnyH_take (i := 9) (oi := { dst := some 60, op := Op.unOp UnOp.not 4 (Operand.tmp 59), type := 4, pos := "more.go:80", after := #[{ on := 8, ground := Ground.data }, { on := 3, ground := Ground.guard }], guard := some (3, false) }) (v := ?vv9) rfl (by kernel_rfl) (by kernel_rfl) (by kernel_rfl) (fun _ _ _ h => h) (Or.inl ⟨by rfl, ?hy9⟩) (by assumption) ?rs9
          case hy9 => (intro w hSw; (try dsimp only at hSw); go_simp) <;> with_reducible rfl
          try simp only [Act.put, List.setIfInBounds_toArray, List.set_cons_zero, List.set_cons_succ]
          refine wpAnyH_take (i := 10) (oi := { dst := some 61, op := Op.pick (Operand.tmp 54) (Operand.const (Value.bool true)) (Operand.tmp 60), type := 4, pos := "more.go:80", after := #[{ on := 3, ground := Ground.data }, { on := 9, ground := Ground.data }], guard := none }) (v := ?vv10) rfl (by kernel_rfl) (by kernel_rfl) (by kernel_rfl) (fun _ _ _ h => h) (Or.inl ⟨by rfl, ?hy10⟩) (by assumption) ?rs10
          case hy10 => (intro w hSw; (try dsimp only at hSw); go_simp) <;> with_reducible rfl
          try simp only [Act.put, List.setIfInBounds_toArray, List.set_cons_zero, List.set_cons_succ]
          refine wpAnyH_take (i := 11) (oi := { dst := some 62, op := Op.move (Operand.tmp 61), type := 4, pos := "more.go:80", after := #[{ on := 10, ground := Ground.data }, { on := 8, ground := Ground.chain }], guard := none }) (v := ?vv11) rfl (by kernel_rfl) (by kernel_rfl) (by kernel_rfl) (fun _ _ _ h => h) (Or.inl ⟨by rfl, ?hy11⟩) (by assumption) ?rs11
          case hy11 => (intro w hSw; (try dsimp only at hSw); go_simp) <;> with_reducible rfl
          try simp only [Act.put, List.setIfInBounds_toArray, List.set_cons_zero, List.set_cons_succ]
          refine wpAnyH_take (i := 12) (oi := { dst := some 63, op := Op.move (Operand.tmp 13), type := 3, pos := "more.go:80", after := #[{ on := 11, ground := Ground.guard }], guard := some (11, false) }) (v := ?vv12) rfl (by kernel_rfl) (by kernel_rfl) (by kernel_rfl) (fun _ _ _ h => h) (Or.inl ⟨by rfl, ?hy12⟩) (by assumption) ?rs12
          case hy12 => (intro w hSw; (try dsimp only at hSw); go_simp) <;> with_reducible rfl
          try simp only [Act.put, List.setIfInBounds_toArray, List.set_cons_zero, List.set_cons_succ]
          refine wpAnyH_take (i := 13) (oi := { dst := some 64, op := Op.binOp BinOp.gtr 3 (Operand.tmp 63) (Operand.const (Value.int IntKind.i64 0)) 3, type := 4, pos := "more.go:80", after := #[{ on := 12, ground := Ground.data }, { on := 11, ground := Ground.guard }], guard := some (11, false) }) (v := ?vv13) rfl (by kernel_rfl) (by kernel_rfl) (by kernel_rfl) (fun _ _ _ h => h) (Or.inl ⟨by rfl, ?hy13⟩) (by assumption) ?rs13
          case hy13 => (intro w hSw; (try dsimp only at hSw); go_simp) <;> with_reducible rfl
          try simp only [Act.put, List.setIfInBounds_toArray, List.set_cons_zero, List.set_cons_succ]
          refine wpAnyH_take (i := 14) (oi := { dst := some 65, op := Op.move (Operand.tmp 64), type := 4, pos := "more.go:80", after := #[{ on := 13, ground := Ground.data }, { on := 11, ground := Ground.chain }, { on := 11, ground := Ground.guard }], guard := some (11, false) }) (v := ?vv14) rfl (by kernel_rfl) (by kernel_rfl) (by kernel_rfl) (fun _ _ _ h => h) (Or.inl ⟨by rfl, ?hy14⟩) (by assumption) ?rs14
          case hy14 => (intro w hSw; (try dsimp only at hSw); go_simp) <;> with_reducible rfl
          try simp only [Act.put, List.setIfInBounds_toArray, List.set_cons_zero, List.set_cons_succ]
          refine wpAnyH_take (i := 15) (oi := { dst := some 66, op := Op.move (Operand.tmp 10), type := 42, pos := "more.go:80", after := #[{ on := 14, ground := Ground.guard }], guard := some (14, true) }) (v := undef) rfl (by kernel_rfl) (by kernel_rfl) (by kernel_rfl) (fun _ _ _ h => h) (Or.inr ⟨by rfl, rfl⟩) (by assumption) ?_
          try simp only [Act.put, List.setIfInBounds_toArray, List.set_cons_zero, List.set_cons_succ]
          refine wpAnyH_take (i := 16) (oi := { dst := some 67, op := Op.move (Operand.tmp 13), type := 3, pos := "more.go:80", after := #[{ on := 14, ground := Ground.guard }], guard := some (14, true) }) (v := undef) rfl (by kernel_rfl) (by kernel_rfl) (by kernel_rfl) (fun _ _ _ h => h) (Or.inr ⟨by rfl, rfl⟩) (by assumption) ?_
          try simp only [Act.put, List.setIfInBounds_toArray, List.set_cons_zero, List.set_cons_succ]
          refine wpAnyH_take (i := 17) (oi := { dst := some 68, op := Op.binOp BinOp.sub 3 (Operand.tmp 67) (Operand.const (Value.int IntKind.i64 1)) 3, type := 3, pos := "more.go:80", after := #[{ on := 16, ground := Ground.data }, { on := 14, ground := Ground.guard }], guard := some (14, true) }) (v := undef) rfl (by kernel_rfl) (by kernel_rfl) (by kernel_rfl) (fun _ _ _ h => h) (Or.inr ⟨by rfl, rfl⟩) (by assumption) ?_
          try simp only [Act.put, List.setIfInBounds_toArray, List.set_cons_zero, List.set_cons_succ]
          refine wpAnyH_take (i := 18) (oi := { dst := some 69, op := Op.indexAddr 42 (Operand.tmp 66) (Operand.tmp 68), type := 0, pos := "more.go:80", after := #[{ on := 15, ground := Ground.data }, { on := 17, ground := Ground.data }, { on := 14, ground := Ground.guard }], guard := some (14, true) }) (v := undef) rfl (by kernel_rfl) (by kernel_rfl) (by kernel_rfl) (fun _ _ _ h => h) (Or.inr ⟨by rfl, rfl⟩) (by assumption) ?_
          try simp only [Act.put, List.setIfInBounds_toArray, List.set_cons_zero, List.set_cons_succ]
          refine wpAnyH_take (i := 19) (oi := { dst := some 70, op := Op.load 9 (Operand.tmp 69), type := 9, pos := "more.go:80", after := #[{ on := 18, ground := Ground.data }, { on := 14, ground := Ground.guard }], guard := some (14, true) }) (v := undef) rfl (by kernel_rfl) (by kernel_rfl) (by kernel_rfl) (fun _ _ _ h => h) (Or.inr ⟨by rfl, rfl⟩) (by assumption) ?_
          try simp only [Act.put, List.setIfInBounds_toArray, List.set_cons_zero, List.set_cons_succ]
          refine wpAnyH_take (i := 20) (oi := { dst := some 71, op := Op.move (Operand.tmp 10), type := 42, pos := "more.go:80", after := #[{ on := 14, ground := Ground.guard }], guard := some (14, true) }) (v := undef) rfl (by kernel_rfl) (by kernel_rfl) (by kernel_rfl) (fun _ _ _ h => h) (Or.inr ⟨by rfl, rfl⟩) (by assumption) ?_
          try simp only [Act.put, List.setIfInBounds_toArray, List.set_cons_zero, List.set_cons_succ]
          refine wpAnyH_take (i := 21) (oi := { dst := some 72, op := Op.move (Operand.tmp 13), type := 3, pos := "more.go:80", after := #[{ on := 14, ground := Ground.guard }], guard := some (14, true) }) (v := undef) rfl (by kernel_rfl) (by kernel_rfl) (by kernel_rfl) (fun _ _ _ h => h) (Or.inr ⟨by rfl, rfl⟩) (by assumption) ?_
          try simp only [Act.put, List.setIfInBounds_toArray, List.set_cons_zero, List.set_cons_succ]
          refine wpAnyH_take (i := 22) (oi := { dst := some 73, op := Op.indexAddr 42 (Operand.tmp 71) (Operand.tmp 72), type := 0, pos := "more.go:80", after := #[{ on := 20, ground := Ground.data }, { on := 21, ground := Ground.data }, { on := 14, ground := Ground.guard }], guard := some (14, true) }) (v := undef) rfl (by kernel_rfl) (by kernel_rfl) (by kernel_rfl) (fun _ _ _ h => h) (Or.inr ⟨by rfl, rfl⟩) (by assumption) ?_
          try simp only [Act.put, List.setIfInBounds_toArray, List.set_cons_zero, List.set_cons_succ]
          refine wpAnyH_take (i := 23) (oi := { dst := some 74, op := Op.load 9 (Operand.tmp 73), type := 9, pos := "more.go:80", after := #[{ on := 22, ground := Ground.data }, { on := 14, ground := Ground.guard }], guard := some (14, true) }) (v := undef) rfl (by kernel_rfl) (by kernel_rfl) (by kernel_rfl) (fun _ _ _ h => h) (Or.inr ⟨by rfl, rfl⟩) (by assumption) ?_
          try simp only [Act.put, List.setIfInBounds_toArray, List.set_cons_zero, List.set_cons_succ]
          refine wpAnyH_take (i := 24) (oi := { dst := some 75, op := Op.binOp BinOp.geq 9 (Operand.tmp 70) (Operand.tmp 74) 9, type := 4, pos := "more.go:80", after := #[{ on := 19, ground := Ground.data }, { on := 23, ground := Ground.data }, { on := 14, ground := Ground.guard }], guard := some (14, true) }) (v := undef) rfl (by kernel_rfl) (by kernel_rfl) (by kernel_rfl) (fun _ _ _ h => h) (Or.inr ⟨by rfl, rfl⟩) (by assumption) ?_
          try simp only [Act.put, List.setIfInBounds_toArray, List.set_cons_zero, List.set_cons_succ]
          refine wpAnyH_take (i := 25) (oi := { dst := some 76, op := Op.pick (Operand.tmp 65) (Operand.tmp 75) (Operand.const (Value.bool false)), type := 4, pos := "more.go:80", after := #[{ on := 14, ground := Ground.data }, { on := 24, ground := Ground.data }, { on := 11, ground := Ground.guard }], guard := some (11, false) }) (v := ?vv25) rfl (by kernel_rfl) (by kernel_rfl) (by kernel_rfl) (fun _ _ _ h => h) (Or.inl ⟨by rfl, ?hy25⟩) (by assumption) ?rs25
          case hy25 => (intro w hSw; (try dsimp only at hSw); go_simp) <;> with_reducible rfl
          try simp only [Act.put, List.setIfInBounds_toArray, List.set_cons_zero, List.set_cons_succ]
          refine wpAnyH_take (i := 26) (oi := { dst := some 77, op := Op.pick (Operand.tmp 62) (Operand.const (Value.bool true)) (Operand.tmp 76), type := 4, pos := "more.go:80", after := #[{ on := 11, ground := Ground.data }, { on := 25, ground := Ground.data }], guard := none }) (v := ?vv26) rfl (by kernel_rfl) (by kernel_rfl) (by kernel_rfl) (fun _ _ _ h => h) (Or.inl ⟨by rfl, ?hy26⟩) (by assumption) ?rs26
          case hy26 => (intro w hSw; (try dsimp only at hSw); go_simp) <;> with_reducible rfl
          try simp only [Act.put, List.setIfInBounds_toArray, List.set_cons_zero, List.set_cons_succ]
          refine wpAnyH_done (by kernel_rfl) ?_ _
          have HJ2 := Lib.hid (HJ.out.read HB.out)
          clear hc hb1 HV2 HV HB
          cases hp : Lib.hasPrefix n.data.toList front.data.toList with
          | false =>
            have HB9 : Hid (∀ W, Calls Try.prog 28 #[.string n, .string front] W fun e w' => e = .returned (.bool false) ∧ W = w') := Lib.hid fun W => by
              have := r_begins (w := W) n front (by have := okName_size HVN.out; omega) HZ.out
              rwa [hp] at this
            have HN := Lib.hid (HJ2.out.skip HY.out hp)
            clear hp
            go_wp2_with (first | (go_at_call 28; refine (HB9.out _).mono ?_; rintro e w' ⟨rfl, rfl⟩))
            go_roundw
            case rel => exact ⟨0 + 1, _, by omega, by go_num, rfl, HQ2, HN⟩
            case measure => simp [intOf]; omega
          | true =>
            have HB9 : Hid (∀ W, Calls Try.prog 28 #[.string n, .string front] W fun e w' => e = .returned (.bool true) ∧ W = w') := Lib.hid fun W => by
              have := r_begins (w := W) n front (by have := okName_size HVN.out; omega) HZ.out
              rwa [hp] at this
            obtain ⟨v', w6, hrun, hN, _⟩ := HJ2.out.push HD4.out.ok HY.out hp
            have HN := Lib.hid hN
            clear hp hN
            go_wp2_with (first | (go_at_call 28; refine (HB9.out _).mono ?_; rintro e w' ⟨rfl, rfl⟩) | (at_builtin; refine wpList_append_run rfl (.tmp 87) (.tmp 92) 42 rfl _ _ rfl rfl _ _ hrun ?_))
            go_roundw
            case rel => exact ⟨0 + 1, _, by omega, by go_num, rfl, HQ2, HN⟩
            case measure => simp [intOf]; omega
      · have k2 : ¬ (j : Int) < (F.files.length : Int) := by omega
        have hjl : j = F.files.length := by omega
        subst hjl
        obtain rfl : q = F.used := by
          have h1 := HQ.out
          rw [List.take_length] at h1
          rw [h1, ← HU.out.1]
        have HSL : Hid (SlAt textKind 9 wr u11 (namesL front F.files)) := Lib.hid (by have := HJ.out.sl; rwa [List.take_length] at this)
        have HNW := Lib.hid HJ.out.new
        have hnl : (namesL front F.files).length ≤ 400 := by
          have := namesL_len (front := front) (j := F.files.length) HD4.out.ok
          rwa [List.take_length] at this
        have HDW := Lib.hid (HD4.out.read HJ.out.below)
        clear HQ HJ
        go_wp2_with (first | (go_at_call 16; refine (d_used HDW.out).mono ?_; rintro e w' ⟨rfl, rfl⟩) | (go_at_call 26; refine (s_names HDW.out.fs HDW.out.ok front).mono ?_; rintro e w7 ⟨ta, tc, rfl, ht⟩; have HT := Lib.hid ht; clear ht) | (go_at_call 29; refine (r_sameTexts HT.out.sl.rd (HSL.out.below HT.out.below).rd (by omega)).mono ?_; rintro e w8 ⟨rfl, hb⟩; have HE := Lib.hid (((HDW.out.read HT.out.below).read hb).below); clear hb))
        go_ret
        exact TruePost.hid HB0 HE.out
end
end Go.Proofs.Ytmfiibehclbnjaa
