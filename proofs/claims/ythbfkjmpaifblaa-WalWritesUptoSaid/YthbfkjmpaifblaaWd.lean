/- The walks of the segments' names: SegmentName, Name, number. -/
import Derived.Test.YthbfkjmpaifblaaFsHd
import Derived.Test.YthbfkjmpaifblaaWa
import Derived.Test.YthbfkjmpaifblaaWp1
namespace Go.Proofs.Ythbfkjmpaifblaa
open Go.RowKit Go.Shelf

theorem digit_val (m : Nat) : ((UInt8.ofNat (48 + m % 10)).toNat : Int) = 48 + (m : Int) % 10 := by rw [UInt8.toNat_ofNat']; omega
theorem digit_mod (m : Nat) : (48 + (m : Int) % 10) % 256 = 48 + (m : Int) % 10 := by omega
theorem bytes_add (a b : List UInt8) : (⟨a.toArray⟩ : ByteArray) ++ ⟨b.toArray⟩ = ⟨(a ++ b).toArray⟩ := by
  apply ByteArray.ext
  simp
theorem bytes_eta (a : ByteArray) : (⟨a.data.toList.toArray⟩ : ByteArray) = a := by cases a; rfl
/-- The digits laid so far. -/
structure NameI (w : World) (n k m : Nat) (wr : World) : Prop where
  ex : ∃ zs, digs k m ++ zs = digs 8 n ∧ IsBlk wr w.heap.size (List.replicate k (Value.int .u8 0) ++ zs.map fun x => Value.int .u8 (x.toNat : Int)).toArray 73
  below : Below w.heap.size w wr
theorem NameI.next {w wr : World} {n k m : Nat} (h : NameI w n (k + 1) m wr) : wr.cell? ⟨w.heap.size, k, none⟩ = some (.int .u8 0) ∧ wr.frozen? ⟨w.heap.size, k, none⟩ = false ∧
    NameI w n k (m / 10) (wr.setCell ⟨w.heap.size, k, none⟩ (.int .u8 (48 + (m : Int) % 10))) := by
  obtain ⟨zs, he, hb⟩ := h.ex
  refine ⟨?_, blk_free hb k, ⟨⟨UInt8.ofNat (48 + m % 10) :: zs, by rw [← he]; simp [digs], ?_⟩, h.below.setCell (p := ⟨w.heap.size, k, none⟩) (Nat.le_refl _) _⟩⟩
  · rw [blk_cell hb k]
    simp [List.getElem?_append_left]
  · have := blk_set hb k (.int .u8 (48 + (m : Int) % 10))
    have e : (List.replicate (k + 1) (Value.int .u8 0) ++ zs.map fun x => Value.int .u8 (x.toNat : Int)).toArray.setIfInBounds k (.int .u8 (48 + (m : Int) % 10)) = (List.replicate k (Value.int .u8 0) ++ (UInt8.ofNat (48 + m % 10) :: zs).map fun x => Value.int .u8 (x.toNat : Int)).toArray := by
      apply Array.ext'
      simp only [List.setIfInBounds_toArray, List.map_cons, digit_val]
      rw [List.replicate_succ', List.append_assoc, List.set_append_right _ _ (by simp)]
      simp
    rw [← e]; exact this
theorem NameI.text {w wr : World} {n m : Nat} (h : NameI w n 0 m wr) : (convert 22 9 (.slice (some ⟨w.heap.size, 0, none⟩) 8 8)).run Try.prog wr = .ok (.string ⟨(digs 8 n).toArray⟩) wr := by
  obtain ⟨zs, he, hb⟩ := h.ex
  obtain rfl : zs = digs 8 n := he
  have hl := digs_len 8 n
  generalize digs 8 n = l at hb hl ⊢
  have h1 : RdAt byteKind wr (.slice (some ⟨w.heap.size, 0, none⟩) l.length 8) l := by
    refine ⟨_, 8, rfl, fun j x hx => ⟨w.heap.size, 0, rfl, fun i hi => ?_⟩⟩
    have hi0 : i = 0 := by have : i < 1 := hi; omega
    subst hi0
    refine (blk_cell hb _).trans ?_
    show _ = some (Value.int .u8 (x.toNat : Int))
    have e : byteKind.size = 1 := rfl
    simp [e, hx]
  have := run_text h1
  rwa [hl] at this
theorem segName_add (dir : ByteArray) (n : Nat) : dir ++ (⟨#[47]⟩ : ByteArray) ++ ⟨(digs 8 n).toArray⟩ = segName dir n := by
  apply ByteArray.ext
  apply Array.ext'
  simp [segName]
theorem segName_size (dir : ByteArray) (n : Nat) : (segName dir n).size = dir.size + 9 := by
  show (dir.data.toList ++ 47 :: digs 8 n).toArray.size = _
  rw [List.size_toArray, List.length_append, List.length_cons, digs_len]
  rfl
set_option maxRecDepth 100000 in
set_option maxHeartbeats 1000000 in
theorem w_name (w : World) (dir : ByteArray) (hd : dir.size ≤ 100000) (n : Nat) (hn : n < 100000000) :
    Calls Try.prog 21 #[.string dir, .int .i64 (n : Int)] w fun e w' => e = .returned (.string (segName dir n)) ∧ Below w.heap.size w w' := by
  have h0 : Hid (NameI w n 8 n (w.alloc (.cells (List.replicate 8 (Value.int .u8 0)).toArray 73))) := Lib.hid ⟨⟨[], by simp, blk_new w _⟩, (Below.refl _ _).alloc (Nat.le_refl _) _⟩
  go_enter Try.func21, Try.ntmps21
  go_wp2_with (fail)
  go_loopw [1, 6] (fun c i wr => ∃ k m : Nat, k ≤ 8 ∧ i = .int .i64 ((k : Int) - 1) ∧ c = .int .i64 (m : Int) ∧ Hid (m ≤ n) ∧ Hid (NameI w n k m wr)) (fun _ i => fun _ => (intOf i + 1).toNat)
  case atStart => exact ⟨8, n, Nat.le_refl _, rfl, rfl, Lib.hid (Nat.le_refl _), h0⟩
  case round =>
    obtain ⟨k, m, hk, rfl, rfl, HM, HI⟩ := hrel
    cases k with
    | succ k =>
      obtain ⟨hc, hf, hi⟩ := HI.out.next
      have HI2 := Lib.hid hi
      clear hi
      have hm0 : (0 : Int) ≤ (m : Int) := by omega
      have hm1 : (m : Int) < 100000000 := by have := HM.out; omega
      have hdm := digit_mod m
      have hk0 : (0 : Int) ≤ (k : Int) := by omega
      have hk1 : (k : Int) < 8 := by omega
      go_wp2_with (fail)
      go_roundw
      case rel => exact ⟨k, m / 10, by omega, rfl, rfl, Lib.hid (by have := HM.out; omega), HI2⟩
      case measure => simp [intOf]
    | zero =>
      have hcv := HI.out.text
      have hs1 : ((dir ++ (⟨#[47]⟩ : ByteArray)).size : Int) ≤ 8388608 := by rw [ByteArray.size_append]; show ((dir.size + 1 : Nat) : Int) ≤ _; omega
      have hs2 : ((⟨(digs 8 n).toArray⟩ : ByteArray).size : Int) ≤ 8388608 := by show ((digs 8 n).toArray.size : Int) ≤ _; rw [List.size_toArray, digs_len]; omega
      have he := segName_add dir n
      go_wp2_with (fail)
      go_ret
      exact ⟨rfl, HI.out.below⟩
set_option maxRecDepth 100000 in
set_option maxHeartbeats 1000000 in
theorem h_name (w : World) (dir : ByteArray) (hd : dir.size ≤ 100000) (n : Nat) (hn : n < 100000000) :
    Calls Try.prog 22 #[.string dir, .int .i64 (n : Int)] w fun e w' => e = .returned (.string (segName dir n)) ∧ Below w.heap.size w w' := by
  go_enter Try.func22, Try.ntmps22
  go_wp2_with (fail)
  go_loopw [1, 5, 6] (fun c s i wr => ∃ (k m : Nat) (zs : List UInt8), k ≤ 8 ∧ i = .int .i64 (8 - (k : Int)) ∧ c = .int .i64 (m : Int) ∧ s = .string ⟨zs.toArray⟩ ∧ Hid (m ≤ n) ∧ Hid (digs k m ++ zs = digs 8 n) ∧ Hid (Below w.heap.size w wr)) (fun _ _ i _ => (8 - intOf i).toNat)
  case atStart => exact ⟨8, n, [], Nat.le_refl _, rfl, rfl, rfl, Lib.hid (Nat.le_refl _), Lib.hid (List.append_nil _), Lib.hid (Below.refl _ _)⟩
  case round =>
    obtain ⟨k, m, zs, hk, rfl, rfl, rfl, HM, HZ, HB⟩ := hrel
    have hzl : k + zs.length = 8 := by have := congrArg List.length HZ.out; rwa [List.length_append, digs_len, digs_len] at this
    cases k with
    | succ k =>
      have hm0 : (0 : Int) ≤ (m : Int) := by omega
      have hdm := digit_mod m
      have hk1 : (8 : Int) - ((k + 1 : Nat) : Int) < 8 := by omega
      have hcv : (convert 22 9 (.slice (some ⟨wr.heap.size, 0, none⟩) 1 1)).run Try.prog (wr.alloc (.cells #[.int .u8 (48 + (m : Int) % 10)] 5)) = .ok (.string ⟨#[UInt8.ofNat (48 + m % 10)]⟩) (wr.alloc (.cells #[.int .u8 (48 + (m : Int) % 10)] 5)) := by
        have h1 : RdAt byteKind (wr.alloc (.cells #[.int .u8 ((UInt8.ofNat (48 + m % 10)).toNat : Int)] 5)) (.slice (some ⟨wr.heap.size, 0, none⟩) [UInt8.ofNat (48 + m % 10)].length 1) [UInt8.ofNat (48 + m % 10)] := one_byte wr (UInt8.ofNat (48 + m % 10))
        have := run_text h1
        rwa [digit_val] at this
      have hs1 : ((⟨#[UInt8.ofNat (48 + m % 10)]⟩ : ByteArray).size : Int) ≤ 8388608 := by show ((1 : Nat) : Int) ≤ _; omega
      have hd1 : Hid (∀ l : List UInt8, (⟨#[UInt8.ofNat (48 + m % 10)]⟩ : ByteArray) ++ ⟨l.toArray⟩ = ⟨(UInt8.ofNat (48 + m % 10) :: l).toArray⟩) := Lib.hid fun l => bytes_add [_] l
      generalize (⟨#[UInt8.ofNat (48 + m % 10)]⟩ : ByteArray) = d at hcv hs1 hd1
      have hs2 : ((⟨zs.toArray⟩ : ByteArray).size : Int) ≤ 8388608 := by show (zs.toArray.size : Int) ≤ _; rw [List.size_toArray]; omega
      have HB2 : Hid (Below w.heap.size w (wr.alloc (.cells #[.int .u8 (48 + (m : Int) % 10)] 5))) := Lib.hid (HB.out.alloc HB.out.size _)
      clear hzl
      go_wp2_with (fail)
      go_roundw
      case rel => exact ⟨k, m / 10, UInt8.ofNat (48 + m % 10) :: zs, by omega, by go_num, by rw [IntWalk.wrap64_in _ (by have := HM.out; omega)]; rfl, by rw [hd1.out], Lib.hid (by have := HM.out; omega), Lib.hid (by rw [← HZ.out]; simp [digs]), HB2⟩
      case measure => simp [intOf]; omega
    | zero =>
      have HZ2 : Hid (zs = digs 8 n) := Lib.hid HZ.out
      have hs1 : ((dir ++ (⟨#[47]⟩ : ByteArray)).size : Int) ≤ 8388608 := by rw [ByteArray.size_append]; show ((dir.size + 1 : Nat) : Int) ≤ _; omega
      have hs2 : ((⟨zs.toArray⟩ : ByteArray).size : Int) ≤ 8388608 := by show (zs.toArray.size : Int) ≤ _; rw [List.size_toArray]; omega
      obtain rfl := HZ2.out
      have he := segName_add dir n
      clear hzl
      go_wp2_with (fail)
      go_ret
      exact ⟨rfl, HB.out⟩
end Go.Proofs.Ythbfkjmpaifblaa
/- The walk of number. -/
namespace Go.Proofs.Ythbfkjmpaifblaa
open Go.RowKit Go.Shelf

theorem dirOf_add (dir : ByteArray) : dir ++ (⟨#[47]⟩ : ByteArray) = dirOf dir := by
  apply ByteArray.ext
  apply Array.ext'
  simp [dirOf]
theorem str_at (s : ByteArray) {k : Nat} (h : k < s.size) : s.data.toList[k]? = some s[k] := by
  have : k < s.data.toList.length := h
  rw [List.getElem?_eq_getElem this]
  rfl
theorem numDigs_take {l : List UInt8} {k : Nat} {x : UInt8} (h : l[k]? = some x) : numDigs (l.take (k + 1)) = 10 * numDigs (l.take k) + (x.toNat - 48) := by
  rw [List.take_add_one, h]; exact numDigs_snoc _ _
set_option maxRecDepth 100000 in
set_option maxHeartbeats 2000000 in
theorem w_number (w : World) (dir name : ByteArray) (hd : dir.size ≤ 100000) :
    Calls Try.prog 54 #[.string dir, .string name] w fun e w' => e = .returned (.int .i64 (segNum dir name : Int)) ∧ w = w' := by
  have he := dirOf_add dir
  have hd2 : (dir.size : Int) ≤ 100000 := by omega
  have HC := Lib.hid ((Try.strings_CutPrefix name (dirOf dir) w).mono fun _ _ (h : _ ∧ _) => And.intro h.1 h.2.symm)
  cases hp : Lib.hasPrefix name.data.toList (dirOf dir).data.toList with
  | false =>
    have HN : Hid (segNum dir name = 0) := Lib.hid (by unfold segNum; rw [hp, if_neg (by simp)])
    rw [hp] at HC
    clear hp
    go_enter Try.func54, Try.ntmps54
    go_wp2_with (fail)
    refine HC.out.mono ?_
    rintro e w' ⟨rfl, rfl⟩
    go_wp2_with (fail)
    go_ret
    rw [HN.out]
    exact ⟨rfl, rfl⟩
  | true =>
    obtain ⟨s, hs⟩ : ∃ s : ByteArray, s = ⟨(Lib.trimPrefix name.data.toList (dirOf dir).data.toList).toArray⟩ := ⟨_, rfl⟩
    have HN : Hid (segNum dir name = numTail s.data.toList) := Lib.hid (by
      unfold segNum
      rw [hp, if_pos rfl, hs]
      unfold Lib.trimPrefix
      rw [hp, if_pos rfl, dirOf_list, List.length_append, List.length_singleton])
    rw [hp, ← hs] at HC
    clear hp hs
    by_cases h8 : s.size = 8
    · have h8' : (s.size : Int) = 8 := by omega
      have hl8 : s.data.toList.length = 8 := h8
      go_enter Try.func54, Try.ntmps54
      go_wp2_with (fail)
      refine HC.out.mono ?_
      rintro e w' ⟨rfl, rfl⟩
      go_wp2_with (fail)
      go_loopw [7, 23] (fun c i wr => ∃ k : Nat, k ≤ 8 ∧ i = .int .i64 (k : Int) ∧ c = .int .i64 (numDigs (s.data.toList.take k) : Int) ∧ Hid ((s.data.toList.take k).all isDig = true) ∧ wr = w) (fun _ i _ => (8 - intOf i).toNat)
      case atStart => exact ⟨0, Nat.zero_le _, rfl, rfl, Lib.hid rfl, rfl⟩
      case round =>
        obtain ⟨k, hk, rfl, rfl, HA, rfl⟩ := hrel
        by_cases hlt : k < 8
        · have hks : k < s.size := by omega
          have hx := str_at s hks
          have HT := Lib.hid (numDigs_take hx)
          have HX := Lib.hid hx
          have hk0 : (0 : Int) ≤ (k : Int) := by omega
          have hk1 : (k : Int) < 8 := by omega
          have hk2 : (k : Int) < (s.size : Int) := by omega
          clear hx
          have HBAD : Hid (isDig s[k] = false → segNum dir name = 0) := Lib.hid (fun hb => by
            rw [HN.out]
            unfold numTail
            rw [if_neg]
            rintro ⟨_, h2⟩
            have := List.all_eq_true.1 h2 _ (List.mem_of_getElem? HX.out)
            rw [hb] at this; cases this)
          go_wp2_with (fail)
          · rename_i h1 h2
            go_ret
            rw [HBAD.out (by unfold isDig; simp; omega)]
            exact ⟨rfl, rfl⟩
          · rename_i h1 h2
            have hlt2 : numDigs (s.data.toList.take k) < 10 ^ 8 := by
              have h3 := numDigs_lt _ HA.out
              have h4 : 10 ^ (s.data.toList.take k).length ≤ 10 ^ 8 := Nat.pow_le_pow_right (by omega) (by rw [List.length_take]; omega)
              omega
            have HD : Hid (isDig s[k] = true) := Lib.hid (by unfold isDig; simp; omega)
            have HE : Hid (wrap64 (wrap64 (10 * (numDigs (s.data.toList.take k) : Int)) + ((s[k].toNat : Int) - 48)) = (numDigs (s.data.toList.take (k + 1)) : Int)) := Lib.hid (by
              rw [HT.out, IntWalk.wrap64_in (10 * _) (by omega), IntWalk.wrap64_in _ (by omega)]
              omega)
            have HA2 : Hid ((s.data.toList.take (k + 1)).all isDig = true) := Lib.hid (by
              rw [List.take_add_one, HX.out, List.all_append, HA.out]
              simp [HD.out])
            clear hlt2
            go_roundw
            case rel => exact ⟨k + 1, by omega, by go_num, by rw [HE.out], HA2, trivial⟩
            case measure => simp [intOf]; omega
          · rename_i h1
            go_ret
            rw [HBAD.out (by unfold isDig; simp; omega)]
            exact ⟨rfl, rfl⟩
        · obtain rfl : k = 8 := by omega
          have HE : Hid (segNum dir name = numDigs (s.data.toList.take 8)) := Lib.hid (by
            have e : s.data.toList.take 8 = s.data.toList := List.take_of_length_le (by omega)
            have ha := HA.out
            rw [e] at ha ⊢
            rw [HN.out]
            unfold numTail
            rw [if_pos ⟨hl8, ha⟩])
          go_wp2_with (fail)
          go_ret
          rw [HE.out]
          exact ⟨rfl, rfl⟩
    · have h8' : ((s.size : Int) != 8) = true := by rw [bne_iff_ne]; omega
      have HE : Hid (segNum dir name = 0) := Lib.hid (by
        rw [HN.out]
        unfold numTail
        rw [if_neg]
        rintro ⟨h1, _⟩
        exact h8 h1)
      clear h8
      go_enter Try.func54, Try.ntmps54
      go_wp2_with (fail)
      refine HC.out.mono ?_
      rintro e w' ⟨rfl, rfl⟩
      go_wp2_with (fail)
      go_ret
      rw [HE.out]
      exact ⟨rfl, rfl⟩
end Go.Proofs.Ythbfkjmpaifblaa
/- The walks of what is copied, lent and kept; of lists that are the same. -/
namespace Go.Proofs.Ythbfkjmpaifblaa
open Go.RowKit Go.Shelf

section
variable {w w' : World}
set_option maxRecDepth 100000 in
set_option maxHeartbeats 1000000 in
theorem g_bytes {a : Option Addr} {cap : Nat} {ys : List UInt8} (hu : RdAt byteKind w (.slice a ys.length cap) ys) (hn : ys.length ≤ 1000000000) :
    Calls Try.prog 48 #[.slice a ys.length cap] w fun e w' => ∃ va vc, e = .returned (.slice va ys.length vc) ∧ FreshAt w w' (.slice va ys.length vc) ys := by
  have hk1 : Below w.heap.size w (w.alloc (.cells #[] 5)) := (Below.refl _ _).alloc (Nat.le_refl _) _
  have hs1 : SlAt byteKind 5 (w.alloc (.cells #[] 5)) (.slice (some ⟨w.heap.size, 0, none⟩) 0 0) ([] : List UInt8) := .inr ⟨w.heap.size, 0, 0, #[], rfl, heap_alloc_new w _, Nat.le_refl _, Nat.zero_le _, by simp, fun j hj => by simp at hj⟩
  obtain ⟨v', w2, hrun, hs2, hk2, ho2, _⟩ := append_bytes hs1 (hu.below hk1) (by simp; omega) 22
  have HF : Hid (FreshAt w w2 v' ys) := Lib.hid ⟨hs2, fun k hk => by
    rcases ho2 k hk with e | e
    · simp [Value.ownBlock] at e; omega
    · exact Nat.le_trans hk1.size e, below_keeps hk1 hk2 (fun i e => by simp [Value.ownBlock] at e; omega) hk1.size⟩
  clear hs1 hk1 hs2 hk2 ho2 hu
  have hn' : (ys.length : Int) ≤ 1000000000 := by omega
  go_enter Try.func48, Try.ntmps48
  go_wp2_with (at_builtin; refine wpList_append_run rfl (.tmp 3) (.tmp 4) 22 rfl _ _ rfl rfl _ _ hrun ?_)
  go_ret
  obtain ⟨va, vc, hv⟩ := HF.out.sl.shape
  subst hv
  exact ⟨va, vc, rfl, HF.out⟩
/-- Bytes lent, with one more behind them. -/
structure LentAt (w w' : World) (g off cap : Nat) (ys : List UInt8) : Prop where
  sl : SlAt byteKind 5 w' (.slice (some ⟨g, off, none⟩) (ys.length + 1) cap) (ys ++ [201])
  new : w.heap.size ≤ g
  below : Below w.heap.size w w'
theorem LentAt.room {g off cap : Nat} {ys : List UInt8} (h : SlAt byteKind 5 w' (.slice (some ⟨g, off, none⟩) (ys.length + 1) cap) (ys ++ [201])) : ys.length + 1 ≤ cap ∧ cap ≤ 9223372036854775807 ∧ ∃ cur, IsBlk w' g cur 5 ∧ ∀ j, j < ys.length + 1 → w'.cell? ⟨g, off + j, none⟩ = ((ys ++ [201])[j]?.map fun b => Value.int .u8 (b.toNat : Int)) := by
  have hl : (ys ++ [(201 : UInt8)]).length = ys.length + 1 := by simp
  rw [← hl] at h
  obtain ⟨h1, h2, _⟩ := h.room
  rw [hl] at h1
  refine ⟨h1, h2, ?_⟩
  obtain ⟨cur, hb⟩ := h.own g rfl
  refine ⟨cur, hb, fun j hj => ?_⟩
  obtain ⟨a, c, e, hr⟩ := h.rd
  simp only [Value.slice.injEq, true_and] at e
  obtain ⟨rfl, rfl⟩ := e
  obtain ⟨y, hy⟩ : ∃ y, (ys ++ [(201 : UInt8)])[j]? = some y := ⟨_, List.getElem?_eq_getElem (by rw [hl]; exact hj)⟩
  obtain ⟨g2, off2, ha, hc⟩ := hr j y hy
  simp only [Option.some.injEq, Addr.mk.injEq, and_true] at ha
  obtain ⟨rfl, rfl⟩ := ha
  have := hc 0 (by decide)
  rw [hy]
  simpa [byteKind] using this
set_option maxRecDepth 100000 in
set_option maxHeartbeats 2000000 in
theorem r_lent {a : Option Addr} {c : Nat} {ys : List UInt8} (hu : RdAt byteKind w (.slice a ys.length c) ys) (hn : ys.length ≤ 100000000) :
    Calls Try.prog 12 #[.slice a ys.length c] w fun e w' => ∃ g off cap, e = .returned (.slice (some ⟨g, off, none⟩) ys.length cap) ∧ LentAt w w' g off cap ys := by
  have HB := Lib.hid (g_bytes hu (by omega))
  have hn' : (ys.length : Int) ≤ 100000000 := by omega
  clear hu
  go_enter Try.func12, Try.ntmps12
  go_wp2_with (fail)
  refine HB.out.mono ?_
  rintro e w1 ⟨va, vc, rfl, hfr⟩
  have hal : Below w1.heap.size w1 (w1.alloc (.cells #[.int .u8 201] 5)) := (Below.refl _ _).alloc (Nat.le_refl _) _
  have hu2 : RdAt byteKind (w1.alloc (.cells #[.int .u8 201] 5)) (.slice (some ⟨w1.heap.size, 0, none⟩) 1 1) [(201 : UInt8)] := by
    refine ⟨_, 1, rfl, fun j y hy => ⟨w1.heap.size, 0, rfl, fun i hi => ?_⟩⟩
    match j, hy with
    | 0, hy =>
      simp only [List.getElem?_cons_zero, Option.some.injEq] at hy
      subst hy
      have hi0 : i = 0 := by have : i < 1 := hi; omega
      subst hi0
      exact blk_cell (cs := #[.int .u8 201]) (heap_alloc_new w1 _) 0
  obtain ⟨v', w2, hrun, hs2, hk2, ho2, hnil⟩ := append_bytes (hfr.sl.below hal) hu2 (by simp only [List.length_cons, List.length_nil]; omega) 22
  obtain ⟨a2, c2, hv⟩ := hs2.shape
  rw [List.length_append, List.length_singleton] at hv
  subst hv
  have hw12 : Below w.heap.size w (w1.alloc (.cells #[.int .u8 201] 5)) := hfr.below.trans (hal.mono hfr.below.size)
  have hB2 : Below w.heap.size w w2 := below_keeps hw12 hk2 (fun i e => hfr.new i e) hw12.size
  have hsome : ∃ g off, a2 = some ⟨g, off, none⟩ := by
    rcases hs2 with ⟨e1, _⟩ | ⟨g, off, cap, cur, e1, _⟩
    · simp only [Value.slice.injEq] at e1
      omega
    · simp only [Value.slice.injEq] at e1
      exact ⟨g, off, e1.1⟩
  obtain ⟨g, off, rfl⟩ := hsome
  have HL : Hid (LentAt w w2 g off c2 ys) := Lib.hid ⟨hs2, by
    rcases ho2 g rfl with e | e
    · exact hfr.new g e
    · have := hfr.below.size; have := hal.size; omega, hB2⟩
  obtain ⟨r1, r2, _⟩ := LentAt.room HL.out.sl
  have q1 : ys.length ≤ c2 := by omega
  have q2 : (ys.length : Int) ≤ (c2 : Int) := by omega
  have q3 : (c2 : Int) ≤ 9223372036854775807 := by omega
  clear hfr hal hu2 hs2 hk2 ho2 hnil hw12 hB2 r1 r2
  go_wp2_with (at_builtin; refine wpList_append_run rfl (.tmp 5) (.tmp 6) 22 rfl _ _ rfl rfl _ _ hrun ?_)
  go_ret
  exact ⟨g, off, c2, rfl, HL.out⟩
set_option maxRecDepth 100000 in
set_option maxHeartbeats 2000000 in
theorem r_kept {g off cap : Nat} {a : Option Addr} {c : Nat} {ys : List UInt8} (h : SlAt byteKind 5 w (.slice (some ⟨g, off, none⟩) (ys.length + 1) cap) (ys ++ [201])) (hu : RdAt byteKind w (.slice a ys.length c) ys) (hn : ys.length ≤ 100000000) :
    Calls Try.prog 23 #[.slice (some ⟨g, off, none⟩) ys.length cap, .slice a ys.length c] w fun e w' => e = .returned (.bool true) ∧ Below w.heap.size w w' := by
  have hl : (ys ++ [(201 : UInt8)]).length = ys.length + 1 := by simp
  have h1 : RdAt byteKind w (.slice (some ⟨g, off, none⟩) ys.length cap) ys := by
    have h0 := h
    rw [← hl] at h0
    have := h0.rd.take (q := ys.length) (by rw [hl]; omega) cap
    rwa [List.take_left] at this
  obtain ⟨r1, r2, cur, hb, hc⟩ := LentAt.room h
  have hc2 := hc ys.length (by omega)
  rw [List.getElem?_append_right (Nat.le_refl _), Nat.sub_self] at hc2
  have hc3 : w.cell? ⟨g, off + ys.length, none⟩ = some (.int .u8 201) := hc2
  have HSB := Lib.hid (r_sameBytes h1 hu (by omega))
  have hn' : (ys.length : Int) ≤ 100000000 := by omega
  have q1 : ys.length + 1 ≤ cap := by omega
  have q2 : (ys.length : Int) + 1 ≤ (cap : Int) := by omega
  have q3 : (cap : Int) ≤ 9223372036854775807 := by omega
  have q4 : (0 : Int) ≤ (ys.length : Int) := by omega
  have q5 : ys.length < ys.length + 1 := by omega
  have HC := Lib.hid hc3
  clear h h1 hu hl r1 r2 hb hc hc2 hc3
  go_enter Try.func23, Try.ntmps23
  go_wp2_with (fail)
  refine HSB.out.mono ?_
  rintro e w1 ⟨rfl, hb⟩
  have hc4 : w1.cell? ⟨g, off + ys.length, none⟩ = some (.int .u8 201) := (hb.cell (p := ⟨g, off + ys.length, none⟩) (World.block_lt_of_cell? w _ HC.out)).trans HC.out
  have HB := Lib.hid hb
  clear hb
  go_wp2_with (fail)
  go_ret
  exact ⟨rfl, HB.out⟩
end
/-- The slice at a place. -/
theorem sl_cell {w : World} {a : Option Addr} {len cap : Nat} {ss : List SlV} (h : RdAt slKind w (.slice a len cap) ss) {k : Nat} {s : SlV} (hs : ss[k]? = some s) : ∃ g off, a = some ⟨g, off, none⟩ ∧ w.cell? ⟨g, off + k, none⟩ = some (.slice s.a s.len s.cap) := by
  obtain ⟨_, _, e1, hr⟩ := h
  injection e1 with e1 _ e3
  subst e1 e3
  obtain ⟨g, off, rfl, d1⟩ := hr k s hs
  have d1 := d1 0 (by decide)
  exact ⟨g, off, rfl, by simpa [slKind] using d1⟩
set_option maxRecDepth 100000 in
set_option maxHeartbeats 1000000 in
/-- Two lists of the same records are the same. -/
theorem r_sameLists {w : World} {u v : Value} {rs : List (List UInt8)} (h1 : LrAt w u rs) (h2 : LrAt w v rs) (hn : rs.length ≤ 1000000) (hm : ∀ r ∈ rs, r.length ≤ 100000000) :
    Calls Try.prog 15 #[u, v] w fun e w' => e = .returned (.bool true) ∧ Below w.heap.size w w' := by
  obtain ⟨a, c1, rfl⟩ := h1.shape
  obtain ⟨b, c2, rfl⟩ := h2.shape
  obtain ⟨ss, hs1, hr1⟩ := h1
  obtain ⟨tt, hs2, hr2⟩ := h2
  have HS1 := Lib.hid hs1
  have HS2 := Lib.hid hs2
  have HR1 := Lib.hid hr1
  have HR2 := Lib.hid hr2
  have HM := Lib.hid hm
  clear hs1 hs2 hr1 hr2 hm
  have hn2 : (rs.length : Int) ≤ 1000000 := by omega
  go_enter Try.func15, Try.ntmps15
  go_wp2_with (fail)
  go_loopw [5] (fun i wr => ∃ k : Nat, k ≤ rs.length ∧ i = .int .i64 k ∧ Hid (∃ n, wr = w.drewN n)) (fun i _ => rs.length - (intOf i).toNat)
  case atStart => exact ⟨0, Nat.zero_le _, rfl, Lib.hid ⟨0, rfl⟩⟩
  case round =>
    obtain ⟨k, hk, rfl, HN⟩ := hrel
    have HB : Hid (Below w.heap.size w wr) := Lib.hid (by obtain ⟨n, hn⟩ := HN.out; rw [hn]; exact below_drewN _ _ _)
    by_cases hlt : k < rs.length
    · obtain ⟨r, hr⟩ : ∃ r, rs[k]? = some r := ⟨_, List.getElem?_eq_getElem hlt⟩
      obtain ⟨s, hs⟩ : ∃ s, ss[k]? = some s := ⟨_, List.getElem?_eq_getElem (by rw [HR1.out.1]; exact hlt)⟩
      obtain ⟨t, ht⟩ : ∃ t, tt[k]? = some t := ⟨_, List.getElem?_eq_getElem (by rw [HR2.out.1]; exact hlt)⟩
      obtain ⟨g, off, rfl, d1⟩ := sl_cell (HS1.out.below HB.out) hs
      obtain ⟨g2, off2, rfl, d2⟩ := sl_cell (HS2.out.below HB.out) ht
      have HQ : Hid (∀ n, Calls Try.prog 16 #[.slice s.a s.len s.cap, .slice t.a t.len t.cap] (wr.drewN n) fun e w' => e = .returned (.bool true) ∧ ∃ m, w' = wr.drewN m) :=
        Lib.hid fun n => r_sameBytesQ ((HR1.out.2 k s r hs hr).below HB.out) ((HR2.out.2 k t r ht hr).below HB.out) (by have := HM.out r (List.mem_of_getElem? hr); omega) n
      have hk0 : (0 : Int) ≤ (k : Int) := by omega
      have hk1 : (k : Int) < (rs.length : Int) := by omega
      clear hs ht hr
      go_wp2_with (fail)
      go_quiet ((go_at_call 16; exact HQ.out _))
      go_wp2_with (fail)
      go_roundw
      case rel => exact ⟨k + 1, by omega, by go_num, Lib.hid (by obtain ⟨n, hn⟩ := HN.out; exact ⟨n + nq, by rw [hn]; simp [World.drewN]; omega⟩)⟩
      case measure => simp [intOf]; omega
    · have hk1 : ¬ ((k : Int) < (rs.length : Int)) := by omega
      go_wp2_with (fail)
      go_ret
      exact ⟨rfl, HB.out⟩
end Go.Proofs.Ythbfkjmpaifblaa
