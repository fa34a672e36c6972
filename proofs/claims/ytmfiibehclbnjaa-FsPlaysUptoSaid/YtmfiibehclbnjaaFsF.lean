/- The walks of the file system's writes: Valid, Create, Rename. -/
import Derived.Test.YtmfiibehclbnjaaFsE
import Derived.Test.YtmfiibehclbnjaaShelf
namespace Go.Proofs.Ytmfiibehclbnjaa
open Go.RowKit Go.Shelf

set_option maxRecDepth 100000 in
set_option maxHeartbeats 4000000 in
theorem f_valid1 (w : World) (r : Nat) : Calls Try.prog 52 #[.int .i32 (r : Int)] w fun e w' => e = .returned (.bool (oddR r)) ∧ w' = w := by
  have key : ∀ b1 b2 b3 b4 b5 b6 b7 : Bool, decide ((r : Int) < 97) = b1 → decide (122 < (r : Int)) = b2 → decide ((r : Int) < 48) = b3 → decide (57 < (r : Int)) = b4 → ((r : Int) != 45) = b5 → ((r : Int) != 46) = b6 → ((r : Int) != 47) = b7 →
      Calls Try.prog 52 #[.int .i32 (r : Int)] w fun e w' => e = .returned (.bool ((b1 || b2) && (b3 || b4) && b5 && b6 && b7)) ∧ w' = w := by
    intro b1 b2 b3 b4 b5 b6 b7 h1 h2 h3 h4 h5 h6 h7
    cases b1 <;> cases b2 <;> cases b3 <;> cases b4 <;> cases b5 <;> cases b6 <;> cases b7
    all_goals
      first
      | (exfalso; simp only [decide_eq_true_eq, decide_eq_false_iff_not, bne_iff_ne, bne_eq_false_iff_eq] at h1 h2 h3 h4 h5 h6 h7; omega)
      | (go_enter Try.func52, Try.ntmps52
         go_wp2
         go_ret
         exact ⟨rfl, rfl⟩)
  have e : oddR r = ((decide ((r : Int) < 97) || decide (122 < (r : Int))) && (decide ((r : Int) < 48) || decide (57 < (r : Int))) && ((r : Int) != 45) && ((r : Int) != 46) && ((r : Int) != 47)) := by
    unfold oddR
    have a1 : decide (r < 97) = decide ((r : Int) < 97) := by congr 1; apply propext; omega
    have a2 : decide (122 < r) = decide (122 < (r : Int)) := by congr 1; apply propext; omega
    have a3 : decide (r < 48) = decide ((r : Int) < 48) := by congr 1; apply propext; omega
    have a4 : decide (57 < r) = decide (57 < (r : Int)) := by congr 1; apply propext; omega
    have a5 : ∀ k : Nat, (r != k) = ((r : Int) != (k : Int)) := by
      intro k; rw [Bool.eq_iff_iff]; simp only [bne_iff_ne]; omega
    rw [a1, a2, a3, a4, a5, a5, a5]; rfl
  rw [e]
  exact key _ _ _ _ _ _ _ rfl rfl rfl rfl rfl rfl rfl
set_option maxRecDepth 100000 in
set_option maxHeartbeats 2000000 in
theorem f_valid (w : World) (n : ByteArray) : Calls Try.prog 23 #[.string n] w fun e w' => e = .returned (.bool (okName n)) ∧ Below w.heap.size w w' := by
  have eg := enters_of Try.func52 (P := Try.prog) (by kernel_rfl) rfl
  have HP := Lib.hid (Try.strings_ContainsFunc_runes 52 #[] eg oddR n w (by
    intro W x hx hb
    exact (f_valid1 W x).mono (by rintro e w' ⟨rfl, rfl⟩; exact ⟨rfl, 0, rfl⟩)))
  by_cases h0 : n.size = 0
  · have : n = ⟨#[]⟩ := by
      obtain ⟨⟨l⟩⟩ := n
      have : l.length = 0 := h0
      rw [List.length_eq_zero_iff] at this; subst this; rfl
    subst this
    clear HP
    go_enter Try.func23, Try.ntmps23
    go_wp2_with (fail)
    go_ret
    exact ⟨rfl, Below.refl _ _⟩
  have hE : n.toList.isEmpty = false := by
    rw [Lib.toList_data]
    cases hl : n.data.toList with
    | nil => exact absurd (by show n.data.toList.length = 0; rw [hl]; rfl) h0
    | cons _ _ => rfl
  by_cases h1 : 100 < n.size
  · have h1' : (100 : Int) < n.size := by omega
    have hk : okName n = false := by unfold okName; rw [decide_eq_false (by omega : ¬ n.size ≤ 100)]; simp
    rw [hk]
    clear HP h0 h1 hk
    go_enter Try.func23, Try.ntmps23
    go_wp2_with (fail)
    go_ret
    exact ⟨rfl, Below.refl _ _⟩
  have h1' : (n.size : Int) ≤ 100 := by omega
  have h0' : (0 : Int) < n.size := by omega
  by_cases hi : 0 ≤ Lib.idxFunc oddR true n
  · have hk : okName n = false := by unfold okName; rw [decide_eq_true hi]; simp
    rw [hk]
    rw [decide_eq_true hi] at HP
    clear h0 h1 hk hi
    go_enter Try.func23, Try.ntmps23
    go_wp2_with (fail)
    refine HP.out.mono ?_
    rintro e w' ⟨rfl, hb⟩
    have HB := Lib.hid hb
    clear hb
    go_wp2_with (fail)
    go_ret
    exact ⟨rfl, HB.out⟩
  rw [decide_eq_false hi] at HP
  go_enter Try.func23, Try.ntmps23
  go_wp2_with (fail)
  refine HP.out.mono ?_
  rintro e w' ⟨rfl, hb⟩
  have HB := Lib.hid hb
  clear hb
  go_wp2_with (fail)
  all_goals
    have gx : ∀ i (hi : i < n.size), n.get! i = n[i] := fun i hi => getElem!_pos n.data i hi
    have g0 : n.get! 0 = n[0]'(by omega) := gx 0 (by omega)
    have g1 : n.get! (n.size - 1) = n[n.size - 1]'(by omega) := gx _ (by omega)
    have gb : ∀ b : UInt8, (b != 47) = ((b.toNat : Int) != 47) := by
      intro b
      rw [Bool.eq_iff_iff]
      simp only [bne_iff_ne, ne_eq]
      constructor
      · intro h1 h2; exact h1 (UInt8.toNat.inj (by simpa using (by omega : b.toNat = 47)))
      · rintro h1 rfl; exact h1 rfl
    go_ret
    refine ⟨?_, HB.out⟩
    unfold okName
    rw [decide_eq_true h0, decide_eq_true (by omega : n.size ≤ 100), decide_eq_false (by omega), g0, g1, gb, gb]
    first
    | rfl
    | (have e : ((n[0]'(by omega)).toNat : Int) = 47 := by assumption
       rw [e]; rfl)

theorem putL_perm {K V : Type} {lt : K → K → Bool} (H : KeyOrd lt) (m : List (K × V)) (k : K) (v : V) : (putL lt m k v).Perm ((k, v) :: dropL lt m k) := by
  unfold putL dropL
  refine List.perm_middle.trans (List.Perm.cons _ ?_)
  induction m with
  | nil => simp
  | cons x m ih =>
    cases h1 : lt x.1 k with
    | true =>
      have h2 := H.asymm h1
      simp only [List.filter_cons, h1, h2, if_true, List.cons_append, Bool.false_eq_true, if_false, Bool.true_or]
      exact ih.cons _
    | false =>
      cases h2 : lt k x.1 with
      | true =>
        simp only [List.filter_cons, h1, h2, if_true, Bool.false_eq_true, if_false, Bool.or_true]
        exact List.perm_middle.trans (ih.cons _)
      | false =>
        simp only [List.filter_cons, h1, h2, Bool.false_eq_true, if_false, Bool.or_false]
        exact ih
theorem putL_self {K V : Type} {lt : K → K → Bool} (H : KeyOrd lt) {m : List (K × V)} (hr : Rise lt m) {k : K} {v : V} (hf : findL lt m k = some v) : m.Perm ((k, v) :: dropL lt m k) := by
  obtain ⟨a, b, rfl⟩ := findL_split H hf
  have := putL_perm H (a ++ (k, v) :: b) k v
  rwa [putL_eq H hr] at this
theorem apart_perm {a b : List (ByteArray × Pl)} (h : Apart a) (hp : b.Perm a) : Apart b :=
  (hp.pairwise_iff (fun {x y} hxy => ⟨fun e => hxy.1 e.symm, fun k e1 e2 => hxy.2 k e2 e1⟩)).2 h

section
variable {w : World} {fb mb : Nat} {F : FsS} {S : Nat → Prop} {rs : List (ByteArray × Pl)}
/-- A new file is put into the map. -/
theorem FsAt.newFile (h : FsAt w fb F S mb rs) {w1 w' : World} {n : ByteArray} {p : Pl} (hk1 : Below w.heap.size w w1) (hp : PlAt w1 p) (hg : w.heap.size ≤ p.g) (hv : p.v.ownBlock = none) (hm : MapAt strKind evP w' mb (putL slt rs n p)) (hk : Keeps (fun i => i = mb) w1 w') :
    FsPost w fb (F.set n p.fl) S w' := by
  have hs : ∀ x ∈ putL slt rs n p, x ∈ rs ∨ x = (n, p) := by
    intro x hx
    unfold putL at hx
    rcases List.mem_append.1 hx with hx | hx
    · exact .inl (List.mem_filter.1 hx).1
    rcases List.mem_cons.1 hx with hx | hx
    · exact .inr hx
    · exact .inl (List.mem_filter.1 hx).1
  have h1 := h.below hk1
  have hpg : p.g < w'.heap.size := Nat.lt_of_lt_of_le (lt_of_block hp.blk) hk.size
  have hold : ∀ x ∈ rs, ∀ k, blocksOf x.2 k → k < w.heap.size := fun x hx k hb => h.lt k (h.sp x hx k hb)
  have hnew : ∀ k, blocksOf p k → k = p.g := by
    rintro k (e | e)
    · exact e
    · rw [hv] at e; simp at e
  refine ⟨⟨mb, putL slt rs n p, hk.obj h1.blk (fun e => h1.map.not_blk h1.blk e), hm, ?_, ?_, ?_, .inl h.sfb, .inl h.smb, ?_, new_lt h.lt (Nat.le_trans hk1.size hk.size)⟩, ?_⟩
  · show putL slt F.files n p.fl = _
    rw [h.files]; exact (putL_map (fun q : Pl => q.fl) rs n p).symm
  · intro x hx
    rcases hs x hx with hx | rfl
    · refine (h1.pl x hx).keeps hk ?_
      rintro k (rfl | e) rfl
      · exact h1.map.not_blk (h1.pl x hx).blk rfl
      · obtain ⟨cur, hc⟩ := (h1.pl x hx).bytes.own _ e
        exact h1.map.not_blk hc rfl
    · refine hp.keeps hk ?_
      rintro k hk1 rfl
      have := hnew _ hk1
      exact h1.map.not_blk hp.blk this.symm
  · refine apart_perm ?_ (putL_perm slt_ord rs n p)
    show List.Pairwise _ _
    rw [List.pairwise_cons]
    have hne : ∀ x ∈ rs, x.2.g ≠ p.g ∧ ∀ k, x.2.v.ownBlock = some k → p.v.ownBlock ≠ some k := fun x hx => ⟨fun e => by have := hold x hx x.2.g (.inl rfl); omega, fun k _ e => by rw [hv] at e; simp at e⟩
    refine ⟨fun x hx => ?_, h.apart.sublist List.filter_sublist⟩
    have := hne x (List.mem_filter.1 hx).1
    exact ⟨fun e => this.1 e.symm, fun k e => by rw [hv] at e; simp at e⟩
  · intro x hx k hk1
    rcases hs x hx with hx | rfl
    · exact .inl (h.sp x hx k hk1)
    · have := hnew _ hk1
      subst this
      exact .inr ⟨hg, hpg⟩
  · exact ((Keeps.of_below hk1).mono (fun _ _ e => e.elim)).trans' (hk.mono (fun i _ e => by rw [e]; exact h.smb))

/-- The files lie under other names. -/
theorem FsAt.relist (h : FsAt w fb F S mb rs) {w' : World} {rs' : List (ByteArray × Pl)} (hm : MapAt strKind evP w' mb rs') (hk : Keeps (fun i => i = mb) w w') (hs : ∀ x ∈ rs', ∃ y ∈ rs, y.2 = x.2) (ha : Apart rs') : FsAt w' fb { F with files := flOf rs' } S mb rs' := by
  refine ⟨hk.obj h.blk (fun e => h.map.not_blk h.blk e), hm, rfl, fun x hx => ?_, ha, h.sfb, h.smb, fun x hx => ?_, fun k hk1 => Nat.lt_of_lt_of_le (h.lt k hk1) hk.size⟩
  · obtain ⟨y, hy, e⟩ := hs x hx
    rw [← e]
    refine (h.pl y hy).keeps hk ?_
    rintro k (rfl | e) rfl
    · exact h.map.not_blk (h.pl y hy).blk rfl
    · obtain ⟨cur, hc⟩ := (h.pl y hy).bytes.own _ e
      exact h.map.not_blk hc rfl
  · obtain ⟨y, hy, e⟩ := hs x hx
    rw [← e]
    exact h.sp y hy
/-- A file has another name. -/
theorem FsAt.moved (h : FsAt w fb F S mb rs) {w' : World} {a b : ByteArray} {p : Pl} (hf : findL slt rs a = some p) (hne : a ≠ b) (hm : MapAt strKind evP w' mb (dropL slt (putL slt rs b p) a)) (hk : Keeps (fun i => i = mb) w w') :
    FsAt w' fb { F with files := dropL slt (putL slt F.files b p.fl) a } S mb (dropL slt (putL slt rs b p) a) := by
  have e : flOf (dropL slt (putL slt rs b p) a) = dropL slt (putL slt F.files b p.fl) a := by
    rw [h.files]
    exact (dropL_map (fun q : Pl => q.fl) _ a).trans (by rw [putL_map (fun q : Pl => q.fl) rs b p])
  rw [← e]
  refine h.relist hm hk ?_ ?_
  · intro x hx
    have hx := (List.mem_filter.1 hx).1
    rcases List.mem_cons.1 ((putL_perm slt_ord rs b p).mem_iff.1 hx) with rfl | hx
    · exact ⟨_, findL_mem slt_ord hf, rfl⟩
    · exact ⟨x, (List.mem_filter.1 hx).1, rfl⟩
  · have h1 : (dropL slt (putL slt rs b p) a).Perm (dropL slt ((b, p) :: dropL slt rs b) a) := (putL_perm slt_ord rs b p).filter _
    have h2 : dropL slt ((b, p) :: dropL slt rs b) a = (b, p) :: dropL slt (dropL slt rs a) b := by
      have hb : (slt b a || slt a b) = true := by
        cases h1 : slt b a with
        | true => rfl
        | false =>
          cases h2 : slt a b with
          | true => rfl
          | false => exact absurd (slt_ord.eq _ _ h2 h1) hne
      unfold dropL
      rw [List.filter_cons, if_pos hb, List.filter_filter, List.filter_filter]
      congr 2
      funext x
      exact Bool.and_comm _ _
    refine apart_perm ?_ (h1.trans (by rw [h2]))
    have h3 := apart_perm h.apart (putL_self slt_ord h.map.rise hf).symm
    have h4 := List.pairwise_cons.1 h3
    exact List.pairwise_cons.2 ⟨fun x hx => h4.1 x (List.mem_filter.1 hx).1, h4.2.sublist List.filter_sublist⟩
end
end Go.Proofs.Ytmfiibehclbnjaa
