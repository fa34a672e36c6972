/- What is laid and read back: laid again it is the same text; the two values are alike. Few parts make a short text. Plain; no program in it but for what Fit says. -/
import Derived.Test.YthjcolehccbihaaGreatDoorNl
import Derived.Test.YthjcolehccbihaaGreatDoorNe
import Derived.Test.YthjcolehccbihaaGreatDoorNr
set_option linter.unusedSimpArgs false
set_option linter.unusedVariables false
namespace Go.Proofs.YthjcolehccbihaaGreatDoor

/-! Values alike -/
theorem eqL_map (f g : JV → JV) : ∀ xs : List JV, (∀ x ∈ xs, sameJ (f x) (g x) = true) → eqL ((xs.map f).map sameJ) (xs.map g) = true
  | [], _ => rfl
  | x :: xs, h => by
    simp only [List.map_cons, eqL, Bool.and_eq_true]
    exact ⟨h x (by simp), eqL_map f g xs fun y hy => h y (by simp [hy])⟩
theorem grp_le {α : Type} {L : List (ByteArray × α)} (h : (L.map (·.1)).Nodup) (k : ByteArray) : (grp L k).length ≤ 1 := by
  have hs : ((L.filter fun x => decide (x.1 = k)).map (·.1)).Nodup := (List.Sublist.map _ List.filter_sublist).nodup h
  unfold grp
  rw [List.length_map]
  match hL : L.filter fun x => decide (x.1 = k) with
  | [] => simp [hL]
  | [x] => simp [hL]
  | x :: y :: r =>
    exfalso
    rw [hL] at hs
    have hx : x.1 = k := by
      have : x ∈ L.filter fun x => decide (x.1 = k) := by rw [hL]; simp
      simpa using (List.mem_filter.1 this).2
    have hy : y.1 = k := by
      have : y ∈ L.filter fun x => decide (x.1 = k) := by rw [hL]; simp
      simpa using (List.mem_filter.1 this).2
    simp [hx, hy] at hs
theorem grp_perm {α : Type} {L M : List (ByteArray × α)} (hp : L.Perm M) (h : (L.map (·.1)).Nodup) (k : ByteArray) : grp L k = grp M k := by
  have hq : (grp L k).Perm (grp M k) := (hp.filter _).map _
  have hl := grp_le h k
  match hg : grp L k with
  | [] => rw [hg] at hq; exact (List.nil_perm.1 hq).symm
  | [x] => rw [hg] at hq; exact (List.singleton_perm.1 hq)
  | x :: y :: r => rw [hg] at hl; simp at hl
/-! What is read back -/
theorem norm_pairs {names : List ByteArray} {l : List JV} (ps : List (List UInt8 × JV)) (hps : ps = pairsOf names l) : (ps.map fun p => str p.1).zip (ps.map fun p => norm p.2) = ps.map fun p => (str p.1, norm p.2) := List.zip_map'
theorem lay_norm : ∀ (v : JV) (d : Nat), chk d v = 0 → lay (norm v) = lay v := JV.ind (P := fun v => ∀ d, chk d v = 0 → lay (norm v) = lay v) fun k t l ns ih d h => by
  obtain ⟨o, hl⟩ := chk_zero.1 h
  have a := o.k0
  have b := o.k6
  by_cases h2 : k ≤ 2
  · obtain ⟨h3, h4⟩ := lay_word k a h2 t l ns
    rw [h4, (lay_word k a h2 _ _ _).1, h3]
  by_cases h3 : k = 3
  · subst h3
    have : norm (.mk 3 t l ns) = .mk 3 t [] [] := by simp only [norm]; rw [if_pos (.inl trivial)]
    rw [this, lay_number, lay_number]
  by_cases h4 : k = 4
  · subst h4
    have : norm (.mk 4 t l ns) = .mk 4 t [] [] := by simp only [norm]; rw [if_pos (.inr trivial)]
    rw [this, lay_text, lay_text]
  by_cases h5 : k = 5
  · subst h5
    rw [norm_array, lay_array, lay_array, List.map_map]
    congr 3
    exact List.map_congr_left fun v hv => ih v hv (d + 1) (hl (by decide) v hv)
  · obtain rfl : k = 6 := by omega
    obtain ⟨n1, n2, n3⟩ := o.names rfl
    rw [norm_object, lay_object, lay_object]
    have hr := pairs_rises n2 n3
    have e : pairsOf ((pairsOf ns l).map fun p => str p.1) ((pairsOf ns l).map fun p => norm p.2) = (pairsOf ns l).map fun p => (p.1, norm p.2) := by
      conv => lhs; unfold pairsOf
      have e1 : (((sortP ((ns.map raw).zip l)).map fun p => str p.1).map raw).zip ((sortP ((ns.map raw).zip l)).map fun p => norm p.2) = (pairsOf ns l).map fun p => (p.1, norm p.2) := by
        rw [List.map_map]
        show ((pairsOf ns l).map _).zip _ = _
        have : (raw ∘ fun p : List UInt8 × JV => str p.1) = fun p => p.1 := by funext p; exact str_toList p.1
        rw [this]
        exact List.zip_map'
      rw [e1, sortP_map, sortP_sorted hr]
    rw [e, List.map_map]
    congr 3
    refine List.map_congr_left fun p hp => ?_
    have := (mem_pairs hp).2
    show layPair (p.1, lay (norm p.2)) = layPair (p.1, lay p.2)
    rw [ih p.2 this (d + 1) (hl (by decide) _ this)]
theorem same_norm : ∀ (v : JV) (d : Nat), chk d v = 0 → sameJ (norm v) v = true ∧ sameJ v (norm v) = true := JV.ind (P := fun v => ∀ d, chk d v = 0 → sameJ (norm v) v = true ∧ sameJ v (norm v) = true) fun k t l ns ih d h => by
  obtain ⟨o, hl⟩ := chk_zero.1 h
  have a := o.k0
  have b := o.k6
  by_cases h2 : k ≤ 2
  · obtain ⟨-, h4⟩ := lay_word k a h2 t l ns
    rw [h4]
    constructor
    · rw [sameJ_mk, if_neg (by simp [JV.kind]), if_neg (by omega), if_neg (by omega), if_neg (by omega)]
    · rw [sameJ_mk, if_neg (by simp [JV.kind]), if_neg (by omega), if_neg (by omega), if_neg (by omega)]
  by_cases h3 : k = 3
  · subst h3
    have : norm (.mk 3 t l ns) = .mk 3 t [] [] := by simp only [norm]; rw [if_pos (.inl trivial)]
    rw [this]
    constructor
    · rw [sameJ_mk, if_neg (by simp [JV.kind]), if_pos (.inl rfl)]; simp [JV.text]
    · rw [sameJ_mk, if_neg (by simp [JV.kind]), if_pos (.inl rfl)]; simp [JV.text]
  by_cases h4 : k = 4
  · subst h4
    have : norm (.mk 4 t l ns) = .mk 4 t [] [] := by simp only [norm]; rw [if_pos (.inr trivial)]
    rw [this]
    constructor
    · rw [sameJ_mk, if_neg (by simp [JV.kind]), if_pos (.inr rfl)]; simp [JV.text]
    · rw [sameJ_mk, if_neg (by simp [JV.kind]), if_pos (.inr rfl)]; simp [JV.text]
  by_cases h5 : k = 5
  · subst h5
    rw [norm_array]
    constructor
    · rw [sameJ_mk, if_neg (by simp [JV.kind]), if_neg (by decide), if_pos rfl]
      have := eqL_map norm (fun x => x) l fun x hx => (ih x hx (d + 1) (hl (by decide) x hx)).1
      simpa [JV.list] using this
    · rw [sameJ_mk, if_neg (by simp [JV.kind]), if_neg (by decide), if_pos rfl]
      have := eqL_map (fun x => x) norm l fun x hx => (ih x hx (d + 1) (hl (by decide) x hx)).2
      simpa [JV.list] using this
  · obtain rfl : k = 6 := by omega
    obtain ⟨n1, n2, n3⟩ := o.names rfl
    obtain ⟨ps, hps⟩ : ∃ ps, ps = pairsOf ns l := ⟨_, rfl⟩
    have hn : norm (.mk 6 t l ns) = .mk 6 ByteArray.empty (ps.map fun p => norm p.2) (ps.map fun p => str p.1) := by rw [norm_object, hps]
    have hlen : ps.length = l.length := by rw [hps]; exact pairs_len n2
    have hz : (ps.map fun p => str p.1).zip (ps.map fun p => norm p.2) = ps.map fun p => (str p.1, norm p.2) := List.zip_map'
    have hnd : ((ns.zip l).map (·.1)).Nodup := by
      rw [zip_fst _ _ n2]
      have := (distinct_nodup _).1 n3
      exact (List.pairwise_map.1 this).imp fun h e => h (congrArg _ e)
    have hperm : (ps.map fun p => (str p.1, norm p.2)).Perm ((ns.zip l).map fun x => (x.1, norm x.2)) := by
      have e : (ns.map raw).zip l = (ns.zip l).map fun x => (raw x.1, x.2) := by
        rw [List.zip_map_left]
        rfl
      have h1 : ps.Perm ((ns.zip l).map fun x => (raw x.1, x.2)) := by
        rw [hps, ← e]
        exact sortP_perm _
      have h2 := h1.map fun p => (str p.1, norm p.2)
      rw [List.map_map] at h2
      have : ((fun p : List UInt8 × JV => (str p.1, norm p.2)) ∘ fun x : ByteArray × JV => (raw x.1, x.2)) = fun x => (x.1, norm x.2) := by
        funext x
        show (str (raw x.1), norm x.2) = _
        rw [show str (raw x.1) = x.1 from str_of x.1]
      rw [this] at h2
      exact h2
    have hnd2 : (((ns.zip l).map fun x => (x.1, norm x.2)).map (·.1)).Nodup := by
      rw [List.map_map]
      exact hnd
    have hg : ∀ k, grp (ps.map fun p => (str p.1, norm p.2)) k = (grp (ns.zip l) k).map norm := fun k => by
      rw [← grp_perm hperm.symm hnd2 k, grp_map]
    have hin : ∀ k, ∀ x ∈ grp (ns.zip l) k, x ∈ l := fun k x hx => (List.of_mem_zip (grp_mem hx)).2
    rw [hn]
    constructor
    · rw [sameJ_mk, if_neg (by simp [JV.kind]), if_neg (by decide), if_neg (by decide), if_pos rfl]
      simp only [JV.list, JV.names, List.length_map, hlen, n2, decide_true, Bool.true_and]
      rw [hz, sameObj_iff]
      intro k _
      rw [hg]
      have := eqL_map norm (fun x => x) (grp (ns.zip l) k) fun x hx => (ih x (hin k x hx) (d + 1) (hl (by decide) _ (hin k x hx))).1
      simpa using this
    · rw [sameJ_mk, if_neg (by simp [JV.kind]), if_neg (by decide), if_neg (by decide), if_pos rfl]
      simp only [JV.list, JV.names, List.length_map, hlen, n2, decide_true, Bool.true_and]
      rw [hz, sameObj_iff]
      intro k _
      rw [hg]
      have := eqL_map (fun x => x) norm (grp (ns.zip l) k) fun x hx => (ih x (hin k x hx) (d + 1) (hl (by decide) _ (hin k x hx))).2
      simpa using this
/-! What is laid is read -/
theorem parse_chk0 (b : List UInt8) : chk 0 (parse b).1 = 0 := by
  have hz : chk 0 JV.zero = 0 := own_plain (by decide) (by decide) (fun h => by cases h) (fun h => by cases h)
  unfold parse
  split
  · exact hz
  cases ho : parseOut b with
  | bad p e => exact hz
  | ok v r =>
    unfold parseOut at ho
    obtain ⟨x, l, h1, h2⟩ := Out.of_andThen ho
    split at h2
    · injection h2 with e1 e2
      subst e1
      exact (value_chk 32 0 _ _ _ (by decide) h1).1
    · cases h2
theorem parse_lay {v : JV} (h : chk 0 v = 0) (hl : (lay v).length ≤ 65536) : parse (lay v) = (norm v, 0, 0) := by
  have hb := (lay_head h).blanks []
  rw [List.append_nil] at hb
  have hv := value_laid v 0 32 (by decide) h [] NumEnd.nil
  rw [List.append_nil] at hv
  unfold parse
  rw [if_neg (by omega)]
  unfold parseOut
  rw [hb, hv]
  rfl
theorem print_ok {v : JV} (h : chk 0 v = 0) (hl : (lay v).length ≤ 65536) : print v = (some (lay v), 0) := by
  unfold print
  rw [if_neg (by omega), if_neg (by omega)]
theorem parse_bad {b : List UInt8} (h : (parse b).2.2 ≠ 0) : (parse b).1 = JV.zero := by
  unfold parse at h ⊢
  split
  · rfl
  · rename_i hl
    rw [if_neg hl] at h
    cases ho : parseOut b with
    | bad p e => rfl
    | ok v r => rw [ho] at h; exact absurd rfl h
/-! Few parts -/
theorem namesN_ge {p : Nat} : ∀ (ns : List ByteArray) (n : Nat), n ≤ namesN p n ns
  | [], n => Nat.le_refl _
  | s :: ns, n => by
    unfold namesN
    split
    · have := namesN_ge (p := p) ns (n + 1 + s.size / 20); omega
    · exact Nat.le_refl _
theorem smallL_ge {p : Nat} : ∀ (fs : List (Nat → Nat)) (n : Nat), n ≤ smallL p n fs
  | [], n => Nat.le_refl _
  | f :: fs, n => by
    unfold smallL
    split
    · have := smallL_ge (p := p) fs (n + f (p - n)); omega
    · exact Nat.le_refl _
/-- What names take when they are laid. -/
def nameSum (ns : List ByteArray) : Nat := (ns.map fun s => 6 * s.size + 4).sum
theorem names_full {p : Nat} : ∀ (ns : List ByteArray) (n : Nat), namesN p n ns ≤ p → (∀ s ∈ ns, s.size ≤ 20 * p + 19) ∧ nameSum ns + 200 * n ≤ 200 * namesN p n ns
  | [], n, _ => by simp [nameSum, namesN]
  | s :: ns, n, h => by
    unfold namesN at h ⊢
    by_cases hn : n ≤ p
    · rw [if_pos hn] at h ⊢
      obtain ⟨h1, h2⟩ := names_full ns _ h
      have hg := namesN_ge (p := p) ns (n + 1 + s.size / 20)
      refine ⟨fun x hx => ?_, ?_⟩
      · rcases List.mem_cons.1 hx with rfl | hx
        · omega
        · exact h1 x hx
      · have : nameSum (s :: ns) = 6 * s.size + 4 + nameSum ns := by simp [nameSum]
        omega
    · rw [if_neg hn] at h
      exact absurd h hn
theorem small_full {p : Nat} : ∀ (l : List JV) (n : Nat), (∀ v ∈ l, ∀ p' ≤ p, smallJ v p' ≤ p' → v.Fit ∧ (lay v).length + 1 ≤ 200 * smallJ v p') → smallL p n (l.map smallJ) ≤ p → (∀ v ∈ l, v.Fit) ∧ sumL (l.map lay) + 200 * n ≤ 200 * smallL p n (l.map smallJ)
  | [], n, _, _ => by simp [sumL, smallL]
  | v :: l, n, ih, h => by
    simp only [List.map_cons] at h ⊢
    unfold smallL at h ⊢
    by_cases hn : n ≤ p
    · rw [if_pos hn] at h ⊢
      obtain ⟨h1, h2⟩ := small_full l _ (fun x hx => ih x (by simp [hx])) h
      have hg := smallL_ge (p := p) (l.map smallJ) (n + smallJ v (p - n))
      obtain ⟨h3, h4⟩ := ih v (by simp) (p - n) (by omega) (by omega)
      refine ⟨fun x hx => ?_, ?_⟩
      · rcases List.mem_cons.1 hx with rfl | hx
        · exact h3
        · exact h1 x hx
      · rw [sumL_cons]
        omega
    · rw [if_neg hn] at h
      exact absurd h hn
theorem fitAll_of : ∀ m : List JV, (∀ v ∈ m, v.Fit) → FitAll m
  | [], _ => by simp [FitAll]
  | v :: m, h => by simp only [FitAll]; exact ⟨h v (by simp), fitAll_of m fun x hx => h x (by simp [hx])⟩
theorem zip_sum : ∀ (ns : List ByteArray) (l : List JV), sumL (((ns.map raw).zip l).map fun p => layPair (p.1, lay p.2)) ≤ nameSum ns + sumL (l.map lay)
  | [], l => by simp [sumL]
  | n :: ns, [] => by simp [sumL]
  | n :: ns, v :: l => by
    have ih := zip_sum ns l
    simp only [List.map_cons, List.zip_cons_cons]
    rw [sumL_cons, sumL_cons]
    have hq := quote_size (raw n)
    have hs : (raw n).length = n.size := rfl
    have hp : (layPair (raw n, lay v)).length = (quote (raw n)).length + 1 + (lay v).length := by unfold layPair; simp only [List.length_append, List.length_cons]; omega
    have : nameSum (n :: ns) = 6 * n.size + 4 + nameSum ns := by simp [nameSum]
    omega
theorem small_fit : ∀ v : JV, ∀ p, p ≤ 200 → smallJ v p ≤ p → v.Fit ∧ (lay v).length + 1 ≤ 200 * smallJ v p := JV.ind (P := fun v => ∀ p, p ≤ 200 → smallJ v p ≤ p → v.Fit ∧ (lay v).length + 1 ≤ 200 * smallJ v p) fun k t l ns ih p hp h => by
  rw [smallJ_mk] at h ⊢
  have hg := smallL_ge (p := p) (l.map smallJ) (namesN p (1 + (t.size + ns.length + l.length) / 20) ns)
  obtain ⟨h1, h2⟩ := small_full l _ (fun v hv p' hp' => ih v hv p' (by omega)) h
  have hg2 := namesN_ge (p := p) ns (1 + (t.size + ns.length + l.length) / 20)
  obtain ⟨h3, h4⟩ := names_full (p := p) ns (1 + (t.size + ns.length + l.length) / 20) (by omega)
  refine ⟨?_, ?_⟩
  · simp only [JV.Fit]
    exact ⟨by omega, by omega, fun s hs => by have := h3 s hs; omega, by omega, fitAll_of l h1⟩
  · have hs : sumL (l.map lay) ≤ 200 * smallL p (namesN p (1 + (t.size + ns.length + l.length) / 20) ns) (l.map smallJ) := by omega
    have key : ∀ n, n ≤ 6 * t.size + 2 ∨ n ≤ 5 → n + 1 ≤ 200 * smallL p (namesN p (1 + (t.size + ns.length + l.length) / 20) ns) (l.map smallJ) := fun n hn => by omega
    unfold lay
    split
    · exact key _ (.inr (by decide))
    split
    · exact key _ (.inr (by decide))
    split
    · exact key _ (.inr (by decide))
    split
    · exact key _ (.inl (by have : (raw t).length = t.size := rfl; omega))
    split
    · exact key _ (.inl (by have := quote_size (raw t); have : (raw t).length = t.size := rfl; omega))
    split
    · rw [layAll_map]
      by_cases hl0 : l = []
      · subst hl0
        simp only [List.map_nil, commas, List.nil_append, List.length_cons, List.length_nil] at hg hg2 h ⊢
        omega
      · have := commas_sum (l.map lay) (by simpa using hl0)
        simp only [List.length_cons, List.length_append, List.length_nil]
        omega
    · rw [layAll_map]
      have hz := zip_sum ns l
      have hq : ((sortP ((ns.map raw).zip (l.map lay))).map layPair).Perm (((ns.map raw).zip l).map fun p => layPair (p.1, lay p.2)) := by
        have := (sortP_perm ((ns.map raw).zip (l.map lay))).map layPair
        rw [zip_map_snd, List.map_map] at this
        rw [zip_map_snd]
        exact this
      have hs2 := sumL_perm hq
      by_cases he : ((sortP ((ns.map raw).zip (l.map lay))).map layPair) = []
      · rw [he]
        simp only [commas, List.nil_append, List.length_cons, List.length_nil]
        omega
      · have := commas_sum _ he
        simp only [List.length_cons, List.length_append, List.length_nil]
        omega
end Go.Proofs.YthjcolehccbihaaGreatDoor
