/- What is read: how great its parts are; the names of an object. Plain; no program in it. -/
import Derived.Test.YthjcolehccbihaaGreatDoorNe
import Derived.Test.YthjcolehccbihaaGreatDoorLc
import Derived.Lib.QuoteLoop
set_option linter.unusedSimpArgs false
set_option linter.unusedVariables false
namespace Go.Proofs.YthjcolehccbihaaGreatDoor
open Go.Lib (encodeRune)

theorem Out.of_andThen {α β : Type} {o : Out α} {f : α → List UInt8 → Out β} {y : β} {r : List UInt8} (h : o.andThen f = .ok y r) : ∃ x l, o = .ok x l ∧ f x l = .ok y r := by
  cases o with
  | ok x l => exact ⟨x, l, rfl, h⟩
  | bad p e => cases h
theorem rune_len (r : Int) : (encodeRune r).length ≤ 4 := by
  have := Go.Lib.encodeRuneZ_length_le r
  unfold encodeRune
  rw [List.length_map]
  exact this
theorem textN_size : ∀ (n : Nat) (out l t r : List UInt8), textN n out l = .ok t r → t.length ≤ out.length + 4 * l.length
  | 0, _, _, _, _, h => by simp [textN] at h
  | _ + 1, _, [], _, _, h => by simp [textN] at h
  | n + 1, out, c :: l, t, r, h => by
    unfold textN at h
    split at h
    · cases h
    split at h
    · cases h
      omega
    split at h
    · obtain ⟨x, l', h1, h2⟩ := Out.of_andThen h
      have h3 := textN_size n _ _ _ _ h2
      have h4 := (escaped_fits _ l x l' h1).2
      have h5 := rune_len x
      rw [List.length_append] at h3
      simp only [List.length_cons]
      omega
    split at h
    · cases h
    split at h
    · cases h
    · have h3 := textN_size n _ _ _ _ h
      have h4 := seqLen_le (c :: l)
      rw [List.length_append, List.length_take, List.length_drop] at h3
      omega
theorem text_size {l t r : List UInt8} (h : text l = .ok t r) : t.length ≤ 4 * l.length := by
  have := textN_size _ _ _ _ _ h
  simpa using this
mutual
/-- No part is greater than what is read from so many bytes. -/
def Gd (N : Nat) : JV → Prop
  | .mk _ t l ns => t.size ≤ 4 * N ∧ ns.length ≤ N ∧ (∀ s ∈ ns, s.size ≤ 4 * N) ∧ l.length ≤ N ∧ GdAll N l
def GdAll (N : Nat) : List JV → Prop
  | [] => True
  | v :: l => Gd N v ∧ GdAll N l
end
theorem gdAll_iff (N : Nat) : ∀ l, GdAll N l ↔ ∀ v ∈ l, Gd N v
  | [] => by simp [GdAll]
  | v :: l => by simp [GdAll, gdAll_iff N l]
theorem size_str (l : List UInt8) : (str l).size = l.length := by
  show (str l).data.size = l.length
  rw [← Array.length_toList, str_toList]
section
variable {val : List UInt8 → Out JV} {N : Nat}
theorem elemsN_gd (hfit : ∀ l, (val l).Fits 1 l) (hval : ∀ l v r, l.length ≤ N → val l = .ok v r → Gd N v) : ∀ (n : Nat) (acc : List JV) (l : List UInt8) (vs : List JV) (r : List UInt8), l.length ≤ N → elemsN val n acc l = .ok vs r → (∀ v ∈ acc, Gd N v) →
    vs.length ≤ acc.length + l.length ∧ ∀ v ∈ vs, Gd N v
  | 0, _, _, _, _, _, h, _ => by simp [elemsN] at h
  | n + 1, acc, l, vs, r, hl, h, ha => by
    unfold elemsN at h
    split at h
    · cases h
    obtain ⟨v, l1, h1, h2⟩ := Out.of_andThen h
    have hb := suf_len (blanks_suf l)
    have hv := hval _ _ _ (by omega) h1
    have hf := (hfit _ v l1 h1).2
    have hb1 := suf_len (blanks_suf l1)
    have hacc : ∀ x ∈ acc ++ [v], Gd N x := fun x hx => by
      rcases List.mem_append.1 hx with hx | hx
      · exact ha x hx
      · rw [List.mem_singleton.1 hx]; exact hv
    cases hr : blanks l1 with
    | nil => rw [hr] at h2; cases h2
    | cons c r' =>
      rw [hr] at h2 hb1
      simp only [List.length_cons] at hb1
      dsimp only at h2
      split at h2
      · cases h2
        refine ⟨?_, hacc⟩
        rw [List.length_append]
        simp only [List.length_cons, List.length_nil]
        omega
      · split at h2
        · obtain ⟨h3, h4⟩ := elemsN_gd hfit hval n _ _ _ _ (by omega) h2 hacc
          refine ⟨?_, h4⟩
          rw [List.length_append] at h3
          simp only [List.length_cons, List.length_nil] at h3
          omega
        · cases h2
theorem membersN_gd (hfit : ∀ l, (val l).Fits 1 l) (hval : ∀ l v r, l.length ≤ N → val l = .ok v r → Gd N v) : ∀ (n : Nat) (acc : List JV) (names : List ByteArray) (l : List UInt8) (vs : List JV × List ByteArray) (r : List UInt8), l.length ≤ N → membersN val n acc names l = .ok vs r → (∀ v ∈ acc, Gd N v) → (∀ s ∈ names, s.size ≤ 4 * N) →
    acc.length = names.length → names.Nodup → vs.1.length ≤ acc.length + l.length ∧ (∀ v ∈ vs.1, Gd N v) ∧ (∀ s ∈ vs.2, s.size ≤ 4 * N) ∧ vs.1.length = vs.2.length ∧ vs.2.Nodup
  | 0, _, _, _, _, _, _, h, _, _, _, _ => by simp [membersN] at h
  | n + 1, acc, names, l, vs, r, hl, h, ha, hs, hlen, hnd => by
    unfold membersN at h
    have hb := suf_len (blanks_suf l)
    cases hr0 : blanks l with
    | nil => rw [hr0] at h; cases h
    | cons c l1 =>
      rw [hr0] at h hb
      simp only [List.length_cons] at hb
      dsimp only at h
      split at h
      · cases h
      split at h
      · cases h
      obtain ⟨name, l2, h1, h2⟩ := Out.of_andThen h
      have ht := text_size h1
      have htf := (text_fits l1 name l2 h1).2
      split at h2
      · cases h2
      rename_i hnm
      obtain ⟨_, l3, h3, h4⟩ := Out.of_andThen h2
      have hmf := (musts_fits [58] _ _ l3 h3).2
      have hb2 := suf_len (blanks_suf l2)
      obtain ⟨v, l4, h5, h6⟩ := Out.of_andThen h4
      have hb3 := suf_len (blanks_suf l3)
      simp only [List.length_cons, List.length_nil] at hmf
      have hv := hval _ _ _ (by omega) h5
      have hvf := (hfit _ v l4 h5).2
      have hb4 := suf_len (blanks_suf l4)
      have hacc : ∀ x ∈ acc ++ [v], Gd N x := fun x hx => by
        rcases List.mem_append.1 hx with hx | hx
        · exact ha x hx
        · rw [List.mem_singleton.1 hx]; exact hv
      have hnames : ∀ s ∈ names ++ [str name], s.size ≤ 4 * N := fun s hx => by
        rcases List.mem_append.1 hx with hx | hx
        · exact hs s hx
        · rw [List.mem_singleton.1 hx, size_str]; omega
      have hlen2 : (acc ++ [v]).length = (names ++ [str name]).length := by simp [hlen]
      have hnd2 : (names ++ [str name]).Nodup := by
        rw [List.nodup_append]
        refine ⟨hnd, by simp, fun a ha b hb e => hnm ?_⟩
        rw [List.mem_singleton.1 hb] at e
        rw [e] at ha
        exact List.mem_map.2 ⟨_, ha, str_toList name⟩
      cases hr : blanks l4 with
      | nil => rw [hr] at h6; cases h6
      | cons c2 r' =>
        rw [hr] at h6 hb4
        simp only [List.length_cons] at hb4
        dsimp only at h6
        split at h6
        · cases h6
          refine ⟨?_, hacc, hnames, hlen2, hnd2⟩
          rw [List.length_append]
          simp only [List.length_cons, List.length_nil]
          omega
        · split at h6
          · obtain ⟨g1, g2, g3, g4, g5⟩ := membersN_gd hfit hval n _ _ _ _ _ (by omega) h6 hacc hnames hlen2 hnd2
            refine ⟨?_, g2, g3, g4, g5⟩
            rw [List.length_append] at g1
            simp only [List.length_cons, List.length_nil] at g1
            omega
          · cases h6
/-- What is read of an object, an array, anything else. -/
def Shape : JV → Prop
  | .mk k _ l ns => (k = 6 → ns.length = l.length ∧ ns.Nodup) ∧ (k ≠ 6 → ns = [])
theorem array_gd (hfit : ∀ l, (val l).Fits 1 l) (hval : ∀ l v r, l.length ≤ N → val l = .ok v r → Gd N v) {l : List UInt8} {v : JV} {r : List UInt8} (hl : l.length ≤ N) (h : array val l = .ok v r) : Gd N v ∧ Shape v := by
  unfold array at h
  have hb := suf_len (blanks_suf l)
  split at h
  · cases h
    exact ⟨by simp [Gd, GdAll], by simp [Shape]⟩
  · obtain ⟨vs, l1, h1, h2⟩ := Out.of_andThen h
    cases h2
    obtain ⟨h3, h4⟩ := elemsN_gd hfit hval _ _ _ _ _ (by omega) h1 (by simp)
    refine ⟨?_, by simp [Shape]⟩
    simp only [Gd, gdAll_iff]
    refine ⟨by simp, by simp, by simp, ?_, h4⟩
    simp only [List.length_nil] at h3
    omega
theorem object_gd (hfit : ∀ l, (val l).Fits 1 l) (hval : ∀ l v r, l.length ≤ N → val l = .ok v r → Gd N v) {l : List UInt8} {v : JV} {r : List UInt8} (hl : l.length ≤ N) (h : object val l = .ok v r) : Gd N v ∧ Shape v := by
  unfold object at h
  have hb := suf_len (blanks_suf l)
  split at h
  · cases h
    exact ⟨by simp [Gd, GdAll], by simp [Shape]⟩
  · obtain ⟨vs, l1, h1, h2⟩ := Out.of_andThen h
    cases h2
    obtain ⟨h3, h4, h5, h6, h7⟩ := membersN_gd hfit hval _ _ _ _ _ _ (by omega) h1 (by simp) (by simp) rfl (by simp)
    refine ⟨?_, ?_⟩
    · simp only [Gd, gdAll_iff]
      simp only [List.length_nil] at h3
      exact ⟨by simp, by omega, h5, by omega, h4⟩
    · exact ⟨fun _ => ⟨h6.symm, h7⟩, fun h => absurd rfl h⟩
end
theorem number_gd {l : List UInt8} {v : JV} {r : List UInt8} {N : Nat} (hl : l.length ≤ N) (h : number l = .ok v r) : Gd N v ∧ Shape v := by
  unfold number at h
  obtain ⟨x, l1, h1, h2⟩ := Out.of_andThen h
  split at h2
  · cases h2
  · cases h2
    refine ⟨?_, by simp [Shape]⟩
    simp only [Gd, GdAll]
    refine ⟨?_, by simp, by simp, by simp, trivial⟩
    rw [size_str, List.length_take]
    omega
theorem word_gd {w l : List UInt8} {k : Int} {v : JV} {r : List UInt8} {N : Nat} (hk : k ≠ 6) (h : ((musts w l).andThen fun _ r => Out.ok (.mk k ByteArray.empty [] []) r) = .ok v r) : Gd N v ∧ Shape v := by
  obtain ⟨_, l1, h1, h2⟩ := Out.of_andThen h
  cases h2
  exact ⟨by simp [Gd, GdAll], fun h => absurd h hk, fun _ => rfl⟩
theorem scalar_gd {l : List UInt8} {v : JV} {r : List UInt8} {N : Nat} (hl : l.length ≤ N) (h : scalar l = .ok v r) : Gd N v ∧ Shape v := by
  cases l with
  | nil => simp [scalar] at h
  | cons c l =>
    simp only [List.length_cons] at hl
    unfold scalar at h
    dsimp only at h
    split at h
    · obtain ⟨t, l1, h1, h2⟩ := Out.of_andThen h
      cases h2
      have := text_size h1
      refine ⟨?_, by simp [Shape]⟩
      simp only [Gd, GdAll]
      exact ⟨by rw [size_str]; omega, by simp, by simp, by simp, trivial⟩
    split at h
    · exact number_gd (by simp only [List.length_cons]; omega) h
    split at h
    · exact word_gd (by decide) h
    split at h
    · exact word_gd (by decide) h
    split at h
    · exact word_gd (by decide) h
    · cases h
theorem value_gd {N : Nat} : ∀ (D : Nat) (l : List UInt8) (v : JV) (r : List UInt8), l.length ≤ N → value D l = .ok v r → Gd N v ∧ Shape v
  | 0, [], v, r, hl, h => scalar_gd hl h
  | 0, c :: l, v, r, hl, h => by
    unfold value at h
    dsimp only at h
    split at h
    · cases h
    · exact scalar_gd hl h
  | D + 1, [], v, r, hl, h => scalar_gd hl h
  | D + 1, c :: l, v, r, hl, h => by
    unfold value at h
    dsimp only at h
    simp only [List.length_cons] at hl
    split at h
    · exact object_gd (value_fits D) (fun l v r hl h => (value_gd D l v r hl h).1) (by omega) h
    split at h
    · exact array_gd (value_fits D) (fun l v r hl h => (value_gd D l v r hl h).1) (by omega) h
    · exact scalar_gd (by simp only [List.length_cons]; omega) h
theorem zero_gd (N : Nat) : Gd N JV.zero ∧ Shape JV.zero := ⟨by simp [JV.zero, Gd, GdAll], by simp [JV.zero, Shape]⟩
theorem parse_gd {b : List UInt8} {N : Nat} (hb : b.length ≤ N) : Gd N (parse b).1 ∧ Shape (parse b).1 := by
  unfold parse
  split
  · exact zero_gd N
  cases ho : parseOut b with
  | bad p e => exact zero_gd N
  | ok v r =>
    unfold parseOut at ho
    obtain ⟨x, l, h1, h2⟩ := Out.of_andThen ho
    split at h2
    · cases h2
      exact value_gd 32 _ _ _ (by have := suf_len (blanks_suf b); omega) h1
    · cases h2
open Go.RowKit Go.Shelf
theorem gd_fit {N : Nat} (hN : 4 * N ≤ 1000000) : ∀ v : JV, Gd N v → v.Fit := JV.ind (P := fun v => Gd N v → v.Fit) fun k t l ns ih h => by
  simp only [Gd, gdAll_iff] at h
  obtain ⟨h1, h2, h3, h4, h5⟩ := h
  have key : ∀ m : List JV, (∀ v ∈ m, v.Fit) → FitAll m := fun m => by
    induction m with
    | nil => intro _; simp [FitAll]
    | cons v m ihm => intro hm; simp only [FitAll]; exact ⟨hm v (by simp), ihm fun x hx => hm x (by simp [hx])⟩
  simp only [JV.Fit]
  exact ⟨by omega, by omega, fun s hs => by have := h3 s hs; omega, by omega, key l fun v hv => ih v hv (h5 v hv)⟩
/-- A value that was read, in its box; all that comes is newer. -/
structure HasV (w wr : World) (xb : Nat) (q : RawV) (v : JV) : Prop where
  box : JBox wr xb q
  val : JAt wr (fun g => w.heap.size ≤ g) v q
  below : Below w.heap.size w wr
theorem HasV.on {w wr wy : World} {xb : Nat} {q : RawV} {v : JV} (h : HasV w wr xb q v) (hb : Below wr.heap.size wr wy) : HasV w wy xb q v := ⟨jbox_below h.box hb, h.val.below hb, h.below.trans (hb.mono h.below.size)⟩
section
variable {w : World}
theorem parse_at {bv : Value} {bs : List UInt8} (hb : BytesAt w bv bs) (ht : Tabs w) : Calls Tryz.prog 12 #[bv] w fun e w' => ∃ (q : RawV) (p er : Int),
    e = .returned (.tuple #[.agg #[.int .i64 q.k, .string q.t, .slice q.la q.ll q.lc, .slice q.na q.nl q.nc], .int .i64 p, .int .i64 er]) ∧ Hid (JAt w' (fun g => w.heap.size ≤ g) (parse bs).1 q ∧ p = ((parse bs).2.1 : Int) ∧ er = ((parse bs).2.2 : Int) ∧ Below w.heap.size w w') := by
  refine (j_parse hb ht).mono ?_
  rintro e w' ⟨q, rfl, hj, h⟩
  exact ⟨q, _, _, rfl, Lib.hid ⟨hj, rfl, rfl, h⟩⟩
end
end Go.Proofs.YthjcolehccbihaaGreatDoor
