/- The walk of the file system's Copy. -/
import Derived.Test.YtmfiibehclbnjaaFsR
namespace Go.Proofs.Ytmfiibehclbnjaa
open Go.RowKit Go.Shelf

section
variable {w : World} {fb mb : Nat} {F : FsS} {S : Nat → Prop} {rs : List (ByteArray × Pl)}
/-- A new file is put into the map. -/
theorem FsAt.newFile2 (h : FsAt w fb F S mb rs) {w1 w' : World} {n : ByteArray} {p : Pl} (hk1 : Below w.heap.size w w1) (hp : PlAt w1 p) (hg : ∀ k, blocksOf p k → w.heap.size ≤ k) (hm : MapAt strKind evP w' mb (putL slt rs n p)) (hk : Keeps (fun i => i = mb) w1 w') :
    FsPost w fb (F.set n p.fl) S w' := by
  have hs : ∀ x ∈ putL slt rs n p, x ∈ rs ∨ x = (n, p) := by
    intro x hx
    unfold putL at hx
    rcases List.mem_append.1 hx with hx | hx
    · exact .inl (List.mem_filter.1 hx).1
    rcases List.mem_cons.1 hx with hx | hx
    · exact .inr hx
    · exact .inl (List.mem_filter.1 hx).1
  have h1 := h.below hk1
  have hpg : p.g < w'.heap.size := Nat.lt_of_lt_of_le (lt_of_block hp.blk) hk.size
  have hold : ∀ x ∈ rs, ∀ k, blocksOf x.2 k → k < w.heap.size := fun x hx k hb => h.lt k (h.sp x hx k hb)
  have hnew : ∀ k, blocksOf p k → k < w'.heap.size := by
    rintro k (rfl | e)
    · exact hpg
    · obtain ⟨cur, hc⟩ := hp.bytes.own _ e
      exact Nat.lt_of_lt_of_le (lt_of_block hc) hk.size
  refine ⟨⟨mb, putL slt rs n p, hk.obj h1.blk (fun e => h1.map.not_blk h1.blk e), hm, ?_, ?_, ?_, .inl h.sfb, .inl h.smb, ?_, new_lt h.lt (Nat.le_trans hk1.size hk.size)⟩, ?_⟩
  · show putL slt F.files n p.fl = _
    rw [h.files]; exact (putL_map (fun q : Pl => q.fl) rs n p).symm
  · intro x hx
    rcases hs x hx with hx | rfl
    · refine (h1.pl x hx).keeps hk ?_
      rintro k (rfl | e) rfl
      · exact h1.map.not_blk (h1.pl x hx).blk rfl
      · obtain ⟨cur, hc⟩ := (h1.pl x hx).bytes.own _ e
        exact h1.map.not_blk hc rfl
    · refine hp.keeps hk ?_
      rintro k (rfl | e) rfl
      · exact h1.map.not_blk hp.blk rfl
      · obtain ⟨cur, hc⟩ := hp.bytes.own _ e
        exact h1.map.not_blk hc rfl
  · refine apart_perm ?_ (putL_perm slt_ord rs n p)
    show List.Pairwise _ _
    rw [List.pairwise_cons]
    have hne : ∀ x ∈ rs, x.2.g ≠ p.g ∧ ∀ k, x.2.v.ownBlock = some k → p.v.ownBlock ≠ some k := fun x hx => ⟨fun e => by have := hold x hx x.2.g (.inl rfl); have := hg _ (.inl rfl); omega, fun k e1 e => by have := hold x hx k (.inr e1); have := hg k (.inr e); omega⟩
    refine ⟨fun x hx => ?_, h.apart.sublist List.filter_sublist⟩
    have := hne x (List.mem_filter.1 hx).1
    exact ⟨fun e => this.1 e.symm, fun k e e2 => this.2 k e2 e⟩
  · intro x hx k hk1
    rcases hs x hx with hx | rfl
    · exact .inl (h.sp x hx k hk1)
    · exact .inr ⟨hg _ hk1, hnew _ hk1⟩
  · exact ((Keeps.of_below hk1).mono (fun _ _ e => e.elim)).trans' (hk.mono (fun i _ e => by rw [e]; exact h.smb))


/-- The files that were gone over, put one by one. -/
def putAll (l : List (ByteArray × Pl)) : List (ByteArray × FileS) := l.foldl (fun m x => putL slt m x.1 x.2.fl) []
theorem putAll_snoc (l : List (ByteArray × Pl)) (x : ByteArray × Pl) : putAll (l ++ [x]) = putL slt (putAll l) x.1 x.2.fl := by unfold putAll; rw [List.foldl_append]; rfl
theorem rise_putAll : ∀ l : List (ByteArray × Pl), Rise slt (putAll l) := by
  intro l
  obtain ⟨r, rfl⟩ : ∃ r : List (ByteArray × Pl), l = r.reverse := ⟨l.reverse, by simp⟩
  induction r with
  | nil => exact List.Pairwise.nil
  | cons x l ih => rw [List.reverse_cons, putAll_snoc]; exact rise_putL slt_ord ih _ _
theorem putAll_perm : ∀ l : List (ByteArray × Pl), (l.map (·.1)).Nodup → (putAll l).Perm (flOf l) := by
  intro l
  obtain ⟨r, rfl⟩ : ∃ r : List (ByteArray × Pl), l = r.reverse := ⟨l.reverse, by simp⟩
  induction r with
  | nil => intro _; exact List.Perm.nil
  | cons x l ih =>
    rw [List.reverse_cons]
    generalize l.reverse = l at ih
    intro hn
    rw [putAll_snoc]
    rw [List.map_append, List.nodup_append] at hn
    have h1 := ih hn.1
    have hd : ∀ y ∈ putAll l, y.1 ≠ x.1 := by
      intro y hy e
      obtain ⟨z, hz, rfl⟩ := List.mem_map.1 (h1.mem_iff.1 hy)
      exact hn.2.2 z.1 (List.mem_map_of_mem hz) x.1 (by simp) e
    refine (putL_new slt_ord (putAll l) x.1 x.2.fl hd).trans ?_
    unfold flOf at h1 ⊢
    rw [List.map_append]
    exact (h1.cons _).trans (List.perm_append_singleton _ _).symm
theorem rise_unique {a b : List (ByteArray × FileS)} (hp : a.Perm b) (ha : Rise slt a) (hb : Rise slt b) : a = b := by
  unfold Rise at ha hb
  refine hp.eq_of_pairwise (le := fun x y : ByteArray × FileS => slt x.1 y.1 = true) ?_ ha hb
  intro x y _ _ h1 h2
  have := slt_ord.tr _ _ _ h1 h2
  rw [slt_ord.irr] at this
  cases this
theorem putAll_all {done : List (ByteArray × Pl)} (h : FsAt w fb F S mb rs) (hp : done.Perm rs) : putAll done = F.files := by
  have hn : (done.map (·.1)).Nodup := by
    rw [(hp.map (·.1)).nodup_iff]
    have := h.map.rise
    unfold List.Nodup
    rw [List.pairwise_map]
    refine List.Pairwise.imp ?_ this
    intro a b hab e
    have hab : slt a.1 b.1 = true := hab
    rw [e, slt_ord.irr] at hab
    cases hab
  rw [h.files]
  refine rise_unique ((putAll_perm done hn).trans (hp.map _)) (rise_putAll done) ?_
  have := h.rise
  rwa [h.files] at this
end
end Go.Proofs.Ytmfiibehclbnjaa
