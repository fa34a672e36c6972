/- The walk of the file system's Copy. -/
import Derived.Test.YthbfkjmpaifblaaFsN
namespace Go.Proofs.Ythbfkjmpaifblaa
open Go.RowKit Go.Shelf

section
variable {w : World} {fb mb : Nat} {F : FsS} {S : Nat → Prop} {rs : List (ByteArray × Pl)}
/-- A new file is put into the map. -/
theorem FsAt.newFile2 (h : FsAt w fb F S mb rs) {w1 w' : World} {n : ByteArray} {p : Pl} (hk1 : Below w.heap.size w w1) (hp : PlAt w1 p) (hg : ∀ k, blocksOf p k → w.heap.size ≤ k) (hm : MapAt strKind evP w' mb (putL slt rs n p)) (hk : Keeps (fun i => i = mb) w1 w') :
    FsPost w fb (F.set n p.fl) S w' := by
  have hs : ∀ x ∈ putL slt rs n p, x ∈ rs ∨ x = (n, p) := by
    intro x hx
    unfold putL at hx
    rcases List.mem_append.1 hx with hx | hx
    · exact .inl (List.mem_filter.1 hx).1
    rcases List.mem_cons.1 hx with hx | hx
    · exact .inr hx
    · exact .inl (List.mem_filter.1 hx).1
  have h1 := h.below hk1
  have hpg : p.g < w'.heap.size := Nat.lt_of_lt_of_le (lt_of_block hp.blk) hk.size
  have hold : ∀ x ∈ rs, ∀ k, blocksOf x.2 k → k < w.heap.size := fun x hx k hb => h.lt k (h.sp x hx k hb)
  have hnew : ∀ k, blocksOf p k → k < w'.heap.size := by
    rintro k (rfl | e)
    · exact hpg
    · obtain ⟨cur, hc⟩ := hp.bytes.own _ e
      exact Nat.lt_of_lt_of_le (lt_of_block hc) hk.size
  refine ⟨⟨mb, putL slt rs n p, hk.obj h1.blk (fun e => h1.map.not_blk h1.blk e), hm, ?_, ?_, ?_, .inl h.sfb, .inl h.smb, ?_, new_lt h.lt (Nat.le_trans hk1.size hk.size)⟩, ?_⟩
  · show putL slt F.files n p.fl = _
    rw [h.files]; exact (putL_map (fun q : Pl => q.fl) rs n p).symm
  · intro x hx
    rcases hs x hx with hx | rfl
    · refine (h1.pl x hx).keeps hk ?_
      rintro k (rfl | e) rfl
      · exact h1.map.not_blk (h1.pl x hx).blk rfl
      · obtain ⟨cur, hc⟩ := (h1.pl x hx).bytes.own _ e
        exact h1.map.not_blk hc rfl
    · refine hp.keeps hk ?_
      rintro k (rfl | e) rfl
      · exact h1.map.not_blk hp.blk rfl
      · obtain ⟨cur, hc⟩ := hp.bytes.own _ e
        exact h1.map.not_blk hc rfl
  · refine apart_perm ?_ (putL_perm slt_ord rs n p)
    show List.Pairwise _ _
    rw [List.pairwise_cons]
    have hne : ∀ x ∈ rs, x.2.g ≠ p.g ∧ ∀ k, x.2.v.ownBlock = some k → p.v.ownBlock ≠ some k := fun x hx => ⟨fun e => by have := hold x hx x.2.g (.inl rfl); have := hg _ (.inl rfl); omega, fun k e1 e => by have := hold x hx k (.inr e1); have := hg k (.inr e); omega⟩
    refine ⟨fun x hx => ?_, h.apart.sublist List.filter_sublist⟩
    have := hne x (List.mem_filter.1 hx).1
    exact ⟨fun e => this.1 e.symm, fun k e e2 => this.2 k e2 e⟩
  · intro x hx k hk1
    rcases hs x hx with hx | rfl
    · exact .inl (h.sp x hx k hk1)
    · exact .inr ⟨hg _ hk1, hnew _ hk1⟩
  · exact ((Keeps.of_below hk1).mono (fun _ _ e => e.elim)).trans' (hk.mono (fun i _ e => by rw [e]; exact h.smb))


/-- The files that were gone over, put one by one. -/
def putAll (l : List (ByteArray × Pl)) : List (ByteArray × FileS) := l.foldl (fun m x => putL slt m x.1 x.2.fl) []
theorem putAll_snoc (l : List (ByteArray × Pl)) (x : ByteArray × Pl) : putAll (l ++ [x]) = putL slt (putAll l) x.1 x.2.fl := by unfold putAll; rw [List.foldl_append]; rfl
theorem rise_putAll : ∀ l : List (ByteArray × Pl), Rise slt (putAll l) := by
  intro l
  obtain ⟨r, rfl⟩ : ∃ r : List (ByteArray × Pl), l = r.reverse := ⟨l.reverse, by simp⟩
  induction r with
  | nil => exact List.Pairwise.nil
  | cons x l ih => rw [List.reverse_cons, putAll_snoc]; exact rise_putL slt_ord ih _ _
theorem putAll_perm : ∀ l : List (ByteArray × Pl), (l.map (·.1)).Nodup → (putAll l).Perm (flOf l) := by
  intro l
  obtain ⟨r, rfl⟩ : ∃ r : List (ByteArray × Pl), l = r.reverse := ⟨l.reverse, by simp⟩
  induction r with
  | nil => intro _; exact List.Perm.nil
  | cons x l ih =>
    rw [List.reverse_cons]
    generalize l.reverse = l at ih
    intro hn
    rw [putAll_snoc]
    rw [List.map_append, List.nodup_append] at hn
    have h1 := ih hn.1
    have hd : ∀ y ∈ putAll l, y.1 ≠ x.1 := by
      intro y hy e
      obtain ⟨z, hz, rfl⟩ := List.mem_map.1 (h1.mem_iff.1 hy)
      exact hn.2.2 z.1 (List.mem_map_of_mem hz) x.1 (by simp) e
    refine (putL_new slt_ord (putAll l) x.1 x.2.fl hd).trans ?_
    unfold flOf at h1 ⊢
    rw [List.map_append]
    exact (h1.cons _).trans (List.perm_append_singleton _ _).symm
theorem rise_unique {a b : List (ByteArray × FileS)} (hp : a.Perm b) (ha : Rise slt a) (hb : Rise slt b) : a = b := by
  unfold Rise at ha hb
  refine hp.eq_of_pairwise (le := fun x y : ByteArray × FileS => slt x.1 y.1 = true) ?_ ha hb
  intro x y _ _ h1 h2
  have := slt_ord.tr _ _ _ h1 h2
  rw [slt_ord.irr] at this
  cases this
theorem putAll_all {done : List (ByteArray × Pl)} (h : FsAt w fb F S mb rs) (hp : done.Perm rs) : putAll done = F.files := by
  have hn : (done.map (·.1)).Nodup := by
    rw [(hp.map (·.1)).nodup_iff]
    have := h.map.rise
    unfold List.Nodup
    rw [List.pairwise_map]
    refine List.Pairwise.imp ?_ this
    intro a b hab e
    have hab : slt a.1 b.1 = true := hab
    rw [e, slt_ord.irr] at hab
    cases hab
  rw [h.files]
  refine rise_unique ((putAll_perm done hn).trans (hp.map _)) (rise_putAll done) ?_
  have := h.rise
  rwa [h.files] at this
end
end Go.Proofs.Ythbfkjmpaifblaa
/- The walk of the file system's Copy. -/
namespace Go.Proofs.Ythbfkjmpaifblaa
open Go.RowKit Go.Shelf

section
variable {w : World} {fb mb : Nat} {F : FsS} {S : Nat → Prop} {rs : List (ByteArray × Pl)}
/-- Behind some files of a copy: the copy lies at block cb. -/
structure CpI (W3 : World) (cb r mb : Nat) (F : FsS) (S0 : Nat → Prop) (rs left : List (ByteArray × Pl)) (wr : World) : Prop where
  ex : ∃ done, (done ++ left).Perm rs ∧ FsIs wr cb { F with files := putAll done } (New W3 wr S0)
  rng : RangeAt strKind evP wr mb r rs left
  kept : Keeps (fun k => S0 k ∨ k = r) W3 wr
theorem new_keep {a b c : World} (hk : b.heap.size ≤ c.heap.size) : ∀ k, New a b S k → New a c S k := by
  rintro k (e | e)
  · exact .inl e
  · exact .inr ⟨e.1, by omega⟩
/-- What the map's change comes to, behind fresh. -/
theorem copy_step {W3 w1 : World} {cb r : Nat} {S0 : Nat → Prop} {rest : List (ByteArray × Pl)} {x : ByteArray × Pl} {done : List (ByteArray × Pl)} {mb2 : Nat} {rs2 : List (ByteArray × Pl)}
    (hd : (done ++ x :: rest).Perm rs) (hA : FsAt w1 cb { F with files := putAll done } (New W3 w1 S0) mb2 rs2) (hR : RangeAt strKind evP w1 mb r rs rest) (hK : Keeps (fun k => S0 k ∨ k = r) W3 w1) (hr : r < W3.heap.size) (hrS : ¬ S0 r) (hmS : ¬ S0 mb) (hml : mb < W3.heap.size)
    {W' : World} {v : Value} (hf : FreshAt w1 W' v x.2.fl.data) :
    ∃ w3, (Instr.mapUpdate 74 (.map (some mb2)) (.string x.1) (.pointer (some ⟨W'.heap.size, 0, none⟩))).run Try.prog (W'.alloc (.cells #[v, .int .i64 (x.2.fl.synced : Int)] 90)) = .ok () w3 ∧ CpI W3 cb r mb F S0 rs rest w3 ∧ Keeps (New W3 w1 S0) w1 w3 ∧ w3.cell? ⟨cb, 2, none⟩ = some (.map (some mb2)) := by
  have hal : Below W'.heap.size W' (W'.alloc (.cells #[v, .int .i64 (x.2.fl.synced : Int)] 90)) := (Below.refl _ _).alloc (Nat.le_refl _) _
  have hb := hf.below.trans (hal.mono hf.below.size)
  have h1 := hA.below hb
  obtain ⟨w3, hrun, hm, hk, hz⟩ := h1.map.update (P := Try.prog) (t := 74) Try.underlying74 Try.underlying9 x.1 ⟨W'.heap.size, v, x.2.fl⟩
  have hp : PlAt (W'.alloc (.cells #[v, .int .i64 (x.2.fl.synced : Int)] 90)) ⟨W'.heap.size, v, x.2.fl⟩ := ⟨heap_alloc_new W' _, hf.sl.below hal⟩
  have hpost := hA.newFile2 hb hp (fun k e => by
    rcases e with rfl | e
    · exact hf.below.size
    · exact hf.new k e) hm hk
  have hne : ∀ i, New W3 w1 S0 i → i ≠ r ∧ i ≠ mb := by
    rintro i (e | e)
    · exact ⟨fun e2 => hrS (e2 ▸ e), fun e2 => hmS (e2 ▸ e)⟩
    · exact ⟨fun e2 => by omega, fun e2 => by omega⟩
  refine ⟨w3, hrun, ⟨⟨done ++ [x], by simpa using hd, ?_⟩, hR.keeps hpost.2 (fun e => (hne _ e).2 rfl) (fun e => (hne _ e).1 rfl), ?_⟩, hpost.2, blk_cell (hk.obj h1.blk (fun e => h1.map.not_blk h1.blk e)) 2⟩
  · rw [putAll_snoc]
    refine hpost.1.mono (fun k e => ?_) (fun k e => ?_)
    · exact new_trans hK.size hpost.2.size k e
    · rcases e with e | e
      · have := hA.lt k (.inl e); have := hpost.2.size; omega
      · exact e.2
  · refine hK.trans hpost.2 ?_
    rintro i hi (e | e)
    · exact .inl e
    · omega
end
end Go.Proofs.Ythbfkjmpaifblaa
/- An operation that is told, as plain data; its walk. -/
namespace Go.Proofs.Ythbfkjmpaifblaa
open Go.RowKit Go.Shelf

/-- An operation: its kind, its number, its two names, its bytes. -/
structure FOp where
  kind : Int
  n : Int
  name : ByteArray
  to : ByteArray
  b : List UInt8
/-- What it comes to. -/
def FsS.told (F : FsS) (o : FOp) : FsS × Int :=
  if o.kind = 0 then F.create o.name
  else if o.kind = 1 then F.append o.name o.b
  else if o.kind = 2 then F.sync o.name
  else if o.kind = 3 then F.truncate o.name o.n
  else if o.kind = 4 then F.rename o.name o.to
  else if o.kind = 5 then F.remove o.name
  else if o.kind = 6 then ({ F with armed := max o.n 0 }, 0)
  else if o.kind = 7 then (F.crash fun _ _ => o.n, 0)
  else (F, 0)
def FsS.toldAll (F : FsS) (l : List FOp) : FsS := l.foldl (fun G o => (G.told o).1) F
theorem FsS.toldAll_snoc (F : FsS) (l : List FOp) (o : FOp) : F.toldAll (l ++ [o]) = ((F.toldAll l).told o).1 := by unfold FsS.toldAll; rw [List.foldl_append]; rfl
theorem FsOk.told {F : FsS} {k : Nat} (h : FsOk F k) (o : FOp) (hn : o.n ≤ 9223372036854775807) : FsOk (F.told o).1 (k + 1) := by
  unfold FsS.told
  repeat' split
  · exact h.create _
  · exact h.append _ _
  · exact h.sync _
  · exact h.truncate _ _
  · exact h.rename _ _
  · exact h.remove _
  · exact (h.arm (by omega) (by omega)).mono (Nat.le_succ k)
  · exact (h.crash _).mono (Nat.le_succ k)
  · exact h.mono (Nat.le_succ k)
theorem FsOk.toldAll {F : FsS} {k : Nat} (h : FsOk F k) : ∀ (l : List FOp), (∀ o ∈ l, o.n ≤ 9223372036854775807) → FsOk (F.toldAll l) (k + l.length) := by
  intro l
  obtain ⟨r, rfl⟩ : ∃ r : List FOp, l = r.reverse := ⟨l.reverse, by simp⟩
  induction r with
  | nil => intro _; exact h
  | cons o l ih =>
    intro hn
    rw [List.reverse_cons] at hn ⊢
    rw [FsS.toldAll_snoc, List.length_append]
    exact (ih (fun o ho => hn o (by simp at ho ⊢; exact .inl ho))).told o (hn o (by simp))

section
variable {w : World} {fb : Nat} {F : FsS} {S : Nat → Prop}
/-- Where an operation's bytes are. -/
structure OpVal (w : World) (o : FOp) (u : Value) : Prop where
  bytes : RdAt byteKind w u o.b
  small : o.b.length ≤ 9223372036854775807
  n0 : -9223372036854775808 ≤ o.n
  n1 : o.n ≤ 9223372036854775807
abbrev opAgg (o : FOp) (u : Value) : Value := .agg #[.int .i64 o.kind, .int .i64 o.n, .string o.name, .string o.to, u]
abbrev opCells (o : FOp) (u : Value) : Array Value := #[.int .i64 o.kind, .int .i64 o.n, .string o.name, .string o.to, u]
theorem OpVal.below {w' : World} {o : FOp} {u : Value} (h : OpVal w o u) (hb : Below w.heap.size w w') : OpVal w' o u := ⟨h.bytes.below hb, h.small, h.n0, h.n1⟩

/-- A crash that keeps so many of each file's bytes. -/
theorem s_crash_const (h : FsIs w fb F S) {k : Nat} (ho : FsOk F k) (g : Nat) (lb : Array Value) (eg : ∀ args w, (callFunc g args).run Try.prog w = .ok (.enter g args) w) (keep : Int)
    (hcall : ∀ n m W, Keeps S w W → Calls Try.prog g (#[.string n, .int .i64 m] ++ lb) W fun e W' => e = .returned (.int .i64 keep) ∧ W = W') :
    Calls Try.prog 41 #[.pointer (some ⟨fb, 0, none⟩), .func (.func g) #[] lb] w fun e w' => e = .returned (.tuple #[]) ∧ FsPost w fb (F.crash fun _ _ => keep) S w' := by
  obtain ⟨mb, rs, h⟩ := h
  refine (f_crash h ho g lb eg (fun _ _ => keep) (fun _ => False) (fun _ e => e.elim) (fun _ W => Keeps S w W) (fun W hb => (Keeps.of_below hb).mono fun _ _ e => e.elim) ?_ ?_ ?_).mono ?_
  · intro j W W' U h1 h2 h3
    exact h1.trans h2 (fun i hi e => by
      rcases h3 i e with e | e
      · exact e
      · omega)
  · intro i n x W _ _ hI
    refine (hcall n _ W hI).mono ?_
    rintro e W' ⟨rfl, rfl⟩
    exact ⟨rfl, hI, Keeps.refl _ _⟩
  · intro i n x W _ _ hI
    exact hI
  · rintro e w' ⟨rfl, hk, hf, _⟩
    exact ⟨rfl, hf, hk⟩
def ToldPost (w : World) (fb : Nat) (F : FsS) (S : Nat → Prop) (o : FOp) (e : Ending) (w' : World) : Prop := e = .returned (.int .i64 (F.told o).2) ∧ FsPost w fb (F.told o).1 S w'
end
end Go.Proofs.Ythbfkjmpaifblaa
/- The walks of the statements' helpers: Few, Made, alike. -/
namespace Go.Proofs.Ythbfkjmpaifblaa
open Go.RowKit Go.Shelf

/-- A slice of operations. -/
def FOpsAt (w : World) (v : Value) (os : List FOp) : Prop :=
  ∃ (a : Option Addr) (cap : Nat), v = .slice a os.length cap ∧ ∀ j o, os[j]? = some o → ∃ g off ba bcap, a = some ⟨g, off, none⟩ ∧
    (w.cell? ⟨g, off + j * 5, none⟩ = some (.int .i64 o.kind) ∧ w.cell? ⟨g, off + j * 5 + 1, none⟩ = some (.int .i64 o.n) ∧ w.cell? ⟨g, off + j * 5 + 2, none⟩ = some (.string o.name) ∧ w.cell? ⟨g, off + j * 5 + 3, none⟩ = some (.string o.to) ∧
      w.cell? ⟨g, off + j * 5 + 4, none⟩ = some (.slice ba o.b.length bcap)) ∧ OpVal w o (.slice ba o.b.length bcap) ∧ o.name.size ≤ 9223372036854775807 ∧ o.to.size ≤ 9223372036854775807
theorem FOpsAt.below {w w' : World} {v : Value} {os : List FOp} (h : FOpsAt w v os) (hk : Below w.heap.size w w') : FOpsAt w' v os := by
  obtain ⟨a, cap, rfl, h⟩ := h
  refine ⟨a, cap, rfl, fun j x hx => ?_⟩
  obtain ⟨g, off, ba, bcap, e, ⟨c0, c1, c2, c3, c4⟩, hv, z1, z2⟩ := h j x hx
  have hc : ∀ a u, w.cell? a = some u → w'.cell? a = some u := fun a u hc => (hk.cell (p := a) (World.block_lt_of_cell? w _ hc)).trans hc
  exact ⟨g, off, ba, bcap, e, ⟨hc _ _ c0, hc _ _ c1, hc _ _ c2, hc _ _ c3, hc _ _ c4⟩, hv.below hk, z1, z2⟩
theorem FOpsAt.n1 {w : World} {v : Value} {os : List FOp} (h : FOpsAt w v os) : ∀ o ∈ os, o.n ≤ 9223372036854775807 := by
  intro o ho
  obtain ⟨a, cap, rfl, h⟩ := h
  obtain ⟨j, hj⟩ := List.getElem?_of_mem ho
  obtain ⟨g, off, ba, bcap, e, _, hv, _⟩ := h j o hj
  exact hv.n1

/-- What Few hands back: some bool, true only of at most 300 operations. -/
def FewPost (n : Nat) (w : World) (e : Ending) (w' : World) : Prop := ∃ b : Bool, e = .returned (.bool b) ∧ (b = true → n ≤ 300) ∧ Below w.heap.size w w'
/-- A new file system. -/
def FsS.new (m : Int) : FsS := ⟨min (max m 0) 67108864, 0, [], 0, 0, false⟩
theorem FsOk.new0 (m : Int) : FsOk (FsS.new m) 0 :=
  { rise := List.Pairwise.nil, room0 := by show 0 ≤ min (max m 0) 67108864; omega, room1 := by show min (max m 0) 67108864 ≤ _; omega, used := rfl, fits := by show 0 ≤ min (max m 0) 67108864; omega, synced := fun x hx => by simp [FsS.new] at hx,
    armed0 := Int.le_refl _, armed1 := by show (0 : Int) ≤ _; omega, steps0 := Int.le_refl _, steps1 := Int.le_refl _, few := Nat.zero_le _, valid := fun x hx => by simp [FsS.new] at hx }
section
variable {w : World}
theorem below_of_post {B : Nat} {a b c : World} {fb : Nat} {F : FsS} {S : Nat → Prop} (h : Below B a b) (hk : FsPost b fb F S c) (hs : ∀ i, S i → B ≤ i) (hB : B ≤ b.heap.size) : Below B a c := below_keeps h hk.2 hs hB
structure MadeI (w : World) (fb : Nat) (F : FsS) (os : List FOp) (j : Nat) (wr : World) : Prop where
  fs : FsIs wr fb (F.toldAll (os.take j)) (New w wr fun _ => False)
  below : Below w.heap.size w wr
theorem MadeI.step {fb : Nat} {F : FsS} {os : List FOp} {j : Nat} {o : FOp} {wr w' : World} (h : MadeI w fb F os j wr) (ho : os[j]? = some o) (hp : FsPost wr fb ((F.toldAll (os.take j)).told o).1 (New w wr fun _ => False) w') : MadeI w fb F os (j + 1) w' := by
  have e : F.toldAll (os.take (j + 1)) = ((F.toldAll (os.take j)).told o).1 := by
    obtain ⟨hj, he⟩ := List.getElem?_eq_some_iff.1 ho
    rw [List.take_succ_eq_append_getElem hj, FsS.toldAll_snoc, he]
  refine ⟨?_, below_of_post h.below hp (fun i e => by rcases e with e | e; exact e.elim; exact e.1) h.below.size⟩
  rw [e]
  exact hp.1.mono (fun k e => by
    rcases e with (e | e) | e
    · exact e.elim
    · exact .inr ⟨e.1, by have := hp.2.size; omega⟩
    · exact .inr ⟨by have := h.below.size; omega, e.2⟩) (fun k e => by
    rcases e with e | e
    · exact e.elim
    · exact e.2)
end
end Go.Proofs.Ythbfkjmpaifblaa
