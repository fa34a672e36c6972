/- The table's and the snapshot's sequences: All, Range. -/
import Derived.Test.YtndaacojbbmcnaaW1
namespace Go.Proofs.Ytndaacojbbmcnaa
open Go.RowKit Go.RwLone Go.Shelf
attribute [local go_sem] Oper.semAt_some

section
variable {K V : Type} {lt : K → K → Bool}
theorem walkL_node (wi : K → Int) (k : K) (v : V) (l r : Tr K V) : walkL wi (.node k v l r) = (if 0 ≤ wi k then walkL wi l else []) ++ ((if wi k = 0 then [(k, v)] else []) ++ (if 0 < wi k then [] else walkL wi r)) := rfl
theorem walkL_all (t : Tr K V) : walkL (fun _ => 0) t = t.ino := by
  induction t with
  | leaf => rfl
  | node k v l r hl hr => simp [walkL, Tr.ino, hl, hr]
end
theorem walkL_btw (lo hi : ByteArray) : ∀ t : Tr ByteArray Int, Rise slt t.ino → walkL (btw lo hi) t = t.ino.filter (fun x => !slt x.1 lo && slt x.1 hi) := by
  intro t
  induction t with
  | leaf => intro _; rfl
  | node k v l r hl hr =>
    intro h
    obtain ⟨h1, h2, ha, hb, _, _⟩ := rise_split slt_ord h
    show walkL _ _ = (l.ino ++ (k, v) :: r.ino).filter _
    rw [List.filter_append, List.filter_cons]
    rw [← hl h1, ← hr h2]
    rw [walkL_node]
    cases c1 : slt k lo with
    | true =>
      have e : btw lo hi k = -1 := by simp [btw, c1]
      have e0 : walkL (btw lo hi) l = [] := by
        rw [hl h1]
        exact filt_none fun x hx => by simp [slt_ord.tr _ _ _ (ha x hx) c1]
      simp [e, e0]
    | false =>
      cases c2 : slt k hi with
      | true => simp [btw, c1, c2]
      | false =>
        have e : btw lo hi k = 1 := by simp [btw, c1, c2]
        have e0 : walkL (btw lo hi) r = [] := by
          rw [hr h2]
          refine filt_none fun x hx => ?_
          have : slt x.1 hi = false := by
            cases c : slt x.1 hi with
            | false => rfl
            | true => have := slt_ord.tr _ _ _ (hb x hx) c; rw [c2] at this; cases this
          simp [this]
        simp [e, e0]

theorem WalkPost.seq {J Jx : List (ByteArray × Int) → World → Prop} {xs : List (ByteArray × Int)} {W : World} {e : Ending} {W' : World} (h : WalkPost J Jx [] xs W e W') :
    (∃ v, e = .returned v) ∧ KeepW W W' ∧ (J xs W' ∨ ∃ q, q <+: xs ∧ Jx q W') := by
  rcases h with ⟨rfl, h, hk⟩ | ⟨rfl, hk, q, hq, hx⟩
  · exact ⟨⟨_, rfl⟩, hk, .inl (by simpa using h)⟩
  · exact ⟨⟨_, rfl⟩, hk, .inr ⟨q, hq, by simpa using hx⟩⟩
/-- What an iterator owes: all has come; or a round has said 'no more'. -/
def SeqPost (J Jx : List (ByteArray × Int) → World → Prop) (xs : List (ByteArray × Int)) (e : Ending) (W' : World) : Prop :=
  (∃ v, e = .returned v) ∧ (J xs W' ∨ ∃ q, q <+: xs ∧ Jx q W')

section
variable (l : Nat) (J Jx : List (ByteArray × Int) → World → Prop)
/-- What it is given: new blocks and draws turn nothing; each round goes on, or says 'no more'. -/
structure SeqIn (xs : List (ByteArray × Int)) : Prop where
  grow : ∀ ys W W', J ys W → Below W.heap.size W W' → J ys W'
  round : ∀ pre x W, J pre W → pre ++ [x] <+: xs → YieldAt Fence.wide 0 Try.prog l (encKV x) W fun e W' =>
      (e = .returned (.bool true) ∧ J (pre ++ [x]) W' ∧ KeepW W W') ∨ (e = .returned (.bool false) ∧ Jx (pre ++ [x]) W' ∧ KeepW W W')

theorem below_drewN' (W : World) (n : Nat) : Below W.heap.size W (W.drewN n) := ⟨rfl, rfl, rfl, Nat.le_refl _, fun _ _ => rfl⟩

theorem eg_all : ∀ args w, (callFunc 51 args).run Try.prog w = .ok (.enter 51 args) w := enters_of Try.func51 (by kernel_rfl) rfl
theorem eg_btw : ∀ args w, (callFunc 82 args).run Try.prog w = .ok (.enter 82 args) w := enters_of Try.func82 (by kernel_rfl) rfl

theorem q_walk_all {t : Tr ByteArray Int} (H : SeqIn l J Jx t.ino) (p : Option Addr) (W : World) (ht : STree W t p) (h0 : J [] W) :
    Calls Try.prog 50 #[.pointer p, .func (.func 51) #[] #[], .func (.yield l) #[] #[]] W (WalkPost J Jx [] t.ino W) := by
  have := s_walk l J Jx 51 #[] (fun _ => 0) (fun _ => True) (fun ys W n h => H.grow ys W _ h (below_drewN' W n)) (fun _ _ _ h => h) (fun _ => .inr (.inl rfl)) eg_all
    (fun k W _ => s_all k W) _ H.round t p [] W ht trivial h0 (by rw [walkL_all]; simp)
  rwa [walkL_all] at this
theorem q_walk_btw {t : Tr ByteArray Int} (hr : Rise slt t.ino) (lo hi : ByteArray) (H : SeqIn l J Jx (t.ino.filter (fun x => !slt x.1 lo && slt x.1 hi))) (p : Option Addr) (W : World) (ht : STree W t p) (h0 : J [] W)
    (bl bh : Nat) (h1 : IsBlk W bl #[.string lo] 9) (h2 : IsBlk W bh #[.string hi] 9) :
    Calls Try.prog 50 #[.pointer p, .func (.func 82) #[] #[.pointer (some ⟨bl, 0, none⟩), .pointer (some ⟨bh, 0, none⟩)], .func (.yield l) #[] #[]] W (WalkPost J Jx [] (t.ino.filter (fun x => !slt x.1 lo && slt x.1 hi)) W) := by
  have := s_walk l J Jx 82 #[.pointer (some ⟨bl, 0, none⟩), .pointer (some ⟨bh, 0, none⟩)] (btw lo hi)
    (fun W => IsBlk W bl #[.string lo] 9 ∧ IsBlk W bh #[.string hi] 9) (fun ys W n h => H.grow ys W _ h (below_drewN' W n)) (fun _ _ hk h => ⟨hk.str _ _ h.1, hk.str _ _ h.2⟩) (btw_in lo hi) eg_btw
    (fun k W h => s_btw lo hi k bl bh W h.1 h.2) _ H.round t p [] W ht ⟨h1, h2⟩ h0 (by rw [walkL_btw lo hi t hr]; simp)
  rwa [walkL_btw lo hi t hr] at this

set_option maxRecDepth 100000 in
set_option maxHeartbeats 2000000 in
/-- The snapshot's All, gone over. -/
theorem q_sall {t : Tr ByteArray Int} {ver : Int} (H : SeqIn l J Jx t.ino) (bs sb : Nat) (W : World) (hb : IsBlk W bs #[.pointer (some ⟨sb, 0, none⟩)] 51) (hs : SSnap W sb t ver) (h0 : J [] W) :
    Calls Try.prog 49 #[.func (.yield l) #[] #[], .pointer (some ⟨bs, 0, none⟩)] W (SeqPost J Jx t.ino) := by
  obtain ⟨root, hsb, ht⟩ := hs.ex
  have c0 : W.cell? ⟨bs, 0, none⟩ = some (.pointer (some ⟨sb, 0, none⟩)) := blk_cell hb 0
  have c1 : W.cell? ⟨sb, 0, none⟩ = some (.pointer root) := blk_cell hsb 0
  have HW := Lib.hid (q_walk_all l J Jx H root W ht h0)
  clear H hb hs hsb ht h0
  go_enter Try.func49, Try.ntmps49
  go_wp2_with fail
  refine HW.out.mono ?_
  intro e W1 h1
  obtain ⟨⟨v, rfl⟩, _, h2⟩ := h1.seq
  have H2 := Lib.hid h2
  clear h1 h2
  go_wp2
  go_end0
  exact ⟨⟨_, rfl⟩, H2.out⟩

end

theorem q_sAll (w : World) (sb : Nat) : Calls Try.prog 21 #[.pointer (some ⟨sb, 0, none⟩)] w fun e w' =>
    e = .returned (.func (.func 49) #[] #[.pointer (some ⟨w.heap.size, 0, none⟩)]) ∧ w' = w.alloc (.cells #[.pointer (some ⟨sb, 0, none⟩)] 51) := by
  go_enter Try.func21, Try.ntmps21
  go_wp2
  go_ret
  exact ⟨rfl, rfl⟩
theorem q_tAll (w : World) (tb : Nat) : Calls Try.prog 12 #[.pointer (some ⟨tb, 0, none⟩)] w fun e w' =>
    e = .returned (.func (.func 37) #[] #[.pointer (some ⟨w.heap.size, 0, none⟩)]) ∧ w' = w.alloc (.cells #[.pointer (some ⟨tb, 0, none⟩)] 25) := by
  go_enter Try.func12, Try.ntmps12
  go_wp2
  go_ret
  exact ⟨rfl, rfl⟩
theorem q_btw (w : World) (lo hi : ByteArray) : Calls Try.prog 53 #[.string lo, .string hi] w fun e w' =>
    e = .returned (.func (.func 82) #[] #[.pointer (some ⟨w.heap.size, 0, none⟩), .pointer (some ⟨w.heap.size + 1, 0, none⟩)]) ∧ w' = (w.alloc (.cells #[.string lo] 9)).alloc (.cells #[.string hi] 9) := by
  go_enter Try.func53, Try.ntmps53
  go_wp2
  go_ret
  exact ⟨rfl, rfl⟩
theorem q_sRange (w : World) (sb : Nat) (lo hi : ByteArray) : Calls Try.prog 22 #[.pointer (some ⟨sb, 0, none⟩), .string lo, .string hi] w fun e w' =>
    e = .returned (.func (.func 52) #[] #[.pointer (some ⟨w.heap.size, 0, none⟩), .pointer (some ⟨w.heap.size + 1, 0, none⟩), .pointer (some ⟨w.heap.size + 2, 0, none⟩)]) ∧
      w' = ((w.alloc (.cells #[.pointer (some ⟨sb, 0, none⟩)] 51)).alloc (.cells #[.string lo] 9)).alloc (.cells #[.string hi] 9) := by
  go_enter Try.func22, Try.ntmps22
  go_wp2
  go_ret
  exact ⟨rfl, rfl⟩
theorem q_tRange (w : World) (tb : Nat) (lo hi : ByteArray) : Calls Try.prog 54 #[.pointer (some ⟨tb, 0, none⟩), .string lo, .string hi] w fun e w' =>
    e = .returned (.func (.func 83) #[] #[.pointer (some ⟨w.heap.size, 0, none⟩), .pointer (some ⟨w.heap.size + 1, 0, none⟩), .pointer (some ⟨w.heap.size + 2, 0, none⟩)]) ∧
      w' = ((w.alloc (.cells #[.pointer (some ⟨tb, 0, none⟩)] 25)).alloc (.cells #[.string lo] 9)).alloc (.cells #[.string hi] 9) := by
  go_enter Try.func54, Try.ntmps54
  go_wp2
  go_ret
  exact ⟨rfl, rfl⟩

section
variable (l : Nat) (J Jx : List (ByteArray × Int) → World → Prop)
set_option maxRecDepth 100000 in
set_option maxHeartbeats 2000000 in
/-- The table's All, gone over: a snapshot is taken, and gone over. -/
theorem q_tall {t : Tr ByteArray Int} {ver : Int} (H : SeqIn l J Jx t.ino) (bb tb : Nat) (W : World) (hb : IsBlk W bb #[.pointer (some ⟨tb, 0, none⟩)] 25) (hs : STab W tb t ver) (h0 : J [] W) :
    Calls Try.prog 37 #[.func (.yield l) #[] #[], .pointer (some ⟨bb, 0, none⟩)] W (SeqPost J Jx t.ino) := by
  have c0 : W.cell? ⟨bb, 0, none⟩ = some (.pointer (some ⟨tb, 0, none⟩)) := blk_cell hb 0
  have HS := Lib.hid (t_snapshot W tb t ver hs)
  have H0 := Lib.hid h0
  have HH := Lib.hid H
  have eg := enters_of Try.func49 (P := Try.prog) (by kernel_rfl) rfl
  clear H hb hs h0
  go_enter Try.func37, Try.ntmps37
  go_wp2_with fail
  refine HS.out.mono ?_
  rintro e W1 ⟨sb, rfl, hs1, _, hk1⟩
  have HS1 := Lib.hid hs1
  have HK1 := Lib.hid hk1
  clear hs1 hk1
  go_wp2_with fail
  refine (q_sAll W1 sb).mono ?_
  rintro e W2 ⟨rfl, rfl⟩
  have hA : Below W1.heap.size W1 (W1.alloc (.cells #[.pointer (some ⟨sb, 0, none⟩)] 51)) := (Below.refl _ _).alloc (Nat.le_refl _) _
  have HQ := Lib.hid (q_sall l J Jx HH.out W1.heap.size sb _ (blk_new W1 _) (HS1.out.below hA) (HH.out.grow _ _ _ (HH.out.grow _ _ _ H0.out HK1.out) hA))
  clear hA c0
  go_wp2_with fail
  refine HQ.out.mono ?_
  rintro e W3 ⟨⟨v, rfl⟩, h3⟩
  have H3 := Lib.hid h3
  clear h3
  go_wp2
  go_end0
  exact ⟨⟨_, rfl⟩, H3.out⟩

set_option maxRecDepth 100000 in
set_option maxHeartbeats 4000000 in
/-- A snapshot's Range, gone over. -/
theorem q_srange {t : Tr ByteArray Int} {ver : Int} (lo hi : ByteArray) (hr : Rise slt t.ino) (H : SeqIn l J Jx (t.ino.filter (fun x => !slt x.1 lo && slt x.1 hi))) (bs bl bh sb : Nat) (W : World)
    (hb : IsBlk W bs #[.pointer (some ⟨sb, 0, none⟩)] 51) (hl : IsBlk W bl #[.string lo] 9) (hh : IsBlk W bh #[.string hi] 9) (hs : SSnap W sb t ver) (h0 : J [] W) :
    Calls Try.prog 52 #[.func (.yield l) #[] #[], .pointer (some ⟨bs, 0, none⟩), .pointer (some ⟨bl, 0, none⟩), .pointer (some ⟨bh, 0, none⟩)] W (SeqPost J Jx (t.ino.filter (fun x => !slt x.1 lo && slt x.1 hi))) := by
  obtain ⟨root, hsb, ht⟩ := hs.ex
  have c0 : W.cell? ⟨bs, 0, none⟩ = some (.pointer (some ⟨sb, 0, none⟩)) := blk_cell hb 0
  have c1 : W.cell? ⟨sb, 0, none⟩ = some (.pointer root) := blk_cell hsb 0
  have c2 : W.cell? ⟨bl, 0, none⟩ = some (.string lo) := blk_cell hl 0
  have c3 : W.cell? ⟨bh, 0, none⟩ = some (.string hi) := blk_cell hh 0
  have l0 := lt_of_block hb
  have l1 := lt_of_block hsb
  have l2 := lt_of_block hl
  have l3 := lt_of_block hh
  have HQ : Hid (Calls Try.prog 53 #[.string lo, .string hi] W.drew fun e w' =>
    e = .returned (.func (.func 82) #[] #[.pointer (some ⟨W.heap.size, 0, none⟩), .pointer (some ⟨W.heap.size + 1, 0, none⟩)]) ∧ Below W.heap.size W w' ∧ IsBlk w' W.heap.size #[.string lo] 9 ∧ IsBlk w' (W.heap.size + 1) #[.string hi] 9) :=
    Lib.hid ((q_btw W.drew lo hi).mono fun e w' ⟨he, hw⟩ => ⟨he, hw ▸ (((Below.refl _ _).drew.alloc (Nat.le_refl _) _).alloc (by simp) _),
      hw ▸ blk_alloc (blk_new W.drew _), by rw [hw]; have := blk_new (W.drew.alloc (.cells #[.string lo] 9)) (.cells #[.string hi] 9); rw [World.size_alloc] at this; exact this⟩)
  have HW : Hid (∀ W', Below W.heap.size W W' → IsBlk W' W.heap.size #[.string lo] 9 → IsBlk W' (W.heap.size + 1) #[.string hi] 9 →
      Calls Try.prog 50 #[.pointer root, .func (.func 82) #[] #[.pointer (some ⟨W.heap.size, 0, none⟩), .pointer (some ⟨W.heap.size + 1, 0, none⟩)], .func (.yield l) #[] #[]] W' (fun e W2 => (∃ v, e = .returned v) ∧ (IsBlk W2 bs #[.pointer (some ⟨sb, 0, none⟩)] 51 ∧ IsBlk W2 sb #[.pointer root, .int .i64 ver] 94 ∧ IsBlk W2 bl #[.string lo] 9 ∧ IsBlk W2 bh #[.string hi] 9) ∧ (J (t.ino.filter (fun x => !slt x.1 lo && slt x.1 hi)) W2 ∨ ∃ q, q <+: (t.ino.filter (fun x => !slt x.1 lo && slt x.1 hi)) ∧ Jx q W2))) :=
    Lib.hid (fun W' hk h1 h2 => (q_walk_btw l J Jx hr lo hi H root W' (ht.below hk) (H.grow _ _ _ h0 hk) _ _ h1 h2).mono fun _ _ h => ⟨h.seq.1, ⟨h.seq.2.1.psnap _ _ ((hk.block _ l0).trans hb), h.seq.2.1.snap _ _ ((hk.block _ l1).trans hsb), h.seq.2.1.str _ _ ((hk.block _ l2).trans hl), h.seq.2.1.str _ _ ((hk.block _ l3).trans hh)⟩, h.seq.2.2⟩)
  clear H hb hs hsb ht h0 hl hh hr
  go_enter Try.func52, Try.ntmps52
  go_wp2_with fail
  go_region_held3 (fun w' => w'.cell? ⟨bs, 0, none⟩ = some (.pointer (some ⟨sb, 0, none⟩)) ∧ w'.cell? ⟨sb, 0, none⟩ = some (.pointer root) ∧ w'.cell? ⟨bl, 0, none⟩ = some (.string lo) ∧ w'.cell? ⟨bh, 0, none⟩ = some (.string hi))
    (first
      | go_keep
      | exact ⟨blk_cell i3 0, blk_cell i4 0, blk_cell i5 0, blk_cell i6 0⟩
      | exact ⟨(g1.cell (p := ⟨bs, 0, none⟩) l0).trans c0, (g1.cell (p := ⟨sb, 0, none⟩) l1).trans c1, (g1.cell (p := ⟨bl, 0, none⟩) l2).trans c2, (g1.cell (p := ⟨bh, 0, none⟩) l3).trans c3⟩)
    (first
      | (go_at_call 53; (with_reducible refine HQ.out.mono ?_); rintro e w1 ⟨rfl, g1, i1, i2⟩)
      | (go_at_call 50; (with_reducible refine (HW.out _ g1 i1 i2).mono ?_); rintro e w2 ⟨⟨v, rfl⟩, ⟨i3, i4, i5, i6⟩, h2⟩; have H2 := Lib.hid h2; clear h2))
  go_wp2
  go_end0
  exact ⟨⟨_, rfl⟩, H2.out⟩

set_option maxRecDepth 100000 in
set_option maxHeartbeats 4000000 in
/-- The table's Range, gone over. -/
theorem q_trange {t : Tr ByteArray Int} {ver : Int} (lo hi : ByteArray) (hr : Rise slt t.ino) (H : SeqIn l J Jx (t.ino.filter (fun x => !slt x.1 lo && slt x.1 hi))) (bb bl bh tb : Nat) (W : World)
    (hb : IsBlk W bb #[.pointer (some ⟨tb, 0, none⟩)] 25) (hl : IsBlk W bl #[.string lo] 9) (hh : IsBlk W bh #[.string hi] 9) (hs : STab W tb t ver) (h0 : J [] W) :
    Calls Try.prog 83 #[.func (.yield l) #[] #[], .pointer (some ⟨bb, 0, none⟩), .pointer (some ⟨bl, 0, none⟩), .pointer (some ⟨bh, 0, none⟩)] W (SeqPost J Jx (t.ino.filter (fun x => !slt x.1 lo && slt x.1 hi))) := by
  have c0 : W.cell? ⟨bb, 0, none⟩ = some (.pointer (some ⟨tb, 0, none⟩)) := blk_cell hb 0
  have c2 : W.cell? ⟨bl, 0, none⟩ = some (.string lo) := blk_cell hl 0
  have c3 : W.cell? ⟨bh, 0, none⟩ = some (.string hi) := blk_cell hh 0
  have l0 := lt_of_block hb
  have l2 := lt_of_block hl
  have l3 := lt_of_block hh
  have HS := Lib.hid (fun W' (hk : Below W.heap.size W W') => (t_snapshot W' tb t ver (hs.below hk)).mono (fun e w' ⟨sb, he, h1, _, h3⟩ => (⟨sb, he, h1, hk.trans (h3.mono hk.size)⟩ : ∃ sb, e = Ending.returned (.pointer (some ⟨sb, 0, none⟩)) ∧ SSnap w' sb t ver ∧ Below W.heap.size W w')))
  have eg := enters_of Try.func52 (P := Try.prog) (by kernel_rfl) rfl
  have HR : Hid (∀ W1 sb, Below W.heap.size W W1 → SSnap W1 sb t ver → Calls Try.prog 22 #[.pointer (some ⟨sb, 0, none⟩), .string lo, .string hi] W1 fun e w' => ∃ b1, e = .returned (.func (.func 52) #[] #[.pointer (some ⟨b1, 0, none⟩), .pointer (some ⟨b1 + 1, 0, none⟩), .pointer (some ⟨b1 + 2, 0, none⟩)]) ∧
      Below W.heap.size W w' ∧ Hid (IsBlk w' b1 #[.pointer (some ⟨sb, 0, none⟩)] 51 ∧ IsBlk w' (b1 + 1) #[.string lo] 9 ∧ IsBlk w' (b1 + 2) #[.string hi] 9 ∧ SSnap w' sb t ver)) :=
    Lib.hid (fun W1 sb hk h1 => (q_sRange W1 sb lo hi).mono fun e w' ⟨he, hw⟩ => by
      have hB : Below W1.heap.size W1 w' := by rw [hw]; exact (((Below.refl _ _).alloc (Nat.le_refl _) _).alloc (by simp) _).alloc (by simp; omega) _
      refine ⟨W1.heap.size, he, hk.trans (hB.mono hk.size), Lib.hid ⟨?_, ?_, ?_, h1.below hB⟩⟩
      · rw [hw]; exact blk_alloc (blk_alloc (blk_new W1 _))
      · rw [hw]; have := blk_new (W1.alloc (.cells #[.pointer (some ⟨sb, 0, none⟩)] 51)) (.cells #[.string lo] 9); rw [World.size_alloc] at this; exact blk_alloc this
      · rw [hw]; have := blk_new ((W1.alloc (.cells #[.pointer (some ⟨sb, 0, none⟩)] 51)).alloc (.cells #[.string lo] 9)) (.cells #[.string hi] 9); rw [World.size_alloc, World.size_alloc] at this; exact this)
  have HH : Hid (SeqIn l (fun ys B => J ys B ∧ IsBlk B bb #[.pointer (some ⟨tb, 0, none⟩)] 25 ∧ IsBlk B bl #[.string lo] 9 ∧ IsBlk B bh #[.string hi] 9) (fun ys B => Jx ys B ∧ IsBlk B bb #[.pointer (some ⟨tb, 0, none⟩)] 25 ∧ IsBlk B bl #[.string lo] 9 ∧ IsBlk B bh #[.string hi] 9) (t.ino.filter (fun x => !slt x.1 lo && slt x.1 hi))) :=
    Lib.hid ⟨fun ys A B ⟨h1, h2, h3, h4⟩ hk => ⟨H.grow _ _ _ h1 hk, (hk.block _ (lt_of_block h2)).trans h2, (hk.block _ (lt_of_block h3)).trans h3, (hk.block _ (lt_of_block h4)).trans h4⟩,
      fun pre x A ⟨h1, h2, h3, h4⟩ hp => by
        obtain ⟨fn, tmps, assign, body, hy, hR⟩ := H.round pre x A h1 hp
        refine ⟨fn, tmps, assign, body, hy, hR.mono ?_⟩
        rintro e B (⟨he, hj, hk⟩ | ⟨he, hj, hk⟩)
        · exact .inl ⟨he, ⟨hj, hk.ptab _ _ h2, hk.str _ _ h3, hk.str _ _ h4⟩, hk⟩
        · exact .inr ⟨he, ⟨hj, hk.ptab _ _ h2, hk.str _ _ h3, hk.str _ _ h4⟩, hk⟩⟩
  have H0 : Hid (∀ B, Below W.heap.size W B → J [] B ∧ IsBlk B bb #[.pointer (some ⟨tb, 0, none⟩)] 25 ∧ IsBlk B bl #[.string lo] 9 ∧ IsBlk B bh #[.string hi] 9) :=
    Lib.hid (fun B hk => ⟨H.grow _ _ _ h0 hk, (hk.block _ l0).trans hb, (hk.block _ l2).trans hl, (hk.block _ l3).trans hh⟩)
  have HRise := Lib.hid hr
  clear H hb hs h0 hl hh hr
  go_enter Try.func83, Try.ntmps83
  go_wp2_with fail
  go_region_held3 (fun w' => w'.cell? ⟨bb, 0, none⟩ = some (.pointer (some ⟨tb, 0, none⟩)) ∧ w'.cell? ⟨bl, 0, none⟩ = some (.string lo) ∧ w'.cell? ⟨bh, 0, none⟩ = some (.string hi))
    (first
      | go_keep
      | exact ⟨blk_cell i3 0, blk_cell i4 0, blk_cell i5 0⟩
      | exact ⟨(g2.cell (p := ⟨bb, 0, none⟩) l0).trans c0, (g2.cell (p := ⟨bl, 0, none⟩) l2).trans c2, (g2.cell (p := ⟨bh, 0, none⟩) l3).trans c3⟩
      | exact ⟨(g1.cell (p := ⟨bb, 0, none⟩) l0).trans c0, (g1.cell (p := ⟨bl, 0, none⟩) l2).trans c2, (g1.cell (p := ⟨bh, 0, none⟩) l3).trans c3⟩)
    (first
      | (go_at_call 20; (with_reducible refine (HS.out _ ?_).mono ?_); exact (Below.refl _ _).drew; rintro e w1 ⟨sb, rfl, s1, g1⟩)
      | (go_at_call 22; (with_reducible refine (HR.out _ _ g1 s1).mono ?_); rintro e w2 ⟨b1, rfl, g2, s2⟩)
      | (go_at_call 52; (with_reducible refine (q_srange l _ _ lo hi HRise.out HH.out b1 (b1 + 1) (b1 + 2) sb _ s2.out.1 s2.out.2.1 s2.out.2.2.1 s2.out.2.2.2 (H0.out _ g2)).mono ?_); rintro e w3 ⟨⟨v, rfl⟩, h3⟩; have i3 : IsBlk w3 bb #[.pointer (some ⟨tb, 0, none⟩)] 25 := (h3.elim (fun h => h.2.1) (fun ⟨q, _, h⟩ => h.2.1)); have i4 : IsBlk w3 bl #[.string lo] 9 := (h3.elim (fun h => h.2.2.1) (fun ⟨q, _, h⟩ => h.2.2.1)); have i5 : IsBlk w3 bh #[.string hi] 9 := (h3.elim (fun h => h.2.2.2) (fun ⟨q, _, h⟩ => h.2.2.2)); have H3 := Lib.hid h3; clear h3))
  go_wp2
  go_end0
  exact ⟨⟨_, rfl⟩, H3.out.imp (fun h => h.1) (fun ⟨q, hq, h⟩ => ⟨q, hq, h.1⟩)⟩
end
end Go.Proofs.Ytndaacojbbmcnaa
