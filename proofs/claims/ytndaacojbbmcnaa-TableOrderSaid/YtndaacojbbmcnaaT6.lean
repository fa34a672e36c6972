/- The walks of the table's methods: Delete, Snapshot, Get, Len; a snapshot's Get, Len, Version. -/
import Derived.Test.YtndaacojbbmcnaaT5
namespace Go.Proofs.Ytndaacojbbmcnaa
open Go.RowKit Go.RwLone

/-- What a table's tree is behind a Delete. -/
def delT (t : Tr ByteArray Int) (k : ByteArray) : Tr ByteArray Int := if (t.get slt k).isSome then t.drop slt k else t

set_option maxRecDepth 100000 in
set_option maxHeartbeats 2000000 in
theorem t_delete (w : World) (tb : Nat) (t : Tr ByteArray Int) (ver : Int) (k : ByteArray) (h : STab w tb t ver) (h0 : 0 ≤ ver) (h1 : ver < 1000000) (hs : t.size < 900000) :
    Calls Try.prog 13 #[.pointer (some ⟨tb, 0, none⟩), .string k] w fun e w' => e = .returned (.bool (t.get slt k).isSome) ∧ STab w' tb (delT t k) (ver + 1) ∧ Keeps (Only tb) w w' := by
  obtain ⟨root, hb, ht⟩ := h.ex
  have HT := Lib.hid ht
  have HS := Lib.hid hs
  clear h ht hs
  go_enter_defers Try.func13, Try.ntmps13
  go_wp2_with fail
  refine (t_lock w tb root ver hb).mono ?_
  rintro e w1 ⟨rfl, hb1, hk1, hz1⟩
  have HB := Lib.hid hb
  have HK1 := Lib.hid hk1
  clear hb hk1 hz1
  go_wp2_with fail
  refine (t_add w1 tb _ _ root ver hb1 h0 h1).mono ?_
  rintro e w2 ⟨⟨v2, rfl⟩, hb2, hk2, hz2⟩
  have HK2 := Lib.hid (HK1.out.trans' hk2)
  have ht2 := HT.out.keepT (kept_T HB.out (by decide) HK2.out)
  have hc : w2.cell? ⟨tb, 6, none⟩ = some (.pointer root) := blk_cell hb2 6
  have hz : w2.frozen? ⟨tb, 6, none⟩ = false := blk_free hb2 6
  have HB2 := Lib.hid hb2
  have HG := Lib.hid (s_get k t root w2 ht2)
  have HP := Lib.hid (s_drop k t root w2 ht2 HS.out)
  have HT2 := Lib.hid ht2
  clear hb1 hk2 hz2 ht2 hb2
  go_wp2_with fail
  refine HG.out.mono ?_
  rintro e w2' ⟨rfl, rfl⟩
  cases hg : (t.get slt k) with
  | none =>
    have HD : Hid (delT t k = t) := Lib.hid (by unfold delT; rw [hg]; rfl)
    have HI : Hid ((t.get slt k).isSome = false) := Lib.hid (by rw [hg]; rfl)
    clear hg
    simp only [getRes, Option.getD, Option.isSome]
    go_wp2_with fail
    refine leaves_cons (f := 34) (args := #[.pointer (some ⟨tb, 0, none⟩)]) (by simp) (by simp [go_sem]) ?_
    refine (t_unlockD _ tb .returning root (ver + 1) HB2.out).mono ?_
    rintro e u' w5 ⟨rfl, rfl, hb5, hk5, _⟩
    refine ⟨_, results_tmp rfl _ _ _, by rw [HI.out]; rfl, ⟨root, hb5, ?_⟩, HK2.out.trans' hk5⟩
    rw [HD.out]
    exact HT2.out.keepT (kept_T HB2.out (by decide) hk5)
  | some x =>
    have HD : Hid (delT t k = t.drop slt k) := Lib.hid (by unfold delT; rw [hg]; rfl)
    have HI : Hid ((t.get slt k).isSome = true) := Lib.hid (by rw [hg]; rfl)
    clear hg
    simp only [getRes, Option.getD, Option.isSome]
    go_wp2_with fail
    refine HP.out.mono ?_
    rintro e w3 ⟨q, rfl, ht3, hg3⟩
    have hb3 : IsBlk w3 tb (tabCells 1 (-1073741824) root (ver + 1)) 80 := (hg3.block tb (lt_of_block HB2.out)).trans HB2.out
    have hc3 : w3.cell? ⟨tb, 6, none⟩ = some (.pointer root) := blk_cell hb3 6
    have hz3 : w3.frozen? ⟨tb, 6, none⟩ = false := blk_free hb3 6
    have HB3 := Lib.hid hb3
    have HG3 := Lib.hid hg3
    have HT3 := Lib.hid ht3
    clear hc hz hb3 hg3 ht3
    go_wp2_with fail
    refine leaves_cons (f := 34) (args := #[.pointer (some ⟨tb, 0, none⟩)]) (by simp) (by simp [go_sem]) ?_
    have hb4 := blk_set HB3.out 6 (.pointer q)
    refine (t_unlockD _ tb .returning q (ver + 1) hb4).mono ?_
    rintro e u' w5 ⟨rfl, rfl, hb5, hk5, _⟩
    have hk4 : Keeps (Only tb) w3 (w3.setCell ⟨tb, 6, none⟩ (.pointer q)) := keeps_set _ _ _ _
    refine ⟨_, results_tmp rfl _ _ _, by rw [HI.out]; rfl, ⟨q, hb5, ?_⟩, ?_⟩
    · rw [HD.out]
      exact HT3.out.keepT (kept_T HB3.out (by decide) (hk4.trans' hk5))
    · exact ((HK2.out.trans' ((Keeps.of_below HG3.out).mono (fun _ _ h => h.elim))).trans' hk4).trans' hk5

/-- A snapshot of these pairs at block sb. -/
structure SSnap (w : World) (sb : Nat) (t : Tr ByteArray Int) (ver : Int) : Prop where
  ex : ∃ root, IsBlk w sb #[.pointer root, .int .i64 ver] 94 ∧ STree w t root
theorem SSnap.keeps {S : Nat → Prop} {w w' : World} {sb : Nat} {t : Tr ByteArray Int} {ver : Int} (h : SSnap w sb t ver) (hk : Keeps S w w') (h1 : ¬ S sb) (h2 : ∀ b cs, IsBlk w b cs 111 → ¬ S b) : SSnap w' sb t ver := by
  obtain ⟨root, hb, ht⟩ := h.ex
  exact ⟨root, hk.obj hb h1, ht.keeps hk h2⟩
theorem STab.keeps {S : Nat → Prop} {w w' : World} {tb : Nat} {t : Tr ByteArray Int} {ver : Int} (h : STab w tb t ver) (hk : Keeps S w w') (h1 : ¬ S tb) (h2 : ∀ b cs, IsBlk w b cs 111 → ¬ S b) : STab w' tb t ver := by
  obtain ⟨root, hb, ht⟩ := h.ex
  exact ⟨root, hk.obj hb h1, ht.keeps hk h2⟩
theorem SSnap.below {w w' : World} {sb : Nat} {t : Tr ByteArray Int} {ver : Int} (h : SSnap w sb t ver) (hk : Below w.heap.size w w') : SSnap w' sb t ver :=
  h.keeps (Keeps.of_below hk) (fun h => h) (fun _ _ _ h => h)
theorem STab.below {w w' : World} {tb : Nat} {t : Tr ByteArray Int} {ver : Int} (h : STab w tb t ver) (hk : Below w.heap.size w w') : STab w' tb t ver :=
  h.keeps (Keeps.of_below hk) (fun h => h) (fun _ _ _ h => h)
theorem STab.lt {w : World} {tb : Nat} {t : Tr ByteArray Int} {ver : Int} (h : STab w tb t ver) : tb < w.heap.size := by obtain ⟨_, hb, _⟩ := h.ex; exact lt_of_block hb
theorem SSnap.lt {w : World} {tb : Nat} {t : Tr ByteArray Int} {ver : Int} (h : SSnap w tb t ver) : tb < w.heap.size := by obtain ⟨_, hb, _⟩ := h.ex; exact lt_of_block hb

theorem Keeps.back {b : Nat} {w w' : World} {o : Obj} (h : Keeps (Only b) w w') (h0 : w.heap[b]? = some o) (h1 : w'.heap[b]? = some o) : Below w.heap.size w w' :=
  ⟨h.os, h.tape, h.output, h.size, fun k hk => by
    by_cases e : k = b
    · subst e; rw [h0, h1]
    · exact h.block k hk e⟩

set_option maxRecDepth 100000 in
set_option maxHeartbeats 2000000 in
theorem t_snapshot (w : World) (tb : Nat) (t : Tr ByteArray Int) (ver : Int) (h : STab w tb t ver) :
    Calls Try.prog 20 #[.pointer (some ⟨tb, 0, none⟩)] w fun e w' => ∃ sb, e = .returned (.pointer (some ⟨sb, 0, none⟩)) ∧ SSnap w' sb t ver ∧ w.heap.size ≤ sb ∧ Below w.heap.size w w' := by
  obtain ⟨root, hb, ht⟩ := h.ex
  have HT := Lib.hid ht
  clear h ht
  go_enter_defers Try.func20, Try.ntmps20
  go_wp2_with fail
  refine (t_rlock w tb root ver hb).mono ?_
  rintro e w1 ⟨rfl, hb1, hk1, hz1⟩
  have HB := Lib.hid hb
  have HK1 := Lib.hid hk1
  have HB1 := Lib.hid hb1
  have HZ := Lib.hid hz1
  have hc : w1.cell? ⟨tb, 6, none⟩ = some (.pointer root) := blk_cell hb1 6
  have HL : Hid (∀ w2, Below w1.heap.size w1 w2 → Calls Try.prog 48 #[.pointer (some ⟨tb, 7, none⟩)] w2 fun e w' => e = .returned (.int .i64 ver) ∧ w2 = w') :=
    Lib.hid (fun w2 hb2 => t_load w2 tb _ _ root ver ((hb2.block tb (lt_of_block HB1.out)).trans HB1.out))
  clear hb hk1 hb1 hz1
  go_wp2_with fail
  go_region_held3 (fun w' => w'.cell? ⟨tb, 6, none⟩ = some (.pointer root))
    (first | go_keep)
    (first
      | (go_at_call 48; (with_reducible refine (HL.out _ ?_).mono ?_); exact (Below.refl _ _).drew; rintro e w2 ⟨rfl, rfl⟩))
  go_wp2_with fail
  refine leaves_cons (f := 47) (args := #[.pointer (some ⟨tb, 0, none⟩)]) (by simp) (by simp [go_sem]) ?_
  have hA : Below w1.heap.size w1 (w1.alloc (.cells #[.pointer root, .int .i64 ver] 94)).drew := ((Below.refl _ _).alloc (Nat.le_refl _) _).drew
  have hb3 : IsBlk (w1.alloc (.cells #[.pointer root, .int .i64 ver] 94)).drew tb (tabCells 0 1 root ver) 80 := (hA.block tb (lt_of_block HB1.out)).trans HB1.out
  have hs3 : IsBlk (w1.alloc (.cells #[.pointer root, .int .i64 ver] 94)).drew w1.heap.size #[.pointer root, .int .i64 ver] 94 := blk_new w1 _
  refine (t_runlockD _ tb .returning root ver hb3).mono ?_
  rintro e u' w5 ⟨rfl, rfl, hb5, hk5, _⟩
  have ht1 := HT.out.keepT (kept_T HB.out (by decide) HK1.out)
  have ht3 := ht1.below hA
  have ht5 := ht3.keepT (kept_T hb3 (by decide) hk5)
  have hne : w1.heap.size ≠ tb := fun e => by have := lt_of_block HB1.out; omega
  exact ⟨_, results_tmp rfl _ _ _, w1.heap.size, rfl, ⟨root, hk5.obj hs3 hne, ht5⟩, by rw [HZ.out]; exact Nat.le_refl _, ((HK1.out.below (hA.mono (by rw [HZ.out]; exact Nat.le_refl _))).trans' hk5).back HB.out hb5⟩

set_option maxHeartbeats 400000 in
theorem t_sget (w : World) (sb : Nat) (t : Tr ByteArray Int) (ver : Int) (k : ByteArray) (h : SSnap w sb t ver) :
    Calls Try.prog 30 #[.pointer (some ⟨sb, 0, none⟩), .string k] w fun e w' => e = .returned (getRes (t.get slt k)) ∧ w = w' := by
  obtain ⟨root, hb, ht⟩ := h.ex
  have hc : w.cell? ⟨sb, 0, none⟩ = some (.pointer root) := blk_cell hb 0
  have HG := Lib.hid (s_get k t root w ht)
  clear h hb ht
  go_enter Try.func30, Try.ntmps30
  go_wp2_with fail
  refine HG.out.mono ?_
  rintro e w' ⟨rfl, rfl⟩
  simp only [getRes]
  go_wp2
  go_ret2
  exact ⟨rfl, rfl⟩
set_option maxHeartbeats 400000 in
theorem t_slen (w : World) (sb : Nat) (t : Tr ByteArray Int) (ver : Int) (h : SSnap w sb t ver) :
    Calls Try.prog 32 #[.pointer (some ⟨sb, 0, none⟩)] w fun e w' => e = .returned (.int .i64 (t.size : Int)) ∧ w = w' := by
  obtain ⟨root, hb, ht⟩ := h.ex
  have hc : w.cell? ⟨sb, 0, none⟩ = some (.pointer root) := blk_cell hb 0
  have HG := Lib.hid (s_many w t root ht)
  clear h hb ht
  go_enter Try.func32, Try.ntmps32
  go_wp2_with fail
  refine HG.out.mono ?_
  rintro e w' ⟨rfl, rfl⟩
  go_wp2
  go_ret
  exact ⟨rfl, rfl⟩
set_option maxHeartbeats 400000 in
theorem t_sversion (w : World) (sb : Nat) (t : Tr ByteArray Int) (ver : Int) (h : SSnap w sb t ver) :
    Calls Try.prog 28 #[.pointer (some ⟨sb, 0, none⟩)] w fun e w' => e = .returned (.int .i64 ver) ∧ w = w' := by
  obtain ⟨root, hb, ht⟩ := h.ex
  have hc : w.cell? ⟨sb, 1, none⟩ = some (.int .i64 ver) := blk_cell hb 1
  clear h hb ht
  go_enter Try.func28, Try.ntmps28
  go_wp2
  go_ret
  exact ⟨rfl, rfl⟩

/-- The table read by Get, and by Len: a snapshot is taken first. -/
theorem t_get (w : World) (tb : Nat) (t : Tr ByteArray Int) (ver : Int) (k : ByteArray) (h : STab w tb t ver) :
    Calls Try.prog 25 #[.pointer (some ⟨tb, 0, none⟩), .string k] w fun e w' => e = .returned (getRes (t.get slt k)) ∧ Below w.heap.size w w' := by
  have HS := Lib.hid (t_snapshot w tb t ver h)
  clear h
  go_enter Try.func25, Try.ntmps25
  go_wp2_with fail
  refine HS.out.mono ?_
  rintro e w1 ⟨sb, rfl, hs, _, hk⟩
  have HG := Lib.hid (t_sget w1 sb t ver k hs)
  have HK := Lib.hid hk
  clear hs hk
  go_wp2_with fail
  refine HG.out.mono ?_
  rintro e w' ⟨rfl, rfl⟩
  simp only [getRes]
  go_wp2
  go_ret2
  exact ⟨rfl, HK.out⟩
theorem t_len (w : World) (tb : Nat) (t : Tr ByteArray Int) (ver : Int) (h : STab w tb t ver) :
    Calls Try.prog 31 #[.pointer (some ⟨tb, 0, none⟩)] w fun e w' => e = .returned (.int .i64 (t.size : Int)) ∧ Below w.heap.size w w' := by
  have HS := Lib.hid (t_snapshot w tb t ver h)
  clear h
  go_enter Try.func31, Try.ntmps31
  go_wp2_with fail
  refine HS.out.mono ?_
  rintro e w1 ⟨sb, rfl, hs, _, hk⟩
  have HG := Lib.hid (t_slen w1 sb t ver hs)
  have HK := Lib.hid hk
  clear hs hk
  go_wp2_with fail
  refine HG.out.mono ?_
  rintro e w' ⟨rfl, rfl⟩
  go_wp2
  go_ret
  exact ⟨rfl, HK.out⟩
end Go.Proofs.Ytndaacojbbmcnaa
