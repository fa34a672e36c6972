/- The walks of the reference's Create, Remove, Sync. -/
import Derived.Test.YtmfiibehclbnjaaRf1
namespace Go.Proofs.Ytmfiibehclbnjaa
open Go.RowKit Go.Shelf

section
variable {w w' : World} {rb k : Nat} {F G : FsS} {S T : Nat → Prop} {lv : Value} {rs : List RF} {n : ByteArray} {x y : FileS}
/-- What a write has to pay that does not fail. -/
theorem g_failsH (h : RefAt w rb F S lv rs) (ho : FsOk F k) (hk : k < 1000000) : Hid (∀ W, w = W → Calls Try.prog 77 #[.pointer (some ⟨rb, 0, none⟩)] W fun e w' => e = .returned (.bool (F.armed == 1)) ∧ RefAt w' rb F.failS S lv rs ∧ Keeps S w w' ∧ w'.heap.size = w.heap.size) := Lib.hid fun W hW => by
  subst hW
  exact (g_fails h ho.armed1 ho.steps0 (by have := ho.steps1; omega)).mono fun e w' ⟨h1, h2, h3, h4⟩ => ⟨h1, h2, h3.mono (fun i _ e => by have : i = rb := e; rw [this]; exact h.sb), h4⟩
set_option maxRecDepth 100000 in
set_option maxHeartbeats 2000000 in
theorem g_create (h : RefAt w rb F S lv rs) (ho : FsOk F k) (hk : k < 1000000) (n : ByteArray) (hn : n.size ≤ 9223372036854775807) :
    Calls Try.prog 61 #[.pointer (some ⟨rb, 0, none⟩), .string n] w fun e w' => e = .returned (.int .i64 (F.create n).2) ∧ RefPost w rb (F.create n).1 S w' := by
  have c4 : w.cell? ⟨rb, 4, none⟩ = some (.bool F.down) := blk_cell h.blk 4
  have HF := g_failsH h ho hk
  have H := Lib.hid h
  have HO := Lib.hid ho
  have HQ := Lib.hid (h.quiet (Below.refl _ _))
  have HV : Hid (Calls Try.prog 71 #[.string n] w fun e w' => e = .returned (.bool (okName n)) ∧ w = w') := Lib.hid (g_valid w n hn)
  have hfew := ho.few
  have hc : Hid (F.create n = if F.down then (F, 5) else if okName n = false then (F, 1) else if (F.find n).isSome then (F, 3) else if 400 ≤ F.files.length then (F, 4) else F.write fun G => G.set n ⟨[], 0⟩) := Lib.hid rfl
  cases hd : F.down with
  | true =>
    rw [hd] at c4
    have hr : Hid (F.create n = (F, 5)) := Lib.hid (by rw [hc.out, if_pos hd])
    clear h ho hd
    go_enter Try.func61, Try.ntmps61
    go_wp2_with (fail)
    go_ret
    rw [hr.out]
    exact ⟨rfl, HQ.out⟩
  | false =>
  rw [hd] at c4
  have hc := Lib.hid (hc.out.trans (if_neg (by simp [hd])))
  cases hv : okName n with
  | false =>
    rw [hv] at HV
    have hr : Hid (F.create n = (F, 1)) := Lib.hid (by rw [hc.out, if_pos hv])
    clear h ho hd hv
    go_enter Try.func61, Try.ntmps61
    go_wp2_with (fail)
    refine HV.out.mono ?_
    rintro e w1 ⟨rfl, rfl⟩
    go_wp2_with (fail)
    go_ret
    rw [hr.out]
    exact ⟨rfl, HQ.out⟩
  | true =>
  rw [hv] at HV
  have hc := Lib.hid (hc.out.trans (if_neg (by simp [hv])))
  cases hx : F.find n with
  | some x =>
    obtain ⟨j, hj⟩ := find_some_at hx
    have HAT := Lib.hid (g_at_some h ho.rise ho.few hj)
    have hr : Hid (F.create n = (F, 3)) := Lib.hid (by rw [hc.out, if_pos (by rw [hx]; rfl)])
    have k1 : (0 : Int) ≤ (j : Int) := by omega
    clear h ho hd hv hx hj
    go_enter Try.func61, Try.ntmps61
    go_wp2_with (fail)
    refine HV.out.mono ?_
    rintro e w1 ⟨rfl, rfl⟩
    go_wp2_with (fail)
    refine HAT.out.mono ?_
    rintro e w1 ⟨rfl, rfl⟩
    go_wp2_with (fail)
    go_ret
    rw [hr.out]
    exact ⟨rfl, HQ.out⟩
  | none =>
  have HAT := Lib.hid (g_at_none h ho.few (find_none_all ho hx))
  have hc := Lib.hid (hc.out.trans (if_neg (by rw [hx]; simp)))
  have c1 : w.cell? ⟨rb, 1, none⟩ = some lv := blk_cell h.blk 1
  obtain ⟨a, cap, rfl⟩ := h.shape
  by_cases h4 : 400 ≤ F.files.length
  · have hr : Hid (F.create n = (F, 4)) := Lib.hid (by rw [hc.out, if_pos h4])
    have k1 : (400 : Int) ≤ (F.files.length : Int) := by omega
    clear h ho hd hv hx h4
    go_enter Try.func61, Try.ntmps61
    go_wp2_with (fail)
    refine HV.out.mono ?_
    rintro e w1 ⟨rfl, rfl⟩
    go_wp2_with (fail)
    refine HAT.out.mono ?_
    rintro e w1 ⟨rfl, rfl⟩
    go_wp2_with (fail)
    go_ret
    rw [hr.out]
    exact ⟨rfl, HQ.out⟩
  have hc := Lib.hid (hc.out.trans (if_neg h4))
  have k1 : ¬ (400 : Int) ≤ (F.files.length : Int) := by omega
  by_cases ha : F.armed = 1
  · have hr : Hid (F.create n = (F.failS, 5)) := Lib.hid (hc.out.trans (write_one ha))
    have hb : Hid ((F.armed == 1) = true) := Lib.hid (by rw [ha]; rfl)
    rw [hb.out] at HF
    clear h ho hd hv hx h4 ha
    go_enter Try.func61, Try.ntmps61
    go_wp2_with (fail)
    refine HV.out.mono ?_
    rintro e w1 ⟨rfl, rfl⟩
    go_wp2_with (fail)
    refine HAT.out.mono ?_
    rintro e w1 ⟨rfl, rfl⟩
    go_wp2_with (fail)
    refine (HF.out _ rfl).mono ?_
    rintro e w1 ⟨rfl, h1, h2, h3⟩
    have HP : Hid (RefPost w rb F.failS S w1) := Lib.hid (RefPost.behind h2 h3 (h1.quiet (Below.refl _ _)))
    clear h1 h2 h3
    go_wp2_with (fail)
    go_ret
    rw [hr.out]
    exact ⟨rfl, HP.out⟩
  · have hw := write_ok (F := F) (eff := fun G => G.set n ⟨[], 0⟩) ha (fun G => ⟨rfl, rfl, rfl, rfl⟩) (fun a => rfl)
    rw [← hc.out] at hw
    have HW := Lib.hid hw
    have hb : Hid ((F.armed == 1) = false) := Lib.hid (beq_eq_false_iff_ne.2 ha)
    rw [hb.out] at HF
    clear h ho hd hv hx h4 ha hw
    go_enter Try.func61, Try.ntmps61
    go_wp2_with (fail)
    refine HV.out.mono ?_
    rintro e w1 ⟨rfl, rfl⟩
    go_wp2_with (fail)
    refine HAT.out.mono ?_
    rintro e w1 ⟨rfl, rfl⟩
    go_wp2_with (fail)
    refine (HF.out _ rfl).mono ?_
    rintro e w1 ⟨rfl, h1, h2, h3⟩
    have HP := Lib.hid (And.intro h1 (And.intro h2 h3))
    clear h1 h2 h3
    go_wp2_with (fail)
    refine (g_put HP.out.1 (by rw [failS_files]; exact hfew) (by rw [failS_files]; exact HO.out.rise) (n := n) (y := ⟨[], 0⟩) ⟨n, none, 0, 0, 0⟩ ⟨rfl, rfl, SlAt.nil, rfl⟩ (fun g hg => by simp [Value.ownBlock] at hg)).mono ?_
    rintro e w2 ⟨rfl, hp⟩
    have HR : Hid (RefPost w rb (F.create n).1 S w2) := Lib.hid (RefPost.behind HP.out.2.1 HP.out.2.2 (hp.same (by rw [failS_files]; exact HW.out.2)))
    clear hp
    go_wp2_with (fail)
    go_ret
    rw [HW.out.1]
    exact ⟨rfl, HR.out⟩
end
end Go.Proofs.Ytmfiibehclbnjaa
/- The walks of the reference's Remove, Sync, Rename. -/
namespace Go.Proofs.Ytmfiibehclbnjaa
open Go.RowKit Go.Shelf

section
variable {w w' : World} {rb k : Nat} {F G : FsS} {S T : Nat → Prop} {lv : Value} {rs : List RF} {n : ByteArray} {x y : FileS}
theorem on_down {g : FileS → FsS × Int} (hd : F.down = true) : F.on n g = (F, 5) := by unfold FsS.on; rw [if_pos hd]
set_option maxRecDepth 100000 in
set_option maxHeartbeats 2000000 in
theorem g_remove (h : RefAt w rb F S lv rs) (ho : FsOk F k) (hk : k < 1000000) (n : ByteArray) :
    Calls Try.prog 68 #[.pointer (some ⟨rb, 0, none⟩), .string n] w fun e w' => e = .returned (.int .i64 (F.remove n).2) ∧ RefPost w rb (F.remove n).1 S w' := by
  have c4 : w.cell? ⟨rb, 4, none⟩ = some (.bool F.down) := blk_cell h.blk 4
  have HF := g_failsH h ho hk
  have HQ := Lib.hid (h.quiet (Below.refl _ _))
  have hfew := ho.few
  cases hd : F.down with
  | true =>
    rw [hd] at c4
    have hr : Hid (F.remove n = (F, 5)) := Lib.hid (on_down hd)
    clear h ho hd
    go_enter Try.func68, Try.ntmps68
    go_wp2_with (fail)
    go_ret
    rw [hr.out]
    exact ⟨rfl, HQ.out⟩
  | false =>
  rw [hd] at c4
  cases hx : F.find n with
  | none =>
    have HAT := Lib.hid (g_at_none h ho.few (find_none_all ho hx))
    have hr : Hid (F.remove n = (F, 2)) := Lib.hid (on_none hd hx)
    clear h ho hd hx
    go_enter Try.func68, Try.ntmps68
    go_wp2_with (fail)
    refine HAT.out.mono ?_
    rintro e w1 ⟨rfl, rfl⟩
    go_wp2_with (fail)
    go_ret
    rw [hr.out]
    exact ⟨rfl, HQ.out⟩
  | some x =>
  obtain ⟨j, hj⟩ := find_some_at hx
  have HAT := Lib.hid (g_at_some h ho.rise ho.few hj)
  have k1 : (0 : Int) ≤ (j : Int) := by omega
  have hc : F.remove n = F.write fun G => { G with used := G.used - x.data.length, files := dropL slt G.files n } := on_some hd hx
  by_cases ha : F.armed = 1
  · have hr : Hid (F.remove n = (F.failS, 5)) := Lib.hid (hc.trans (write_one ha))
    have hb : Hid ((F.armed == 1) = true) := Lib.hid (by rw [ha]; rfl)
    rw [hb.out] at HF
    clear h ho hd hx hj ha hc
    go_enter Try.func68, Try.ntmps68
    go_wp2_with (fail)
    refine HAT.out.mono ?_
    rintro e w1 ⟨rfl, rfl⟩
    go_wp2_with (fail)
    refine (HF.out _ rfl).mono ?_
    rintro e w1 ⟨rfl, h1, h2, h3⟩
    have HP : Hid (RefPost w rb F.failS S w1) := Lib.hid (RefPost.behind h2 h3 (h1.quiet (Below.refl _ _)))
    clear h1 h2 h3
    go_wp2_with (fail)
    go_ret
    rw [hr.out]
    exact ⟨rfl, HP.out⟩
  · have hw := write_ok (F := F) (eff := fun G => { G with used := G.used - x.data.length, files := dropL slt G.files n }) ha (fun G => ⟨rfl, rfl, rfl, rfl⟩) (fun a => rfl)
    rw [← hc] at hw
    have HW := Lib.hid hw
    have hb : Hid ((F.armed == 1) = false) := Lib.hid (beq_eq_false_iff_ne.2 ha)
    rw [hb.out] at HF
    clear h ho hd hx hj ha hc hw
    go_enter Try.func68, Try.ntmps68
    go_wp2_with (fail)
    refine HAT.out.mono ?_
    rintro e w1 ⟨rfl, rfl⟩
    go_wp2_with (fail)
    refine (HF.out _ rfl).mono ?_
    rintro e w1 ⟨rfl, h1, h2, h3⟩
    have HP := Lib.hid (And.intro h1 (And.intro h2 h3))
    clear h1 h2 h3
    go_wp2_with (fail)
    refine (g_drop HP.out.1 (by rw [failS_files]; exact hfew) n).mono ?_
    rintro e w2 ⟨rfl, hp, _⟩
    have HR : Hid (RefPost w rb (F.remove n).1 S w2) := Lib.hid (RefPost.behind HP.out.2.1 HP.out.2.2 (hp.same (by rw [failS_files]; exact HW.out.2)))
    clear hp
    go_wp2_with (fail)
    go_ret
    rw [HW.out.1]
    exact ⟨rfl, HR.out⟩
set_option maxRecDepth 100000 in
set_option maxHeartbeats 2000000 in
theorem g_sync (h : RefAt w rb F S lv rs) (ho : FsOk F k) (hk : k < 1000000) (n : ByteArray) :
    Calls Try.prog 65 #[.pointer (some ⟨rb, 0, none⟩), .string n] w fun e w' => e = .returned (.int .i64 (F.sync n).2) ∧ RefPost w rb (F.sync n).1 S w' := by
  have c4 : w.cell? ⟨rb, 4, none⟩ = some (.bool F.down) := blk_cell h.blk 4
  have HF := g_failsH h ho hk
  have HQ := Lib.hid (h.quiet (Below.refl _ _))
  have hfew := ho.few
  cases hd : F.down with
  | true =>
    rw [hd] at c4
    have hr : Hid (F.sync n = (F, 5)) := Lib.hid (on_down hd)
    clear h ho hd
    go_enter Try.func65, Try.ntmps65
    go_wp2_with (fail)
    go_ret
    rw [hr.out]
    exact ⟨rfl, HQ.out⟩
  | false =>
  rw [hd] at c4
  cases hx : F.find n with
  | none =>
    have HAT := Lib.hid (g_at_none h ho.few (find_none_all ho hx))
    have hr : Hid (F.sync n = (F, 2)) := Lib.hid (on_none hd hx)
    clear h ho hd hx
    go_enter Try.func65, Try.ntmps65
    go_wp2_with (fail)
    refine HAT.out.mono ?_
    rintro e w1 ⟨rfl, rfl⟩
    go_wp2_with (fail)
    go_ret
    rw [hr.out]
    exact ⟨rfl, HQ.out⟩
  | some x =>
  obtain ⟨j, hj⟩ := find_some_at hx
  have HAT := Lib.hid (g_at_some h ho.rise ho.few hj)
  have k1 : (0 : Int) ≤ (j : Int) := by omega
  have hc : F.sync n = F.write fun G => G.set n ⟨x.data, x.data.length⟩ := on_some hd hx
  by_cases ha : F.armed = 1
  · have hr : Hid (F.sync n = (F.failS, 5)) := Lib.hid (hc.trans (write_one ha))
    have hb : Hid ((F.armed == 1) = true) := Lib.hid (by rw [ha]; rfl)
    rw [hb.out] at HF
    clear h ho hd hx hj ha hc
    go_enter Try.func65, Try.ntmps65
    go_wp2_with (fail)
    refine HAT.out.mono ?_
    rintro e w1 ⟨rfl, rfl⟩
    go_wp2_with (fail)
    refine (HF.out _ rfl).mono ?_
    rintro e w1 ⟨rfl, h1, h2, h3⟩
    have HP : Hid (RefPost w rb F.failS S w1) := Lib.hid (RefPost.behind h2 h3 (h1.quiet (Below.refl _ _)))
    clear h1 h2 h3
    go_wp2_with (fail)
    go_ret
    rw [hr.out]
    exact ⟨rfl, HP.out⟩
  · have hw := write_ok (F := F) (eff := fun G => G.set n ⟨x.data, x.data.length⟩) ha (fun G => ⟨rfl, rfl, rfl, rfl⟩) (fun a => rfl)
    rw [← hc] at hw
    have HW := Lib.hid hw
    have hb : Hid ((F.armed == 1) = false) := Lib.hid (beq_eq_false_iff_ne.2 ha)
    rw [hb.out] at HF
    have HJ := Lib.hid hj
    have HRI := Lib.hid ho.rise
    have hxl := (ho.len hx).1
    obtain ⟨hjl, _⟩ := List.getElem?_eq_some_iff.1 hj
    have k2 : (j : Int) < (F.files.length : Int) := by omega
    have k3 : (F.files.length : Int) ≤ 400 := by omega
    clear h ho hd hx hj ha hc hw
    go_enter Try.func65, Try.ntmps65
    go_wp2_with (fail)
    refine HAT.out.mono ?_
    rintro e w1 ⟨rfl, rfl⟩
    go_wp2_with (fail)
    refine (HF.out _ rfl).mono ?_
    rintro e w1 ⟨rfl, h1, h2, h3⟩
    have hj1 : F.failS.files[j]? = some (n, x) := by rw [failS_files]; exact HJ.out
    obtain ⟨r, g, off, cap, hr, hf, hlv, d0, d1, d2⟩ := h1.at_file hj1
    rw [failS_files] at hlv
    subst hlv
    have c1 : w1.cell? ⟨rb, 1, none⟩ = some (.slice (some ⟨g, off, none⟩) F.files.length cap) := blk_cell h1.blk 1
    obtain ⟨cur, hbk⟩ := h1.arr.own g rfl
    have z2 : w1.frozen? ⟨g, off + j * 3 + 2, none⟩ = false := blk_free hbk _
    have h1' : RefAt w1 rb F.failS S (.slice (some ⟨g, off, none⟩) F.failS.files.length cap) rs := by rw [failS_files]; exact h1
    have hset := (h1'.below (Below.refl w1.heap.size w1).drew).setField (c := 2) (u := .int .i64 (x.data.length : Int)) (r' := { r with synced := x.data.length }) (y := ⟨x.data, x.data.length⟩) hj1 hr (by omega) rfl
      ⟨hf.name, hf.len, hf.sl.below (Below.refl w1.heap.size w1).drew, rfl⟩ (fun g' hg' => h1.sd r (List.mem_of_getElem? hr) g' hg')
    rw [failS_files] at hset
    have HS := Lib.hid hset
    have HP := Lib.hid (And.intro h1 (And.intro h2 h3))
    have HSF : Hid ((F.set n ⟨x.data, x.data.length⟩).files = F.files.set j (n, ⟨x.data, x.data.length⟩)) := Lib.hid (putL_set HRI.out HJ.out _)
    simp only at d1
    clear h1 h2 h3 hj1 hr hf hbk h1' hset d0
    go_wp2_with (fail)
    refine wp_region_still_tail 16 (by kernel_rfl) (by kernel_rfl) ?_
    simp only [List.take_succ_cons, List.take_zero, List.drop_succ_cons, List.drop_zero]
    repeat still_step
    refine wpStill_nil ?_
    go_wp2_with (fail)
    go_ret
    rw [HW.out.1]
    refine ⟨rfl, RefPost.behind HP.out.2.1 HP.out.2.2 ?_⟩
    refine RefPost.same ⟨_, _, HS.out.1.mono (fun _ e => .inl e) (new_lt HP.out.1.lt (by simp)), ?_⟩ (by have := HW.out.2; rw [HSF.out] at this; exact this)
    exact ((Keeps.refl S w1).drew).trans' HS.out.2
end
end Go.Proofs.Ytmfiibehclbnjaa
/- The walk of the reference's Rename. -/
namespace Go.Proofs.Ytmfiibehclbnjaa
open Go.RowKit Go.Shelf

section
variable {w w' : World} {rb k : Nat} {F G : FsS} {S T : Nat → Prop} {lv : Value} {rs : List RF} {n : ByteArray} {x y : FileS}
/-- Both ways to move a file come to the same files. -/
theorem moved_files (h : Rise slt F.files) {a b : ByteArray} (hx : F.find a = some x) : (F.moved a b x).files = putL slt (dropL slt F.files a) b x := by
  by_cases hab : a = b
  · subst hab
    unfold FsS.moved
    rw [if_pos rfl]
    have hm := FsOk.find_mem hx
    refine rise_unique ?_ h (rise_putL slt_ord (rise_dropL h a) a x)
    refine (putL_self slt_ord h hx).trans ?_
    have := putL_perm slt_ord (dropL slt F.files a) a x
    refine List.Perm.symm (this.trans (List.Perm.cons _ ?_))
    have e : dropL slt (dropL slt F.files a) a = dropL slt F.files a := dropL_new slt_ord _ _ (fun z hz => (mem_dropL (n := z.1) (z := z.2)).1 hz |>.2)
    rw [e]
  · unfold FsS.moved
    rw [if_neg hab]
    show dropL slt (putL slt F.files b x) a = _
    unfold dropL putL
    have hba : (slt b a || slt a b) = true := slt_ne (fun e => hab e.symm)
    rw [List.filter_append, List.filter_cons, if_pos hba]
    simp only [List.filter_filter]
    congr 1
    · refine List.filter_congr fun z _ => ?_
      rw [Bool.and_comm]
    · congr 1
      refine List.filter_congr fun z _ => ?_
      rw [Bool.and_comm]
theorem moved_same {a b : ByteArray} : (F.moved a b x).room = F.room ∧ (F.moved a b x).steps = F.steps ∧ (F.moved a b x).armed = F.armed ∧ (F.moved a b x).down = F.down := by unfold FsS.moved; split <;> exact ⟨rfl, rfl, rfl, rfl⟩
theorem moved_armed {a b : ByteArray} (c : Int) : (({ F with armed := c } : FsS).moved a b x).files = (F.moved a b x).files := by unfold FsS.moved; split <;> rfl
set_option maxRecDepth 100000 in
set_option maxHeartbeats 4000000 in
theorem g_rename (h : RefAt w rb F S lv rs) (ho : FsOk F k) (hk : k < 1000000) (na nb : ByteArray) (hn : nb.size ≤ 9223372036854775807) :
    Calls Try.prog 67 #[.pointer (some ⟨rb, 0, none⟩), .string na, .string nb] w fun e w' => e = .returned (.int .i64 (F.rename na nb).2) ∧ RefPost w rb (F.rename na nb).1 S w' := by
  have c4 : w.cell? ⟨rb, 4, none⟩ = some (.bool F.down) := blk_cell h.blk 4
  have HF := g_failsH h ho hk
  have HQ := Lib.hid (h.quiet (Below.refl _ _))
  have hfew := ho.few
  have HV : Hid (Calls Try.prog 71 #[.string nb] w fun e w' => e = .returned (.bool (okName nb)) ∧ w = w') := Lib.hid (g_valid w nb hn)
  cases hd : F.down with
  | true =>
    rw [hd] at c4
    have hr : Hid (F.rename na nb = (F, 5)) := Lib.hid (on_down hd)
    clear h ho hd
    go_enter Try.func67, Try.ntmps67
    go_wp2_with (fail)
    go_ret
    rw [hr.out]
    exact ⟨rfl, HQ.out⟩
  | false =>
  rw [hd] at c4
  cases hx : F.find na with
  | none =>
    have HAT := Lib.hid (g_at_none h ho.few (find_none_all ho hx))
    have hr : Hid (F.rename na nb = (F, 2)) := Lib.hid (on_none hd hx)
    clear h ho hd hx
    go_enter Try.func67, Try.ntmps67
    go_wp2_with (fail)
    refine HAT.out.mono ?_
    rintro e w1 ⟨rfl, rfl⟩
    go_wp2_with (fail)
    go_ret
    rw [hr.out]
    exact ⟨rfl, HQ.out⟩
  | some x =>
  obtain ⟨j, hj⟩ := find_some_at hx
  have HAT := Lib.hid (g_at_some h ho.rise ho.few hj)
  have k1 : (0 : Int) ≤ (j : Int) := by omega
  have hc : F.rename na nb = if okName nb = false then (F, 1) else F.write fun G => G.moved na nb x := on_some hd hx
  cases hv : okName nb with
  | false =>
    rw [hv] at HV
    have hr : Hid (F.rename na nb = (F, 1)) := Lib.hid (by rw [hc, if_pos hv])
    clear h ho hd hx hj hv hc
    go_enter Try.func67, Try.ntmps67
    go_wp2_with (fail)
    refine HAT.out.mono ?_
    rintro e w1 ⟨rfl, rfl⟩
    go_wp2_with (fail)
    refine HV.out.mono ?_
    rintro e w1 ⟨rfl, rfl⟩
    go_wp2_with (fail)
    go_ret
    rw [hr.out]
    exact ⟨rfl, HQ.out⟩
  | true =>
  rw [hv] at HV
  have hc := hc.trans (if_neg (by simp [hv]))
  by_cases ha : F.armed = 1
  · have hr : Hid (F.rename na nb = (F.failS, 5)) := Lib.hid (hc.trans (write_one ha))
    have hb : Hid ((F.armed == 1) = true) := Lib.hid (by rw [ha]; rfl)
    rw [hb.out] at HF
    clear h ho hd hx hj ha hc hv
    go_enter Try.func67, Try.ntmps67
    go_wp2_with (fail)
    refine HAT.out.mono ?_
    rintro e w1 ⟨rfl, rfl⟩
    go_wp2_with (fail)
    refine HV.out.mono ?_
    rintro e w1 ⟨rfl, rfl⟩
    go_wp2_with (fail)
    refine (HF.out _ rfl).mono ?_
    rintro e w1 ⟨rfl, h1, h2, h3⟩
    have HP : Hid (RefPost w rb F.failS S w1) := Lib.hid (RefPost.behind h2 h3 (h1.quiet (Below.refl _ _)))
    clear h1 h2 h3
    go_wp2_with (fail)
    go_ret
    rw [hr.out]
    exact ⟨rfl, HP.out⟩
  · have hw := write_ok (F := F) (eff := fun G => G.moved na nb x) ha (fun G => moved_same) (fun a => moved_armed a)
    rw [← hc, moved_files ho.rise hx] at hw
    have HW := Lib.hid hw
    have hb : Hid ((F.armed == 1) = false) := Lib.hid (beq_eq_false_iff_ne.2 ha)
    rw [hb.out] at HF
    have HJ := Lib.hid hj
    have HRI := Lib.hid ho.rise
    obtain ⟨hjl, _⟩ := List.getElem?_eq_some_iff.1 hj
    have k2 : (j : Int) < (F.files.length : Int) := by omega
    have k3 : (F.files.length : Int) ≤ 400 := by omega
    have HLT := Lib.hid h.lt
    clear h ho hd hx hj ha hc hw hv
    go_enter Try.func67, Try.ntmps67
    go_wp2_with (fail)
    refine HAT.out.mono ?_
    rintro e w1 ⟨rfl, rfl⟩
    go_wp2_with (fail)
    refine HV.out.mono ?_
    rintro e w1 ⟨rfl, rfl⟩
    go_wp2_with (fail)
    refine (HF.out _ rfl).mono ?_
    rintro e w1 ⟨rfl, h1, h2, h3⟩
    have hj1 : F.failS.files[j]? = some (na, x) := by rw [failS_files]; exact HJ.out
    obtain ⟨r, g, off, cap, hr, hf, hlv, d0, d1, d2⟩ := h1.at_file hj1
    rw [failS_files] at hlv
    subst hlv
    have c1 : w1.cell? ⟨rb, 1, none⟩ = some (.slice (some ⟨g, off, none⟩) F.files.length cap) := blk_cell h1.blk 1
    have HP := Lib.hid (And.intro h1 (And.intro h2 h3))
    have HR := Lib.hid (And.intro hf (h1.sd r (List.mem_of_getElem? hr)))
    simp only at d0 d1 d2
    clear h1 h2 h3 hj1 hr hf
    go_wp2_with (fail)
    have hbk := blk_new w1 (.cells #[.string na, .slice r.a x.data.length r.cap, .int .i64 (x.synced : Int)] 69)
    have hal : Below w1.heap.size w1 (w1.alloc (.cells #[.string na, .slice r.a x.data.length r.cap, .int .i64 (x.synced : Int)] 69)) := (Below.refl _ _).alloc (Nat.le_refl _) _
    have hz2 : (w1.alloc (.cells #[.string na, .slice r.a x.data.length r.cap, .int .i64 (x.synced : Int)] 69)).heap.size = w1.heap.size + 1 := by simp
    generalize w1.alloc (.cells #[.string na, .slice r.a x.data.length r.cap, .int .i64 (x.synced : Int)] 69) = W2 at hbk hal hz2 ⊢
    have HB2 := Lib.hid (And.intro hbk (And.intro hal hz2))
    clear hbk hal hz2 c1 d0 d1 d2
    refine (g_drop (HP.out.1.below HB2.out.2.1) (by rw [failS_files]; exact hfew) na).mono ?_
    rintro e w3 ⟨rfl, hp, hko⟩
    obtain ⟨lv3, rs3, h3, hk3⟩ := hp
    rw [failS_files] at h3
    have hS1 : ∀ i, S i → i < w1.heap.size := HP.out.1.lt
    have hrb : rb < w1.heap.size := hS1 _ HP.out.1.sb
    have hbk3 : IsBlk w3 w1.heap.size #[.string na, .slice r.a x.data.length r.cap, .int .i64 (x.synced : Int)] 69 := hko.obj HB2.out.1 (fun e => by have : w1.heap.size = rb := e; omega)
    have b0 : w3.cell? ⟨w1.heap.size, 0, none⟩ = some (.string na) := blk_cell hbk3 0
    have z0 : w3.frozen? ⟨w1.heap.size, 0, none⟩ = false := blk_free hbk3 0
    have hbk4 := blk_set hbk3 0 (.string nb)
    have b4 : (w3.setCell ⟨w1.heap.size, 0, none⟩ (.string nb)).cell? ⟨w1.heap.size, 0, none⟩ = some (.string nb) := blk_cell hbk4 0
    have b5 : (w3.setCell ⟨w1.heap.size, 0, none⟩ (.string nb)).cell? ⟨w1.heap.size, 1, none⟩ = some (.slice r.a x.data.length r.cap) := blk_cell hbk4 1
    have b6 : (w3.setCell ⟨w1.heap.size, 0, none⟩ (.string nb)).cell? ⟨w1.heap.size, 2, none⟩ = some (.int .i64 (x.synced : Int)) := blk_cell hbk4 2
    have k4 : Keeps (Only w1.heap.size) w3 (w3.setCell ⟨w1.heap.size, 0, none⟩ (.string nb)) := keeps_set _ _ _ _
    have hnn : ∀ i, Only w1.heap.size i → ¬ New W2 w3 S i := by
      intro i e e2
      have : i = w1.heap.size := e
      rcases e2 with e2 | e2
      · have := hS1 i e2; omega
      · have := HB2.out.2.2; have := e2.1; omega
    have h4 := h3.keeps k4 hnn
    have hrf : RFor (w3.setCell ⟨w1.heap.size, 0, none⟩ (.string nb)) (nb, x) { r with name := nb } := by
      have hs : SlAt byteKind 5 w1 r.val x.data := HR.out.1.sl
      have hs3 : SlAt byteKind 5 w3 r.val x.data := (hs.below HB2.out.2.1).keeps hko (fun g' hg' e => by
        obtain ⟨cur, hc⟩ := hs.own g' hg'
        exact blk_ne_type hc HP.out.1.blk (by decide) e)
      refine ⟨rfl, HR.out.1.len, hs3.keeps k4 (fun g' hg' e => ?_), HR.out.1.synced⟩
      have := hS1 _ (HR.out.2 g' hg')
      have : g' = w1.heap.size := e
      omega
    have H4 := Lib.hid (And.intro h4 (And.intro hrf (And.intro hk3 k4)))
    clear h3 h4 hrf hk3 k4 hko hbk3 hbk4 hS1 hrb hnn
    go_wp2_with (fail)
    refine (g_put H4.out.1 (by
      show (dropL slt F.files na).length ≤ 400
      have := (dropL_sub (lt := slt) F.files na).length_le; omega) (rise_dropL HRI.out na) (n := nb) (y := x) { r with name := nb } H4.out.2.1 (fun g' hg' => .inl (HR.out.2 g' hg'))).mono ?_
    rintro e w5 ⟨rfl, hp⟩
    have HR5 : Hid (RefPost w rb (F.rename na nb).1 S w5) := Lib.hid (by
      have hb := HB2.out
      obtain ⟨lv5, rs5, h5, hk5⟩ := hp
      have hS1 : ∀ i, S i → i < w1.heap.size := HP.out.1.lt
      have hkA : Keeps S w1 w3 := ((Keeps.of_below hb.2.1).mono (fun _ _ e => e.elim)).trans' H4.out.2.2.1
      have hkB : Keeps S w1 w5 := by
        refine (hkA.trans H4.out.2.2.2 (fun i hi e => ?_)).trans hk5 (fun i hi e => ?_)
        · have : i = w1.heap.size := e; omega
        · rcases e with e | e
          · exact e
          · have := hb.2.1.size; omega
      refine RefPost.behind HP.out.2.1 HP.out.2.2 (RefPost.same ⟨lv5, rs5, h5.mono (fun i e => ?_) (fun i e => ?_), hkB⟩ HW.out.2)
      · rcases e with (e | e) | e
        · exact .inl e
        · exact .inr ⟨by have := hb.2.1.size; omega, by have := hk5.size; have := H4.out.2.2.2.size; omega⟩
        · exact .inr ⟨by have := hkA.size; have := H4.out.2.2.2.size; omega, e.2⟩
      · rcases e with e | e
        · have := hS1 i e; have := hkB.size; omega
        · exact e.2)
    clear hp
    go_wp2_with (fail)
    go_ret
    rw [HW.out.1]
    exact ⟨rfl, HR5.out⟩
end
end Go.Proofs.Ytmfiibehclbnjaa
/- The walk of the reference's Append. -/
namespace Go.Proofs.Ytmfiibehclbnjaa
open Go.RowKit Go.Shelf

section
variable {w w' : World} {rb k : Nat} {F G : FsS} {S T : Nat → Prop} {lv : Value} {rs : List RF} {n : ByteArray} {x y : FileS}
/-- A file's bytes are others, that lie in new memory. -/
theorem RefAt.setData {w1 w3 : World} {j g off cap : Nat} {r : RF} (h : RefAt w1 rb F S (.slice (some ⟨g, off, none⟩) F.files.length cap) rs) (hx : F.files[j]? = some (n, x)) (hr : rs[j]? = some r) (hb : Below w1.heap.size w1 w3) {a' : Option Addr} {c' : Nat} {ys : List UInt8} (hs : SlAt byteKind 5 w3 (.slice a' ys.length c') ys) (hn : ∀ q, (Value.slice a' ys.length c').ownBlock = some q → w1.heap.size ≤ q) :
    RefPost w1 rb { F with files := F.files.set j (n, ⟨ys, x.synced⟩) } S (w3.setCell ⟨g, off + j * 3 + 1, none⟩ (.slice a' ys.length c')) := by
  have h3 : RefAt w3 rb F (New w1 w3 S) (.slice (some ⟨g, off, none⟩) F.files.length cap) rs := (h.below hb).mono (fun _ e => .inl e) (new_lt h.lt hb.size)
  have hf := h.each j _ r hx hr
  have hset := h3.setField (c := 1) (u := .slice a' ys.length c') (r' := { r with a := a', len := ys.length, cap := c' }) (y := ⟨ys, x.synced⟩) hx hr (by omega) rfl ⟨hf.name, rfl, hs, hf.synced⟩ (fun q hq => by
    obtain ⟨cur, hc⟩ := hs.own q hq
    exact .inr ⟨hn q hq, lt_of_block hc⟩)
  refine ⟨_, _, hset.1.mono (fun i e => ?_) (fun i e => ?_), ((Keeps.of_below hb).mono (fun _ _ e => e.elim)).trans hset.2 (fun i hi e => ?_)⟩
  · rcases e with e | e
    · exact .inl e
    · exact .inr ⟨e.1, by simpa using e.2⟩
  · rcases e with e | e
    · have := h.lt i e; have := hb.size; simp; omega
    · exact e.2
  · rcases e with e | e
    · exact e
    · omega
set_option maxRecDepth 100000 in
set_option maxHeartbeats 4000000 in
theorem g_append (h : RefAt w rb F S lv rs) (ho : FsOk F k) (hk : k < 1000000) (n : ByteArray) {ua : Option Addr} {uc : Nat} {ys : List UInt8} (hu : RdAt byteKind w (.slice ua ys.length uc) ys) (hy : ys.length ≤ 9223372036854775807) (hrb : ∀ q, (Value.slice ua ys.length uc).ownBlock = some q → ys ≠ [] → ¬ S q) :
    Calls Try.prog 63 #[.pointer (some ⟨rb, 0, none⟩), .string n, .slice ua ys.length uc] w fun e w' => e = .returned (.int .i64 (F.append n ys).2) ∧ RefPost w rb (F.append n ys).1 S w' := by
  have c4 : w.cell? ⟨rb, 4, none⟩ = some (.bool F.down) := blk_cell h.blk 4
  have c0 : w.cell? ⟨rb, 0, none⟩ = some (.int .i64 F.room) := blk_cell h.blk 0
  have HF : Hid (∀ W, Below w.heap.size w W → Calls Try.prog 77 #[.pointer (some ⟨rb, 0, none⟩)] W fun e w' => e = .returned (.bool (F.armed == 1)) ∧ RefAt w' rb F.failS S lv rs ∧ Keeps S W w' ∧ w'.heap.size = W.heap.size) := Lib.hid fun W hW => (g_failsH (h.below hW) ho hk).out W rfl
  have HQ : Hid (∀ W, Below w.heap.size w W → RefPost w rb F S W) := Lib.hid fun W hW => h.quiet hW
  have HU : Hid (∀ w1, Below w.heap.size w w1 → Calls Try.prog 72 #[.pointer (some ⟨rb, 0, none⟩)] w1 fun e w' => e = .returned (.int .i64 F.used) ∧ w1 = w') := Lib.hid fun w1 hw => g_used (h.below hw) ho
  have hfew := ho.few
  have y0 := ho.room0
  have y1 := ho.room1
  have y2 := ho.used0
  have y3 := ho.fits
  have y4 : (ys.length : Int) ≤ 9223372036854775807 := by omega
  cases hd : F.down with
  | true =>
    rw [hd] at c4
    have hr : Hid (F.append n ys = (F, 5)) := Lib.hid (on_down hd)
    clear h ho hd hu
    go_enter Try.func63, Try.ntmps63
    go_wp2_with (fail)
    go_ret
    rw [hr.out]
    exact ⟨rfl, HQ.out _ (Below.refl _ _)⟩
  | false =>
  rw [hd] at c4
  cases hx : F.find n with
  | none =>
    have HAT := Lib.hid (g_at_none h ho.few (find_none_all ho hx))
    have hr : Hid (F.append n ys = (F, 2)) := Lib.hid (on_none hd hx)
    clear h ho hd hx hu
    go_enter Try.func63, Try.ntmps63
    go_wp2_with (fail)
    refine HAT.out.mono ?_
    rintro e w1 ⟨rfl, rfl⟩
    go_wp2_with (fail)
    go_ret
    rw [hr.out]
    exact ⟨rfl, HQ.out _ (Below.refl _ _)⟩
  | some x =>
  obtain ⟨j, hj⟩ := find_some_at hx
  have HAT := Lib.hid (g_at_some h ho.rise ho.few hj)
  have k1 : (0 : Int) ≤ (j : Int) := by omega
  have hc : F.append n ys = if F.room - F.used < ys.length then (F, 4) else F.write fun G => { G.set n ⟨x.data ++ ys, x.synced⟩ with used := G.used + ys.length } := on_some hd hx
  by_cases hle : F.room - F.used < (ys.length : Int)
  · have hr : Hid (F.append n ys = (F, 4)) := Lib.hid (by rw [hc, if_pos hle])
    clear h ho hd hx hj hc hu
    go_enter Try.func63, Try.ntmps63
    go_wp2_with (fail)
    refine HAT.out.mono ?_
    rintro e w1 ⟨rfl, rfl⟩
    go_wp2_with (fail)
    go_quiet ((go_at_call 72; exact quiet_hid HU))
    go_wp2_with (fail)
    go_ret
    rw [hr.out]
    exact ⟨rfl, HQ.out _ (below_drewN _ _ _)⟩
  have hc := hc.trans (if_neg hle)
  by_cases ha : F.armed = 1
  · have hr : Hid (F.append n ys = (F.failS, 5)) := Lib.hid (hc.trans (write_one ha))
    have hb : Hid ((F.armed == 1) = true) := Lib.hid (by rw [ha]; rfl)
    rw [hb.out] at HF
    have HLT := Lib.hid h.lt
    clear h ho hd hx hj ha hc hu
    go_enter Try.func63, Try.ntmps63
    go_wp2_with (fail)
    refine HAT.out.mono ?_
    rintro e w1 ⟨rfl, rfl⟩
    go_wp2_with (fail)
    go_quiet ((go_at_call 72; exact quiet_hid HU))
    go_wp2_with (fail)
    refine (HF.out _ (below_drewN _ _ _)).mono ?_
    rintro e w1 ⟨rfl, h1, h2, h3⟩
    have HP : Hid (RefPost w rb F.failS S w1) := Lib.hid ((RefPost.behind h2 h3 (h1.quiet (Below.refl _ _))).from (below_drewN _ _ _) HLT.out)
    clear h1 h2 h3
    go_wp2_with (fail)
    go_ret
    rw [hr.out]
    exact ⟨rfl, HP.out⟩
  · have hw := write_ok (F := F) (eff := fun G => { G.set n ⟨x.data ++ ys, x.synced⟩ with used := G.used + ys.length }) ha (fun G => ⟨rfl, rfl, rfl, rfl⟩) (fun a => rfl)
    rw [← hc] at hw
    have HW := Lib.hid hw
    have hb : Hid ((F.armed == 1) = false) := Lib.hid (beq_eq_false_iff_ne.2 ha)
    rw [hb.out] at HF
    have HJ := Lib.hid hj
    have HSF : Hid ((F.set n ⟨x.data ++ ys, x.synced⟩).files = F.files.set j (n, ⟨x.data ++ ys, x.synced⟩)) := Lib.hid (putL_set ho.rise hj _)
    have hxl := (ho.len hx).1
    have hyl : (ys.length : Int) ≤ 67108864 := by omega
    obtain ⟨hjl, _⟩ := List.getElem?_eq_some_iff.1 hj
    have k2 : (j : Int) < (F.files.length : Int) := by omega
    have k3 : (F.files.length : Int) ≤ 400 := by omega
    have HLT := Lib.hid h.lt
    have HUR := Lib.hid hu
    have HRB := Lib.hid hrb
    clear h ho hd hx hj ha hc hw hu
    go_enter Try.func63, Try.ntmps63
    go_wp2_with (fail)
    refine HAT.out.mono ?_
    rintro e w1 ⟨rfl, rfl⟩
    go_wp2_with (fail)
    go_quiet ((go_at_call 72; exact quiet_hid HU))
    go_wp2_with (fail)
    have hbd : Below w.heap.size w (w.drewN nq) := below_drewN _ _ _
    generalize w.drewN nq = W0 at hbd ⊢
    refine (HF.out _ hbd).mono ?_
    rintro e w1 ⟨rfl, h1, h2, h3⟩
    have hj1 : F.failS.files[j]? = some (n, x) := by rw [failS_files]; exact HJ.out
    obtain ⟨r, g, off, cap, hr, hf, hlv, d0, d1, d2⟩ := h1.at_file hj1
    rw [failS_files] at hlv
    subst hlv
    have c1 : w1.cell? ⟨rb, 1, none⟩ = some (.slice (some ⟨g, off, none⟩) F.files.length cap) := blk_cell h1.blk 1
    obtain ⟨cur, hbk⟩ := h1.arr.own g rfl
    have h1' : RefAt w1 rb F.failS S (.slice (some ⟨g, off, none⟩) F.failS.files.length cap) rs := by rw [failS_files]; exact h1
    simp only at d1
    have hu1 : RdAt byteKind w1 (.slice ua ys.length uc) ys := (HUR.out.below hbd).keeps' h2 HRB.out
    have HBY : Hid (∀ W, Below w1.heap.size w1 W → Calls Try.prog 79 #[.slice r.a x.data.length r.cap] W fun e W' => ∃ va vc v3c v3a w3, e = .returned (.slice va x.data.length vc) ∧ (W'.cell? ⟨rb, 1, none⟩ = some (.slice (some ⟨g, off, none⟩) F.files.length cap)) ∧
        (Builtin.append_ #[28, 28] 28 #[.slice va x.data.length vc, .slice ua ys.length uc]).run Try.prog W' = .ok (.slice v3a (x.data ++ ys).length v3c) w3 ∧ (w3.cell? ⟨rb, 1, none⟩ = some (.slice (some ⟨g, off, none⟩) F.files.length cap)) ∧
        (w3.cell? ⟨g, off + j * 3 + 1, none⟩ = some (.slice r.a x.data.length r.cap) ∧ w3.frozen? ⟨g, off + j * 3 + 1, none⟩ = false) ∧
        Hid (RefPost w1 rb { F.failS with files := F.files.set j (n, ⟨x.data ++ ys, x.synced⟩) } S (w3.setCell ⟨g, off + j * 3 + 1, none⟩ (.slice v3a (x.data ++ ys).length v3c)))) := Lib.hid fun W hW => by
      have hsl : SlAt byteKind 5 w1 (.slice r.a x.data.length r.cap) x.data := by
        have := hf.sl
        have e : r.val = .slice r.a x.data.length r.cap := by show Value.slice r.a r.len r.cap = _; rw [hf.len]
        rw [e] at this; exact this
      refine (g_bytes (hsl.below hW).rd (by omega)).mono ?_
      rintro e W' ⟨va, vc, rfl, hfr⟩
      have hB : Below w1.heap.size w1 W' := hW.trans (hfr.below.mono hW.size)
      obtain ⟨v', w3, hrun, hs3, hk3, ho3, _⟩ := append_bytes hfr.sl (hu1.below hB) (by omega) 28
      obtain ⟨v3a, v3c, hv3⟩ := hs3.shape
      subst hv3
      have hB3 : Below w1.heap.size w1 w3 := below_keeps hB hk3 (fun i e => Nat.le_trans hW.size (hfr.new i e)) hB.size
      have hg3 : w3.heap[g]? = some (.cells cur 69 (0, 0)) := (hB3.block g (lt_of_block hbk)).trans hbk
      refine ⟨va, vc, v3c, v3a, w3, rfl, ?_, hrun, ?_, ⟨?_, blk_free hg3 _⟩, Lib.hid ?_⟩
      · exact blk_cell (h1.below hB).blk 1
      · exact blk_cell (h1.below hB3).blk 1
      · exact (hB3.cell (p := ⟨g, off + j * 3 + 1, none⟩) (World.block_lt_of_cell? w1 _ d1)).trans d1
      · have := h1'.setData hj1 hr hB3 hs3 (fun q hq => by
          rcases ho3 q hq with e | e
          · exact Nat.le_trans hW.size (hfr.new q e)
          · exact Nat.le_trans hB.size e)
        rw [failS_files] at this
        exact this
    have HP := Lib.hid (And.intro h1 (And.intro h2 (And.intro h3 hbd)))
    have hb1 : Below w1.heap.size w1 w1.drew := (Below.refl _ _).drew
    have hgr : g ≠ rb := blk_ne_type (b := g) (c := rb) hbk h1.blk (by decide)
    clear h1 h2 h3 hj1 hr hf hbk h1' d0 d2 hu1 hbd
    go_wp2_with (fail)
    refine wp_region_held_drew (S := fun w' => w'.cell? ⟨rb, 1, none⟩ = some (.slice (some ⟨g, off, none⟩) F.files.length cap)) (by kernel_rfl) ?_ (fun hHeld => ?_)
    · go_keep
    refine wpAnyH_take (i := 0) (oi := { dst := some 29, op := Op.move (Operand.tmp 0), type := 61, pos := "fs.go:149", after := #[], guard := none }) (v := ?vv0) rfl (by kernel_rfl) (by kernel_rfl) (by kernel_rfl) (fun _ _ _ h => h) (Or.inl ⟨by rfl, ?hy0⟩) (by assumption) ?rs0
    case hy0 => (intro w hSw; (try dsimp only at hSw); go_simp) <;> with_reducible rfl
    try simp only [Act.put, List.setIfInBounds_toArray, List.set_cons_zero, List.set_cons_succ]
    refine wpAnyH_take (i := 1) (oi := { dst := some 30, op := Op.nilCheck (Operand.tmp 29), type := 0, pos := "fs.go:149", after := #[{ on := 0, ground := Ground.data }], guard := none }) (v := ?vv1) rfl (by kernel_rfl) (by kernel_rfl) (by kernel_rfl) (fun _ _ _ h => h) (Or.inl ⟨by rfl, ?hy1⟩) (by assumption) ?rs1
    case hy1 => (intro w hSw; (try dsimp only at hSw); go_simp) <;> with_reducible rfl
    try simp only [Act.put, List.setIfInBounds_toArray, List.set_cons_zero, List.set_cons_succ]
    refine wpAnyH_take (i := 2) (oi := { dst := some 31, op := Op.fieldAddr 67 (Operand.tmp 30) 1, type := 0, pos := "fs.go:149", after := #[{ on := 1, ground := Ground.data }], guard := none }) (v := ?vv2) rfl (by kernel_rfl) (by kernel_rfl) (by kernel_rfl) (fun _ _ _ h => h) (Or.inl ⟨by rfl, ?hy2⟩) (by assumption) ?rs2
    case hy2 => (intro w hSw; (try dsimp only at hSw); go_simp) <;> with_reducible rfl
    try simp only [Act.put, List.setIfInBounds_toArray, List.set_cons_zero, List.set_cons_succ]
    refine wpAnyH_take (i := 3) (oi := { dst := some 32, op := Op.load 65 (Operand.tmp 31), type := 65, pos := "fs.go:149", after := #[{ on := 2, ground := Ground.data }], guard := none }) (v := ?vv3) rfl (by kernel_rfl) (by kernel_rfl) (by kernel_rfl) (fun _ _ _ h => h) (Or.inl ⟨by rfl, ?hy3⟩) (by assumption) ?rs3
    case hy3 => (intro w hSw; (try dsimp only at hSw); go_simp) <;> with_reducible rfl
    try simp only [Act.put, List.setIfInBounds_toArray, List.set_cons_zero, List.set_cons_succ]
    refine wpAnyH_take (i := 4) (oi := { dst := some 33, op := Op.move (Operand.tmp 7), type := 3, pos := "fs.go:149", after := #[], guard := none }) (v := ?vv4) rfl (by kernel_rfl) (by kernel_rfl) (by kernel_rfl) (fun _ _ _ h => h) (Or.inl ⟨by rfl, ?hy4⟩) (by assumption) ?rs4
    case hy4 => (intro w hSw; (try dsimp only at hSw); go_simp) <;> with_reducible rfl
    try simp only [Act.put, List.setIfInBounds_toArray, List.set_cons_zero, List.set_cons_succ]
    refine wpAnyH_take (i := 5) (oi := { dst := some 34, op := Op.move (Operand.tmp 0), type := 61, pos := "fs.go:149", after := #[], guard := none }) (v := ?vv5) rfl (by kernel_rfl) (by kernel_rfl) (by kernel_rfl) (fun _ _ _ h => h) (Or.inl ⟨by rfl, ?hy5⟩) (by assumption) ?rs5
    case hy5 => (intro w hSw; (try dsimp only at hSw); go_simp) <;> with_reducible rfl
    try simp only [Act.put, List.setIfInBounds_toArray, List.set_cons_zero, List.set_cons_succ]
    refine wpAnyH_take (i := 6) (oi := { dst := some 35, op := Op.nilCheck (Operand.tmp 34), type := 0, pos := "fs.go:149", after := #[{ on := 5, ground := Ground.data }], guard := none }) (v := ?vv6) rfl (by kernel_rfl) (by kernel_rfl) (by kernel_rfl) (fun _ _ _ h => h) (Or.inl ⟨by rfl, ?hy6⟩) (by assumption) ?rs6
    case hy6 => (intro w hSw; (try dsimp only at hSw); go_simp) <;> with_reducible rfl
    try simp only [Act.put, List.setIfInBounds_toArray, List.set_cons_zero, List.set_cons_succ]
    refine wpAnyH_take (i := 7) (oi := { dst := some 36, op := Op.fieldAddr 67 (Operand.tmp 35) 1, type := 0, pos := "fs.go:149", after := #[{ on := 6, ground := Ground.data }], guard := none }) (v := ?vv7) rfl (by kernel_rfl) (by kernel_rfl) (by kernel_rfl) (fun _ _ _ h => h) (Or.inl ⟨by rfl, ?hy7⟩) (by assumption) ?rs7
    case hy7 => (intro w hSw; (try dsimp only at hSw); go_simp) <;> with_reducible rfl
    try simp only [Act.put, List.setIfInBounds_toArray, List.set_cons_zero, List.set_cons_succ]
    refine wpAnyH_take (i := 8) (oi := { dst := some 37, op := Op.load 65 (Operand.tmp 36), type := 65, pos := "fs.go:149", after := #[{ on := 7, ground := Ground.data }], guard := none }) (v := ?vv8) rfl (by kernel_rfl) (by kernel_rfl) (by kernel_rfl) (fun _ _ _ h => h) (Or.inl ⟨by rfl, ?hy8⟩) (by assumption) ?rs8
    case hy8 => (intro w hSw; (try dsimp only at hSw); go_simp) <;> with_reducible rfl
    try simp only [Act.put, List.setIfInBounds_toArray, List.set_cons_zero, List.set_cons_succ]
    refine wpAnyH_take (i := 9) (oi := { dst := some 38, op := Op.move (Operand.tmp 7), type := 3, pos := "fs.go:149", after := #[], guard := none }) (v := ?vv9) rfl (by kernel_rfl) (by kernel_rfl) (by kernel_rfl) (fun _ _ _ h => h) (Or.inl ⟨by rfl, ?hy9⟩) (by assumption) ?rs9
    case hy9 => (intro w hSw; (try dsimp only at hSw); go_simp) <;> with_reducible rfl
    try simp only [Act.put, List.setIfInBounds_toArray, List.set_cons_zero, List.set_cons_succ]
    refine wpAnyH_take (i := 10) (oi := { dst := some 39, op := Op.indexAddr 65 (Operand.tmp 37) (Operand.tmp 38), type := 0, pos := "fs.go:149", after := #[{ on := 8, ground := Ground.data }, { on := 9, ground := Ground.data }], guard := none }) (v := ?vv10) rfl (by kernel_rfl) (by kernel_rfl) (by kernel_rfl) (fun _ _ _ h => h) (Or.inl ⟨by rfl, ?hy10⟩) (by assumption) ?rs10
    case hy10 => (intro w hSw; (try dsimp only at hSw); go_simp) <;> with_reducible rfl
    try simp only [Act.put, List.setIfInBounds_toArray, List.set_cons_zero, List.set_cons_succ]
    refine wpAnyH_take (i := 11) (oi := { dst := some 40, op := Op.fieldAddr 69 (Operand.tmp 39) 1, type := 0, pos := "fs.go:149", after := #[{ on := 10, ground := Ground.data }], guard := none }) (v := ?vv11) rfl (by kernel_rfl) (by kernel_rfl) (by kernel_rfl) (fun _ _ _ h => h) (Or.inl ⟨by rfl, ?hy11⟩) (by assumption) ?rs11
    case hy11 => (intro w hSw; (try dsimp only at hSw); go_simp) <;> with_reducible rfl
    try simp only [Act.put, List.setIfInBounds_toArray, List.set_cons_zero, List.set_cons_succ]
    refine wpAnyH_take (i := 14) (oi := { dst := some 43, op := Op.move (Operand.tmp 2), type := 28, pos := "fs.go:149", after := #[], guard := none }) (v := ?vv14) rfl (by kernel_rfl) (by kernel_rfl) (by kernel_rfl) (fun _ _ _ h => h) (Or.inl ⟨by rfl, ?hy14⟩) (by assumption) ?rs14
    case hy14 => (intro w hSw; (try dsimp only at hSw); go_simp) <;> with_reducible rfl
    try simp only [Act.put, List.setIfInBounds_toArray, List.set_cons_zero, List.set_cons_succ]
    refine wpAnyH_ready (rs := [12]) (by kernel_rfl) (by simp) ?_
    refine AllReadyH.cons (o := { dst := some 41, op := Op.load 28 (Operand.tmp 40), type := 28, pos := "fs.go:149", after := #[{ on := 11, ground := Ground.data }], guard := none }) rfl (fun K hK => ?_) AllReadyH.nil
    go_simp
    refine hK.out _ _ ?_ (fun hHeld => ?_)
    · assumption
    clear hK K
    try simp only [Act.put, List.setIfInBounds_toArray, List.set_cons_zero, List.set_cons_succ]
    refine wpAnyH_ready (rs := [13]) (by kernel_rfl) (by simp) ?_
    refine AllReadyH.cons (o := { dst := some 42, op := Op.call { callee := Callee.value (Operand.func 79), args := #[Operand.tmp 41], argTypes := #[28] }, type := 28, pos := "fs.go:149", after := #[{ on := 12, ground := Ground.data }], guard := none }) rfl (fun K hK => ?_) AllReadyH.nil
    go_simp
    go_at_call 79; (with_reducible refine (HBY.out _ ?_).mono ?_); exact hb1; rintro e w2 ⟨va, vc, v3c, v3a, w3, rfl, s1, hrun, s2, ⟨s3, s4⟩, hC⟩
    go_wp2_with fail
    refine hK.out _ _ ?_ (fun hHeld => ?_)
    · exact s1
    clear hK K
    try simp only [Act.put, List.setIfInBounds_toArray, List.set_cons_zero, List.set_cons_succ]
    refine wpAnyH_ready (rs := [15]) (by kernel_rfl) (by simp) ?_
    refine AllReadyH.cons (o := { dst := some 44, op := Op.call { callee := Callee.builtin Builtin.append, args := #[Operand.tmp 42, Operand.tmp 43], argTypes := #[28, 28] }, type := 28, pos := "fs.go:149", after := #[{ on := 13, ground := Ground.data }, { on := 14, ground := Ground.data }, { on := 13, ground := Ground.chain }], guard := none }) rfl (fun K hK => ?_) AllReadyH.nil
    refine step_append_run rfl (.tmp 42) (.tmp 43) 28 rfl _ _ rfl rfl _ _ hrun ?_
    refine hK.out _ _ ?_ (fun hHeld => ?_)
    · exact s2
    clear hK K
    try simp only [Act.put, List.setIfInBounds_toArray, List.set_cons_zero, List.set_cons_succ]
    refine wpAnyH_take (i := 16) (oi := { dst := some 45, op := Op.indexAddr 65 (Operand.tmp 32) (Operand.tmp 33), type := 0, pos := "fs.go:149", after := #[{ on := 3, ground := Ground.data }, { on := 4, ground := Ground.data }, { on := 0, ground := Ground.phase }, { on := 1, ground := Ground.phase }, { on := 2, ground := Ground.phase }, { on := 3, ground := Ground.phase }, { on := 4, ground := Ground.phase }, { on := 5, ground := Ground.phase }, { on := 6, ground := Ground.phase }, { on := 7, ground := Ground.phase }, { on := 8, ground := Ground.phase }, { on := 9, ground := Ground.phase }, { on := 10, ground := Ground.phase }, { on := 11, ground := Ground.phase }, { on := 12, ground := Ground.phase }, { on := 13, ground := Ground.phase }, { on := 14, ground := Ground.phase }, { on := 15, ground := Ground.phase }], guard := none }) (v := ?vv16) rfl (by kernel_rfl) (by kernel_rfl) (by kernel_rfl) (fun _ _ _ h => h) (Or.inl ⟨by rfl, ?hy16⟩) (by assumption) ?rs16
    case hy16 => (intro w hSw; (try dsimp only at hSw); go_simp) <;> with_reducible rfl
    try simp only [Act.put, List.setIfInBounds_toArray, List.set_cons_zero, List.set_cons_succ]
    refine wpAnyH_take (i := 17) (oi := { dst := some 46, op := Op.fieldAddr 69 (Operand.tmp 45) 1, type := 0, pos := "fs.go:149", after := #[{ on := 16, ground := Ground.data }, { on := 0, ground := Ground.phase }, { on := 1, ground := Ground.phase }, { on := 2, ground := Ground.phase }, { on := 3, ground := Ground.phase }, { on := 4, ground := Ground.phase }, { on := 5, ground := Ground.phase }, { on := 6, ground := Ground.phase }, { on := 7, ground := Ground.phase }, { on := 8, ground := Ground.phase }, { on := 9, ground := Ground.phase }, { on := 10, ground := Ground.phase }, { on := 11, ground := Ground.phase }, { on := 12, ground := Ground.phase }, { on := 13, ground := Ground.phase }, { on := 14, ground := Ground.phase }, { on := 15, ground := Ground.phase }], guard := none }) (v := ?vv17) rfl (by kernel_rfl) (by kernel_rfl) (by kernel_rfl) (fun _ _ _ h => h) (Or.inl ⟨by rfl, ?hy17⟩) (by assumption) ?rs17
    case hy17 => (intro w hSw; (try dsimp only at hSw); go_simp) <;> with_reducible rfl
    try simp only [Act.put, List.setIfInBounds_toArray, List.set_cons_zero, List.set_cons_succ]
    refine wpAnyH_ready (rs := [18]) (by kernel_rfl) (by simp) ?_
    refine AllReadyH.cons (o := { dst := none, op := Op.store 28 (Operand.tmp 46) (Operand.tmp 44), type := 0, pos := "fs.go:149", after := #[{ on := 17, ground := Ground.data }, { on := 15, ground := Ground.data }, { on := 15, ground := Ground.chain }, { on := 0, ground := Ground.phase }, { on := 1, ground := Ground.phase }, { on := 2, ground := Ground.phase }, { on := 3, ground := Ground.phase }, { on := 4, ground := Ground.phase }, { on := 5, ground := Ground.phase }, { on := 6, ground := Ground.phase }, { on := 7, ground := Ground.phase }, { on := 8, ground := Ground.phase }, { on := 9, ground := Ground.phase }, { on := 10, ground := Ground.phase }, { on := 11, ground := Ground.phase }, { on := 12, ground := Ground.phase }, { on := 13, ground := Ground.phase }, { on := 14, ground := Ground.phase }, { on := 15, ground := Ground.phase }], guard := none }) rfl (fun K hK => ?_) AllReadyH.nil
    go_simp
    refine hK.out _ _ ?_ (fun hHeld => ?_)
    · go_keep
    clear hK K
    try simp only [Act.put, List.setIfInBounds_toArray, List.set_cons_zero, List.set_cons_succ]
    refine wpAnyH_done (by kernel_rfl) ?_ _
    have HC := Lib.hid hC.out
    rw [List.length_append] at HC
    clear hC s1 s2 s3 s4 hrun
    go_wp2_with (fail)
    go_ret
    rw [HW.out.1]
    obtain ⟨h1, h2, h3, hbd⟩ := HP.out
    refine ⟨rfl, RefPost.from (RefPost.behind h2 h3 (RefPost.same HC.out (by have := HW.out.2; rw [show ({ F.set n ⟨x.data ++ ys, x.synced⟩ with used := F.used + ys.length } : FsS).files = (F.set n ⟨x.data ++ ys, x.synced⟩).files from rfl, HSF.out] at this; exact this))) hbd HLT.out⟩
end
end Go.Proofs.Ytmfiibehclbnjaa
