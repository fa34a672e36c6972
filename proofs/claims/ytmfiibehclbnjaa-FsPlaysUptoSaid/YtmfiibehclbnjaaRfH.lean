/- The walk of the reference's Truncate. -/
import Derived.Test.YtmfiibehclbnjaaRf2
namespace Go.Proofs.Ytmfiibehclbnjaa
open Go.RowKit Go.Shelf

section
variable {w w' : World} {rb k : Nat} {F G : FsS} {S T : Nat → Prop} {lv : Value} {rs : List RF} {n : ByteArray} {x y : FileS}
set_option maxRecDepth 100000 in
set_option maxHeartbeats 8000000 in
theorem g_truncate (h : RefAt w rb F S lv rs) (ho : FsOk F k) (hk : k < 1000000) (n : ByteArray) (m : Int) (hm0 : -9223372036854775808 ≤ m) (hm1 : m ≤ 9223372036854775807) :
    Calls Try.prog 66 #[.pointer (some ⟨rb, 0, none⟩), .string n, .int .i64 m] w fun e w' => e = .returned (.int .i64 (F.truncate n m).2) ∧ RefPost w rb (F.truncate n m).1 S w' := by
  have c4 : w.cell? ⟨rb, 4, none⟩ = some (.bool F.down) := blk_cell h.blk 4
  have HF := g_failsH h ho hk
  have HQ := Lib.hid (h.quiet (Below.refl _ _))
  have hfew := ho.few
  cases hd : F.down with
  | true =>
    rw [hd] at c4
    have hr : Hid (F.truncate n m = (F, 5)) := Lib.hid (on_down hd)
    clear h ho hd
    go_enter Try.func66, Try.ntmps66
    go_wp2_with (fail)
    go_ret
    rw [hr.out]
    exact ⟨rfl, HQ.out⟩
  | false =>
  rw [hd] at c4
  cases hx : F.find n with
  | none =>
    have HAT := Lib.hid (g_at_none h ho.few (find_none_all ho hx))
    have hr : Hid (F.truncate n m = (F, 2)) := Lib.hid (on_none hd hx)
    clear h ho hd hx
    go_enter Try.func66, Try.ntmps66
    go_wp2_with (fail)
    refine HAT.out.mono ?_
    rintro e w1 ⟨rfl, rfl⟩
    go_wp2_with (fail)
    go_ret
    rw [hr.out]
    exact ⟨rfl, HQ.out⟩
  | some x =>
  obtain ⟨j, hj⟩ := find_some_at hx
  have HAT := Lib.hid (g_at_some h ho.rise ho.few hj)
  have k1 : (0 : Int) ≤ (j : Int) := by omega
  obtain ⟨hjl, _⟩ := List.getElem?_eq_some_iff.1 hj
  have k2 : (j : Int) < (F.files.length : Int) := by omega
  have k3 : (F.files.length : Int) ≤ 400 := by omega
  have hxl := (ho.len hx).1
  have hc : F.truncate n m = if m < 0 ∨ (x.data.length : Int) < m then (F, 6) else F.write fun G => G.cut n x m.toNat := on_some hd hx
  obtain ⟨r0, g0, off0, cap0, _, _, hlv0, e0, e1, e2⟩ := h.at_file hj
  subst hlv0
  have c1w : w.cell? ⟨rb, 1, none⟩ = some (.slice (some ⟨g0, off0, none⟩) F.files.length cap0) := blk_cell h.blk 1
  simp only at e1
  clear e0 e2
  by_cases hr0 : m < 0
  · have hr : Hid (F.truncate n m = (F, 6)) := Lib.hid (by rw [hc, if_pos (.inl hr0)])
    clear h ho hd hx hj hc
    go_enter Try.func66, Try.ntmps66
    go_wp2_with (fail)
    refine HAT.out.mono ?_
    rintro e w1 ⟨rfl, rfl⟩
    go_wp2_with (fail)
    go_ret
    rw [hr.out]
    exact ⟨rfl, HQ.out⟩
  by_cases hr1 : (x.data.length : Int) < m
  · have hr : Hid (F.truncate n m = (F, 6)) := Lib.hid (by rw [hc, if_pos (.inr hr1)])
    clear h ho hd hx hj hc
    go_enter Try.func66, Try.ntmps66
    go_wp2_with (fail)
    refine HAT.out.mono ?_
    rintro e w1 ⟨rfl, rfl⟩
    go_wp2_with (fail)
    go_ret
    rw [hr.out]
    exact ⟨rfl, HQ.out⟩
  have hc := hc.trans (if_neg (by omega))
  by_cases ha : F.armed = 1
  · have hr : Hid (F.truncate n m = (F.failS, 5)) := Lib.hid (hc.trans (write_one ha))
    have hb : Hid ((F.armed == 1) = true) := Lib.hid (by rw [ha]; rfl)
    rw [hb.out] at HF
    clear h ho hd hx hj ha hc
    go_enter Try.func66, Try.ntmps66
    go_wp2_with (fail)
    refine HAT.out.mono ?_
    rintro e w1 ⟨rfl, rfl⟩
    go_wp2_with (fail)
    refine (HF.out _ rfl).mono ?_
    rintro e w1 ⟨rfl, h1, h2, h3⟩
    have HP : Hid (RefPost w rb F.failS S w1) := Lib.hid (RefPost.behind h2 h3 (h1.quiet (Below.refl _ _)))
    clear h1 h2 h3
    go_wp2_with (fail)
    go_ret
    rw [hr.out]
    exact ⟨rfl, HP.out⟩
  · obtain ⟨q, rfl⟩ : ∃ q : Nat, m = (q : Int) := ⟨m.toNat, by omega⟩
    rw [Int.toNat_natCast] at hc
    have hw := write_ok (F := F) (eff := fun G => G.cut n x q) ha (fun G => ⟨rfl, rfl, rfl, rfl⟩) (fun a => rfl)
    rw [← hc] at hw
    have HW := Lib.hid hw
    have hb : Hid ((F.armed == 1) = false) := Lib.hid (beq_eq_false_iff_ne.2 ha)
    rw [hb.out] at HF
    have HJ := Lib.hid hj
    have HSF : Hid ((F.cut n x q).files = F.files.set j (n, ⟨x.data.take q, min x.synced q⟩)) := Lib.hid (putL_set ho.rise hj _)
    have q0 : q ≤ x.data.length := by omega
    have HSY : Hid (x.synced ≤ x.data.length) := Lib.hid (ho.len hx).2.1
    have hsy : (x.synced : Int) ≤ 67108864 := by have := HSY.out; omega
    clear h ho hd hx hj ha hc hw
    go_enter Try.func66, Try.ntmps66
    go_wp2_with (fail)
    refine HAT.out.mono ?_
    rintro e w1 ⟨rfl, rfl⟩
    go_wp2_with (fail)
    refine (HF.out _ rfl).mono ?_
    rintro e w1 ⟨rfl, h1, h2, h3⟩
    have hj1 : F.failS.files[j]? = some (n, x) := by rw [failS_files]; exact HJ.out
    obtain ⟨r, g, off, cap, hr, hf, hlv, d0, d1, d2⟩ := h1.at_file hj1
    simp only [failS_files, Value.slice.injEq, Option.some.injEq, Addr.mk.injEq, and_true, true_and] at hlv
    obtain ⟨⟨rfl, rfl⟩, rfl⟩ := hlv
    have c1 : w1.cell? ⟨rb, 1, none⟩ = some (.slice (some ⟨g0, off0, none⟩) F.files.length cap0) := blk_cell h1.blk 1
    obtain ⟨cur, hbk⟩ := h1.arr.own g0 rfl
    have h1' : RefAt w1 rb F.failS S (.slice (some ⟨g0, off0, none⟩) F.failS.files.length cap0) rs := by rw [failS_files]; exact h1
    simp only at d1
    have hsl : SlAt byteKind 5 w1 (.slice r.a x.data.length r.cap) x.data := by
      have := hf.sl
      have e : r.val = .slice r.a x.data.length r.cap := by show Value.slice r.a r.len r.cap = _; rw [hf.len]
      rw [e] at this; exact this
    have HBY : Hid (∀ W cc, Below w1.heap.size w1 W → Calls Try.prog 79 #[.slice r.a q cc] W fun e W' => ∃ va vc, e = .returned (.slice va q vc) ∧ (W'.cell? ⟨rb, 1, none⟩ = some (.slice (some ⟨g0, off0, none⟩) F.files.length cap0)) ∧
        (W'.cell? ⟨g0, off0 + j * 3 + 1, none⟩ = some (.slice r.a x.data.length r.cap) ∧ W'.frozen? ⟨g0, off0 + j * 3 + 1, none⟩ = false) ∧
        Hid (RefPost w1 rb { F.failS with files := F.files.set j (n, ⟨x.data.take q, x.synced⟩) } S (W'.setCell ⟨g0, off0 + j * 3 + 1, none⟩ (.slice va q vc)))) := Lib.hid fun W cc hW => by
      have hlq : (x.data.take q).length = q := by rw [List.length_take]; omega
      have h9 := (hsl.below hW).rd.take q0 cc
      have h10 := g_bytes (a := r.a) (cap := cc) (ys := x.data.take q) (by rw [hlq]; exact h9) (by omega)
      rw [hlq] at h10
      refine h10.mono ?_
      rintro e W' ⟨va, vc, rfl, hfr⟩
      have hB : Below w1.heap.size w1 W' := hW.trans (hfr.below.mono hW.size)
      have hg3 : W'.heap[g0]? = some (.cells cur 69 (0, 0)) := (hB.block g0 (lt_of_block hbk)).trans hbk
      refine ⟨va, vc, rfl, blk_cell (h1.below hB).blk 1, ⟨(hB.cell (p := ⟨g0, off0 + j * 3 + 1, none⟩) (World.block_lt_of_cell? w1 _ d1)).trans d1, blk_free hg3 _⟩, Lib.hid ?_⟩
      have := h1'.setData (a' := va) (c' := vc) (ys := x.data.take q) hj1 hr hB (by rw [hlq]; exact hfr.sl) (fun z hz => by rw [hlq] at hz; exact Nat.le_trans hW.size (hfr.new z hz))
      rw [failS_files, hlq] at this
      exact this
    obtain ⟨hroom1, hroom2, hroom3⟩ := hsl.room
    have hq1 : q ≤ r.cap := by omega
    have hq2 : (q : Int) ≤ (r.cap : Int) := by omega
    have hq3 : (r.cap : Int) ≤ 9223372036854775807 := by omega
    have HP := Lib.hid (And.intro h1 (And.intro h2 h3))
    have hb1 : Below w1.heap.size w1 w1.drew := (Below.refl _ _).drew
    have hgr : g0 ≠ rb := blk_ne_type (b := g0) (c := rb) hbk h1.blk (by decide)
    obtain ⟨g, hgg⟩ : ∃ g, g = g0 := ⟨_, rfl⟩
    obtain ⟨off, hoo⟩ : ∃ off, off = off0 := ⟨_, rfl⟩
    obtain ⟨cap, hcc⟩ : ∃ cap, cap = cap0 := ⟨_, rfl⟩
    subst hgg hoo hcc
    clear h1 h2 h3 hj1 hr hf hbk h1' d0 d2 hsl hroom1 hroom2 e1 c1w
    have key : ∀ (ra : Option Addr) (rc : Nat), r.a = ra → r.cap = rc → (ra = none ∧ rc = 0 ∧ x.data.length = 0) ∨ (∃ g off, ra = some ⟨g, off, none⟩) → True := fun _ _ _ _ _ => trivial
    clear key
    rcases hroom3 with ⟨z1, z2, z3⟩ | ⟨gd, od, z1⟩
    · have hq0 : q = 0 := by omega
      subst hq0
      rw [z1, z2] at HBY d1
      clear z1 z2
      go_wp2_with (fail)
      refine wp_region_held_drew (S := fun w' => w'.cell? ⟨rb, 1, none⟩ = some (.slice (some ⟨g, off, none⟩) F.files.length cap)) (by kernel_rfl) ?_ (fun hHeld => ?_)
      · go_keep
      refine wpAnyH_take (i := 0) (oi := { dst := some 34, op := Op.move (Operand.tmp 0), type := 61, pos := "fs.go:184", after := #[], guard := none }) (v := ?vv0) rfl (by kernel_rfl) (by kernel_rfl) (by kernel_rfl) (fun _ _ _ h => h) (Or.inl ⟨by rfl, ?hy0⟩) (by assumption) ?rs0
      case hy0 => (intro w hSw; (try dsimp only at hSw); go_simp) <;> with_reducible rfl
      try simp only [Act.put, List.setIfInBounds_toArray, List.set_cons_zero, List.set_cons_succ]
      refine wpAnyH_take (i := 1) (oi := { dst := some 35, op := Op.nilCheck (Operand.tmp 34), type := 0, pos := "fs.go:184", after := #[{ on := 0, ground := Ground.data }], guard := none }) (v := ?vv1) rfl (by kernel_rfl) (by kernel_rfl) (by kernel_rfl) (fun _ _ _ h => h) (Or.inl ⟨by rfl, ?hy1⟩) (by assumption) ?rs1
      case hy1 => (intro w hSw; (try dsimp only at hSw); go_simp) <;> with_reducible rfl
      try simp only [Act.put, List.setIfInBounds_toArray, List.set_cons_zero, List.set_cons_succ]
      refine wpAnyH_take (i := 2) (oi := { dst := some 36, op := Op.fieldAddr 67 (Operand.tmp 35) 1, type := 0, pos := "fs.go:184", after := #[{ on := 1, ground := Ground.data }], guard := none }) (v := ?vv2) rfl (by kernel_rfl) (by kernel_rfl) (by kernel_rfl) (fun _ _ _ h => h) (Or.inl ⟨by rfl, ?hy2⟩) (by assumption) ?rs2
      case hy2 => (intro w hSw; (try dsimp only at hSw); go_simp) <;> with_reducible rfl
      try simp only [Act.put, List.setIfInBounds_toArray, List.set_cons_zero, List.set_cons_succ]
      refine wpAnyH_take (i := 3) (oi := { dst := some 37, op := Op.load 65 (Operand.tmp 36), type := 65, pos := "fs.go:184", after := #[{ on := 2, ground := Ground.data }], guard := none }) (v := ?vv3) rfl (by kernel_rfl) (by kernel_rfl) (by kernel_rfl) (fun _ _ _ h => h) (Or.inl ⟨by rfl, ?hy3⟩) (by assumption) ?rs3
      case hy3 => (intro w hSw; (try dsimp only at hSw); go_simp) <;> with_reducible rfl
      try simp only [Act.put, List.setIfInBounds_toArray, List.set_cons_zero, List.set_cons_succ]
      refine wpAnyH_take (i := 4) (oi := { dst := some 38, op := Op.move (Operand.tmp 7), type := 3, pos := "fs.go:184", after := #[], guard := none }) (v := ?vv4) rfl (by kernel_rfl) (by kernel_rfl) (by kernel_rfl) (fun _ _ _ h => h) (Or.inl ⟨by rfl, ?hy4⟩) (by assumption) ?rs4
      case hy4 => (intro w hSw; (try dsimp only at hSw); go_simp) <;> with_reducible rfl
      try simp only [Act.put, List.setIfInBounds_toArray, List.set_cons_zero, List.set_cons_succ]
      refine wpAnyH_take (i := 5) (oi := { dst := some 39, op := Op.move (Operand.tmp 0), type := 61, pos := "fs.go:184", after := #[], guard := none }) (v := ?vv5) rfl (by kernel_rfl) (by kernel_rfl) (by kernel_rfl) (fun _ _ _ h => h) (Or.inl ⟨by rfl, ?hy5⟩) (by assumption) ?rs5
      case hy5 => (intro w hSw; (try dsimp only at hSw); go_simp) <;> with_reducible rfl
      try simp only [Act.put, List.setIfInBounds_toArray, List.set_cons_zero, List.set_cons_succ]
      refine wpAnyH_take (i := 6) (oi := { dst := some 40, op := Op.nilCheck (Operand.tmp 39), type := 0, pos := "fs.go:184", after := #[{ on := 5, ground := Ground.data }], guard := none }) (v := ?vv6) rfl (by kernel_rfl) (by kernel_rfl) (by kernel_rfl) (fun _ _ _ h => h) (Or.inl ⟨by rfl, ?hy6⟩) (by assumption) ?rs6
      case hy6 => (intro w hSw; (try dsimp only at hSw); go_simp) <;> with_reducible rfl
      try simp only [Act.put, List.setIfInBounds_toArray, List.set_cons_zero, List.set_cons_succ]
      refine wpAnyH_take (i := 7) (oi := { dst := some 41, op := Op.fieldAddr 67 (Operand.tmp 40) 1, type := 0, pos := "fs.go:184", after := #[{ on := 6, ground := Ground.data }], guard := none }) (v := ?vv7) rfl (by kernel_rfl) (by kernel_rfl) (by kernel_rfl) (fun _ _ _ h => h) (Or.inl ⟨by rfl, ?hy7⟩) (by assumption) ?rs7
      case hy7 => (intro w hSw; (try dsimp only at hSw); go_simp) <;> with_reducible rfl
      try simp only [Act.put, List.setIfInBounds_toArray, List.set_cons_zero, List.set_cons_succ]
      refine wpAnyH_take (i := 8) (oi := { dst := some 42, op := Op.load 65 (Operand.tmp 41), type := 65, pos := "fs.go:184", after := #[{ on := 7, ground := Ground.data }], guard := none }) (v := ?vv8) rfl (by kernel_rfl) (by kernel_rfl) (by kernel_rfl) (fun _ _ _ h => h) (Or.inl ⟨by rfl, ?hy8⟩) (by assumption) ?rs8
      case hy8 => (intro w hSw; (try dsimp only at hSw); go_simp) <;> with_reducible rfl
      try simp only [Act.put, List.setIfInBounds_toArray, List.set_cons_zero, List.set_cons_succ]
      refine wpAnyH_take (i := 9) (oi := { dst := some 43, op := Op.move (Operand.tmp 7), type := 3, pos := "fs.go:184", after := #[], guard := none }) (v := ?vv9) rfl (by kernel_rfl) (by kernel_rfl) (by kernel_rfl) (fun _ _ _ h => h) (Or.inl ⟨by rfl, ?hy9⟩) (by assumption) ?rs9
      case hy9 => (intro w hSw; (try dsimp only at hSw); go_simp) <;> with_reducible rfl
      try simp only [Act.put, List.setIfInBounds_toArray, List.set_cons_zero, List.set_cons_succ]
      refine wpAnyH_take (i := 10) (oi := { dst := some 44, op := Op.indexAddr 65 (Operand.tmp 42) (Operand.tmp 43), type := 0, pos := "fs.go:184", after := #[{ on := 8, ground := Ground.data }, { on := 9, ground := Ground.data }], guard := none }) (v := ?vv10) rfl (by kernel_rfl) (by kernel_rfl) (by kernel_rfl) (fun _ _ _ h => h) (Or.inl ⟨by rfl, ?hy10⟩) (by assumption) ?rs10
      case hy10 => (intro w hSw; (try dsimp only at hSw); go_simp) <;> with_reducible rfl
      try simp only [Act.put, List.setIfInBounds_toArray, List.set_cons_zero, List.set_cons_succ]
      refine wpAnyH_take (i := 11) (oi := { dst := some 45, op := Op.fieldAddr 69 (Operand.tmp 44) 1, type := 0, pos := "fs.go:184", after := #[{ on := 10, ground := Ground.data }], guard := none }) (v := ?vv11) rfl (by kernel_rfl) (by kernel_rfl) (by kernel_rfl) (fun _ _ _ h => h) (Or.inl ⟨by rfl, ?hy11⟩) (by assumption) ?rs11
      case hy11 => (intro w hSw; (try dsimp only at hSw); go_simp) <;> with_reducible rfl
      try simp only [Act.put, List.setIfInBounds_toArray, List.set_cons_zero, List.set_cons_succ]
      refine wpAnyH_take (i := 13) (oi := { dst := some 47, op := Op.move (Operand.tmp 2), type := 3, pos := "fs.go:184", after := #[], guard := none }) (v := ?vv13) rfl (by kernel_rfl) (by kernel_rfl) (by kernel_rfl) (fun _ _ _ h => h) (Or.inl ⟨by rfl, ?hy13⟩) (by assumption) ?rs13
      case hy13 => (intro w hSw; (try dsimp only at hSw); go_simp) <;> with_reducible rfl
      try simp only [Act.put, List.setIfInBounds_toArray, List.set_cons_zero, List.set_cons_succ]
      refine wpAnyH_ready (rs := [12]) (by kernel_rfl) (by simp) ?_
      refine AllReadyH.cons (o := { dst := some 46, op := Op.load 28 (Operand.tmp 45), type := 28, pos := "fs.go:184", after := #[{ on := 11, ground := Ground.data }], guard := none }) rfl (fun K hK => ?_) AllReadyH.nil
      go_simp
      refine hK.out _ _ ?_ (fun hHeld => ?_)
      · assumption
      clear hK K
      try simp only [Act.put, List.setIfInBounds_toArray, List.set_cons_zero, List.set_cons_succ]
      refine wpAnyH_take (i := 14) (oi := { dst := some 48, op := Op.slice 28 (Operand.tmp 46) none (some (Operand.tmp 47)) none, type := 28, pos := "fs.go:184", after := #[{ on := 12, ground := Ground.data }, { on := 13, ground := Ground.data }], guard := none }) (v := ?vv14) rfl (by kernel_rfl) (by kernel_rfl) (by kernel_rfl) (fun _ _ _ h => h) (Or.inl ⟨by rfl, ?hy14⟩) (by assumption) ?rs14
      case hy14 => (intro w hSw; (try dsimp only at hSw); go_simp) <;> with_reducible rfl
      try simp only [Act.put, List.setIfInBounds_toArray, List.set_cons_zero, List.set_cons_succ]
      refine wpAnyH_ready (rs := [15]) (by kernel_rfl) (by simp) ?_
      refine AllReadyH.cons (o := { dst := some 49, op := Op.call { callee := Callee.value (Operand.func 79), args := #[Operand.tmp 48], argTypes := #[28] }, type := 28, pos := "fs.go:184", after := #[{ on := 14, ground := Ground.data }], guard := none }) rfl (fun K hK => ?_) AllReadyH.nil
      go_simp
      go_at_call 79; (with_reducible refine (HBY.out _ _ ?_).mono ?_); exact hb1; rintro e w2 ⟨va, vc, rfl, s1, ⟨s3, s4⟩, hC⟩
      go_wp2_with fail
      refine hK.out _ _ ?_ (fun hHeld => ?_)
      · exact s1
      clear hK K
      try simp only [Act.put, List.setIfInBounds_toArray, List.set_cons_zero, List.set_cons_succ]
      refine wpAnyH_take (i := 16) (oi := { dst := some 50, op := Op.indexAddr 65 (Operand.tmp 37) (Operand.tmp 38), type := 0, pos := "fs.go:184", after := #[{ on := 3, ground := Ground.data }, { on := 4, ground := Ground.data }, { on := 0, ground := Ground.phase }, { on := 1, ground := Ground.phase }, { on := 2, ground := Ground.phase }, { on := 3, ground := Ground.phase }, { on := 4, ground := Ground.phase }, { on := 5, ground := Ground.phase }, { on := 6, ground := Ground.phase }, { on := 7, ground := Ground.phase }, { on := 8, ground := Ground.phase }, { on := 9, ground := Ground.phase }, { on := 10, ground := Ground.phase }, { on := 11, ground := Ground.phase }, { on := 12, ground := Ground.phase }, { on := 13, ground := Ground.phase }, { on := 14, ground := Ground.phase }, { on := 15, ground := Ground.phase }], guard := none }) (v := ?vv16) rfl (by kernel_rfl) (by kernel_rfl) (by kernel_rfl) (fun _ _ _ h => h) (Or.inl ⟨by rfl, ?hy16⟩) (by assumption) ?rs16
      case hy16 => (intro w hSw; (try dsimp only at hSw); go_simp) <;> with_reducible rfl
      try simp only [Act.put, List.setIfInBounds_toArray, List.set_cons_zero, List.set_cons_succ]
      refine wpAnyH_take (i := 17) (oi := { dst := some 51, op := Op.fieldAddr 69 (Operand.tmp 50) 1, type := 0, pos := "fs.go:184", after := #[{ on := 16, ground := Ground.data }, { on := 0, ground := Ground.phase }, { on := 1, ground := Ground.phase }, { on := 2, ground := Ground.phase }, { on := 3, ground := Ground.phase }, { on := 4, ground := Ground.phase }, { on := 5, ground := Ground.phase }, { on := 6, ground := Ground.phase }, { on := 7, ground := Ground.phase }, { on := 8, ground := Ground.phase }, { on := 9, ground := Ground.phase }, { on := 10, ground := Ground.phase }, { on := 11, ground := Ground.phase }, { on := 12, ground := Ground.phase }, { on := 13, ground := Ground.phase }, { on := 14, ground := Ground.phase }, { on := 15, ground := Ground.phase }], guard := none }) (v := ?vv17) rfl (by kernel_rfl) (by kernel_rfl) (by kernel_rfl) (fun _ _ _ h => h) (Or.inl ⟨by rfl, ?hy17⟩) (by assumption) ?rs17
      case hy17 => (intro w hSw; (try dsimp only at hSw); go_simp) <;> with_reducible rfl
      try simp only [Act.put, List.setIfInBounds_toArray, List.set_cons_zero, List.set_cons_succ]
      refine wpAnyH_ready (rs := [18]) (by kernel_rfl) (by simp) ?_
      refine AllReadyH.cons (o := { dst := none, op := Op.store 28 (Operand.tmp 51) (Operand.tmp 49), type := 0, pos := "fs.go:184", after := #[{ on := 17, ground := Ground.data }, { on := 15, ground := Ground.data }, { on := 15, ground := Ground.chain }, { on := 0, ground := Ground.phase }, { on := 1, ground := Ground.phase }, { on := 2, ground := Ground.phase }, { on := 3, ground := Ground.phase }, { on := 4, ground := Ground.phase }, { on := 5, ground := Ground.phase }, { on := 6, ground := Ground.phase }, { on := 7, ground := Ground.phase }, { on := 8, ground := Ground.phase }, { on := 9, ground := Ground.phase }, { on := 10, ground := Ground.phase }, { on := 11, ground := Ground.phase }, { on := 12, ground := Ground.phase }, { on := 13, ground := Ground.phase }, { on := 14, ground := Ground.phase }, { on := 15, ground := Ground.phase }], guard := none }) rfl (fun K hK => ?_) AllReadyH.nil
      go_simp
      refine hK.out _ _ ?_ (fun hHeld => ?_)
      · go_keep
      clear hK K
      try simp only [Act.put, List.setIfInBounds_toArray, List.set_cons_zero, List.set_cons_succ]
      refine wpAnyH_done (by kernel_rfl) ?_ _
      have hjl' : j < F.files.length := hjl
      generalize hW2e : (w2.setCell ⟨g, off + j * 3 + 1, none⟩ (.slice va 0 vc)) = W2 at hC ⊢
      obtain ⟨lv2, rs2, hA, hK⟩ := hC.out
      have hj2 : (F.files.set j (n, ⟨x.data.take 0, x.synced⟩))[j]? = some (n, ⟨x.data.take 0, x.synced⟩) := by rw [List.getElem?_set, if_pos rfl, if_pos hjl']
      obtain ⟨r2, g2, off2, cap2, hr2, hf2, hlv2, e0, e1, e2⟩ := hA.at_file (F := { F.failS with files := F.files.set j (n, ⟨x.data.take 0, x.synced⟩) }) hj2
      have hlen2 : (F.files.set j (n, (⟨x.data.take 0, x.synced⟩ : FileS))).length = F.files.length := List.length_set
      have hA2 := hA
      rw [hlv2] at hA
      have c2 : W2.cell? ⟨rb, 1, none⟩ = some (.slice (some ⟨g2, off2, none⟩) F.files.length cap2) := by have := blk_cell hA.blk 1; rw [hlen2] at this; exact this
      obtain ⟨cur2, hbk2⟩ := hA.arr.own g2 rfl
      have y2 : W2.frozen? ⟨g2, off2 + j * 3 + 2, none⟩ = false := blk_free hbk2 _
      have hset := (hA.below (Below.refl W2.heap.size W2).drew).setField (c := 2) (u := .int .i64 ((min x.synced 0 : Nat) : Int)) (r' := { r2 with synced := min x.synced 0 }) (y := ⟨x.data.take 0, min x.synced 0⟩) hj2 hr2 (by omega) rfl
        ⟨hf2.name, hf2.len, hf2.sl.below (Below.refl W2.heap.size W2).drew, rfl⟩ (fun g' hg' => hA.sd r2 (List.mem_of_getElem? hr2) g' hg')
      have HFIN : Hid (RefPost w1 rb { F.failS with files := F.files.set j (n, ⟨x.data.take 0, min x.synced 0⟩) } S (W2.drew.setCell ⟨g2, off2 + j * 3 + 2, none⟩ (.int .i64 ((min x.synced 0 : Nat) : Int)))) := Lib.hid (by
        have e : (F.files.set j (n, (⟨x.data.take 0, x.synced⟩ : FileS))).set j (n, ⟨x.data.take 0, min x.synced 0⟩) = F.files.set j (n, ⟨x.data.take 0, min x.synced 0⟩) := by rw [List.set_set]
        have hs1 := hset.1
        rw [show ({ F.failS with files := F.files.set j (n, ⟨x.data.take 0, x.synced⟩) } : FsS).files = F.files.set j (n, ⟨x.data.take 0, x.synced⟩) from rfl] at hs1
        rw [e] at hs1
        refine ⟨_, _, hs1.mono (fun i e => ?_) (fun i e => ?_), hK.trans (((Keeps.refl _ W2).drew).trans' hset.2) (fun i hi e => ?_)⟩
        · rcases e with e | e
          · exact .inl e
          · exact .inr ⟨e.1, by simpa using e.2⟩
        · rcases e with e | e
          · have := hA.lt i (.inl e); simpa using this
          · exact e.2
        · rcases e with e | e
          · exact e
          · omega)
      have HMIN : Hid (min (x.synced : Int) ((0 : Nat) : Int) = ((min x.synced 0 : Nat) : Int)) := Lib.hid (by omega)
      simp only at e2
      clear hC hA hA2 hK hj2 hr2 hf2 hlv2 e0 e1 hbk2 hset hlen2 hW2e s1 s3 s4
      go_wp2_with (fail)
      refine wp_region_still_tail 17 (by kernel_rfl) (by kernel_rfl) ?_
      simp only [List.take_succ_cons, List.take_zero, List.drop_succ_cons, List.drop_zero]
      repeat still_step
      refine wpStill_nil ?_
      go_wp2_with (fail)
      go_ret
      rw [HW.out.1]
      have hmn := HMIN.out
      simp only [Int.natCast_zero] at hmn
      rw [hmn]
      exact ⟨rfl, RefPost.behind HP.out.2.1 HP.out.2.2 (RefPost.same HFIN.out (by have := HW.out.2; rw [HSF.out] at this; exact this))⟩
    · rw [z1] at HBY d1
      clear z1
      go_wp2_with (fail)
      refine wp_region_held_drew (S := fun w' => w'.cell? ⟨rb, 1, none⟩ = some (.slice (some ⟨g, off, none⟩) F.files.length cap)) (by kernel_rfl) ?_ (fun hHeld => ?_)
      · go_keep
      refine wpAnyH_take (i := 0) (oi := { dst := some 34, op := Op.move (Operand.tmp 0), type := 61, pos := "fs.go:184", after := #[], guard := none }) (v := ?vvB0) rfl (by kernel_rfl) (by kernel_rfl) (by kernel_rfl) (fun _ _ _ h => h) (Or.inl ⟨by rfl, ?hyB0⟩) (by assumption) ?rsB0
      case hyB0 => (intro w hSw; (try dsimp only at hSw); go_simp) <;> with_reducible rfl
      try simp only [Act.put, List.setIfInBounds_toArray, List.set_cons_zero, List.set_cons_succ]
      refine wpAnyH_take (i := 1) (oi := { dst := some 35, op := Op.nilCheck (Operand.tmp 34), type := 0, pos := "fs.go:184", after := #[{ on := 0, ground := Ground.data }], guard := none }) (v := ?vvB1) rfl (by kernel_rfl) (by kernel_rfl) (by kernel_rfl) (fun _ _ _ h => h) (Or.inl ⟨by rfl, ?hyB1⟩) (by assumption) ?rsB1
      case hyB1 => (intro w hSw; (try dsimp only at hSw); go_simp) <;> with_reducible rfl
      try simp only [Act.put, List.setIfInBounds_toArray, List.set_cons_zero, List.set_cons_succ]
      refine wpAnyH_take (i := 2) (oi := { dst := some 36, op := Op.fieldAddr 67 (Operand.tmp 35) 1, type := 0, pos := "fs.go:184", after := #[{ on := 1, ground := Ground.data }], guard := none }) (v := ?vvB2) rfl (by kernel_rfl) (by kernel_rfl) (by kernel_rfl) (fun _ _ _ h => h) (Or.inl ⟨by rfl, ?hyB2⟩) (by assumption) ?rsB2
      case hyB2 => (intro w hSw; (try dsimp only at hSw); go_simp) <;> with_reducible rfl
      try simp only [Act.put, List.setIfInBounds_toArray, List.set_cons_zero, List.set_cons_succ]
      refine wpAnyH_take (i := 3) (oi := { dst := some 37, op := Op.load 65 (Operand.tmp 36), type := 65, pos := "fs.go:184", after := #[{ on := 2, ground := Ground.data }], guard := none }) (v := ?vvB3) rfl (by kernel_rfl) (by kernel_rfl) (by kernel_rfl) (fun _ _ _ h => h) (Or.inl ⟨by rfl, ?hyB3⟩) (by assumption) ?rsB3
      case hyB3 => (intro w hSw; (try dsimp only at hSw); go_simp) <;> with_reducible rfl
      try simp only [Act.put, List.setIfInBounds_toArray, List.set_cons_zero, List.set_cons_succ]
      refine wpAnyH_take (i := 4) (oi := { dst := some 38, op := Op.move (Operand.tmp 7), type := 3, pos := "fs.go:184", after := #[], guard := none }) (v := ?vvB4) rfl (by kernel_rfl) (by kernel_rfl) (by kernel_rfl) (fun _ _ _ h => h) (Or.inl ⟨by rfl, ?hyB4⟩) (by assumption) ?rsB4
      case hyB4 => (intro w hSw; (try dsimp only at hSw); go_simp) <;> with_reducible rfl
      try simp only [Act.put, List.setIfInBounds_toArray, List.set_cons_zero, List.set_cons_succ]
      refine wpAnyH_take (i := 5) (oi := { dst := some 39, op := Op.move (Operand.tmp 0), type := 61, pos := "fs.go:184", after := #[], guard := none }) (v := ?vvB5) rfl (by kernel_rfl) (by kernel_rfl) (by kernel_rfl) (fun _ _ _ h => h) (Or.inl ⟨by rfl, ?hyB5⟩) (by assumption) ?rsB5
      case hyB5 => (intro w hSw; (try dsimp only at hSw); go_simp) <;> with_reducible rfl
      try simp only [Act.put, List.setIfInBounds_toArray, List.set_cons_zero, List.set_cons_succ]
      refine wpAnyH_take (i := 6) (oi := { dst := some 40, op := Op.nilCheck (Operand.tmp 39), type := 0, pos := "fs.go:184", after := #[{ on := 5, ground := Ground.data }], guard := none }) (v := ?vvB6) rfl (by kernel_rfl) (by kernel_rfl) (by kernel_rfl) (fun _ _ _ h => h) (Or.inl ⟨by rfl, ?hyB6⟩) (by assumption) ?rsB6
      case hyB6 => (intro w hSw; (try dsimp only at hSw); go_simp) <;> with_reducible rfl
      try simp only [Act.put, List.setIfInBounds_toArray, List.set_cons_zero, List.set_cons_succ]
      refine wpAnyH_take (i := 7) (oi := { dst := some 41, op := Op.fieldAddr 67 (Operand.tmp 40) 1, type := 0, pos := "fs.go:184", after := #[{ on := 6, ground := Ground.data }], guard := none }) (v := ?vvB7) rfl (by kernel_rfl) (by kernel_rfl) (by kernel_rfl) (fun _ _ _ h => h) (Or.inl ⟨by rfl, ?hyB7⟩) (by assumption) ?rsB7
      case hyB7 => (intro w hSw; (try dsimp only at hSw); go_simp) <;> with_reducible rfl
      try simp only [Act.put, List.setIfInBounds_toArray, List.set_cons_zero, List.set_cons_succ]
      refine wpAnyH_take (i := 8) (oi := { dst := some 42, op := Op.load 65 (Operand.tmp 41), type := 65, pos := "fs.go:184", after := #[{ on := 7, ground := Ground.data }], guard := none }) (v := ?vvB8) rfl (by kernel_rfl) (by kernel_rfl) (by kernel_rfl) (fun _ _ _ h => h) (Or.inl ⟨by rfl, ?hyB8⟩) (by assumption) ?rsB8
      case hyB8 => (intro w hSw; (try dsimp only at hSw); go_simp) <;> with_reducible rfl
      try simp only [Act.put, List.setIfInBounds_toArray, List.set_cons_zero, List.set_cons_succ]
      refine wpAnyH_take (i := 9) (oi := { dst := some 43, op := Op.move (Operand.tmp 7), type := 3, pos := "fs.go:184", after := #[], guard := none }) (v := ?vvB9) rfl (by kernel_rfl) (by kernel_rfl) (by kernel_rfl) (fun _ _ _ h => h) (Or.inl ⟨by rfl, ?hyB9⟩) (by assumption) ?rsB9
      case hyB9 => (intro w hSw; (try dsimp only at hSw); go_simp) <;> with_reducible rfl
      try simp only [Act.put, List.setIfInBounds_toArray, List.set_cons_zero, List.set_cons_succ]
      refine wpAnyH_take (i := 10) (oi := { dst := some 44, op := Op.indexAddr 65 (Operand.tmp 42) (Operand.tmp 43), type := 0, pos := "fs.go:184", after := #[{ on := 8, ground := Ground.data }, { on := 9, ground := Ground.data }], guard := none }) (v := ?vvB10) rfl (by kernel_rfl) (by kernel_rfl) (by kernel_rfl) (fun _ _ _ h => h) (Or.inl ⟨by rfl, ?hyB10⟩) (by assumption) ?rsB10
      case hyB10 => (intro w hSw; (try dsimp only at hSw); go_simp) <;> with_reducible rfl
      try simp only [Act.put, List.setIfInBounds_toArray, List.set_cons_zero, List.set_cons_succ]
      refine wpAnyH_take (i := 11) (oi := { dst := some 45, op := Op.fieldAddr 69 (Operand.tmp 44) 1, type := 0, pos := "fs.go:184", after := #[{ on := 10, ground := Ground.data }], guard := none }) (v := ?vvB11) rfl (by kernel_rfl) (by kernel_rfl) (by kernel_rfl) (fun _ _ _ h => h) (Or.inl ⟨by rfl, ?hyB11⟩) (by assumption) ?rsB11
      case hyB11 => (intro w hSw; (try dsimp only at hSw); go_simp) <;> with_reducible rfl
      try simp only [Act.put, List.setIfInBounds_toArray, List.set_cons_zero, List.set_cons_succ]
      refine wpAnyH_take (i := 13) (oi := { dst := some 47, op := Op.move (Operand.tmp 2), type := 3, pos := "fs.go:184", after := #[], guard := none }) (v := ?vvB13) rfl (by kernel_rfl) (by kernel_rfl) (by kernel_rfl) (fun _ _ _ h => h) (Or.inl ⟨by rfl, ?hyB13⟩) (by assumption) ?rsB13
      case hyB13 => (intro w hSw; (try dsimp only at hSw); go_simp) <;> with_reducible rfl
      try simp only [Act.put, List.setIfInBounds_toArray, List.set_cons_zero, List.set_cons_succ]
      refine wpAnyH_ready (rs := [12]) (by kernel_rfl) (by simp) ?_
      refine AllReadyH.cons (o := { dst := some 46, op := Op.load 28 (Operand.tmp 45), type := 28, pos := "fs.go:184", after := #[{ on := 11, ground := Ground.data }], guard := none }) rfl (fun K hK => ?_) AllReadyH.nil
      go_simp
      refine hK.out _ _ ?_ (fun hHeld => ?_)
      · assumption
      clear hK K
      try simp only [Act.put, List.setIfInBounds_toArray, List.set_cons_zero, List.set_cons_succ]
      refine wpAnyH_take (i := 14) (oi := { dst := some 48, op := Op.slice 28 (Operand.tmp 46) none (some (Operand.tmp 47)) none, type := 28, pos := "fs.go:184", after := #[{ on := 12, ground := Ground.data }, { on := 13, ground := Ground.data }], guard := none }) (v := ?vvB14) rfl (by kernel_rfl) (by kernel_rfl) (by kernel_rfl) (fun _ _ _ h => h) (Or.inl ⟨by rfl, ?hyB14⟩) (by assumption) ?rsB14
      case hyB14 => (intro w hSw; (try dsimp only at hSw); go_simp) <;> with_reducible rfl
      try simp only [Act.put, List.setIfInBounds_toArray, List.set_cons_zero, List.set_cons_succ]
      refine wpAnyH_ready (rs := [15]) (by kernel_rfl) (by simp) ?_
      refine AllReadyH.cons (o := { dst := some 49, op := Op.call { callee := Callee.value (Operand.func 79), args := #[Operand.tmp 48], argTypes := #[28] }, type := 28, pos := "fs.go:184", after := #[{ on := 14, ground := Ground.data }], guard := none }) rfl (fun K hK => ?_) AllReadyH.nil
      go_simp
      go_at_call 79; (with_reducible refine (HBY.out _ _ ?_).mono ?_); exact hb1; rintro e w2 ⟨va, vc, rfl, s1, ⟨s3, s4⟩, hC⟩
      go_wp2_with fail
      refine hK.out _ _ ?_ (fun hHeld => ?_)
      · exact s1
      clear hK K
      try simp only [Act.put, List.setIfInBounds_toArray, List.set_cons_zero, List.set_cons_succ]
      refine wpAnyH_take (i := 16) (oi := { dst := some 50, op := Op.indexAddr 65 (Operand.tmp 37) (Operand.tmp 38), type := 0, pos := "fs.go:184", after := #[{ on := 3, ground := Ground.data }, { on := 4, ground := Ground.data }, { on := 0, ground := Ground.phase }, { on := 1, ground := Ground.phase }, { on := 2, ground := Ground.phase }, { on := 3, ground := Ground.phase }, { on := 4, ground := Ground.phase }, { on := 5, ground := Ground.phase }, { on := 6, ground := Ground.phase }, { on := 7, ground := Ground.phase }, { on := 8, ground := Ground.phase }, { on := 9, ground := Ground.phase }, { on := 10, ground := Ground.phase }, { on := 11, ground := Ground.phase }, { on := 12, ground := Ground.phase }, { on := 13, ground := Ground.phase }, { on := 14, ground := Ground.phase }, { on := 15, ground := Ground.phase }], guard := none }) (v := ?vvB16) rfl (by kernel_rfl) (by kernel_rfl) (by kernel_rfl) (fun _ _ _ h => h) (Or.inl ⟨by rfl, ?hyB16⟩) (by assumption) ?rsB16
      case hyB16 => (intro w hSw; (try dsimp only at hSw); go_simp) <;> with_reducible rfl
      try simp only [Act.put, List.setIfInBounds_toArray, List.set_cons_zero, List.set_cons_succ]
      refine wpAnyH_take (i := 17) (oi := { dst := some 51, op := Op.fieldAddr 69 (Operand.tmp 50) 1, type := 0, pos := "fs.go:184", after := #[{ on := 16, ground := Ground.data }, { on := 0, ground := Ground.phase }, { on := 1, ground := Ground.phase }, { on := 2, ground := Ground.phase }, { on := 3, ground := Ground.phase }, { on := 4, ground := Ground.phase }, { on := 5, ground := Ground.phase }, { on := 6, ground := Ground.phase }, { on := 7, ground := Ground.phase }, { on := 8, ground := Ground.phase }, { on := 9, ground := Ground.phase }, { on := 10, ground := Ground.phase }, { on := 11, ground := Ground.phase }, { on := 12, ground := Ground.phase }, { on := 13, ground := Ground.phase }, { on := 14, ground := Ground.phase }, { on := 15, ground := Ground.phase }], guard := none }) (v := ?vvB17) rfl (by kernel_rfl) (by kernel_rfl) (by kernel_rfl) (fun _ _ _ h => h) (Or.inl ⟨by rfl, ?hyB17⟩) (by assumption) ?rsB17
      case hyB17 => (intro w hSw; (try dsimp only at hSw); go_simp) <;> with_reducible rfl
      try simp only [Act.put, List.setIfInBounds_toArray, List.set_cons_zero, List.set_cons_succ]
      refine wpAnyH_ready (rs := [18]) (by kernel_rfl) (by simp) ?_
      refine AllReadyH.cons (o := { dst := none, op := Op.store 28 (Operand.tmp 51) (Operand.tmp 49), type := 0, pos := "fs.go:184", after := #[{ on := 17, ground := Ground.data }, { on := 15, ground := Ground.data }, { on := 15, ground := Ground.chain }, { on := 0, ground := Ground.phase }, { on := 1, ground := Ground.phase }, { on := 2, ground := Ground.phase }, { on := 3, ground := Ground.phase }, { on := 4, ground := Ground.phase }, { on := 5, ground := Ground.phase }, { on := 6, ground := Ground.phase }, { on := 7, ground := Ground.phase }, { on := 8, ground := Ground.phase }, { on := 9, ground := Ground.phase }, { on := 10, ground := Ground.phase }, { on := 11, ground := Ground.phase }, { on := 12, ground := Ground.phase }, { on := 13, ground := Ground.phase }, { on := 14, ground := Ground.phase }, { on := 15, ground := Ground.phase }], guard := none }) rfl (fun K hK => ?_) AllReadyH.nil
      go_simp
      refine hK.out _ _ ?_ (fun hHeld => ?_)
      · go_keep
      clear hK K
      try simp only [Act.put, List.setIfInBounds_toArray, List.set_cons_zero, List.set_cons_succ]
      refine wpAnyH_done (by kernel_rfl) ?_ _
      have hjl' : j < F.files.length := hjl
      generalize hW2e : (w2.setCell ⟨g, off + j * 3 + 1, none⟩ (.slice va q vc)) = W2 at hC ⊢
      obtain ⟨lv2, rs2, hA, hK⟩ := hC.out
      have hj2 : (F.files.set j (n, ⟨x.data.take q, x.synced⟩))[j]? = some (n, ⟨x.data.take q, x.synced⟩) := by rw [List.getElem?_set, if_pos rfl, if_pos hjl']
      obtain ⟨r2, g2, off2, cap2, hr2, hf2, hlv2, e0, e1, e2⟩ := hA.at_file (F := { F.failS with files := F.files.set j (n, ⟨x.data.take q, x.synced⟩) }) hj2
      have hlen2 : (F.files.set j (n, (⟨x.data.take q, x.synced⟩ : FileS))).length = F.files.length := List.length_set
      have hA2 := hA
      rw [hlv2] at hA
      have c2 : W2.cell? ⟨rb, 1, none⟩ = some (.slice (some ⟨g2, off2, none⟩) F.files.length cap2) := by have := blk_cell hA.blk 1; rw [hlen2] at this; exact this
      obtain ⟨cur2, hbk2⟩ := hA.arr.own g2 rfl
      have y2 : W2.frozen? ⟨g2, off2 + j * 3 + 2, none⟩ = false := blk_free hbk2 _
      have hset := (hA.below (Below.refl W2.heap.size W2).drew).setField (c := 2) (u := .int .i64 ((min x.synced q : Nat) : Int)) (r' := { r2 with synced := min x.synced q }) (y := ⟨x.data.take q, min x.synced q⟩) hj2 hr2 (by omega) rfl
        ⟨hf2.name, hf2.len, hf2.sl.below (Below.refl W2.heap.size W2).drew, rfl⟩ (fun g' hg' => hA.sd r2 (List.mem_of_getElem? hr2) g' hg')
      have HFIN : Hid (RefPost w1 rb { F.failS with files := F.files.set j (n, ⟨x.data.take q, min x.synced q⟩) } S (W2.drew.setCell ⟨g2, off2 + j * 3 + 2, none⟩ (.int .i64 ((min x.synced q : Nat) : Int)))) := Lib.hid (by
        have e : (F.files.set j (n, (⟨x.data.take q, x.synced⟩ : FileS))).set j (n, ⟨x.data.take q, min x.synced q⟩) = F.files.set j (n, ⟨x.data.take q, min x.synced q⟩) := by rw [List.set_set]
        have hs1 := hset.1
        rw [show ({ F.failS with files := F.files.set j (n, ⟨x.data.take q, x.synced⟩) } : FsS).files = F.files.set j (n, ⟨x.data.take q, x.synced⟩) from rfl] at hs1
        rw [e] at hs1
        refine ⟨_, _, hs1.mono (fun i e => ?_) (fun i e => ?_), hK.trans (((Keeps.refl _ W2).drew).trans' hset.2) (fun i hi e => ?_)⟩
        · rcases e with e | e
          · exact .inl e
          · exact .inr ⟨e.1, by simpa using e.2⟩
        · rcases e with e | e
          · have := hA.lt i (.inl e); simpa using this
          · exact e.2
        · rcases e with e | e
          · exact e
          · omega)
      have HMIN : Hid (min (x.synced : Int) ((q : Nat) : Int) = ((min x.synced q : Nat) : Int)) := Lib.hid (by omega)
      simp only at e2
      clear hC hA hA2 hK hj2 hr2 hf2 hlv2 e0 e1 hbk2 hset hlen2 hW2e s1 s3 s4
      go_wp2_with (fail)
      refine wp_region_still_tail 17 (by kernel_rfl) (by kernel_rfl) ?_
      simp only [List.take_succ_cons, List.take_zero, List.drop_succ_cons, List.drop_zero]
      repeat still_step
      refine wpStill_nil ?_
      go_wp2_with (fail)
      go_ret
      rw [HW.out.1]
      have hmn := HMIN.out
      rw [hmn]
      exact ⟨rfl, RefPost.behind HP.out.2.1 HP.out.2.2 (RefPost.same HFIN.out (by have := HW.out.2; rw [HSF.out] at this; exact this))⟩
end
end Go.Proofs.Ytmfiibehclbnjaa
