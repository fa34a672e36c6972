/- The walk of a JSON reading that is guarded: what recovers, Parse. -/
import Derived.Test.YthjcolehccbihaaGreatDoorz17
import Derived.Recover
import Derived.Laws.Pointers
namespace Go.Proofs.YthjcolehccbihaaGreatDoor
open Go.RowKit Go.Shelf
/-- The two cells of a fault. -/
def FBox (w : World) (fb : Nat) (p e : Int) : Prop := IsBlk w fb #[.int .i64 p, .int .i64 e] 69
theorem fbox_cells {w : World} {fb : Nat} {p e : Int} (h : FBox w fb p e) : w.cell? ⟨fb, 0, none⟩ = some (.int .i64 p) ∧ w.cell? ⟨fb, 1, none⟩ = some (.int .i64 e) ∧ w.frozen? ⟨fb, 0, none⟩ = false ∧ w.frozen? ⟨fb, 1, none⟩ = false :=
  ⟨blk_cell h 0, blk_cell h 1, blk_free h 0, blk_free h 1⟩
/-- What was given up, and what guards takes it for. -/
def faultC (p e : Int) (r : Bool) : List PanicEntry := [{ v := .iface 69 (.agg #[.int .i64 p, .int .i64 e]), recovered := r }]
theorem assert_fault (W : World) (v : Value) (t : TypeId) : (Instr.typeAssert (.iface 69 v) t 69 true).run Tryz.prog W = .ok (.tuple #[v, .bool true]) W := by kernel_rfl
set_option maxRecDepth 100000 in
theorem j_idle (vb fb : Nat) (w : World) : CallsD Tryz.prog 58 #[.pointer (some ⟨vb, 0, none⟩), .pointer (some ⟨fb, 0, none⟩)] .returning w fun e u' w' => e = .returned (.tuple #[]) ∧ u' = .returning ∧ w' = w := by
  refine callsD_of_wpS Tryz.func58 rfl fun c₀ cs hu => ?_
  simp only [Tryz.ntmps58, List.size_toArray, List.length_cons, List.length_nil, Nat.reduceAdd, Nat.reduceSub, Array.replicate_succ, Array.replicate_zero, List.push_toArray, List.append_toArray, List.nil_append, List.cons_append]
  apply wpS_seq
  apply wpS_region
  simp [wpOpsS, go_sem, recoverD, hu, Exit.thenS]
  refine wpS_of_wp ?_
  go_wp2_with (fail)
  refine ⟨rfl, .returning, ?_, .tuple #[], by simp [results, Tryz.results58], rfl, rfl, rfl⟩
  cases c₀
  simp_all
set_option maxRecDepth 100000 in
set_option maxHeartbeats 4000000 in
theorem j_caught (vb fb : Nat) (p e : Int) (w : World) (hv : JBox w vb raw0) (hf : FBox w fb 0 0) : CallsD Tryz.prog 58 #[.pointer (some ⟨vb, 0, none⟩), .pointer (some ⟨fb, 0, none⟩)] (.panicking (faultC p e false)) w fun en u' w' =>
    en = .returned (.tuple #[]) ∧ u' = .panicking (faultC p e true) ∧ JBox w' vb raw0 ∧ FBox w' fb p e ∧ Keeps (fun k => k = vb ∨ k = fb) w w' := by
  have hvl := lt_of_block hv
  have hfl := lt_of_block hf
  have hvf : vb ≠ fb := by
    rintro rfl
    have := hv.symm.trans hf
    simp [raw0, rawOf] at this
  refine callsD_of_wpS Tryz.func58 rfl fun c₀ cs hu => ?_
  simp only [Tryz.ntmps58, List.size_toArray, List.length_cons, List.length_nil, Nat.reduceAdd, Nat.reduceSub, Array.replicate_succ, Array.replicate_zero, List.push_toArray, List.append_toArray, List.nil_append, List.cons_append]
  apply wpS_seq
  apply wpS_region
  simp [wpOpsS, go_sem, recoverD, hu, Exit.thenS, faultC]
  refine wpS_of_wp ?_
  have hta := fun W v => assert_fault W v 20
  go_upto_region 7 with (fail)
  clear hta
  obtain ⟨w1, hw1⟩ : ∃ x, x = w.alloc (.cells #[.int .i64 p, .int .i64 e] 69) := ⟨_, rfl⟩
  obtain ⟨n, hn⟩ : ∃ x, x = w.heap.size := ⟨_, rfl⟩
  have hb : Below w.heap.size w w1 := by rw [hw1]; exact (Below.refl _ _).alloc (Nat.le_refl _) _
  have H1 : FBox w1 n p e := by rw [hw1, hn]; exact blk_new _ _
  have HV1 : JBox w1 vb raw0 := jbox_below hv hb
  have HF1 : FBox w1 fb 0 0 := (hb.block _ hfl).trans hf
  rw [← hw1, ← hn]
  have hk1 := keeps4 w1 vb (.int .i64 raw0.k) (.string raw0.t) (.slice raw0.la raw0.ll raw0.lc) (.slice raw0.na raw0.nl raw0.nc)
  have H2 : FBox (putJ w1 vb raw0) n p e := hk1.obj H1 (fun e => by have e : n = vb := e; omega)
  have HF2 : FBox (putJ w1 vb raw0) fb 0 0 := hk1.obj HF1 (fun e => by have e : fb = vb := e; omega)
  have HV2 : JBox (putJ w1 vb raw0) vb raw0 := jbox_set HV1 raw0
  have HK1 : Hid (Keeps (fun k => k = vb ∨ k = fb) w w1) := Lib.hid ((Keeps.of_below hb).mono fun _ _ h => h.elim)
  have HK2 := Lib.hid hk1
  have HVV := Lib.hid HV2
  have HFF := Lib.hid HF2
  have HNE := Lib.hid hvf
  obtain ⟨p0, p1, -⟩ := fbox_cells H1
  obtain ⟨q0, q1, -⟩ := fbox_cells H2
  obtain ⟨r0, r1, z0, z1⟩ := fbox_cells HF2
  obtain ⟨⟨b0, b1, b2, b3⟩, y0, y1, y2, y3⟩ := jbox_cells HV1
  clear H1 HV1 HF1 H2 HF2 HV2 hk1 hb hw1 hn hvf hv hf hvl hfl
  simp only [putJ, raw0, rawOf] at q0 q1 r0 r1 z0 z1
  go_region
  all_goals
    have hk3 : Keeps (Only fb) (putJ w1 vb raw0) (((putJ w1 vb raw0).setCell ⟨fb, 0, none⟩ (.int .i64 p)).setCell ⟨fb, 1, none⟩ (.int .i64 e)) := ((Keeps.refl (Only fb) _).setCell (p := ⟨fb, 0, none⟩) (fun _ => rfl) _).setCell (p := ⟨fb, 1, none⟩) (fun _ => rfl) _
    have hf3 : FBox (((putJ w1 vb raw0).setCell ⟨fb, 0, none⟩ (.int .i64 p)).setCell ⟨fb, 1, none⟩ (.int .i64 e)) fb p e := blk_set (blk_set HFF.out 0 (.int .i64 p)) 1 (.int .i64 e)
    have hv3 := jbox_keeps HVV.out hk3 HNE.out
    refine ⟨rfl, .panicking [{ v := .iface 69 (.agg #[.int .i64 p, .int .i64 e]), recovered := true }], ?_, .tuple #[], by simp [results, Tryz.results58], rfl, rfl, ?_, ?_, ?_⟩
    · cases c₀
      simp_all
    · exact jbox_below hv3 (Below.refl _ _).drew
    · exact ((Below.refl _ _).drew.block _ (lt_of_block hf3)).trans hf3
    · exact ((HK1.out.trans' (HK2.out.mono fun _ _ h => .inl h)).trans' (hk3.mono fun _ _ h => .inr h)).drew
set_option maxRecDepth 100000 in
theorem guard_results {W : World} {vb fb : Nat} {q : RawV} {p e : Int} (hb : JBox W vb q) (hf : FBox W fb p e) (tmps : Array Value) (h2 : tmps.getD 2 undef = .pointer (some ⟨vb, 0, none⟩)) (h3 : tmps.getD 3 undef = .pointer (some ⟨fb, 0, none⟩)) :
    (results Tryz.f31 tmps).run Tryz.prog W = .ok (.tuple #[q.val, .agg #[.int .i64 p, .int .i64 e]]) W := by
  obtain ⟨⟨e0, e1, e2, e3⟩, -⟩ := jbox_cells hb
  obtain ⟨d0, d1, -⟩ := fbox_cells hf
  simp only [results, Tryz.results31]
  simp [Sem.run_bind, Result.andThen, h2, h3, -Array.getD_eq_getD_getElem?]
  go_simp
  rfl
/-- The worlds in which a guarded function runs. -/
def wGuard (w : World) : World := (w.alloc (.cells #[.int .i64 0, .string ⟨#[]⟩, .slice none 0 0, .slice none 0 0] 25)).alloc (.cells #[.int .i64 0, .int .i64 0] 69)
set_option maxRecDepth 100000 in
set_option maxHeartbeats 4000000 in
theorem j_guarded (k : FuncId) (hcf : ∀ args w, (callFunc k args).run Tryz.prog w = .ok (.enter k args) w) (caps : Array Value) (w : World) (S : Nat → Prop) (hS1 : ¬ S w.heap.size) (hS2 : ¬ S (w.heap.size + 1)) (R : Ending → World → Prop)
    (hg : Calls Tryz.prog k caps (wGuard w) fun e w' => Keeps S (wGuard w) w' ∧ R e w' ∧ ((∃ q : RawV, e = .returned (.agg #[.int .i64 q.k, .string q.t, .slice q.la q.ll q.lc, .slice q.na q.nl q.nc])) ∨ ∃ p er : Int, e = faultE p er)) :
    Calls Tryz.prog 31 #[.func (Fn.func k) #[] caps] w fun e w' => ∃ w0, Keeps (fun i => i = w.heap.size ∨ i = w.heap.size + 1) w0 w' ∧
      ((∃ q : RawV, R (.returned q.val) w0 ∧ e = .returned (.tuple #[q.val, .agg #[.int .i64 0, .int .i64 0]])) ∨ ∃ p er : Int, R (faultE p er) w0 ∧ e = .returned (.tuple #[raw0.val, .agg #[.int .i64 p, .int .i64 er]])) := by
  have hmf : ∀ (fn : Fn) (first cap : Array Value) (w : World), (Instr.makeFunc fn first cap).run Tryz.prog w = .ok (.func fn first cap) w := fun _ _ _ _ => rfl
  have HG := Lib.hid hg
  clear hg
  go_enter_defers Tryz.func31, Tryz.ntmps31
  go_wp2_with (fail)
  refine HG.out.mono ?_
  have HB0 : JBox (wGuard w) w.heap.size raw0 := jbox_below (w := w.alloc (.cells #[.int .i64 0, .string ⟨#[]⟩, .slice none 0 0, .slice none 0 0] 25)) (blk_new w _) ((Below.refl _ _).alloc (Nat.le_refl _) _)
  have HF0 : FBox (wGuard w) (w.heap.size + 1) 0 0 := by
    have := blk_new (w.alloc (.cells #[.int .i64 0, .string ⟨#[]⟩, .slice none 0 0, .slice none 0 0] 25)) (.cells #[.int .i64 0, .int .i64 0] 69)
    rw [World.size_alloc] at this
    exact this
  rintro e w1 ⟨hk1, hr1, ⟨q, rfl⟩ | ⟨p, er, rfl⟩⟩
  · have HB := jbox_keeps HB0 hk1 hS1
    have HF : FBox w1 (w.heap.size + 1) 0 0 := hk1.obj HF0 hS2
    have HR := Lib.hid hr1
    obtain ⟨vb, hvb⟩ : ∃ x, x = w.heap.size := ⟨_, rfl⟩
    obtain ⟨fb, hfb⟩ : ∃ x, x = w.heap.size + 1 := ⟨_, rfl⟩
    have hne : vb ≠ fb := by omega
    rw [← hvb] at HB
    rw [← hfb] at HF
    rw [← hfb, ← hvb]
    have HVB := Lib.hid (And.intro hvb hfb)
    clear hk1 hr1 HB0 HF0 HG hS1 hS2 hvb hfb
    have hk := keeps4 w1 vb (.int .i64 q.k) (.string q.t) (.slice q.la q.ll q.lc) (.slice q.na q.nl q.nc)
    have HB2 := jbox_set HB q
    have HF2 : FBox (putJ w1 vb q) fb 0 0 := hk.obj HF (fun e => by have e : fb = vb := e; omega)
    have hk3 : Keeps (Only fb) (putJ w1 vb q) (((putJ w1 vb q).setCell ⟨fb, 0, none⟩ (.int .i64 0)).setCell ⟨fb, 1, none⟩ (.int .i64 0)) := ((Keeps.refl (Only fb) _).setCell (p := ⟨fb, 0, none⟩) (fun _ => rfl) _).setCell (p := ⟨fb, 1, none⟩) (fun _ => rfl) _
    have HF3 : FBox (((putJ w1 vb q).setCell ⟨fb, 0, none⟩ (.int .i64 0)).setCell ⟨fb, 1, none⟩ (.int .i64 0)) fb 0 0 := blk_set (blk_set HF2 0 (.int .i64 0)) 1 (.int .i64 0)
    have HB3 := jbox_keeps HB2 hk3 hne
    have HKK : Hid (Keeps (fun i => i = vb ∨ i = fb) w1 (((putJ w1 vb q).setCell ⟨fb, 0, none⟩ (.int .i64 0)).setCell ⟨fb, 1, none⟩ (.int .i64 0))) := Lib.hid ((hk.mono fun _ _ h => .inl h).trans' (hk3.mono fun _ _ h => .inr h))
    obtain ⟨⟨b0, b1, b2, b3⟩, y0, y1, y2, y3⟩ := jbox_cells HB
    obtain ⟨r0, r1, z0, z1⟩ := fbox_cells HF2
    obtain ⟨⟨e0, e1, e2, e3⟩, -⟩ := jbox_cells HB3
    obtain ⟨d0, d1, -⟩ := fbox_cells HF3
    simp only [putJ] at r0 r1 z0 z1 e0 e1 e2 e3 d0 d1
    have HB3 := Lib.hid HB3
    have HF3 := Lib.hid HF3
    clear HB HF hk HB2 HF2 hk3
    go_wp2_with (fail)
    refine leaves_cons (f := 58) (args := #[.pointer (some ⟨vb, 0, none⟩), .pointer (some ⟨fb, 0, none⟩)]) (by simp) (by simp [go_sem]) ?_
    refine (j_idle vb fb _).mono ?_
    rintro e u' w'' ⟨rfl, rfl, rfl⟩
    refine ⟨_, guard_results HB3.out HF3.out _ rfl rfl, w1, ?_, .inl ⟨q, HR.out, rfl⟩⟩
    have := HVB.out
    exact HKK.out.mono fun i _ h => by omega
  · have HB := jbox_keeps HB0 hk1 hS1
    have HF : FBox w1 (w.heap.size + 1) 0 0 := hk1.obj HF0 hS2
    refine leaves_cons (f := 58) (args := #[.pointer (some ⟨w.heap.size, 0, none⟩), .pointer (some ⟨w.heap.size + 1, 0, none⟩)]) (by simp) (by simp [go_sem]) ?_
    refine (j_caught _ _ p er w1 HB HF).mono ?_
    rintro e u' w2 ⟨rfl, rfl, hb, hf, hk⟩
    exact ⟨_, guard_results hb hf _ rfl rfl, w1, hk, .inr ⟨p, er, hr1, rfl⟩⟩
end Go.Proofs.YthjcolehccbihaaGreatDoor
namespace Go.Proofs.YthjcolehccbihaaGreatDoor
open Go.RowKit Go.Shelf
section
variable {w : World} {rb pb : Nat} {bv : Value} {bs : List UInt8}
set_option maxRecDepth 100000 in
set_option maxHeartbeats 4000000 in
theorem j_parse1 (h : Rdr w rb bv bs bs) (hp : IsBlk w pb #[.pointer (some ⟨rb, 0, none⟩)] 83) : Calls Tryz.prog 37 #[.pointer (some ⟨pb, 0, none⟩)] w (ROut rb bv bs w (VJ w.heap.size) (parseOut bs)) := by
  have hpr : pb ≠ rb := by
    rintro rfl
    have := hp.symm.trans h.blk
    simp at this
  obtain ⟨w1, hw1, HBX⟩ := jbox_zero w
  have HI1 : Hid (ValI w w1 rb bv bs bs) := Lib.hid ⟨h.below HBX.out.1, (Keeps.refl _ _).below HBX.out.1, HBX.out.2, h.lt, h.glt⟩
  have HP1 : Hid (IsBlk w1 pb #[.pointer (some ⟨rb, 0, none⟩)] 83) := Lib.hid ((HBX.out.1.block _ (lt_of_block hp)).trans hp)
  have HPR := Lib.hid (And.intro hpr (lt_of_block hp))
  have HW1 := Lib.hid hw1
  clear hw1 h HBX hp hpr
  obtain ⟨RES, hres⟩ : ∃ o, o = parseOut bs := ⟨_, rfl⟩
  rw [← hres]
  have HRES := Lib.hid hres
  clear hres
  go_enter Tryz.func37, Tryz.ntmps37
  go_upto_region 1 with fail
  rw [show w.alloc (.cells #[.int .i64 0, .string ⟨#[]⟩, .slice none 0 0, .slice none 0 0] 25) = w1 from HW1.out]
  have c1 : w1.cell? ⟨pb, 0, none⟩ = some (.pointer (some ⟨rb, 0, none⟩)) := blk_cell HP1.out 0
  have HBL := Lib.hid (j_blanks HI1.out.rdr)
  go_wp2_with (fail)
  refine HBL.out.mono ?_
  rintro e w2 ⟨rfl, hr2, hk2⟩
  have HI2 := Lib.hid (HI1.out.step hr2 hk2)
  have HP2 : Hid (IsBlk w2 pb #[.pointer (some ⟨rb, 0, none⟩)] 83) := Lib.hid (hk2.obj HP1.out HPR.out.1)
  clear hr2 hk2 c1 HI1 HP1 HW1 HBL w1
  have c2 : w2.cell? ⟨pb, 0, none⟩ = some (.pointer (some ⟨rb, 0, none⟩)) := blk_cell HP2.out 0
  have HV := Lib.hid (j_value 32 0 w2 (blanks bs) (by omega) (by omega) HI2.out.rdr)
  go_wp2_with (fail)
  refine HV.out.mono ?_
  intro e w3 hp
  cases ho : value 32 (blanks bs) with
  | bad p er =>
    have HE : Hid (RES = .bad p er) := Lib.hid (by rw [HRES.out, parseOut, ho]; rfl)
    rw [ho] at hp
    obtain ⟨rfl, hk⟩ := hp
    refine leave_panic (P := Tryz.prog) (fn := Tryz.f37) rfl ?_
    rw [HE.out]
    exact ⟨rfl, HI2.out.keep.trans' hk⟩
  | ok v l3 =>
    have HE : Hid (RES = if blanks l3 = [] then .ok v [] else .bad (blanks l3).length 11) := Lib.hid (by rw [HRES.out, parseOut, ho]; rfl)
    rw [ho] at hp
    obtain ⟨⟨v3, rfl, q, hv3, hq⟩, hr3, hk3⟩ := hp
    replace hv3 : v3 = .agg #[.int .i64 q.k, .string q.t, .slice q.la q.ll q.lc, .slice q.na q.nl q.nc] := hv3
    subst hv3
    have HI3 := Lib.hid (HI2.out.step hr3 hk3)
    have HQ := Lib.hid (hq.mono (A' := fun g => w.heap.size < g) (fun g hg => by have := HI2.out.size; omega)).lt
    have HP3 : Hid (IsBlk w3 pb #[.pointer (some ⟨rb, 0, none⟩)] 83) := Lib.hid (hk3.obj HP2.out HPR.out.1)
    clear hr3 hk3 HV ho HI2 hq c2 HP2 HRES
    obtain ⟨w4, hw4, HBX⟩ := jbox_new w3 q
    have HW4 := Lib.hid hw4
    clear hw4
    go_upto_region 3 with fail
    rw [HW4.out]
    obtain ⟨xb, hxb⟩ : ∃ x, x = w3.heap.size := ⟨_, rfl⟩
    have HXB := Lib.hid hxb
    rw [← hxb]
    have HI4 := Lib.hid (HI3.out.below HBX.out.1)
    have HP4 : Hid (IsBlk w4 pb #[.pointer (some ⟨rb, 0, none⟩)] 83) := Lib.hid ((HBX.out.1.block _ (lt_of_block HP3.out)).trans HP3.out)
    have HX4 : Hid (JBox w4 xb q ∧ xb ≠ rb) := Lib.hid ⟨by rw [hxb]; exact HBX.out.2, by have := HI3.out.rdr.lt; omega⟩
    have HQ4 := Lib.hid (HQ.out.below HBX.out.1)
    clear HI3 HP3 HBX hxb HQ
    have c4 : w4.cell? ⟨pb, 0, none⟩ = some (.pointer (some ⟨rb, 0, none⟩)) := blk_cell HP4.out 0
    have HBL := Lib.hid (j_blanks HI4.out.rdr)
    go_wp2_with (fail)
    refine HBL.out.mono ?_
    rintro e w5 ⟨rfl, hr5, hk5⟩
    have HI5 := Lib.hid (HI4.out.step hr5 hk5)
    have HP5 : Hid (IsBlk w5 pb #[.pointer (some ⟨rb, 0, none⟩)] 83) := Lib.hid (hk5.obj HP4.out HPR.out.1)
    have HX5 : Hid (JBox w5 xb q) := Lib.hid (jbox_keeps HX4.out.1 hk5 HX4.out.2)
    have HQ5 := Lib.hid ((HQ4.out.keeps hk5 (fun g hg e => by have e : g = rb := e; have := hg.1; have := HI4.out.rlt; omega)).mono (A' := fun g => w.heap.size < g) (fun g hg => hg.1))
    clear hr5 hk5 c4 HBL HI4 HP4 HX4 HQ4
    obtain ⟨a, cap, k, hbv, hk, hkl, c0, c1, f1⟩ := HI5.out.rdr.parts
    have c5 : w5.cell? ⟨pb, 0, none⟩ = some (.pointer (some ⟨rb, 0, none⟩)) := blk_cell HP5.out 0
    have HNE : Hid (blanks l3 ≠ [] → k = bs.length - (blanks l3).length) := Lib.hid fun _ => hk
    by_cases hl : blanks l3 = []
    · have hlt : decide (k < bs.length) = false := by rw [hl] at hkl; simp at hkl ⊢; omega
      have hE : Hid (RES = .ok v []) := Lib.hid (by rw [HE.out, if_pos hl])
      have HI6 : Hid (ValI w w5 rb bv bs []) := Lib.hid (hl ▸ HI5.out)
      clear hl hk hkl hbv
      go_wp2_with (fail)
      go_quiet (fail)
      obtain ⟨w6, hw6⟩ : ∃ x, x = w5.drewN nq := ⟨_, rfl⟩
      have hb6 : Below w5.heap.size w5 w6 := by rw [hw6]; exact below_drewN _ _ _
      rw [← hw6]
      have HI7 := Lib.hid (HI6.out.below hb6)
      have HX7 := Lib.hid (jbox_below HX5.out hb6)
      have HQ7 := Lib.hid (HQ5.out.below hb6)
      clear hw6 hb6 c0 c1 f1 c5 hlt HI5 HI6 HX5 HQ5 HP5
      obtain ⟨⟨b0, b1, b2, b3⟩, z0, z1, z2, z3⟩ := jbox_cells HI7.out.res
      obtain ⟨⟨e0, e1, e2, e3⟩, -⟩ := jbox_cells HX7.out
      go_wp2_with (fail)
      have hf := HI7.out.fin HQ7.out
      refine bodyPost_ret (v := q.val) (jres_cell rfl hf.1 _ rfl) rfl ?_
      rw [hE.out]
      exact hf.2
    · have hlt : decide (k < bs.length) = true := by
        have : 0 < (blanks l3).length := List.length_pos_iff.2 hl
        simp; omega
      have hE : Hid (RES = .bad (blanks l3).length 11) := Lib.hid (by rw [HE.out, if_neg hl])
      clear hl hk hkl hbv
      go_wp2_with (fail)
      go_quiet (fail)
      obtain ⟨w6, hw6⟩ : ∃ x, x = w5.drewN nq := ⟨_, rfl⟩
      have hb6 : Below w5.heap.size w5 w6 := by rw [hw6]; exact below_drewN _ _ _
      rw [← hw6]
      have HI7 := Lib.hid (HI5.out.below hb6)
      have c6 : w6.cell? ⟨pb, 0, none⟩ = some (.pointer (some ⟨rb, 0, none⟩)) := blk_cell ((hb6.block _ (lt_of_block HP5.out)).trans HP5.out) 0
      clear hw6 hb6 c0 c1 f1 c5 hlt
      have HW := Lib.hid (j_wrong HI7.out.rdr)
      go_wp2_with (fail)
      refine HW.out.mono ?_
      rintro e w' ⟨rfl, rfl⟩
      refine leave_panic (P := Tryz.prog) (fn := Tryz.f37) rfl ?_
      rw [hE.out]
      exact ⟨rfl, HI7.out.keep⟩
end
end Go.Proofs.YthjcolehccbihaaGreatDoor
namespace Go.Proofs.YthjcolehccbihaaGreatDoor
open Go.RowKit Go.Shelf
/-- Bytes in memory that a call is handed. -/
structure BytesAt (w : World) (bv : Value) (bs : List UInt8) : Prop where
  rd : RdAt byteKind w bv bs
  len : bs.length ≤ 1000000
  room : ∀ a n cap, bv = .slice a n cap → bs.length ≤ cap ∧ cap ≤ 9223372036854775807
section
variable {w : World} {bv : Value} {bs : List UInt8}
theorem BytesAt.below {w' : World} (h : BytesAt w bv bs) (hb : Below w.heap.size w w') : BytesAt w' bv bs := ⟨h.rd.below hb, h.len, h.room⟩
/-- What Parse hands back. -/
def ParsedTo (w : World) (r : JV × Nat × Nat) (e : Ending) (w' : World) : Prop :=
  ∃ q : RawV, e = .returned (.tuple #[q.val, .int .i64 (r.2.1 : Int), .int .i64 (r.2.2 : Int)]) ∧ JAt w' (fun g => w.heap.size ≤ g) r.1 q ∧ Below w.heap.size w w'
/-- What is read, whatever the length. -/
def parsePart (bs : List UInt8) : JV × Nat × Nat := match parseOut bs with
  | .ok v _ => (v, 0, 0)
  | .bad rem e => (JV.zero, bs.length - rem, e)
theorem parse_eq (bs : List UInt8) : parse bs = if 65536 < bs.length then (JV.zero, 0, 8) else parsePart bs := rfl
/-- The worlds of Parse: the reader, the variable that holds it. -/
def wRead (w1 : World) (bv : Value) : World := (w1.alloc (.cells #[bv, .int .i64 0] 85)).alloc (.cells #[.pointer (some ⟨w1.heap.size, 0, none⟩)] 83)
theorem enters_parse1 : ∀ args w, (callFunc 37 args).run Tryz.prog w = .ok (.enter 37 args) w := enters_of Tryz.func37 (P := Tryz.prog) (by kernel_rfl) rfl
theorem j_guardParse {w1 : World} (h : BytesAt w1 bv bs) (ht : Tabs w1) : Calls Tryz.prog 31 #[.func (Fn.func 37) #[] #[.pointer (some ⟨w1.heap.size + 1, 0, none⟩)]] (wRead w1 bv) fun e w' =>
    ∃ (q : RawV) (p er : Int), e = .returned (.tuple #[.agg #[.int .i64 q.k, .string q.t, .slice q.la q.ll q.lc, .slice q.na q.nl q.nc], .agg #[.int .i64 p, .int .i64 er]]) ∧ Hid (JAt w' (fun g => w1.heap.size ≤ g) (parsePart bs).1 q ∧ p = ((parsePart bs).2.1 : Int) ∧ er = ((parsePart bs).2.2 : Int) ∧ Below w1.heap.size w1 w') := by
  have hb1 : Below w1.heap.size w1 (w1.alloc (.cells #[bv, .int .i64 0] 85)) := (Below.refl _ _).alloc (Nat.le_refl _) _
  have hk1 := blk_new w1 (.cells #[bv, .int .i64 0] 85)
  have hz1 : (w1.alloc (.cells #[bv, .int .i64 0] 85)).heap.size = w1.heap.size + 1 := by simp
  have hb2 : Below (w1.heap.size + 1) (w1.alloc (.cells #[bv, .int .i64 0] 85)) (wRead w1 bv) := by
    have := (Below.refl (w1.alloc (.cells #[bv, .int .i64 0] 85)).heap.size (w1.alloc (.cells #[bv, .int .i64 0] 85))).alloc (Nat.le_refl _) (.cells #[.pointer (some ⟨w1.heap.size, 0, none⟩)] 83)
    rw [hz1] at this
    exact this
  have hk2 : IsBlk (wRead w1 bv) (w1.heap.size + 1) #[.pointer (some ⟨w1.heap.size, 0, none⟩)] 83 := by
    have := blk_new (w1.alloc (.cells #[bv, .int .i64 0] 85)) (.cells #[.pointer (some ⟨w1.heap.size, 0, none⟩)] 83)
    rw [hz1] at this
    exact this
  have hz2 : (wRead w1 bv).heap.size = w1.heap.size + 2 := by unfold wRead; simp
  have hbb : Below w1.heap.size w1 (wRead w1 bv) := hb1.trans (hb2.mono (by omega))
  have hg3 : Below (wRead w1 bv).heap.size (wRead w1 bv) (wGuard (wRead w1 bv)) := ((Below.refl _ _).alloc (Nat.le_refl _) _).alloc (by simp) _
  have hzg : (wGuard (wRead w1 bv)).heap.size = w1.heap.size + 4 := by unfold wGuard; simp; omega
  have hbg : Below w1.heap.size w1 (wGuard (wRead w1 bv)) := hbb.trans (hg3.mono (by omega))
  have hrd : Rdr (wGuard (wRead w1 bv)) w1.heap.size bv bs bs := by
    have e : IsBlk (wGuard (wRead w1 bv)) w1.heap.size #[bv, .int .i64 0] 85 := (hg3.block _ (by omega)).trans ((hb2.block _ (by omega)).trans hk1)
    refine ⟨by simpa using e, h.rd.below hbg, List.suffix_refl _, h.len, fun g hg hb => ?_, ht.below hbg, ht.lt, h.room⟩
    have := h.rd.lt hb hg
    omega
  have hp : IsBlk (wGuard (wRead w1 bv)) (w1.heap.size + 1) #[.pointer (some ⟨w1.heap.size, 0, none⟩)] 83 := (hg3.block _ (by omega)).trans hk2
  refine (j_guarded 37 enters_parse1 _ (wRead w1 bv) (Only w1.heap.size) (fun e => by have e : (wRead w1 bv).heap.size = w1.heap.size := e; omega) (fun e => by have e : (wRead w1 bv).heap.size + 1 = w1.heap.size := e; omega)
    (ROut w1.heap.size bv bs (wGuard (wRead w1 bv)) (VJ (wGuard (wRead w1 bv)).heap.size) (parseOut bs)) ?_).mono ?_
  · refine (j_parse1 hrd hp).mono ?_
    intro e w' hr
    cases ho : parseOut bs with
    | ok v r =>
      rw [ho] at hr
      obtain ⟨⟨v3, rfl, q, hv3, hq⟩, hr3, hk3⟩ := hr
      exact ⟨hk3, ⟨⟨v3, rfl, q, hv3, hq⟩, hr3, hk3⟩, .inl ⟨q, by rw [hv3]; rfl⟩⟩
    | bad p er =>
      rw [ho] at hr
      obtain ⟨rfl, hk⟩ := hr
      exact ⟨hk, ⟨rfl, hk⟩, .inr ⟨_, _, rfl⟩⟩
  · rintro e w' ⟨w0, hk, hr⟩
    have hbw : ∀ {V : World}, Keeps (Only w1.heap.size) (wGuard (wRead w1 bv)) V → Below w1.heap.size w1 V := fun hk => below_keeps hbg hk (fun i e => by have e : i = w1.heap.size := e; omega) hbg.size
    cases ho : parseOut bs with
    | ok v r =>
      rw [ho] at hr
      rcases hr with ⟨q, ⟨⟨v3, e3, q3, hv3, hq⟩, hr3, hk3⟩, rfl⟩ | ⟨p, er, ⟨⟨v3, e3, _⟩, _⟩, rfl⟩
      · injection e3 with e3
        rw [hv3] at e3
        refine ⟨q3, 0, 0, by rw [e3]; rfl, Lib.hid ⟨?_, ?_, ?_, ?_⟩⟩
        · simp only [parsePart, ho]
          exact (hq.keeps hk (fun g hg e => by omega)).mono (fun g hg => by omega)
        · simp only [parsePart, ho]; rfl
        · simp only [parsePart, ho]; rfl
        · exact below_keeps (hbw hk3) hk (fun i e => by omega) (hbw hk3).size
      · cases e3
    | bad p er =>
      rw [ho] at hr
      rcases hr with ⟨q, ⟨e3, _⟩, rfl⟩ | ⟨p', er', ⟨e3, hk3⟩, rfl⟩
      · cases e3
      · have e4 : p' = ((bs.length - p : Nat) : Int) ∧ er' = (er : Int) := by
          simp only [faultE, Ending.panicked.injEq, List.cons.injEq, and_true, PanicEntry.mk.injEq, Value.iface.injEq, Value.agg.injEq] at e3
          simpa using e3
        obtain ⟨rfl, rfl⟩ := e4
        refine ⟨raw0, _, _, rfl, Lib.hid ⟨?_, ?_, ?_, ?_⟩⟩
        · simp only [parsePart, ho]
          exact JAt.plain _ _ _ _
        · simp only [parsePart, ho]
        · simp only [parsePart, ho]
        · exact below_keeps (hbw hk3) hk (fun i e => by omega) (hbw hk3).size
set_option maxRecDepth 100000 in
theorem parse_results {W : World} {b : Nat} {q : RawV} {x y : Int} (hb : JBox W b q) (tmps : Array Value) (h2 : tmps.getD 2 undef = .pointer (some ⟨b, 0, none⟩)) (h3 : tmps.getD 3 undef = .int .i64 x) (h4 : tmps.getD 4 undef = .int .i64 y) :
    (results Tryz.f12 tmps).run Tryz.prog W = .ok (.tuple #[q.val, .int .i64 x, .int .i64 y]) W := by
  obtain ⟨⟨e0, e1, e2, e3⟩, -⟩ := jbox_cells hb
  simp only [results, Tryz.results12]
  simp [Sem.run_bind, Result.andThen, h2, h3, h4, -Array.getD_eq_getD_getElem?]
  go_simp
  rfl
set_option maxRecDepth 100000 in
set_option maxHeartbeats 4000000 in
theorem j_parse (h : BytesAt w bv bs) (ht : Tabs w) : Calls Tryz.prog 12 #[bv] w (ParsedTo w (parse bs)) := by
  obtain ⟨a, cap, hbv, -⟩ := h.rd
  subst hbv
  obtain ⟨w1, hw1, HBX⟩ := jbox_zero w
  have HB1 := Lib.hid (h.below HBX.out.1)
  have HT1 := Lib.hid (ht.below HBX.out.1)
  have HW1 := Lib.hid hw1
  clear hw1 ht
  by_cases hl : 65536 < bs.length
  · have ht : decide ((65536 : Int) < (bs.length : Int)) = true := by simp; omega
    have HP : Hid (parse bs = (JV.zero, 0, 8)) := Lib.hid (by rw [parse, if_pos hl])
    obtain ⟨⟨b0, b1, b2, b3⟩, z0, z1, z2, z3⟩ := jbox_cells HBX.out.2
    clear hl h
    go_enter Tryz.func12, Tryz.ntmps12
    go_upto_region 1 with fail
    rw [show w.alloc (.cells #[.int .i64 0, .string ⟨#[]⟩, .slice none 0 0, .slice none 0 0] 25) = w1 from HW1.out]
    go_wp2_with (fail)
    have hk := keeps4 w1 w.heap.size (.int .i64 0) (.string ⟨#[]⟩) (.slice none 0 0) (.slice none 0 0)
    have hb3 : JBox (putJ w1 w.heap.size raw0) w.heap.size raw0 := jbox_set HBX.out.2 raw0
    refine bodyPost_ret (parse_results hb3 _ rfl rfl rfl) rfl ?_
    rw [HP.out]
    exact ⟨raw0, rfl, JAt.plain _ _ _ _, below_keeps HBX.out.1 hk (fun i e => by have e : i = w.heap.size := e; omega) HBX.out.1.size⟩
  · have ht : decide ((65536 : Int) < (bs.length : Int)) = false := by simp; omega
    have HP : Hid (parse bs = parsePart bs) := Lib.hid (by rw [parse_eq, if_neg hl])
    clear hl h
    go_enter Tryz.func12, Tryz.ntmps12
    go_upto_region 1 with fail
    rw [show w.alloc (.cells #[.int .i64 0, .string ⟨#[]⟩, .slice none 0 0, .slice none 0 0] 25) = w1 from HW1.out]
    go_wp2_with (fail)
    refine (j_guardParse HB1.out HT1.out).mono ?_
    rintro e w2 ⟨q, p, er, rfl, HQ⟩
    obtain ⟨w3, hw3, HB3⟩ := jbox_new w2 q
    have hz3 : w3.heap.size = w2.heap.size + 1 := by rw [← hw3]; simp
    obtain ⟨w4, hw4⟩ : ∃ x, w3.alloc (.cells #[.int .i64 p, .int .i64 er] 69) = x := ⟨_, rfl⟩
    have hb4 : Below w3.heap.size w3 w4 := by rw [← hw4]; exact (Below.refl _ _).alloc (Nat.le_refl _) _
    have hf4 : FBox w4 (w2.heap.size + 1) p er := by rw [← hw4, ← hz3]; exact blk_new _ _
    have hx4 : JBox w4 w2.heap.size q := jbox_below HB3.out.2 hb4
    have hb24 : Below w2.heap.size w2 w4 := HB3.out.1.trans (hb4.mono HB3.out.1.size)
    have hw12 := HQ.out.2.2.2
    have hlt : w.heap.size < w1.heap.size := lt_of_block HBX.out.2
    have hr2 : JBox w2 w.heap.size raw0 := (hw12.block _ hlt).trans HBX.out.2
    have hr4 : JBox w4 w.heap.size raw0 := jbox_below hr2 hb24
    have hs12 := hw12.size
    have hk := keeps4 w4 w.heap.size (.int .i64 q.k) (.string q.t) (.slice q.la q.ll q.lc) (.slice q.na q.nl q.nc)
    have hf5 : FBox (putJ w4 w.heap.size q) (w2.heap.size + 1) p er := hk.obj hf4 (fun e => by have e : w2.heap.size + 1 = w.heap.size := e; omega)
    have HR5 := Lib.hid (jbox_set hr4 q)
    have HF5 : Hid (JAt (putJ w4 w.heap.size q) (fun g => w.heap.size ≤ g) (parsePart bs).1 q ∧ Below w.heap.size w (putJ w4 w.heap.size q)) := Lib.hid ⟨((HQ.out.1.below hb24).keeps hk (fun g hg e => by have e : g = w.heap.size := e; omega)).mono (fun g hg => by omega),
      below_keeps (HBX.out.1.trans ((hw12.trans (hb24.mono hs12)).mono (by omega))) hk (fun i e => by have e : i = w.heap.size := e; omega) (by have := hb24.size; omega)⟩
    have HPE := Lib.hid (And.intro HQ.out.2.1 HQ.out.2.2.1)
    have HW3 := Lib.hid (And.intro hw3 hw4)
    obtain ⟨⟨b0, b1, b2, b3⟩, z0, z1, z2, z3⟩ := jbox_cells hr4
    obtain ⟨⟨e0, e1, e2, e3⟩, -⟩ := jbox_cells hx4
    obtain ⟨d0, d1, -⟩ := fbox_cells hf4
    obtain ⟨g0, g1, -⟩ := fbox_cells hf5
    clear HQ hw3 hw4 hz3 hb4 hf4 hx4 hb24 hw12 hlt hr2 hr4 hs12 hk hf5 HB1 HT1 HBX HB3 HW1
    go_upto_region 5 with fail
    rw [HW3.out.1, HW3.out.2]
    simp only [putJ] at g0 g1
    go_region
    all_goals
      go_wp2_with (fail)
      refine bodyPost_ret (parse_results (jbox_below HR5.out (Below.refl _ _).drew) _ rfl rfl rfl) rfl ?_
      rw [HP.out]
      exact ⟨q, by rw [HPE.out.1, HPE.out.2], HF5.out.1.below (Below.refl _ _).drew, HF5.out.2.drew⟩
end
end Go.Proofs.YthjcolehccbihaaGreatDoor
