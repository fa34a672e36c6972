/- The walk of the file system's Crash. -/
import Derived.Test.YtmfiibehclbnjaaFsN
namespace Go.Proofs.Ytmfiibehclbnjaa
open Go.RowKit Go.Shelf

theorem fn_neq_nil (g : Nat) (lb : Array Value) (W : World) : (binOp .neq 35 (.func (.func g) #[] lb) .nilFunc).run Try.prog W = .ok (.bool true) W := by kernel_rfl
theorem nil_neq_nil (W : World) : (binOp .neq 35 .nilFunc .nilFunc).run Try.prog W = .ok (.bool false) W := by kernel_rfl
section
variable {w : World} {fb mb : Nat} {F : FsS} {S : Nat → Prop} {rs : List (ByteArray × Pl)}
theorem namesL_all (m : List (ByteArray × FileS)) : namesL ⟨#[]⟩ m = m.map (·.1) := by
  unfold namesL
  rw [List.filter_eq_self.2]
  intro x _
  rfl
/-- A file has been cut, and all that is left of it is synced. -/
theorem FsAt.setSynced (h : FsAt w fb F S mb rs) {n : ByteArray} {q : Pl} (hf : findL slt rs n = some q) (c : Nat) :
    FsAt (w.setCell ⟨q.g, 1, none⟩ (.int .i64 (c : Int))) fb (F.set n ⟨q.fl.data, c⟩) (New w (w.setCell ⟨q.g, 1, none⟩ (.int .i64 (c : Int))) S) mb (putL slt rs n { q with fl := ⟨q.fl.data, c⟩ }) ∧ Keeps S w (w.setCell ⟨q.g, 1, none⟩ (.int .i64 (c : Int))) := by
  have hp := (h.at_file hf).1
  have hk : Keeps (blocksOf q) w (w.setCell ⟨q.g, 1, none⟩ (.int .i64 (c : Int))) := (Keeps.refl (blocksOf q) w).setCell (p := ⟨q.g, 1, none⟩) (fun _ => .inl rfl) _
  have hq : PlAt (w.setCell ⟨q.g, 1, none⟩ (.int .i64 (c : Int))) { q with fl := ⟨q.fl.data, c⟩ } :=
    ⟨blk_set hp.blk 1 _, hp.bytes.keeps ((Keeps.refl (Only q.g) w).setCell (p := ⟨q.g, 1, none⟩) (fun _ => rfl) _) (fun g hg e => by
      obtain ⟨cur, hc⟩ := hp.bytes.own g hg
      exact blk_ne_type hc hp.blk (by decide) e)⟩
  exact h.setFile hf (q := { q with fl := ⟨q.fl.data, c⟩ }) rfl hk hq (fun k hk => .inl hk)
theorem putL_find {m : List (ByteArray × Pl)} (hr : Rise slt m) {n : ByteArray} {p : Pl} (hf : findL slt m n = some p) (q : Pl) : findL slt (putL slt m n q) n = some q := by
  obtain ⟨a, b, rfl⟩ := findL_split slt_ord hf
  rw [putL_eq slt_ord hr]
  have hr2 : Rise slt (a ++ (n, q) :: b) := by
    have := rise_putL slt_ord hr n q
    rwa [putL_eq slt_ord hr] at this
  exact findL_eq slt_ord hr2
/-- Behind so many of a crash's files. -/
structure CrI (w1 : World) (fb mb : Nat) (F : FsS) (S T : Nat → Prop) (kf : ByteArray → Int → Int) (I : Nat → World → Prop) (i : Nat) (wr : World) : Prop where
  inv : I i wr
  fs : ∃ rs, FsAt wr fb (F.crashAt kf i) (New w1 wr S) mb rs
  kept : Keeps (fun k => S k ∨ T k) w1 wr
theorem new_trans {a b c : World} (hk : a.heap.size ≤ b.heap.size) (hc : b.heap.size ≤ c.heap.size) : ∀ k, New b c (New a b S) k → New a c S k := by
  rintro k ((e | e) | e)
  · exact .inl e
  · exact .inr ⟨e.1, by omega⟩
  · exact .inr ⟨by omega, e.2⟩
/-- One file of a crash. -/
theorem CrI.step {w1 w2 w3 : World} {T : Nat → Prop} {kf : ByteArray → Int → Int} {I : Nat → World → Prop} {i : Nat} {n : ByteArray} {x : FileS} {rs2 : List (ByteArray × Pl)} {p : Pl} {c : Nat}
    (hr : Rise slt F.files) (hx : F.files[i]? = some (n, x)) (hs : x.synced ≤ x.data.length) (hc : c ≤ x.data.length) (hcf : crashFile kf n x = ⟨x.data.take c, c⟩)
    (h1 : Keeps (fun k => S k ∨ T k) w1 w2) (h2 : FsAt w2 fb (F.crashAt kf i) (New w1 w2 S) mb rs2) (hf : findL slt rs2 n = some p) (hpx : p.fl = x)
    (h3 : ∃ q, q.g = p.g ∧ q.fl = ⟨p.fl.data.take c, min p.fl.synced c⟩ ∧ FsAt w3 fb ((F.crashAt kf i).cut n p.fl c) (New w2 w3 (New w1 w2 S)) mb (putL slt rs2 n q) ∧ Keeps (New w1 w2 S) w2 w3)
    (hI : I (i + 1) w2) (hIk : ∀ j W W' (U : Nat → Prop), I j W → Keeps U W W' → (∀ k, U k → S k ∨ w1.heap.size ≤ k) → I j W') :
    ∃ a2 cap2 sy, w3.cell? ⟨p.g, 0, none⟩ = some (.slice a2 (c : Nat) cap2) ∧ w3.cell? ⟨p.g, 1, none⟩ = some (.int .i64 sy) ∧ w3.frozen? ⟨p.g, 1, none⟩ = false ∧ CrI w1 fb mb F S T kf I (i + 1) (w3.setCell ⟨p.g, 1, none⟩ (.int .i64 (c : Int))) := by
  obtain ⟨q, hqg, hqf, h4, h5⟩ := h3
  have hfq : findL slt (putL slt rs2 n q) n = some q := putL_find h2.map.rise hf q
  have hp := (h4.at_file hfq).1
  obtain ⟨a2, cap2, hv⟩ := hp.bytes.shape
  have hlen : q.fl.data.length = c := by rw [hqf, hpx]; simp only [List.length_take]; omega
  have h6 := h4.setSynced hfq c
  rw [hqg] at h6
  have hcell : w3.cell? ⟨p.g, 0, none⟩ = some q.v := by rw [← hqg]; exact blk_cell hp.blk 0
  refine ⟨a2, cap2, (q.fl.synced : Int), by rw [hcell, hv, hlen], by rw [← hqg]; exact blk_cell hp.blk 1, by rw [← hqg]; exact blk_free hp.blk 1, ?_, ?_, ?_⟩
  · refine hIk (i + 1) w2 _ (New w2 w3 (New w1 w2 S)) hI ((h5.mono (fun _ _ e => .inl e)).trans' h6.2) ?_
    intro k e
    rcases new_trans h1.size h5.size k e with e | e
    · exact .inl e
    · exact .inr e.1
  · refine ⟨putL slt (putL slt rs2 n q) n { g := p.g, v := q.v, fl := ⟨q.fl.data, c⟩ }, ?_⟩
    have hd : q.fl.data = x.data.take c := by rw [hqf, hpx]
    have e : ((F.crashAt kf i).cut n p.fl c).set n ⟨q.fl.data, c⟩ = F.crashAt kf (i + 1) := by
      rw [hd, hpx]; exact crashAt_step hr hx hs c hc hcf
    rw [← e]
    refine h6.1.mono ?_ ?_
    · intro k e
      rcases e with e | e
      · rcases new_trans h1.size h5.size k e with e | e
        · exact .inl e
        · exact .inr ⟨e.1, by have := h6.2.size; omega⟩
      · exact .inr ⟨by have := h1.size; have := h5.size; omega, e.2⟩
    · rintro k (e | e)
      · have := h4.lt k (.inl (.inl e)); have := h6.2.size; omega
      · exact e.2
  · refine (h1.trans h5 ?_).trans h6.2 ?_
    · rintro i hi (e | e)
      · exact .inl e
      · exact absurd e.1 (by omega)
    · rintro i hi (e | e)
      · rcases e with e | e
        · exact .inl e
        · exact absurd e.1 (by omega)
      · exact absurd e.1 (by have := h1.size; omega)
set_option maxRecDepth 100000 in
set_option maxHeartbeats 1000000 in
theorem f_crash (h : FsAt w fb F S mb rs) {k : Nat} (ho : FsOk F k) (g : Nat) (lb : Array Value) (eg : ∀ args w, (callFunc g args).run Try.prog w = .ok (.enter g args) w) (kf : ByteArray → Int → Int) (T : Nat → Prop) (hT : ∀ k, T k → k < w.heap.size ∧ ¬ S k) (I : Nat → World → Prop)
    (hI0 : ∀ W, Below w.heap.size w W → I 0 W) (hIk : ∀ j W W' (U : Nat → Prop), I j W → Keeps U W W' → (∀ k, U k → S k ∨ w.heap.size ≤ k) → I j W')
    (hcall : ∀ i n x W, F.files[i]? = some (n, x) → 0 < (x.data.length : Int) - x.synced → I i W → Calls Try.prog g (#[.string n, .int .i64 ((x.data.length : Int) - x.synced)] ++ lb) W fun e W' => e = .returned (.int .i64 (kf n ((x.data.length : Int) - x.synced))) ∧ I (i + 1) W' ∧ Keeps T W W')
    (hskip : ∀ i n x W, F.files[i]? = some (n, x) → (x.data.length : Int) - x.synced ≤ 0 → I i W → I (i + 1) W) :
    Calls Try.prog 14 #[.pointer (some ⟨fb, 0, none⟩), .func (.func g) #[] lb] w fun e w' => e = .returned (.tuple #[]) ∧ I F.files.length w' ∧ FsIs w' fb (F.crash kf) (New w w' S) ∧ Keeps (fun k => S k ∨ T k) w w' := by
  have hfl : F.files.length = rs.length := by rw [h.files]; simp
  have hfew : F.files.length ≤ 400 := ho.few
  have HNM := Lib.hid (f_names h (by omega) ⟨#[]⟩)
  have H := Lib.hid h
  have HO := Lib.hid ho
  have HI0 := Lib.hid hI0
  have HIk := Lib.hid hIk
  have HC := Lib.hid hcall
  have HS := Lib.hid hskip
  have HT := Lib.hid hT
  have HU : Hid (∀ j, 0 ≤ (F.crashAt kf j).used ∧ (F.crashAt kf j).used ≤ 1000000000) := Lib.hid (fun j => ⟨sumLen_nonneg _, by
    have := crashAt_len (kf := kf) ho.synced j
    have := ho.used; have := ho.fits; have := ho.room1
    show sumLen (crashTo kf F.files j) ≤ _
    omega⟩)
  have HFL := Lib.hid hfl
  have qF := fn_neq_nil g lb
  clear h ho hI0 hIk hcall hskip hT
  go_enter Try.func14, Try.ntmps14
  go_wp2_with (fail)
  refine HNM.out.mono ?_
  rintro e w1 ⟨v, rfl, hv⟩
  rw [namesL_all] at hv
  have hv2 := hv.sl
  obtain ⟨va, vc, hvs⟩ := hv.sl.shape
  rw [List.length_map, hfl] at hvs
  subst hvs
  have HV := Lib.hid hv
  have h400 : (rs.length : Int) ≤ 400 := by omega
  have HST : Hid (CrI w1 fb mb F S T kf I 0 w1) := Lib.hid (by
    refine ⟨HI0.out _ hv.below, ⟨rs, ?_⟩, Keeps.refl _ _⟩
    have := H.out.below hv.below
    have e : F.crashAt kf 0 = F := by unfold FsS.crashAt; rw [crashTo_zero, ← HO.out.used]
    rw [e]
    exact this.mono (fun _ e => .inl e) (new_lt this.lt (Nat.le_refl _)))
  clear hv hv2 hfl hfew
  go_wp2_with (fail)
  go_loopw [12] (fun i wr => ∃ j : Nat, j ≤ rs.length ∧ i = .int .i64 j ∧ Hid (CrI w1 fb mb F S T kf I j wr)) (fun i _ => rs.length - (intOf i).toNat)
  case atStart => exact ⟨0, Nat.zero_le _, rfl, HST⟩
  case round =>
    obtain ⟨j, hj, rfl, HR⟩ := hrel
    by_cases hlt : j < rs.length
    · obtain ⟨⟨n, x⟩, hx⟩ : ∃ y, F.files[j]? = some y := ⟨_, List.getElem?_eq_getElem (by rw [HFL.out]; exact hlt)⟩
      obtain ⟨rs2, hA⟩ := HR.out.fs
      have hsy : x.synced ≤ x.data.length := HO.out.synced _ (List.mem_of_getElem? hx)
      have hxl : (x.data.length : Int) ≤ 67108864 := by
        have := sumLen_mem (List.mem_of_getElem? hx)
        have := HO.out.used; have := HO.out.fits; have := HO.out.room1
        simp only at *
        omega
      have hfi := crashAt_find (kf := kf) HO.out.rise hx
      rw [hA.find] at hfi
      obtain ⟨p, hf, hpx⟩ := Option.map_eq_some_iff.1 hfi
      have hp := (hA.at_file hf).1
      obtain ⟨a, cap, hpv⟩ := hp.bytes.shape
      have hlo := fs_look hA n
      rw [hf] at hlo
      replace hlo : (Instr.lookup 71 (.map (some mb)) (.string n) false).run Try.prog wr = .ok (.pointer (some ⟨p.g, 0, none⟩)) wr := hlo
      have c2 : wr.cell? ⟨fb, 2, none⟩ = some (.map (some mb)) := blk_cell hA.blk 2
      have d0 : wr.cell? ⟨p.g, 0, none⟩ = some (.slice a x.data.length cap) := by rw [← hpx, ← hpv]; exact blk_cell hp.blk 0
      have d1 : wr.cell? ⟨p.g, 1, none⟩ = some (.int .i64 (x.synced : Int)) := by rw [← hpx]; exact blk_cell hp.blk 1
      have hsl : SlAt textKind 9 wr (.slice va rs.length vc) (F.files.map (·.1)) := HV.out.sl.keeps HR.out.kept (fun g hg e => by
        have hg1 := HV.out.new g hg
        rcases e with e | e
        · have := H.out.lt g e; omega
        · have := (HT.out g e).1; omega)
      obtain ⟨a', cap', he, hrd⟩ := hsl.rd
      have hxn : (F.files.map (·.1))[j]? = some n := by rw [List.getElem?_map, hx]; rfl
      obtain ⟨gb, off, hva, hcell⟩ := hrd j n hxn
      injection he with he1 he2 he3
      clear he2 he3
      rw [hva] at he1
      subst he1
      have hc0 := hcell 0 (by decide)
      replace hc0 : wr.cell? ⟨gb, off + j, none⟩ = some (.string n) := by simpa [textKind] using hc0
      have hlt2 : (j : Int) < (rs.length : Int) := by omega
      have hj0 : (0 : Int) ≤ (j : Int) := by omega
      have hsy2 : (x.synced : Int) ≤ (x.data.length : Int) := by omega
      have hx0 : (0 : Int) ≤ (x.synced : Int) := by omega
      have HX := Lib.hid hx
      have HF := Lib.hid (And.intro hf hpx)
      have HA := Lib.hid hA
      clear hx hA hfi hf hpx hp hpv hsl hrd hxn hcell hsy
      by_cases hu : (x.data.length : Int) - x.synced ≤ 0
      · have hu2 : decide (0 < (x.data.length : Int) - x.synced) = false := by simp only [decide_eq_false_iff_not]; omega
        go_wp2_with (fail)
        go_quiet (fail)
        go_wp2_with (fail)
        have hA2 : FsAt (wr.drewN nq) fb (F.crashAt kf j) (New w1 (wr.drewN nq) S) mb rs2 := HA.out.below (below_drewN _ _ _)
        have hk2 : Keeps (fun k => S k ∨ T k) w1 (wr.drewN nq) := HR.out.kept.drewN _
        have hI2 : I (j + 1) (wr.drewN nq) := HS.out j n x _ HX.out hu (HIk.out j wr _ (fun _ => False) HR.out.inv (Keeps.of_below (below_drewN _ _ _)) (fun _ e => e.elim))
        generalize wr.drewN nq = W2 at hA2 hk2 hI2 ⊢
        have HSS : Hid (FsAt W2 fb (F.crashAt kf j) (New w1 W2 S) mb rs2 ∧ Keeps (fun k => S k ∨ T k) w1 W2 ∧ I (j + 1) W2) := Lib.hid ⟨hA2, hk2, hI2⟩
        have hcf : Hid (crashFile kf n x = ⟨x.data.take x.synced, x.synced⟩) := Lib.hid (by
          unfold crashFile
          rw [if_pos hu]
          congr 1
          rw [List.length_take]; omega)
        clear hA2 hk2 hI2 hlo c2 d0 d1 hc0
        refine (f_cut HSS.out.1 HF.out.1 (k := x.synced) (by rw [HF.out.2]; omega) (by rw [HF.out.2]; omega) (by rw [HF.out.2]; omega) (HU.out j).1 (HU.out j).2).mono ?_
        rintro e W3 ⟨rfl, hq⟩
        obtain ⟨a2, cap2, sy, e0, e1, z1, hst⟩ := CrI.step (I := I) (kf := kf) HO.out.rise HX.out (by omega) (by omega) hcf.out HSS.out.2.1 HSS.out.1 HF.out.1 HF.out.2 hq HSS.out.2.2 (fun j W W' U h1 h2 h3 => HIk.out j W W' U h1 h2 (fun k hk => (h3 k hk).imp id (fun h => Nat.le_trans HV.out.below.size h)))
        have HST2 := Lib.hid hst
        clear hq hst
        go_wp2_with (fail)
        go_roundw
        case rel => exact ⟨j + 1, by omega, by go_num, HST2⟩
        case measure => simp [intOf]; omega
      · have hu2 : (0 : Int) < (x.data.length : Int) - x.synced := by omega
        have hu3 : (0 : Int) ≤ (x.data.length : Int) - x.synced := by omega
        obtain ⟨c, hc⟩ : ∃ c : Nat, min (max (kf n ((x.data.length : Int) - x.synced)) 0) ((x.data.length : Int) - x.synced) = (c : Int) := ⟨(min (max (kf n ((x.data.length : Int) - x.synced)) 0) ((x.data.length : Int) - x.synced)).toNat, by omega⟩
        have hc1 : (x.synced : Int) + (c : Int) ≤ (x.data.length : Int) := by omega
        have hc0' : (0 : Int) ≤ (c : Int) := by omega
        have hcf : Hid (crashFile kf n x = ⟨x.data.take (x.synced + c), x.synced + c⟩) := Lib.hid (by
          unfold crashFile leftOfFile
          rw [if_neg hu, hc, Int.toNat_natCast]
          congr 1
          rw [List.length_take]; omega)
        go_wp2_with (fail)
        go_quiet (fail)
        go_wp2_with (fail)
        have hI1 : I j (wr.drewN nq) := HIk.out j wr _ (fun _ => False) HR.out.inv (Keeps.of_below (below_drewN _ _ _)) (fun _ e => e.elim)
        refine (HC.out j n x _ HX.out hu2 hI1).mono ?_
        rintro e W2 ⟨rfl, hI2, hkT⟩
        have hA2 : FsAt W2 fb (F.crashAt kf j) (New w1 W2 S) mb rs2 := by
          have h1 : FsAt (wr.drewN nq) fb (F.crashAt kf j) (New w1 wr S) mb rs2 := HA.out.below (below_drewN _ _ _)
          have h2 := h1.keeps hkT (fun k hk e => by
            rcases e with e | e
            · exact (HT.out k hk).2 e
            · have := (HT.out k hk).1; have := HV.out.below.size; omega)
          refine h2.mono (fun k e => ?_) (fun k e => ?_)
          · rcases e with e | e
            · exact .inl e
            · exact .inr ⟨e.1, Nat.lt_of_lt_of_le e.2 hkT.size⟩
          · rcases e with e | e
            · exact h2.lt k (.inl e)
            · exact e.2
        have hk2 : Keeps (fun k => S k ∨ T k) w1 W2 := (HR.out.kept.drewN nq).trans' (hkT.mono (fun k _ e => .inr e))
        have HSS : Hid (FsAt W2 fb (F.crashAt kf j) (New w1 W2 S) mb rs2 ∧ Keeps (fun k => S k ∨ T k) w1 W2 ∧ I (j + 1) W2) := Lib.hid ⟨hA2, hk2, hI2⟩
        have d1 : W2.cell? ⟨p.g, 1, none⟩ = some (.int .i64 (x.synced : Int)) := by rw [← HF.out.2]; exact blk_cell (hA2.at_file HF.out.1).1.blk 1
        clear hA2 hk2 hI2 hlo c2 d0 hc0 hkT hI1
        go_wp2_with (fail)
        obtain ⟨K, hK⟩ : ∃ K : Nat, x.synced + c = K := ⟨_, rfl⟩
        have hKi : (x.synced : Int) + (c : Int) = (K : Int) := by omega
        rw [hK] at hcf
        rw [hKi]
        have hKl : Hid (K ≤ x.data.length) := Lib.hid (by omega)
        clear d1 hc hc1 hc0' hK hKi
        refine (f_cut HSS.out.1 HF.out.1 (k := K) (by rw [HF.out.2]; exact hKl.out) (by rw [HF.out.2]; omega) (by rw [HF.out.2]; omega) (HU.out j).1 (HU.out j).2).mono ?_
        rintro e W3 ⟨rfl, hq⟩
        obtain ⟨a2, cap2, sy, e0, e1, z1, hst⟩ := CrI.step (I := I) (kf := kf) HO.out.rise HX.out (by omega) hKl.out hcf.out HSS.out.2.1 HSS.out.1 HF.out.1 HF.out.2 hq HSS.out.2.2 (fun j W W' U h1 h2 h3 => HIk.out j W W' U h1 h2 (fun k hk => (h3 k hk).imp id (fun h => Nat.le_trans HV.out.below.size h)))
        have HST2 := Lib.hid hst
        clear hq hst
        go_wp2_with (fail)
        go_roundw
        case rel => exact ⟨j + 1, by omega, by go_num, HST2⟩
        case measure => simp [intOf]; omega
    · have hlt2 : ¬ (j : Int) < (rs.length : Int) := by omega
      have hjl : j = F.files.length := by rw [HFL.out]; omega
      obtain ⟨rs2, hA⟩ := HR.out.fs
      have z4 : wr.frozen? ⟨fb, 4, none⟩ = false := blk_free hA.blk 4
      have c4 : wr.cell? ⟨fb, 4, none⟩ = some (.int .i64 (F.crashAt kf j).armed) := blk_cell hA.blk 4
      have z5 : (wr.setCell ⟨fb, 4, none⟩ (.int .i64 0)).frozen? ⟨fb, 5, none⟩ = false := blk_free (blk_set hA.blk 4 _) 5
      have c5 : (wr.setCell ⟨fb, 4, none⟩ (.int .i64 0)).cell? ⟨fb, 5, none⟩ = some (.bool F.down) := blk_cell (blk_set hA.blk 4 _) 5
      have HA := Lib.hid hA
      clear hA
      go_wp2_with (fail)
      go_end0
      refine ⟨rfl, ?_, ⟨mb, rs2, ?_⟩, ?_⟩
      · rw [← hjl]
        exact HIk.out j wr _ (Only fb) HR.out.inv ((keeps_set wr fb 4 _).trans' (keeps_set _ fb 5 _)) (fun k e => by have : k = fb := e; rw [this]; exact .inl H.out.sfb)
      · have h5 := (HA.out.setCell (F' := { F.crashAt kf j with armed := 0 }) (i := 4) (u := .int .i64 0) rfl rfl).setCell (F' := { F.crashAt kf j with armed := 0, down := false }) (i := 5) (u := .bool false) rfl rfl
        rw [hjl] at h5
        refine h5.mono ?_ ?_
        · rintro k (e | e)
          · exact .inl e
          · exact .inr ⟨Nat.le_trans HV.out.below.size e.1, by simpa using e.2⟩
        · exact new_lt H.out.lt (by have := HV.out.below.size; have := HR.out.kept.size; simp; omega)
      · have h6 : Keeps (fun k => S k ∨ T k) w w1 := (Keeps.of_below HV.out.below).mono (fun _ _ e => e.elim)
        exact (h6.trans' HR.out.kept).trans' (((keeps_set wr fb 4 _).trans' (keeps_set _ fb 5 _)).mono (fun k _ e => by have : k = fb := e; rw [this]; exact .inl H.out.sfb))
set_option maxRecDepth 100000 in
set_option maxHeartbeats 1000000 in
theorem f_crash_nil (h : FsAt w fb F S mb rs) {k : Nat} (ho : FsOk F k) :
    Calls Try.prog 14 #[.pointer (some ⟨fb, 0, none⟩), .nilFunc] w fun e w' => e = .returned (.tuple #[]) ∧ FsPost w fb (F.crash fun _ _ => 0) S w' := by
  obtain ⟨kf, hkf⟩ : ∃ kf : ByteArray → Int → Int, kf = fun _ _ => 0 := ⟨_, rfl⟩
  obtain ⟨T, hTe⟩ : ∃ T : Nat → Prop, T = fun _ => False := ⟨_, rfl⟩
  obtain ⟨I, hIe⟩ : ∃ I : Nat → World → Prop, I = fun _ _ => True := ⟨_, rfl⟩
  have hT : ∀ k, T k → k < w.heap.size ∧ ¬ S k := by rw [hTe]; exact fun _ e => e.elim
  have hI0 : ∀ W, Below w.heap.size w W → I 0 W := by rw [hIe]; exact fun _ _ => trivial
  have hIk : ∀ j W W' (U : Nat → Prop), I j W → Keeps U W W' → (∀ k, U k → S k ∨ w.heap.size ≤ k) → I j W' := by rw [hIe]; exact fun _ _ _ _ _ _ _ => trivial
  have hskip : ∀ i n x W, F.files[i]? = some (n, x) → I i W → I (i + 1) W := by rw [hIe]; exact fun _ _ _ _ _ _ => trivial
  have HKF := Lib.hid hkf
  have HTE := Lib.hid hTe
  clear hkf hTe hIe
  have hfl : F.files.length = rs.length := by rw [h.files]; simp
  have hfew : F.files.length ≤ 400 := ho.few
  have HNM := Lib.hid (f_names h (by omega) ⟨#[]⟩)
  have H := Lib.hid h
  have HO := Lib.hid ho
  have HI0 := Lib.hid hI0
  have HIk := Lib.hid hIk
  have HS := Lib.hid hskip
  have HT := Lib.hid hT
  have HU : Hid (∀ j, 0 ≤ (F.crashAt kf j).used ∧ (F.crashAt kf j).used ≤ 1000000000) := Lib.hid (fun j => ⟨sumLen_nonneg _, by
    have := crashAt_len (kf := kf) ho.synced j
    have := ho.used; have := ho.fits; have := ho.room1
    show sumLen (crashTo kf F.files j) ≤ _
    omega⟩)
  have HFL := Lib.hid hfl
  have qF := nil_neq_nil
  clear h ho hI0 hIk hskip hT
  go_enter Try.func14, Try.ntmps14
  go_wp2_with (fail)
  refine HNM.out.mono ?_
  rintro e w1 ⟨v, rfl, hv⟩
  rw [namesL_all] at hv
  have hv2 := hv.sl
  obtain ⟨va, vc, hvs⟩ := hv.sl.shape
  rw [List.length_map, hfl] at hvs
  subst hvs
  have HV := Lib.hid hv
  have h400 : (rs.length : Int) ≤ 400 := by omega
  have HST : Hid (CrI w1 fb mb F S T kf I 0 w1) := Lib.hid (by
    refine ⟨HI0.out _ hv.below, ⟨rs, ?_⟩, Keeps.refl _ _⟩
    have := H.out.below hv.below
    have e : F.crashAt kf 0 = F := by unfold FsS.crashAt; rw [crashTo_zero, ← HO.out.used]
    rw [e]
    exact this.mono (fun _ e => .inl e) (new_lt this.lt (Nat.le_refl _)))
  clear hv hv2 hfl hfew
  go_wp2_with (fail)
  go_loopw [12] (fun i wr => ∃ j : Nat, j ≤ rs.length ∧ i = .int .i64 j ∧ Hid (CrI w1 fb mb F S T kf I j wr)) (fun i _ => rs.length - (intOf i).toNat)
  case atStart => exact ⟨0, Nat.zero_le _, rfl, HST⟩
  case round =>
    obtain ⟨j, hj, rfl, HR⟩ := hrel
    by_cases hlt : j < rs.length
    · obtain ⟨⟨n, x⟩, hx⟩ : ∃ y, F.files[j]? = some y := ⟨_, List.getElem?_eq_getElem (by rw [HFL.out]; exact hlt)⟩
      obtain ⟨rs2, hA⟩ := HR.out.fs
      have hsy : x.synced ≤ x.data.length := HO.out.synced _ (List.mem_of_getElem? hx)
      have hxl : (x.data.length : Int) ≤ 67108864 := by
        have := sumLen_mem (List.mem_of_getElem? hx)
        have := HO.out.used; have := HO.out.fits; have := HO.out.room1
        simp only at *
        omega
      have hfi := crashAt_find (kf := kf) HO.out.rise hx
      rw [hA.find] at hfi
      obtain ⟨p, hf, hpx⟩ := Option.map_eq_some_iff.1 hfi
      have hp := (hA.at_file hf).1
      obtain ⟨a, cap, hpv⟩ := hp.bytes.shape
      have hlo := fs_look hA n
      rw [hf] at hlo
      replace hlo : (Instr.lookup 71 (.map (some mb)) (.string n) false).run Try.prog wr = .ok (.pointer (some ⟨p.g, 0, none⟩)) wr := hlo
      have c2 : wr.cell? ⟨fb, 2, none⟩ = some (.map (some mb)) := blk_cell hA.blk 2
      have d0 : wr.cell? ⟨p.g, 0, none⟩ = some (.slice a x.data.length cap) := by rw [← hpx, ← hpv]; exact blk_cell hp.blk 0
      have d1 : wr.cell? ⟨p.g, 1, none⟩ = some (.int .i64 (x.synced : Int)) := by rw [← hpx]; exact blk_cell hp.blk 1
      have hsl : SlAt textKind 9 wr (.slice va rs.length vc) (F.files.map (·.1)) := HV.out.sl.keeps HR.out.kept (fun g hg e => by
        have hg1 := HV.out.new g hg
        rcases e with e | e
        · have := H.out.lt g e; omega
        · have := (HT.out g e).1; omega)
      obtain ⟨a', cap', he, hrd⟩ := hsl.rd
      have hxn : (F.files.map (·.1))[j]? = some n := by rw [List.getElem?_map, hx]; rfl
      obtain ⟨gb, off, hva, hcell⟩ := hrd j n hxn
      injection he with he1 he2 he3
      clear he2 he3
      rw [hva] at he1
      subst he1
      have hc0 := hcell 0 (by decide)
      replace hc0 : wr.cell? ⟨gb, off + j, none⟩ = some (.string n) := by simpa [textKind] using hc0
      have hlt2 : (j : Int) < (rs.length : Int) := by omega
      have hj0 : (0 : Int) ≤ (j : Int) := by omega
      have hsy2 : (x.synced : Int) ≤ (x.data.length : Int) := by omega
      have hx0 : (0 : Int) ≤ (x.synced : Int) := by omega
      have HX := Lib.hid hx
      have HF := Lib.hid (And.intro hf hpx)
      have HA := Lib.hid hA
      clear hx hA hfi hf hpx hp hpv hsl hrd hxn hcell hsy
      by_cases hu : (x.data.length : Int) - x.synced ≤ 0
      · have hu2 : decide (0 < (x.data.length : Int) - x.synced) = false := by simp only [decide_eq_false_iff_not]; omega
        go_wp2_with (fail)
        go_quiet (fail)
        go_wp2_with (fail)
        have hA2 : FsAt (wr.drewN nq) fb (F.crashAt kf j) (New w1 (wr.drewN nq) S) mb rs2 := HA.out.below (below_drewN _ _ _)
        have hk2 : Keeps (fun k => S k ∨ T k) w1 (wr.drewN nq) := HR.out.kept.drewN _
        have hI2 : I (j + 1) (wr.drewN nq) := HS.out j n x _ HX.out (HIk.out j wr _ (fun _ => False) HR.out.inv (Keeps.of_below (below_drewN _ _ _)) (fun _ e => e.elim))
        generalize wr.drewN nq = W2 at hA2 hk2 hI2 ⊢
        have HSS : Hid (FsAt W2 fb (F.crashAt kf j) (New w1 W2 S) mb rs2 ∧ Keeps (fun k => S k ∨ T k) w1 W2 ∧ I (j + 1) W2) := Lib.hid ⟨hA2, hk2, hI2⟩
        have hcf : Hid (crashFile kf n x = ⟨x.data.take x.synced, x.synced⟩) := Lib.hid (by
          unfold crashFile
          rw [if_pos hu]
          congr 1
          rw [List.length_take]; omega)
        clear hA2 hk2 hI2 hlo c2 d0 d1 hc0
        refine (f_cut HSS.out.1 HF.out.1 (k := x.synced) (by rw [HF.out.2]; omega) (by rw [HF.out.2]; omega) (by rw [HF.out.2]; omega) (HU.out j).1 (HU.out j).2).mono ?_
        rintro e W3 ⟨rfl, hq⟩
        obtain ⟨a2, cap2, sy, e0, e1, z1, hst⟩ := CrI.step (I := I) (kf := kf) HO.out.rise HX.out (by omega) (by omega) hcf.out HSS.out.2.1 HSS.out.1 HF.out.1 HF.out.2 hq HSS.out.2.2 (fun j W W' U h1 h2 h3 => HIk.out j W W' U h1 h2 (fun k hk => (h3 k hk).imp id (fun h => Nat.le_trans HV.out.below.size h)))
        have HST2 := Lib.hid hst
        clear hq hst
        go_wp2_with (fail)
        go_roundw
        case rel => exact ⟨j + 1, by omega, by go_num, HST2⟩
        case measure => simp [intOf]; omega
      · have hu2 : (0 : Int) < (x.data.length : Int) - x.synced := by omega
        have hu3 : (0 : Int) ≤ (x.data.length : Int) - x.synced := by omega
        go_wp2_with (fail)
        go_quiet (fail)
        go_wp2_with (fail)
        have hA2 : FsAt (wr.drewN nq) fb (F.crashAt kf j) (New w1 (wr.drewN nq) S) mb rs2 := HA.out.below (below_drewN _ _ _)
        have hk2 : Keeps (fun k => S k ∨ T k) w1 (wr.drewN nq) := HR.out.kept.drewN _
        have hI2 : I (j + 1) (wr.drewN nq) := HS.out j n x _ HX.out (HIk.out j wr _ (fun _ => False) HR.out.inv (Keeps.of_below (below_drewN _ _ _)) (fun _ e => e.elim))
        generalize wr.drewN nq = W2 at hA2 hk2 hI2 ⊢
        have HSS : Hid (FsAt W2 fb (F.crashAt kf j) (New w1 W2 S) mb rs2 ∧ Keeps (fun k => S k ∨ T k) w1 W2 ∧ I (j + 1) W2) := Lib.hid ⟨hA2, hk2, hI2⟩
        have hcf : Hid (crashFile kf n x = ⟨x.data.take x.synced, x.synced⟩) := Lib.hid (by
          unfold crashFile leftOfFile
          rw [if_neg (by omega : ¬ ((x.data.length : Int) - x.synced ≤ 0)), HKF.out]
          have e : x.synced + (min (max (0 : Int) 0) ((x.data.length : Int) - x.synced)).toNat = x.synced := by omega
          rw [e]
          congr 1
          rw [List.length_take]; omega)
        clear hA2 hk2 hI2 hlo c2 d0 d1 hc0
        refine (f_cut HSS.out.1 HF.out.1 (k := x.synced) (by rw [HF.out.2]; omega) (by rw [HF.out.2]; omega) (by rw [HF.out.2]; omega) (HU.out j).1 (HU.out j).2).mono ?_
        rintro e W3 ⟨rfl, hq⟩
        obtain ⟨a2, cap2, sy, e0, e1, z1, hst⟩ := CrI.step (I := I) (kf := kf) HO.out.rise HX.out (by omega) (by omega) hcf.out HSS.out.2.1 HSS.out.1 HF.out.1 HF.out.2 hq HSS.out.2.2 (fun j W W' U h1 h2 h3 => HIk.out j W W' U h1 h2 (fun k hk => (h3 k hk).imp id (fun h => Nat.le_trans HV.out.below.size h)))
        have HST2 := Lib.hid hst
        clear hq hst
        go_wp2_with (fail)
        go_roundw
        case rel => exact ⟨j + 1, by omega, by go_num, HST2⟩
        case measure => simp [intOf]; omega
    · have hlt2 : ¬ (j : Int) < (rs.length : Int) := by omega
      have hjl : j = F.files.length := by rw [HFL.out]; omega
      obtain ⟨rs2, hA⟩ := HR.out.fs
      have z4 : wr.frozen? ⟨fb, 4, none⟩ = false := blk_free hA.blk 4
      have c4 : wr.cell? ⟨fb, 4, none⟩ = some (.int .i64 (F.crashAt kf j).armed) := blk_cell hA.blk 4
      have z5 : (wr.setCell ⟨fb, 4, none⟩ (.int .i64 0)).frozen? ⟨fb, 5, none⟩ = false := blk_free (blk_set hA.blk 4 _) 5
      have c5 : (wr.setCell ⟨fb, 4, none⟩ (.int .i64 0)).cell? ⟨fb, 5, none⟩ = some (.bool F.down) := blk_cell (blk_set hA.blk 4 _) 5
      have HA := Lib.hid hA
      clear hA
      go_wp2_with (fail)
      go_end0
      refine ⟨rfl, ⟨mb, rs2, ?_⟩, ?_⟩
      · have h5 := (HA.out.setCell (F' := { F.crashAt kf j with armed := 0 }) (i := 4) (u := .int .i64 0) rfl rfl).setCell (F' := { F.crashAt kf j with armed := 0, down := false }) (i := 5) (u := .bool false) rfl rfl
        rw [hjl, HKF.out] at h5
        refine h5.mono ?_ ?_
        · rintro k (e | e)
          · exact .inl e
          · exact .inr ⟨Nat.le_trans HV.out.below.size e.1, by simpa using e.2⟩
        · exact new_lt H.out.lt (by have := HV.out.below.size; have := HR.out.kept.size; simp; omega)
      · have h6 : Keeps (fun k => S k ∨ T k) w w1 := (Keeps.of_below HV.out.below).mono (fun _ _ e => e.elim)
        refine Keeps.mono (S := fun k => S k ∨ T k) ?_ (fun k _ e => by rcases e with e | e; exact e; rw [HTE.out] at e; exact e.elim)
        exact (h6.trans' HR.out.kept).trans' (((keeps_set wr fb 4 _).trans' (keeps_set _ fb 5 _)).mono (fun k _ e => by have : k = fb := e; rw [this]; exact .inl H.out.sfb))
end
end Go.Proofs.Ytmfiibehclbnjaa
