/- The walk of the file system's Copy. -/
import Derived.Test.YtmfiibehclbnjaaFsU
namespace Go.Proofs.Ytmfiibehclbnjaa
open Go.RowKit Go.Shelf

section
variable {w : World} {fb mb : Nat} {F : FsS} {S : Nat → Prop} {rs : List (ByteArray × Pl)}
/-- Behind some files of a copy: the copy lies at block cb. -/
structure CpI (W3 : World) (cb r mb : Nat) (F : FsS) (S0 : Nat → Prop) (rs left : List (ByteArray × Pl)) (wr : World) : Prop where
  ex : ∃ done, (done ++ left).Perm rs ∧ FsIs wr cb { F with files := putAll done } (New W3 wr S0)
  rng : RangeAt strKind evP wr mb r rs left
  kept : Keeps (fun k => S0 k ∨ k = r) W3 wr
theorem new_keep {a b c : World} (hk : b.heap.size ≤ c.heap.size) : ∀ k, New a b S k → New a c S k := by
  rintro k (e | e)
  · exact .inl e
  · exact .inr ⟨e.1, by omega⟩
/-- What the map's change comes to, behind fresh. -/
theorem copy_step {W3 w1 : World} {cb r : Nat} {S0 : Nat → Prop} {rest : List (ByteArray × Pl)} {x : ByteArray × Pl} {done : List (ByteArray × Pl)} {mb2 : Nat} {rs2 : List (ByteArray × Pl)}
    (hd : (done ++ x :: rest).Perm rs) (hA : FsAt w1 cb { F with files := putAll done } (New W3 w1 S0) mb2 rs2) (hR : RangeAt strKind evP w1 mb r rs rest) (hK : Keeps (fun k => S0 k ∨ k = r) W3 w1) (hr : r < W3.heap.size) (hrS : ¬ S0 r) (hmS : ¬ S0 mb) (hml : mb < W3.heap.size)
    {W' : World} {v : Value} (hf : FreshAt w1 W' v x.2.fl.data) :
    ∃ w3, (Instr.mapUpdate 71 (.map (some mb2)) (.string x.1) (.pointer (some ⟨W'.heap.size, 0, none⟩))).run Try.prog (W'.alloc (.cells #[v, .int .i64 (x.2.fl.synced : Int)] 75)) = .ok () w3 ∧ CpI W3 cb r mb F S0 rs rest w3 ∧ Keeps (New W3 w1 S0) w1 w3 ∧ w3.cell? ⟨cb, 2, none⟩ = some (.map (some mb2)) := by
  have hal : Below W'.heap.size W' (W'.alloc (.cells #[v, .int .i64 (x.2.fl.synced : Int)] 75)) := (Below.refl _ _).alloc (Nat.le_refl _) _
  have hb := hf.below.trans (hal.mono hf.below.size)
  have h1 := hA.below hb
  obtain ⟨w3, hrun, hm, hk, hz⟩ := h1.map.update (P := Try.prog) (t := 71) Try.underlying71 Try.underlying9 x.1 ⟨W'.heap.size, v, x.2.fl⟩
  have hp : PlAt (W'.alloc (.cells #[v, .int .i64 (x.2.fl.synced : Int)] 75)) ⟨W'.heap.size, v, x.2.fl⟩ := ⟨heap_alloc_new W' _, hf.sl.below hal⟩
  have hpost := hA.newFile2 hb hp (fun k e => by
    rcases e with rfl | e
    · exact hf.below.size
    · exact hf.new k e) hm hk
  have hne : ∀ i, New W3 w1 S0 i → i ≠ r ∧ i ≠ mb := by
    rintro i (e | e)
    · exact ⟨fun e2 => hrS (e2 ▸ e), fun e2 => hmS (e2 ▸ e)⟩
    · exact ⟨fun e2 => by omega, fun e2 => by omega⟩
  refine ⟨w3, hrun, ⟨⟨done ++ [x], by simpa using hd, ?_⟩, hR.keeps hpost.2 (fun e => (hne _ e).2 rfl) (fun e => (hne _ e).1 rfl), ?_⟩, hpost.2, blk_cell (hk.obj h1.blk (fun e => h1.map.not_blk h1.blk e)) 2⟩
  · rw [putAll_snoc]
    refine hpost.1.mono (fun k e => ?_) (fun k e => ?_)
    · exact new_trans hK.size hpost.2.size k e
    · rcases e with e | e
      · have := hA.lt k (.inl e); have := hpost.2.size; omega
      · exact e.2
  · refine hK.trans hpost.2 ?_
    rintro i hi (e | e)
    · exact .inl e
    · omega
set_option maxRecDepth 100000 in
set_option maxHeartbeats 1000000 in
theorem f_copy (h : FsAt w fb F S mb rs) {k : Nat} (ho : FsOk F k) :
    Calls Try.prog 21 #[.pointer (some ⟨fb, 0, none⟩)] w fun e w' => ∃ cb, e = .returned (.pointer (some ⟨cb, 0, none⟩)) ∧ FsIs w' cb F (New w w' fun _ => False) ∧ Below w.heap.size w w' := by
  have c0 : w.cell? ⟨fb, 0, none⟩ = some (.int .i64 F.room) := blk_cell h.blk 0
  have c1 : w.cell? ⟨fb, 1, none⟩ = some (.int .i64 F.used) := blk_cell h.blk 1
  have c2 : w.cell? ⟨fb, 2, none⟩ = some (.map (some mb)) := blk_cell h.blk 2
  have c3 : w.cell? ⟨fb, 3, none⟩ = some (.int .i64 F.steps) := blk_cell h.blk 3
  have c4 : w.cell? ⟨fb, 4, none⟩ = some (.int .i64 F.armed) := blk_cell h.blk 4
  have c5 : w.cell? ⟨fb, 5, none⟩ = some (.bool F.down) := blk_cell h.blk 5
  have hmm : (Instr.makeMap 71 none).run Try.prog (w.alloc (.cells (fsCells F mb) 73)) = .ok (.map (some (w.heap.size + 1))) ((w.alloc (.cells (fsCells F mb) 73)).alloc (.map #[] 0)) := by
    have := run_makeMap (P := Try.prog) 71 (w.alloc (.cells (fsCells F mb) 73))
    rwa [World.size_alloc] at this
  obtain ⟨hb2, hcb, hmb, hsz⟩ := alloc2 w (.cells (fsCells F (w.heap.size + 1)) 73) (.map #[] 0)
  have h2 := h.below hb2
  have d2 : ((w.alloc (.cells (fsCells F (w.heap.size + 1)) 73)).alloc (.map #[] 0)).cell? ⟨fb, 2, none⟩ = some (.map (some mb)) := blk_cell h2.blk 2
  obtain ⟨W3, hrange, hR, hk3, hz3⟩ := h2.map.range (P := Try.prog) (t := 71) Try.underlying71
  rw [hsz] at hrange hR hz3
  have H := Lib.hid h
  have HO := Lib.hid ho
  have hwl := h.lt
  have HST : Hid (CpI W3 w.heap.size (w.heap.size + 2) mb F (fun k => k = w.heap.size ∨ k = w.heap.size + 1) rs rs W3) := Lib.hid (by
    refine ⟨⟨[], by simp, w.heap.size + 1, [], ?_⟩, hR, Keeps.refl _ _⟩
    have h0 : FsAt ((w.alloc (.cells (fsCells F (w.heap.size + 1)) 73)).alloc (.map #[] 0)) w.heap.size { F with files := [] } (fun k => k = w.heap.size ∨ k = w.heap.size + 1) (w.heap.size + 1) [] :=
      ⟨hcb, mapNil _ _ _ _ hmb, rfl, fun x hx => by simp at hx, List.Pairwise.nil, .inl rfl, .inr rfl, fun x hx => by simp at hx, fun k e => by rcases e with e | e <;> omega⟩
    exact (h0.below hk3).mono (fun k e => .inl e) (new_lt (h0.below hk3).lt (Nat.le_refl _)))
  have HW3 : Hid (Below w.heap.size w W3 ∧ W3.heap.size = w.heap.size + 3) := Lib.hid ⟨hb2.trans (hk3.mono hb2.size), hz3⟩
  clear h ho h2 hb2 hcb hmb hsz hR hk3 hz3 hwl
  go_enter Try.func21, Try.ntmps21
  go_wp2_with (fail)
  go_loopg [] (rs.length + 1) (fun g wr => ∃ left : List (ByteArray × Pl), g = left.length + 1 ∧ Hid (CpI W3 w.heap.size (w.heap.size + 2) mb F (fun k => k = w.heap.size ∨ k = w.heap.size + 1) rs left wr))
  case atStart => exact ⟨rs, rfl, HST⟩
  case round =>
    obtain ⟨left, rfl, HN⟩ := hrel
    rcases HN.out.rng.next (P := Try.prog) 0 with ⟨rfl, hrun⟩ | ⟨x, rest, w1, hp, hrun, hR, hk, hz, hent⟩
    · have HS : Hid (FsIs wr w.heap.size F (New w wr fun _ => False) ∧ Below w.heap.size w wr) := Lib.hid (by
        obtain ⟨done, h1, h2⟩ := HN.out.ex
        have h1 : done.Perm rs := by simpa using h1
        rw [putAll_all H.out h1] at h2
        have hsz := HW3.out.2
        have hkz := HN.out.kept.size
        refine ⟨h2.mono (fun k e => ?_) (fun k e => ?_), below_keeps HW3.out.1 HN.out.kept (fun i e => ?_) HW3.out.1.size⟩
        · rcases e with (e | e) | e
          · exact .inr ⟨by omega, by omega⟩
          · exact .inr ⟨by omega, by omega⟩
          · exact .inr ⟨by omega, e.2⟩
        · rcases e with e | e
          · exact e.elim
          · exact e.2
        · rcases e with (e | e) | e <;> omega)
      go_wp2_with (fail)
      go_ret
      exact ⟨_, rfl, HS.out.1, HS.out.2⟩
    · have hent' : (Instr.entry (.pointer (some ⟨w.heap.size + 2, 0, none⟩))).run Try.prog w1 = .ok (.tuple #[.string x.1, .pointer (some ⟨x.2.g, 0, none⟩)]) w1 := hent
      have hrun' : (Instr.next (.pointer (some ⟨w.heap.size + 2, 0, none⟩)) false 0).run Try.prog wr = .ok (.tuple #[.bool true, .string x.1, .pointer (some ⟨x.2.g, 0, none⟩)]) w1 := hrun
      have hlen : left.length = rest.length + 1 := by rw [hp.length_eq]; rfl
      have hsz := HW3.out.2
      have hwl := H.out.lt
      have hkz := HN.out.kept.size
      have hO : FsAt w1 fb F S mb rs := by
        refine ((H.out.below HW3.out.1).keeps HN.out.kept (fun k e hS => ?_)).keeps hk (fun k e hS => ?_)
        · have := hwl k hS
          rcases e with (e | e) | e <;> omega
        · have := hwl k hS; omega
      have hK1 : Keeps (fun k => (k = w.heap.size ∨ k = w.heap.size + 1) ∨ k = w.heap.size + 2) W3 w1 := HN.out.kept.trans' (hk.mono (fun k _ e => .inr e))
      obtain ⟨done, hd0, mb2, rs2, hA0⟩ := HN.out.ex
      have hd : (done ++ x :: rest).Perm rs := (List.Perm.append_left done hp.symm).trans hd0
      have hA : FsAt w1 w.heap.size { F with files := putAll done } (New W3 w1 fun k => k = w.heap.size ∨ k = w.heap.size + 1) mb2 rs2 :=
        (hA0.keeps hk (fun k e hS => by
          rcases hS with (hS | hS) | hS
          · omega
          · omega
          · have := hS.1; omega)).mono (new_keep hk.size) (fun k e => by
          rcases e with (e | e) | e
          · have := hk.size; omega
          · have := hk.size; omega
          · exact e.2)
      have hx : x ∈ rs := hd.mem_iff.1 (by simp)
      have hpx := hO.pl x hx
      have hxl : x.2.fl.data.length ≤ 1000000000 := by
        have hm : (x.1, x.2.fl) ∈ F.files := by rw [H.out.files]; exact List.mem_map_of_mem hx
        have := sumLen_mem hm
        have := HO.out.used; have := HO.out.fits; have := HO.out.room1
        simp only at *
        omega
      have e0 : w1.cell? ⟨w.heap.size, 2, none⟩ = some (.map (some mb2)) := blk_cell hA.blk 2
      have e1 : w1.cell? ⟨x.2.g, 0, none⟩ = some x.2.v := blk_cell hpx.blk 0
      have e2 : w1.cell? ⟨x.2.g, 1, none⟩ = some (.int .i64 (x.2.fl.synced : Int)) := blk_cell hpx.blk 1
      have hmlt := hwl _ H.out.smb
      have HFR : Hid (∀ W, Below w1.heap.size w1 W → Calls Try.prog 47 #[x.2.v] W fun e W' => ∃ va vc w3, e = .returned (.slice va x.2.fl.data.length vc) ∧ (W'.cell? ⟨w.heap.size, 2, none⟩ = some (.map (some mb2)) ∧ W'.cell? ⟨x.2.g, 0, none⟩ = some x.2.v ∧ W'.cell? ⟨x.2.g, 1, none⟩ = some (.int .i64 (x.2.fl.synced : Int))) ∧
          (Instr.mapUpdate 71 (.map (some mb2)) (.string x.1) (.pointer (some ⟨W'.heap.size, 0, none⟩))).run Try.prog (W'.alloc (.cells #[.slice va x.2.fl.data.length vc, .int .i64 (x.2.fl.synced : Int)] 75)) = .ok () w3 ∧
          (w3.cell? ⟨w.heap.size, 2, none⟩ = some (.map (some mb2)) ∧ w3.cell? ⟨x.2.g, 0, none⟩ = some x.2.v ∧ w3.cell? ⟨x.2.g, 1, none⟩ = some (.int .i64 (x.2.fl.synced : Int))) ∧ CpI W3 w.heap.size (w.heap.size + 2) mb F (fun k => k = w.heap.size ∨ k = w.heap.size + 1) rs rest w3) := Lib.hid (by
        intro W hW
        refine (f_fresh (hpx.bytes.below hW).rd hxl).mono ?_
        rintro e W' ⟨v, rfl, hf⟩
        obtain ⟨va, vc, hvs⟩ := hf.sl.shape
        subst hvs
        have hB : Below w1.heap.size w1 W' := hW.trans (hf.below.mono hW.size)
        have hf' : FreshAt w1 W' _ x.2.fl.data := ⟨hf.sl, fun k hk => Nat.le_trans hW.size (hf.new k hk), hB⟩
        obtain ⟨w3, h1, h2, h3, h4⟩ := copy_step hd hA hR hK1 (by omega) (by omega) (by omega) (by omega) hf'
        have hgl := hwl _ (H.out.sp x hx _ (.inl rfl))
        have hxb : IsBlk w3 x.2.g #[x.2.v, .int .i64 (x.2.fl.synced : Int)] 75 := h3.obj hpx.blk (fun e => by
          rcases e with (e | e) | e
          · omega
          · omega
          · have := e.1; omega)
        refine ⟨va, vc, w3, rfl, ⟨?_, ?_, ?_⟩, h1, ⟨h4, blk_cell hxb 0, blk_cell hxb 1⟩, h2⟩
        · exact blk_cell ((hA.below hB).blk) 2
        · exact blk_cell ((Keeps.of_below hB).obj hpx.blk (fun e => e.elim)) 0
        · exact blk_cell ((Keeps.of_below hB).obj hpx.blk (fun e => e.elim)) 1)
      have hb1 : Below w1.heap.size w1 w1.drew := (Below.refl _ _).drew
      clear hent hrun hp hR hk hz hsz hwl hkz hO hK1 hd0 hA0 hd hA hx hpx hxl hmlt
      go_wp2_with (fail)
      go_region_held3 (fun w' => w'.cell? ⟨w.heap.size, 2, none⟩ = some (.map (some mb2)) ∧ w'.cell? ⟨x.2.g, 0, none⟩ = some x.2.v ∧ w'.cell? ⟨x.2.g, 1, none⟩ = some (.int .i64 (x.2.fl.synced : Int)))
        (first
          | go_keep
          | exact s1
          | exact s3)
        (first
          | (go_at_call 47; (with_reducible refine (HFR.out _ ?_).mono ?_); exact hb1; rintro e w2 ⟨va, vc, w3, rfl, s1, hup, s3, hC⟩))
      have HC := Lib.hid hC
      clear hC s1 s3 hup HFR
      go_wp2_with (fail)
      go_roundg (rest.length + 1)
      case measure => omega
      case rel => exact ⟨rest, rfl, HC⟩
end
end Go.Proofs.Ytmfiibehclbnjaa
