/- The walk of the reference's Crash. -/
import Derived.Test.YtmfiibehclbnjaaRfH
namespace Go.Proofs.Ytmfiibehclbnjaa
open Go.RowKit Go.Shelf

section
variable {w w' : World} {rb k : Nat} {F G : FsS} {S T : Nat → Prop} {lv : Value} {rs : List RF} {n : ByteArray} {x y : FileS}
theorem RefAt.lenEq {a : Option Addr} {m m' cap : Nat} (h : RefAt w rb F S (.slice a m cap) rs) (e : m = m') : RefAt w rb F S (.slice a m' cap) rs := e ▸ h
/-- A whole file is set. -/
theorem RefAt.setFile {w1 w3 : World} {j g off cap : Nat} {r : RF} (h : RefAt w1 rb F S (.slice (some ⟨g, off, none⟩) F.files.length cap) rs) (hx : F.files[j]? = some (n, x)) (hr : rs[j]? = some r) (hb : Below w1.heap.size w1 w3) {a' : Option Addr} {c' : Nat} {ys : List UInt8} (sy : Nat) (hs : SlAt byteKind 5 w3 (.slice a' ys.length c') ys) (hn : ∀ q, (Value.slice a' ys.length c').ownBlock = some q → w1.heap.size ≤ q) :
    RefPost w1 rb { F with files := F.files.set j (n, ⟨ys, sy⟩) } S (((w3.setCell ⟨g, off + j * 3, none⟩ (.string n)).setCell ⟨g, off + j * 3 + 1, none⟩ (.slice a' ys.length c')).setCell ⟨g, off + j * 3 + 2, none⟩ (.int .i64 (sy : Int))) := by
  have hj := (List.getElem?_eq_some_iff.1 hx).1
  have hf := h.each j _ r hx hr
  obtain ⟨cur, hbk⟩ := h.arr.own g rfl
  have hg3 : w3.heap[g]? = some (.cells cur 69 (0, 0)) := (hb.block g (lt_of_block hbk)).trans hbk
  have h3 : RefAt w3 rb F (New w1 w3 S) (.slice (some ⟨g, off, none⟩) F.files.length cap) rs := (h.below hb).mono (fun _ e => .inl e) (new_lt h.lt hb.size)
  have k0 : Keeps (Only g) w3 (w3.setCell ⟨g, off + j * 3, none⟩ (.string n)) := keeps_set _ _ _ _
  have hs0 : SlAt byteKind 5 (w3.setCell ⟨g, off + j * 3, none⟩ (.string n)) (.slice a' ys.length c') ys := hs.keeps k0 (fun q hq e => by
    obtain ⟨c, hc⟩ := hs.own q hq
    exact blk_ne_type (b := q) (c := g) hc hg3 (by decide) e)
  have s0 := h3.setField (c := 0) (u := .string n) (r' := r) (y := x) hx hr (by omega) (by show [_, _, _] = _; rw [hf.name]; rfl) (h3.each j _ r hx hr) (fun q hq => h3.sd r (List.mem_of_getElem? hr) q hq)
  have e0 : F.files.set j (n, x) = F.files := by
    rw [← (List.getElem?_eq_some_iff.1 hx).2]; exact List.set_getElem_self hj
  have e0r : rs.set j r = rs := by
    rw [← (List.getElem?_eq_some_iff.1 hr).2]; exact List.set_getElem_self _
  rw [e0, e0r] at s0
  have hF0 : ({ F with files := F.files } : FsS) = F := rfl
  rw [hF0] at s0
  have s1 := s0.1.setField (c := 1) (u := .slice a' ys.length c') (r' := { r with a := a', len := ys.length, cap := c' }) (y := ⟨ys, x.synced⟩) hx hr (by omega) rfl ⟨hf.name, rfl, hs0, hf.synced⟩ (fun q hq => by
    obtain ⟨c, hc⟩ := hs.own q hq
    exact .inr ⟨hn q hq, lt_of_block hc⟩)
  have hl1 : (F.files.set j (n, (⟨ys, x.synced⟩ : FileS))).length = F.files.length := List.length_set
  have hx1 : (F.files.set j (n, (⟨ys, x.synced⟩ : FileS)))[j]? = some (n, ⟨ys, x.synced⟩) := by rw [List.getElem?_set, if_pos rfl, if_pos hj]
  have hr1 : (rs.set j { r with a := a', len := ys.length, cap := c' })[j]? = some { r with a := a', len := ys.length, cap := c' } := by
    rw [List.getElem?_set, if_pos rfl, if_pos (List.getElem?_eq_some_iff.1 hr).1]
  have s1a := s1.1
  have hs1F := s1a.lenEq hl1.symm
  have s2 := hs1F.setField (c := 2) (u := .int .i64 (sy : Int)) (r' := { r with a := a', len := ys.length, cap := c', synced := sy }) (y := ⟨ys, sy⟩) hx1 hr1 (by omega) rfl
    (by have := s1a.each j _ _ hx1 hr1; exact ⟨this.name, this.len, this.sl, rfl⟩) (fun q hq => s1a.sd _ (List.mem_of_getElem? hr1) q hq)
  have e2 : (F.files.set j (n, (⟨ys, x.synced⟩ : FileS))).set j (n, ⟨ys, sy⟩) = F.files.set j (n, ⟨ys, sy⟩) := by rw [List.set_set]
  have h2 := s2.1
  rw [show ({ F with files := F.files.set j (n, ⟨ys, x.synced⟩) } : FsS).files = F.files.set j (n, ⟨ys, x.synced⟩) from rfl, e2] at h2
  have hk : Keeps (New w1 w3 S) w3 (((w3.setCell ⟨g, off + j * 3, none⟩ (.string n)).setCell ⟨g, off + j * 3 + 1, none⟩ (.slice a' ys.length c')).setCell ⟨g, off + j * 3 + 2, none⟩ (.int .i64 (sy : Int))) := (s0.2.trans' s1.2).trans' s2.2
  refine ⟨_, _, h2.mono (fun i e => ?_) (fun i e => ?_), ((Keeps.of_below hb).mono (fun _ _ e => e.elim)).trans hk (fun i hi e => ?_)⟩
  · rcases e with e | e
    · exact .inl e
    · exact .inr ⟨e.1, by simpa using e.2⟩
  · rcases e with e | e
    · have := h.lt i e; have := hb.size; simp; omega
    · exact e.2
  · rcases e with e | e
    · exact e
    · omega
theorem crashTo_set {kf : ByteArray → Int → Int} {l : List (ByteArray × FileS)} {j : Nat} (h : l[j]? = some (n, x)) : crashTo kf l (j + 1) = (crashTo kf l j).set j (n, crashFile kf n x) ∧ (crashTo kf l j)[j]? = some (n, x) ∧ (crashTo kf l j).length = l.length := by
  obtain ⟨e1, e2⟩ := crashTo_split (kf := kf) h
  have hj := (List.getElem?_eq_some_iff.1 h).1
  have hl : ((l.take j).map (fun x => (x.1, crashFile kf x.1 x.2))).length = j := by rw [List.length_map, List.length_take]; omega
  refine ⟨?_, ?_, ?_⟩
  · rw [e2, e1, List.set_append_right _ _ (by omega), hl, Nat.sub_self, List.set_cons_zero]
  · rw [e1, List.getElem?_append_right (by omega), hl, Nat.sub_self]; rfl
  · unfold crashTo
    rw [List.length_append, List.length_map, List.length_take, List.length_drop]; omega
theorem crashTo_length {kf : ByteArray → Int → Int} {l : List (ByteArray × FileS)} (j : Nat) : (crashTo kf l j).length = l.length := by
  unfold crashTo
  rw [List.length_append, List.length_map, List.length_take, List.length_drop]; omega
end
end Go.Proofs.Ytmfiibehclbnjaa
/- The walk of the reference's Crash. -/
namespace Go.Proofs.Ytmfiibehclbnjaa
open Go.RowKit Go.Shelf

section
variable {w w' : World} {rb k : Nat} {F G : FsS} {S T : Nat → Prop} {lv : Value} {rs : List RF} {n : ByteArray} {x y : FileS}
theorem okName_size2 {n : ByteArray} (h : okName n = true) : n.size ≤ 100 := by
  unfold okName at h
  simp only [Bool.and_eq_true, decide_eq_true_eq] at h
  exact h.1.1.1.2
/-- Behind so many files of a crash. -/
structure CrR (w wr : World) (rb : Nat) (F : FsS) (S : Nat → Prop) (kf : ByteArray → Int → Int) (j : Nat) : Prop where
  ref : ∃ g off cap rs, RefAt wr rb { F with files := crashTo kf F.files j } (New w wr S) (.slice (some ⟨g, off, none⟩) F.files.length cap) rs
  kept : Keeps S w wr
theorem CrR.next {wr w2 : World} {kf : ByteArray → Int → Int} {j : Nat} (h : CrR w wr rb F S kf j) (hx : F.files[j]? = some (n, x)) (hS : ∀ i, S i → i < w.heap.size) (hp : RefPost wr rb { F with files := (crashTo kf F.files j).set j (n, crashFile kf n x) } (New w wr S) w2) : CrR w w2 rb F S kf (j + 1) := by
  obtain ⟨lv2, rs2, h1, h2⟩ := hp
  obtain ⟨e1, e2, e3⟩ := crashTo_set (kf := kf) hx
  rw [← e1] at h1
  have hx2 : ∃ z, (crashTo kf F.files (j + 1))[j]? = some z := ⟨_, List.getElem?_eq_getElem (by rw [crashTo_length]; exact (List.getElem?_eq_some_iff.1 hx).1)⟩
  obtain ⟨z, hz⟩ := hx2
  obtain ⟨r, g, off, cap, _, _, hlv, _, _, _⟩ := h1.at_file (x := z) hz
  subst hlv
  refine ⟨⟨g, off, cap, rs2, (h1.mono (fun i e => ?_) (fun i e => ?_)).lenEq (crashTo_length (j + 1))⟩, h.kept.trans h2 (fun i hi e => ?_)⟩
  · rcases e with (e | e) | e
    · exact .inl e
    · exact .inr ⟨e.1, by have := h2.size; omega⟩
    · exact .inr ⟨by have := h.kept.size; omega, e.2⟩
  · rcases e with e | e
    · have := hS i e; have := h.kept.size; have := h2.size; omega
    · exact e.2
  · rcases e with e | e
    · exact e
    · omega
set_option maxRecDepth 100000 in
set_option maxHeartbeats 8000000 in
theorem g_crash (h : RefAt w rb F S lv rs) (ho : FsOk F k) (m : Int) (hm0 : -9223372036854775808 ≤ m) (hm1 : m ≤ 9223372036854775807) :
    Calls Try.prog 83 #[.pointer (some ⟨rb, 0, none⟩), .int .i64 m] w fun e w' => e = .returned (.tuple #[]) ∧ RefPost w rb (F.crash fun n _ => keepN n m) S w' := by
  have c1 : w.cell? ⟨rb, 1, none⟩ = some lv := blk_cell h.blk 1
  have HO := Lib.hid ho
  have HLT := Lib.hid h.lt
  have HSB := Lib.hid h.sb
  obtain ⟨kf, hkf⟩ : ∃ kf : ByteArray → Int → Int, kf = fun n _ => keepN n m := ⟨_, rfl⟩
  have HKF := Lib.hid hkf
  have HGOAL : Hid ((F.crash fun n _ => keepN n m) = F.crash kf) := Lib.hid (by rw [hkf])
  rw [HGOAL.out]
  clear hkf
  have hl' : (F.files.length : Int) ≤ 400 := by have := ho.few; omega
  by_cases he : F.files = []
  · have hz : F.files.length = 0 := by rw [he]; rfl
    obtain ⟨a, cap, rfl⟩ := h.shape
    rw [hz] at c1
    have z3 : w.frozen? ⟨rb, 3, none⟩ = false := blk_free h.blk 3
    have d3 : w.cell? ⟨rb, 3, none⟩ = some (.int .i64 F.armed) := blk_cell h.blk 3
    have z4 : (w.setCell ⟨rb, 3, none⟩ (.int .i64 0)).frozen? ⟨rb, 4, none⟩ = false := blk_free (blk_set h.blk 3 _) 4
    have d4 : (w.setCell ⟨rb, 3, none⟩ (.int .i64 0)).cell? ⟨rb, 4, none⟩ = some (.bool F.down) := blk_cell (blk_set h.blk 3 _) 4
    have HFIN : Hid (RefPost w rb (F.crash kf) S ((w.setCell ⟨rb, 3, none⟩ (.int .i64 0)).setCell ⟨rb, 4, none⟩ (.bool false))) := Lib.hid (by
      have h5 := (h.setCell (F' := { F with armed := 0 }) (i := 3) (u := .int .i64 0) rfl rfl).setCell (F' := { F with armed := 0, down := false }) (i := 4) (u := .bool false) rfl rfl
      refine RefPost.same (F := { F with armed := 0, down := false }) ⟨_, _, h5.mono (fun _ e => .inl e) (new_lt h.lt (by simp)), ?_⟩ ?_
      · exact ((keeps_set w rb 3 _).trans' (keeps_set _ rb 4 _)).mono (fun i _ e => by have : i = rb := e; rw [this]; exact h.sb)
      · refine ⟨rfl, ?_, rfl, rfl, rfl⟩
        show F.files = (F.crash kf).files
        rw [crash_files, he]; rfl)
    clear h ho he hz
    go_enter Try.func83, Try.ntmps83
    go_wp2_with (fail)
    go_loopw [4] (fun i wr => i = .int .i64 0 ∧ wr = w) (fun _ _ => 0)
    case atStart => exact ⟨rfl, rfl⟩
    case round =>
      obtain ⟨rfl, rfl⟩ := hrel
      go_wp2_with (fail)
      go_end0
      exact ⟨rfl, HFIN.out⟩
  have hne : 0 < F.files.length := List.length_pos_iff.2 he
  obtain ⟨x0, hx0⟩ : ∃ x0, F.files[0]? = some x0 := ⟨_, List.getElem?_eq_getElem hne⟩
  obtain ⟨r0, g0, off0, cap0, _, _, hlv, _, _, _⟩ := h.at_file hx0
  subst hlv
  have HI : Hid (CrR w w rb F S kf 0) := Lib.hid ⟨⟨g0, off0, cap0, rs, by rw [crashTo_zero]; exact h.mono (fun _ e => .inl e) (new_lt h.lt (Nat.le_refl _))⟩, Keeps.refl _ _⟩
  clear h ho he hne hx0 c1
  go_enter Try.func83, Try.ntmps83
  go_wp2_with (fail)
  go_loopw [4] (fun i wr => ∃ j : Nat, j ≤ F.files.length ∧ i = .int .i64 j ∧ Hid (CrR w wr rb F S kf j)) (fun i _ => F.files.length - (intOf i).toNat)
  case atStart => exact ⟨0, Nat.zero_le _, rfl, HI⟩
  case round =>
    obtain ⟨j, hj, rfl, HJ⟩ := hrel
    obtain ⟨g, off, cap, rs1, hA⟩ := HJ.out.ref
    have c1 : wr.cell? ⟨rb, 1, none⟩ = some (.slice (some ⟨g, off, none⟩) F.files.length cap) := blk_cell hA.blk 1
    by_cases hlt : j < F.files.length
    · obtain ⟨⟨n, x⟩, hx⟩ : ∃ y, F.files[j]? = some y := ⟨_, List.getElem?_eq_getElem hlt⟩
      obtain ⟨q1, q2, q3⟩ := crashTo_set (kf := kf) hx
      obtain ⟨r, g2, off2, cap2, hr, hf, hlv, d0, d1, d2⟩ := hA.at_file (F := { F with files := crashTo kf F.files j }) q2
      simp only [Value.slice.injEq, Option.some.injEq, Addr.mk.injEq, and_true] at hlv
      obtain ⟨⟨rfl, rfl⟩, hle, rfl⟩ := hlv
      clear hle
      have hxf := HO.out.find_at hx
      have hxl := (HO.out.len hxf).1
      have hsy := (HO.out.len hxf).2.1
      have hnl : n.size ≤ 1000000000 := by have := okName_size2 (HO.out.valid _ (List.mem_of_getElem? hx)); simp only at this; omega
      have hsl : SlAt byteKind 5 wr (.slice r.a x.data.length r.cap) x.data := by
        have := hf.sl
        have e : r.val = .slice r.a x.data.length r.cap := by show Value.slice r.a r.len r.cap = _; rw [hf.len]
        rw [e] at this; exact this
      have k1 : (0 : Int) ≤ (j : Int) := by omega
      have k2 : (j : Int) < (F.files.length : Int) := by omega
      have hs0 : (0 : Int) ≤ (x.synced : Int) := by omega
      have hs1 : (x.synced : Int) ≤ (x.data.length : Int) := by omega
      simp only at d0 d1 d2
      have HX := Lib.hid (And.intro hx (And.intro hr (And.intro hsl hnl)))
      have HA := Lib.hid hA
      clear hx q1 q2 q3 hr hf hxf hA
      have hroom := HX.out.2.2.1.room
      obtain ⟨hroom1, hroom2, hroom3⟩ := hroom
      have HD := Lib.hid (And.intro c1 (And.intro d0 (And.intro d1 d2)))
      have hgr : g ≠ rb := by
        obtain ⟨cur, hbk⟩ := HA.out.arr.own g rfl
        exact blk_ne_type (b := g) (c := rb) hbk HA.out.blk (by decide)
      have hgb : g ≠ wr.heap.size := by
        obtain ⟨cur, hbk⟩ := HA.out.arr.own g rfl
        have := lt_of_block hbk; omega
      by_cases hu : x.synced < x.data.length
      · obtain ⟨kv, hkv⟩ : ∃ kv, keepN n m = kv := ⟨_, rfl⟩
        obtain ⟨c, hc⟩ : ∃ c : Nat, min (max kv 0) ((x.data.length : Int) - x.synced) = (c : Int) := ⟨(min (max kv 0) ((x.data.length : Int) - x.synced)).toNat, by omega⟩
        obtain ⟨K, hK⟩ : ∃ K : Nat, x.synced + c = K := ⟨_, rfl⟩
        have hKi : (x.synced : Int) + (c : Int) = (K : Int) := by omega
        have hKl : K ≤ x.data.length := by omega
        have HPL : Hid (K ≤ x.data.length) := Lib.hid hKl
        have HKP : Hid (∀ w1, Below (wr.alloc (.cells #[.string n, .slice r.a x.data.length r.cap, .int .i64 (x.synced : Int)] 69)).heap.size (wr.alloc (.cells #[.string n, .slice r.a x.data.length r.cap, .int .i64 (x.synced : Int)] 69)) w1 → Calls Try.prog 82 #[.string n, .int .i64 m] w1 fun e w' => e = .returned (.int .i64 kv) ∧ w1 = w') := Lib.hid fun w1 _ => by
          have := g_keep (w := w1) n m HX.out.2.2.2
          rwa [hkv] at this
        have HCF : Hid (crashFile kf n x = ⟨x.data.take K, K⟩) := Lib.hid (by
          have e : kf n ((x.data.length : Int) - x.synced) = kv := by rw [HKF.out]; exact hkv
          unfold crashFile leftOfFile
          rw [if_neg (by omega), e, hc, Int.toNat_natCast, hK]
          congr 1
          rw [List.length_take]; omega)
        have hp1 : K ≤ r.cap := by omega
        have hp2 : (K : Int) ≤ (r.cap : Int) := by omega
        have hp3 : (r.cap : Int) ≤ 9223372036854775807 := by omega
        have hp4 : (0 : Int) ≤ (K : Int) := by omega
        have hu2 : (x.synced : Int) < (x.data.length : Int) := by omega
        have hu3 : (0 : Int) ≤ (x.data.length : Int) - x.synced := by omega
        have hc0 : (0 : Int) ≤ (c : Int) := by omega
        have hc1 : (x.synced : Int) + (c : Int) ≤ (x.data.length : Int) := by omega
        clear hroom1 hroom2 hK hkv
        go_wp2_with (fail)
        have hbx := blk_new wr (.cells #[.string n, .slice r.a x.data.length r.cap, .int .i64 (x.synced : Int)] 69)
        have hal : Below wr.heap.size wr (wr.alloc (.cells #[.string n, .slice r.a x.data.length r.cap, .int .i64 (x.synced : Int)] 69)) := (Below.refl _ _).alloc (Nat.le_refl _) _
        generalize wr.alloc (.cells #[.string n, .slice r.a x.data.length r.cap, .int .i64 (x.synced : Int)] 69) = Wb at hbx hal HKP ⊢
        have bx0 : Wb.cell? ⟨wr.heap.size, 0, none⟩ = some (.string n) := blk_cell hbx 0
        have bx1 : Wb.cell? ⟨wr.heap.size, 1, none⟩ = some (.slice r.a x.data.length r.cap) := blk_cell hbx 1
        have HBX := Lib.hid (And.intro hbx hal)
        clear hbx hal d0 d1 d2
        go_quiet ((go_at_call 82; exact quiet_hid HKP))
        have hbd : Below Wb.heap.size Wb (Wb.drewN nq) := below_drewN _ _ _
        generalize Wb.drewN nq = Wc at hbd ⊢
        have HBX : Hid (IsBlk Wc wr.heap.size #[.string n, .slice r.a x.data.length r.cap, .int .i64 (x.synced : Int)] 69 ∧ Below wr.heap.size wr Wc) := Lib.hid ⟨(hbd.block _ (lt_of_block HBX.out.1)).trans HBX.out.1, HBX.out.2.trans (hbd.mono HBX.out.2.size)⟩
        clear hbd bx0 bx1
        have HBY : Hid (∀ W cc, Below Wc.heap.size Wc W → Calls Try.prog 79 #[.slice r.a K cc] W fun e W' => ∃ va vc, e = .returned (.slice va K vc) ∧ (W'.cell? ⟨rb, 1, none⟩ = some (.slice (some ⟨g, off, none⟩) F.files.length cap) ∧ W'.cell? ⟨wr.heap.size, 0, none⟩ = some (.string n) ∧ W'.cell? ⟨wr.heap.size, 1, none⟩ = some (.slice r.a x.data.length r.cap)) ∧
            ((W'.cell? ⟨g, off + j * 3, none⟩ = some (.string n) ∧ W'.frozen? ⟨g, off + j * 3, none⟩ = false) ∧ (W'.cell? ⟨g, off + j * 3 + 1, none⟩ = some (.slice r.a x.data.length r.cap) ∧ W'.frozen? ⟨g, off + j * 3 + 1, none⟩ = false) ∧ (W'.cell? ⟨g, off + j * 3 + 2, none⟩ = some (.int .i64 (x.synced : Int)) ∧ W'.frozen? ⟨g, off + j * 3 + 2, none⟩ = false)) ∧
            Hid (CrR w (((W'.setCell ⟨g, off + j * 3, none⟩ (.string n)).setCell ⟨g, off + j * 3 + 1, none⟩ (.slice va K vc)).setCell ⟨g, off + j * 3 + 2, none⟩ (.int .i64 (K : Int))) rb F S kf (j + 1))) := Lib.hid fun W cc hW => by
          have hlq : (x.data.take K).length = K := by rw [List.length_take]; have := HPL.out; omega
          have hWr : Below wr.heap.size wr W := HBX.out.2.trans (hW.mono HBX.out.2.size)
          have h9 := (HX.out.2.2.1.below hWr).rd.take HPL.out cc
          have h10 := g_bytes (a := r.a) (cap := cc) (ys := x.data.take K) (by rw [hlq]; exact h9) (by have := HPL.out; omega)
          rw [hlq] at h10
          refine h10.mono ?_
          rintro e W' ⟨va, vc, rfl, hfr⟩
          have hB0 : Below Wc.heap.size Wc W' := hW.trans (hfr.below.mono hW.size)
          have hB : Below wr.heap.size wr W' := hWr.trans (hfr.below.mono hWr.size)
          obtain ⟨cur, hbk⟩ := HA.out.arr.own g rfl
          have hg3 : W'.heap[g]? = some (.cells cur 69 (0, 0)) := (hB.block g (lt_of_block hbk)).trans hbk
          have hbx : IsBlk W' wr.heap.size #[.string n, .slice r.a x.data.length r.cap, .int .i64 (x.synced : Int)] 69 := (hB0.block _ (lt_of_block HBX.out.1)).trans HBX.out.1
          have hcc : ∀ a u, wr.cell? a = some u → W'.cell? a = some u := fun a u hc => (hB.cell (p := a) (World.block_lt_of_cell? wr _ hc)).trans hc
          refine ⟨va, vc, rfl, ⟨hcc _ _ HD.out.1, blk_cell hbx 0, blk_cell hbx 1⟩, ⟨⟨hcc _ _ HD.out.2.1, blk_free hg3 _⟩, ⟨hcc _ _ HD.out.2.2.1, blk_free hg3 _⟩, ⟨hcc _ _ HD.out.2.2.2, blk_free hg3 _⟩⟩, Lib.hid ?_⟩
          obtain ⟨q1, q2, q3⟩ := crashTo_set (kf := kf) HX.out.1
          have := (HA.out.lenEq q3.symm).setFile (F := { F with files := crashTo kf F.files j }) q2 HX.out.2.1 hB (a' := va) (c' := vc) (ys := x.data.take K) K (by rw [hlq]; exact hfr.sl) (fun z hz => by rw [hlq] at hz; exact Nat.le_trans hWr.size (hfr.new z hz))
          rw [hlq] at this
          refine HJ.out.next HX.out.1 HLT.out ?_
          rw [HCF.out]
          exact this
        have hb1 : Below Wc.heap.size Wc Wc.drew := (Below.refl _ _).drew
        have bb0 : Wc.cell? ⟨wr.heap.size, 0, none⟩ = some (.string n) := blk_cell HBX.out.1 0
        have bb1 : Wc.cell? ⟨wr.heap.size, 1, none⟩ = some (.slice r.a x.data.length r.cap) := blk_cell HBX.out.1 1
        have cc1 : Wc.cell? ⟨rb, 1, none⟩ = some (.slice (some ⟨g, off, none⟩) F.files.length cap) := (HBX.out.2.cell (p := ⟨rb, 1, none⟩) (World.block_lt_of_cell? wr _ HD.out.1)).trans HD.out.1
        clear c1
        rcases hroom3 with ⟨z1, z2, z3⟩ | ⟨gd, od, z1⟩
        · omega
        · rw [z1] at bb1 HBY
          clear z1 HD
          go_wp2_with (fail)
          go_region_held3 (fun w' => w'.cell? ⟨rb, 1, none⟩ = some (.slice (some ⟨g, off, none⟩) F.files.length cap) ∧ w'.cell? ⟨wr.heap.size, 0, none⟩ = some (.string n) ∧ w'.cell? ⟨wr.heap.size, 1, none⟩ = some (.slice (some ⟨gd, od, none⟩) x.data.length r.cap))
            (first
              | go_keep
              | exact s1)
            (first
              | (go_at_call 79; (with_reducible refine (HBY.out _ _ ?_).mono ?_); exact hb1; rintro e w2 ⟨va, vc, rfl, s1, ⟨⟨s2, t2⟩, ⟨s3, t3⟩, ⟨s4, t4⟩⟩, hC⟩))
          have HC := Lib.hid hC.out
          clear hC s1 s2 s3 s4 t2 t3 t4
          go_wp2_with (fail)
          go_roundw
          case rel => exact ⟨j + 1, by omega, by go_num, HC⟩
          case measure => simp [intOf]; omega
      · have HPL : Hid (x.synced ≤ x.data.length) := Lib.hid hsy
        have HCF : Hid (crashFile kf n x = ⟨x.data.take x.synced, x.synced⟩) := Lib.hid (by
          unfold crashFile
          rw [if_pos (by omega)]
          congr 1
          rw [List.length_take]; omega)
        have hp1 : x.synced ≤ r.cap := by omega
        have hp2 : (x.synced : Int) ≤ (r.cap : Int) := by omega
        have hp3 : (r.cap : Int) ≤ 9223372036854775807 := by omega
        have hu2 : ¬ ((x.synced : Int) < (x.data.length : Int)) := by omega
        clear hroom1 hroom2
        go_wp2_with (fail)
        have hbx := blk_new wr (.cells #[.string n, .slice r.a x.data.length r.cap, .int .i64 (x.synced : Int)] 69)
        have hal : Below wr.heap.size wr (wr.alloc (.cells #[.string n, .slice r.a x.data.length r.cap, .int .i64 (x.synced : Int)] 69)) := (Below.refl _ _).alloc (Nat.le_refl _) _
        generalize wr.alloc (.cells #[.string n, .slice r.a x.data.length r.cap, .int .i64 (x.synced : Int)] 69) = Wb at hbx hal ⊢
        have HBX := Lib.hid (And.intro hbx hal)
        clear hbx hal d0 d1 d2
        have HBY : Hid (∀ W cc, Below Wb.heap.size Wb W → Calls Try.prog 79 #[.slice r.a x.synced cc] W fun e W' => ∃ va vc, e = .returned (.slice va x.synced vc) ∧ (W'.cell? ⟨rb, 1, none⟩ = some (.slice (some ⟨g, off, none⟩) F.files.length cap) ∧ W'.cell? ⟨wr.heap.size, 0, none⟩ = some (.string n) ∧ W'.cell? ⟨wr.heap.size, 1, none⟩ = some (.slice r.a x.data.length r.cap)) ∧
            ((W'.cell? ⟨g, off + j * 3, none⟩ = some (.string n) ∧ W'.frozen? ⟨g, off + j * 3, none⟩ = false) ∧ (W'.cell? ⟨g, off + j * 3 + 1, none⟩ = some (.slice r.a x.data.length r.cap) ∧ W'.frozen? ⟨g, off + j * 3 + 1, none⟩ = false) ∧ (W'.cell? ⟨g, off + j * 3 + 2, none⟩ = some (.int .i64 (x.synced : Int)) ∧ W'.frozen? ⟨g, off + j * 3 + 2, none⟩ = false)) ∧
            Hid (CrR w (((W'.setCell ⟨g, off + j * 3, none⟩ (.string n)).setCell ⟨g, off + j * 3 + 1, none⟩ (.slice va x.synced vc)).setCell ⟨g, off + j * 3 + 2, none⟩ (.int .i64 (x.synced : Int))) rb F S kf (j + 1))) := Lib.hid fun W cc hW => by
          have hlq : (x.data.take x.synced).length = x.synced := by rw [List.length_take]; have := HPL.out; omega
          have hWr : Below wr.heap.size wr W := HBX.out.2.trans (hW.mono HBX.out.2.size)
          have h9 := (HX.out.2.2.1.below hWr).rd.take HPL.out cc
          have h10 := g_bytes (a := r.a) (cap := cc) (ys := x.data.take x.synced) (by rw [hlq]; exact h9) (by have := HPL.out; omega)
          rw [hlq] at h10
          refine h10.mono ?_
          rintro e W' ⟨va, vc, rfl, hfr⟩
          have hB0 : Below Wb.heap.size Wb W' := hW.trans (hfr.below.mono hW.size)
          have hB : Below wr.heap.size wr W' := hWr.trans (hfr.below.mono hWr.size)
          obtain ⟨cur, hbk⟩ := HA.out.arr.own g rfl
          have hg3 : W'.heap[g]? = some (.cells cur 69 (0, 0)) := (hB.block g (lt_of_block hbk)).trans hbk
          have hbx : IsBlk W' wr.heap.size #[.string n, .slice r.a x.data.length r.cap, .int .i64 (x.synced : Int)] 69 := (hB0.block _ (lt_of_block HBX.out.1)).trans HBX.out.1
          have hcc : ∀ a u, wr.cell? a = some u → W'.cell? a = some u := fun a u hc => (hB.cell (p := a) (World.block_lt_of_cell? wr _ hc)).trans hc
          refine ⟨va, vc, rfl, ⟨hcc _ _ HD.out.1, blk_cell hbx 0, blk_cell hbx 1⟩, ⟨⟨hcc _ _ HD.out.2.1, blk_free hg3 _⟩, ⟨hcc _ _ HD.out.2.2.1, blk_free hg3 _⟩, ⟨hcc _ _ HD.out.2.2.2, blk_free hg3 _⟩⟩, Lib.hid ?_⟩
          obtain ⟨q1, q2, q3⟩ := crashTo_set (kf := kf) HX.out.1
          have := (HA.out.lenEq q3.symm).setFile (F := { F with files := crashTo kf F.files j }) q2 HX.out.2.1 hB (a' := va) (c' := vc) (ys := x.data.take x.synced) x.synced (by rw [hlq]; exact hfr.sl) (fun z hz => by rw [hlq] at hz; exact Nat.le_trans hWr.size (hfr.new z hz))
          rw [hlq] at this
          refine HJ.out.next HX.out.1 HLT.out ?_
          rw [HCF.out]
          exact this
        have hb1 : Below Wb.heap.size Wb Wb.drew := (Below.refl _ _).drew
        have bb0 : Wb.cell? ⟨wr.heap.size, 0, none⟩ = some (.string n) := blk_cell HBX.out.1 0
        have bb1 : Wb.cell? ⟨wr.heap.size, 1, none⟩ = some (.slice r.a x.data.length r.cap) := blk_cell HBX.out.1 1
        have cc1 : Wb.cell? ⟨rb, 1, none⟩ = some (.slice (some ⟨g, off, none⟩) F.files.length cap) := (HBX.out.2.cell (p := ⟨rb, 1, none⟩) (World.block_lt_of_cell? wr _ HD.out.1)).trans HD.out.1
        clear c1
        rcases hroom3 with ⟨z1, z2, z3⟩ | ⟨gd, od, z1⟩
        · rw [z1, z2] at bb1 HBY
          clear z1 z2 HD HX HCF HPL hsy hu hp1 hp2 hp3 hu2
          have hxs : x.synced = 0 := by omega
          obtain ⟨xd, xs⟩ := x
          simp only at *
          subst hxs
          obtain rfl : xd = [] := List.length_eq_zero_iff.1 z3
          simp only [List.length_nil, Int.natCast_zero] at *
          clear z3
          go_wp2_with (fail)
          go_region_held3 (fun w' => w'.cell? ⟨rb, 1, none⟩ = some (.slice (some ⟨g, off, none⟩) F.files.length cap) ∧ w'.cell? ⟨wr.heap.size, 0, none⟩ = some (.string n) ∧ w'.cell? ⟨wr.heap.size, 1, none⟩ = some (.slice none 0 0))
            (first
              | go_keep
              | exact s1)
            (first
              | (go_at_call 79; (with_reducible refine (HBY.out _ _ ?_).mono ?_); exact hb1; rintro e w2 ⟨va, vc, rfl, s1, ⟨⟨s2, t2⟩, ⟨s3, t3⟩, ⟨s4, t4⟩⟩, hC⟩))
          have HC := Lib.hid hC.out
          clear hC s1 s2 s3 s4 t2 t3 t4
          go_wp2_with (fail)
          go_roundw
          case rel => exact ⟨j + 1, by omega, by go_num, HC⟩
          case measure => simp [intOf]; omega
        · rw [z1] at bb1 HBY
          clear z1 HD
          go_wp2_with (fail)
          go_region_held3 (fun w' => w'.cell? ⟨rb, 1, none⟩ = some (.slice (some ⟨g, off, none⟩) F.files.length cap) ∧ w'.cell? ⟨wr.heap.size, 0, none⟩ = some (.string n) ∧ w'.cell? ⟨wr.heap.size, 1, none⟩ = some (.slice (some ⟨gd, od, none⟩) x.data.length r.cap))
            (first
              | go_keep
              | exact s1)
            (first
              | (go_at_call 79; (with_reducible refine (HBY.out _ _ ?_).mono ?_); exact hb1; rintro e w2 ⟨va, vc, rfl, s1, ⟨⟨s2, t2⟩, ⟨s3, t3⟩, ⟨s4, t4⟩⟩, hC⟩))
          have HC := Lib.hid hC.out
          clear hC s1 s2 s3 s4 t2 t3 t4
          go_wp2_with (fail)
          go_roundw
          case rel => exact ⟨j + 1, by omega, by go_num, HC⟩
          case measure => simp [intOf]; omega
    · have k2 : ¬ (j : Int) < (F.files.length : Int) := by omega
      have hjl : j = F.files.length := by omega
      subst hjl
      have z3 : wr.frozen? ⟨rb, 3, none⟩ = false := blk_free hA.blk 3
      have d3 : wr.cell? ⟨rb, 3, none⟩ = some (.int .i64 F.armed) := blk_cell hA.blk 3
      have z4 : (wr.setCell ⟨rb, 3, none⟩ (.int .i64 0)).frozen? ⟨rb, 4, none⟩ = false := blk_free (blk_set hA.blk 3 _) 4
      have d4 : (wr.setCell ⟨rb, 3, none⟩ (.int .i64 0)).cell? ⟨rb, 4, none⟩ = some (.bool F.down) := blk_cell (blk_set hA.blk 3 _) 4
      have HFIN : Hid (RefPost w rb (F.crash kf) S ((wr.setCell ⟨rb, 3, none⟩ (.int .i64 0)).setCell ⟨rb, 4, none⟩ (.bool false))) := Lib.hid (by
        have h5 := (hA.setCell (F' := { F with files := crashTo kf F.files F.files.length, armed := 0 }) (i := 3) (u := .int .i64 0) rfl rfl).setCell (F' := { F with files := crashTo kf F.files F.files.length, armed := 0, down := false }) (i := 4) (u := .bool false) rfl rfl
        refine RefPost.same (F := { F with files := crashTo kf F.files F.files.length, armed := 0, down := false }) ⟨_, _, h5.mono (fun i e => ?_) (fun i e => ?_), ?_⟩ ⟨rfl, rfl, rfl, rfl, rfl⟩
        · rcases e with e | e
          · exact .inl e
          · exact .inr ⟨e.1, by simpa using e.2⟩
        · rcases e with e | e
          · have := HLT.out i e; have := HJ.out.kept.size; simp; omega
          · exact e.2
        · exact HJ.out.kept.trans' (((keeps_set wr rb 3 _).trans' (keeps_set _ rb 4 _)).mono (fun i _ e => by have : i = rb := e; rw [this]; exact HSB.out)))
      clear hA
      go_wp2_with (fail)
      go_end0
      exact ⟨rfl, HFIN.out⟩
end
end Go.Proofs.Ytmfiibehclbnjaa
/- The walks of Lent and Kept. -/
namespace Go.Proofs.Ytmfiibehclbnjaa
open Go.RowKit Go.Shelf

section
variable {w w' : World}
/-- Bytes lent, with one more behind them. -/
structure LentAt (w w' : World) (g off cap : Nat) (ys : List UInt8) : Prop where
  sl : SlAt byteKind 5 w' (.slice (some ⟨g, off, none⟩) (ys.length + 1) cap) (ys ++ [201])
  new : w.heap.size ≤ g
  below : Below w.heap.size w w'
theorem LentAt.room {g off cap : Nat} {ys : List UInt8} (h : SlAt byteKind 5 w' (.slice (some ⟨g, off, none⟩) (ys.length + 1) cap) (ys ++ [201])) : ys.length + 1 ≤ cap ∧ cap ≤ 9223372036854775807 ∧ ∃ cur, IsBlk w' g cur 5 ∧ ∀ j, j < ys.length + 1 → w'.cell? ⟨g, off + j, none⟩ = ((ys ++ [201])[j]?.map fun b => Value.int .u8 (b.toNat : Int)) := by
  have hl : (ys ++ [(201 : UInt8)]).length = ys.length + 1 := by simp
  rw [← hl] at h
  obtain ⟨h1, h2, _⟩ := h.room
  rw [hl] at h1
  refine ⟨h1, h2, ?_⟩
  obtain ⟨cur, hb⟩ := h.own g rfl
  refine ⟨cur, hb, fun j hj => ?_⟩
  obtain ⟨a, c, e, hr⟩ := h.rd
  simp only [Value.slice.injEq, true_and] at e
  obtain ⟨rfl, rfl⟩ := e
  obtain ⟨y, hy⟩ : ∃ y, (ys ++ [(201 : UInt8)])[j]? = some y := ⟨_, List.getElem?_eq_getElem (by rw [hl]; exact hj)⟩
  obtain ⟨g2, off2, ha, hc⟩ := hr j y hy
  simp only [Option.some.injEq, Addr.mk.injEq, and_true] at ha
  obtain ⟨rfl, rfl⟩ := ha
  have := hc 0 (by decide)
  rw [hy]
  simpa [byteKind] using this
set_option maxRecDepth 100000 in
set_option maxHeartbeats 2000000 in
theorem r_lent {a : Option Addr} {c : Nat} {ys : List UInt8} (hu : RdAt byteKind w (.slice a ys.length c) ys) (hn : ys.length ≤ 100000000) :
    Calls Try.prog 62 #[.slice a ys.length c] w fun e w' => ∃ g off cap, e = .returned (.slice (some ⟨g, off, none⟩) ys.length cap) ∧ LentAt w w' g off cap ys := by
  have HB := Lib.hid (g_bytes hu (by omega))
  have hn' : (ys.length : Int) ≤ 100000000 := by omega
  clear hu
  go_enter Try.func62, Try.ntmps62
  go_wp2_with (fail)
  refine HB.out.mono ?_
  rintro e w1 ⟨va, vc, rfl, hfr⟩
  have hal : Below w1.heap.size w1 (w1.alloc (.cells #[.int .u8 201] 5)) := (Below.refl _ _).alloc (Nat.le_refl _) _
  have hu2 : RdAt byteKind (w1.alloc (.cells #[.int .u8 201] 5)) (.slice (some ⟨w1.heap.size, 0, none⟩) 1 1) [(201 : UInt8)] := by
    refine ⟨_, 1, rfl, fun j y hy => ⟨w1.heap.size, 0, rfl, fun i hi => ?_⟩⟩
    match j, hy with
    | 0, hy =>
      simp only [List.getElem?_cons_zero, Option.some.injEq] at hy
      subst hy
      have hi0 : i = 0 := by have : i < 1 := hi; omega
      subst hi0
      exact blk_cell (cs := #[.int .u8 201]) (heap_alloc_new w1 _) 0
  obtain ⟨v', w2, hrun, hs2, hk2, ho2, hnil⟩ := append_bytes (hfr.sl.below hal) hu2 (by simp only [List.length_cons, List.length_nil]; omega) 28
  obtain ⟨a2, c2, hv⟩ := hs2.shape
  rw [List.length_append, List.length_singleton] at hv
  subst hv
  have hw12 : Below w.heap.size w (w1.alloc (.cells #[.int .u8 201] 5)) := hfr.below.trans (hal.mono hfr.below.size)
  have hB2 : Below w.heap.size w w2 := below_keeps hw12 hk2 (fun i e => hfr.new i e) hw12.size
  have hsome : ∃ g off, a2 = some ⟨g, off, none⟩ := by
    rcases hs2 with ⟨e1, _⟩ | ⟨g, off, cap, cur, e1, _⟩
    · simp only [Value.slice.injEq] at e1
      omega
    · simp only [Value.slice.injEq] at e1
      exact ⟨g, off, e1.1⟩
  obtain ⟨g, off, rfl⟩ := hsome
  have HL : Hid (LentAt w w2 g off c2 ys) := Lib.hid ⟨hs2, by
    rcases ho2 g rfl with e | e
    · exact hfr.new g e
    · have := hfr.below.size; have := hal.size; omega, hB2⟩
  obtain ⟨r1, r2, _⟩ := LentAt.room HL.out.sl
  have q1 : ys.length ≤ c2 := by omega
  have q2 : (ys.length : Int) ≤ (c2 : Int) := by omega
  have q3 : (c2 : Int) ≤ 9223372036854775807 := by omega
  clear hfr hal hu2 hs2 hk2 ho2 hnil hw12 hB2 r1 r2
  go_wp2_with (at_builtin; refine wpList_append_run rfl (.tmp 5) (.tmp 6) 28 rfl _ _ rfl rfl _ _ hrun ?_)
  go_ret
  exact ⟨g, off, c2, rfl, HL.out⟩
set_option maxRecDepth 100000 in
set_option maxHeartbeats 2000000 in
theorem r_kept {g off cap : Nat} {a : Option Addr} {c : Nat} {ys : List UInt8} (h : SlAt byteKind 5 w (.slice (some ⟨g, off, none⟩) (ys.length + 1) cap) (ys ++ [201])) (hu : RdAt byteKind w (.slice a ys.length c) ys) (hn : ys.length ≤ 100000000) :
    Calls Try.prog 64 #[.slice (some ⟨g, off, none⟩) ys.length cap, .slice a ys.length c] w fun e w' => e = .returned (.bool true) ∧ Below w.heap.size w w' := by
  have hl : (ys ++ [(201 : UInt8)]).length = ys.length + 1 := by simp
  have h1 : RdAt byteKind w (.slice (some ⟨g, off, none⟩) ys.length cap) ys := by
    have h0 := h
    rw [← hl] at h0
    have := h0.rd.take (q := ys.length) (by rw [hl]; omega) cap
    rwa [List.take_left] at this
  obtain ⟨r1, r2, cur, hb, hc⟩ := LentAt.room h
  have hc2 := hc ys.length (by omega)
  rw [List.getElem?_append_right (Nat.le_refl _), Nat.sub_self] at hc2
  have hc3 : w.cell? ⟨g, off + ys.length, none⟩ = some (.int .u8 201) := hc2
  have HSB := Lib.hid (r_sameBytes h1 hu (by omega))
  have hn' : (ys.length : Int) ≤ 100000000 := by omega
  have q1 : ys.length + 1 ≤ cap := by omega
  have q2 : (ys.length : Int) + 1 ≤ (cap : Int) := by omega
  have q3 : (cap : Int) ≤ 9223372036854775807 := by omega
  have q4 : (0 : Int) ≤ (ys.length : Int) := by omega
  have q5 : ys.length < ys.length + 1 := by omega
  have HC := Lib.hid hc3
  clear h h1 hu hl r1 r2 hb hc hc2 hc3
  go_enter Try.func64, Try.ntmps64
  go_wp2_with (fail)
  refine HSB.out.mono ?_
  rintro e w1 ⟨rfl, hb⟩
  have hc4 : w1.cell? ⟨g, off + ys.length, none⟩ = some (.int .u8 201) := (hb.cell (p := ⟨g, off + ys.length, none⟩) (World.block_lt_of_cell? w _ HC.out)).trans HC.out
  have HB := Lib.hid hb
  clear hb
  go_wp2_with (fail)
  go_ret
  exact ⟨rfl, HB.out⟩
end
end Go.Proofs.Ytmfiibehclbnjaa
