/- The walks of few and of the statement WalStuck. -/
import Derived.Test.YthbfkjmpaifblaaWArl
import Derived.Test.YthbfkjmpaifblaaWx7
namespace Go.Proofs.Ythbfkjmpaifblaa
open Go.RowKit Go.Shelf

section
variable {w0 w w' W : World} {fb k lb : Nat} {F G : FsS} {S T : Nat → Prop} {L : LogS} {v u : Value} {l : List (List UInt8)} {N : Nat}
def WFewPost (n : Nat) (w : World) (e : Ending) (w' : World) : Prop := ∃ b : Bool, e = .returned (.bool b) ∧ (b = true → n ≤ 60) ∧ Below w.heap.size w w'
set_option maxRecDepth 100000 in
set_option maxHeartbeats 2000000 in
theorem x_wfew (h : ListsAt w v l 1048576) : Calls Try.prog 24 #[v] w (WFewPost l.length w) := by
  obtain ⟨a0, cap0, rfl⟩ := h.rd.shape
  have HR := Lib.hid h
  have hm : (l.length : Int) ≤ 9223372036854775807 := by have := h.few; omega
  clear h
  go_enter Try.func24, Try.ntmps24
  go_wp2
  go_loopw [3, 4] (fun n i wr => ∃ (j : Nat) (m : Int), j ≤ l.length ∧ j ≤ 61 ∧ i = .int .i64 j ∧ n = .int .i64 m ∧ 0 ≤ m ∧ m ≤ 40000 ∧ Below w.heap.size w wr) (fun _ i _ => l.length - (intOf i).toNat)
  case atStart => exact ⟨0, 0, Nat.zero_le _, by omega, rfl, rfl, by omega, by omega, Below.refl _ _⟩
  case round =>
    obtain ⟨j, m, hj, hj2, rfl, rfl, hm0, hm1, hb⟩ := hrel
    have fin : ∀ W, Below w.heap.size w W → Hid (∀ b : Bool, (b = true → l.length ≤ 60) → WFewPost l.length w (.returned (.bool b)) W) := fun W hW => Lib.hid fun b hb => ⟨b, rfl, hb, hW⟩
    have FIN := fin _ hb
    clear fin
    have HB := Lib.hid hb
    by_cases hlt : j < l.length
    · by_cases hlt2 : j ≤ 60
      · obtain ⟨r, hr⟩ : ∃ r, l[j]? = some r := ⟨_, List.getElem?_eq_getElem hlt⟩
        obtain ⟨g, off, cap, a, c, hv, hc, -, -, -, hrn⟩ := (HR.out.below hb).at_ hr
        injection hv with hv _ _
        subst hv
        have z3' : (r.length : Int) ≤ 1048576 := by omega
        have k1 : (0 : Int) ≤ (j : Int) := by omega
        have k2 : (j : Int) < (l.length : Int) := by omega
        have k3 : (j : Int) ≤ 60 := by omega
        clear hb hr FIN hrn
        go_wp2
        have g3 : (0 : Int) ≤ min (r.length : Int) 20000 := by omega
        exact ⟨⟨j + 1, _, by omega, by omega, by go_num, rfl, by omega, by omega, HB.out⟩, by simp [intOf]; omega⟩
      · have k3 : ¬ ((j : Int) ≤ 60) := by omega
        have k2 : (j : Int) < (l.length : Int) := by omega
        have hgt : ¬ ((l.length : Int) ≤ 60) := by omega
        clear hb
        go_wp2
        go_ret
        exact FIN.out _ (fun h => by simp at h)
    · have k2 : ¬ (j : Int) < (l.length : Int) := by omega
      clear hb
      go_wp2
      all_goals (go_ret; exact FIN.out _ (fun h => by first | (simp at h; done) | (have h9 : (l.length : Int) ≤ 60 := (by assumption); omega)))
theorem dirOk_w : DirOk nmW := ⟨by decide, by decide, by decide, by decide⟩
theorem create_down (F : FsS) (n : ByteArray) : (F.create n).2 = 5 ∨ (F.create n).1.down = F.down := by
  unfold FsS.create
  split
  · exact .inr rfl
  split
  · exact .inr rfl
  split
  · exact .inr rfl
  split
  · exact .inr rfl
  unfold FsS.write
  split
  · split
    · exact .inl rfl
    · exact .inr rfl
  · exact .inr rfl
theorem append_down (F : FsS) (n : ByteArray) (b : List UInt8) : (F.append n b).2 = 5 ∨ (F.append n b).1.down = F.down := by
  unfold FsS.append FsS.on
  split
  · exact .inl rfl
  split
  · exact .inr rfl
  split
  · exact .inr rfl
  unfold FsS.write
  split
  · split
    · exact .inl rfl
    · exact .inr rfl
  · exact .inr rfl
theorem sync_down (F : FsS) (n : ByteArray) : (F.sync n).2 = 5 ∨ (F.sync n).1.down = F.down := by
  unfold FsS.sync FsS.on
  split
  · exact .inl rfl
  split
  · exact .inr rfl
  unfold FsS.write
  split
  · split
    · exact .inl rfl
    · exact .inr rfl
  · exact .inr rfl
/-- Where the file system is down the log is stuck. -/
def DownStuck (F : FsS) (L : LogS) : Prop := F.down = true → L.stuck = true
theorem after_down {r : Int} (h : DownStuck F L) (hr : r = 5 ∨ G.down = F.down) : DownStuck G (L.after r) := by
  intro hd
  unfold LogS.after
  by_cases h0 : r = 0
  · rw [if_pos h0]
    rcases hr with e | e
    · omega
    · exact h (by rw [← e]; exact hd)
  · rw [if_neg h0]
    rcases hr with e | e
    · subst e; simp
    · have := h (by rw [← e]; exact hd)
      simp [this]
theorem after_same (L : LogS) (r : Int) : (L.after r).dir = L.dir ∧ (L.after r).last = L.last ∧ (L.after r).first = L.first ∧ (L.after r).size = L.size := by
  unfold LogS.after; split <;> exact ⟨rfl, rfl, rfl, rfl⟩
theorem write_down (h : DownStuck F L) (p : List UInt8) : DownStuck (writeL L F p).2.1 (writeL L F p).1 := by
  suffices hw : (writeR L F p).2 = 5 ∨ (writeR L F p).1.down = F.down from after_down h hw
  unfold writeR twoRes
  have h1 := append_down F (segName L.dir L.last) (frameOf p)
  have h2 := sync_down (F.append (segName L.dir L.last) (frameOf p)).1 (segName L.dir L.last)
  by_cases h0 : (F.append (segName L.dir L.last) (frameOf p)).2 = 0
  · rw [if_pos h0]
    rcases h2 with e | e
    · exact .inl e
    · rcases h1 with e1 | e1
      · omega
      · exact .inr (by rw [e, e1])
  · rw [if_neg h0]
    exact h1
theorem rotate_down (h : DownStuck F L) : DownStuck (rotateL L F).2.1 (rotateL L F).1 ∧ (rotateL L F).1.dir = L.dir ∧ (rotateL L F).1.last ≤ L.last + 1 := by
  unfold rotateL
  split
  · exact ⟨h, rfl, Nat.le_succ _⟩
  split
  · exact ⟨h, rfl, Nat.le_succ _⟩
  have h1 := create_down F (segName L.dir (L.last + 1))
  split
  · rename_i h0
    refine ⟨fun hd => ?_, rfl, Nat.le_refl _⟩
    rcases h1 with e | e
    · omega
    · exact h (by rw [← e]; exact hd)
  · rename_i h0
    refine ⟨fun hd => ?_, rfl, Nat.le_succ _⟩
    rcases h1 with e | e
    · simp [e]
    · have := h (by rw [← e]; exact hd)
      simp [this]
theorem appendL_down (h : DownStuck F L) (p : List UInt8) : DownStuck (appendL L F p).2.1 (appendL L F p).1 ∧ (appendL L F p).1.dir = L.dir ∧ (appendL L F p).1.last ≤ L.last + 1 := by
  unfold appendL
  split
  · exact ⟨h, rfl, Nat.le_succ _⟩
  split
  · exact ⟨h, rfl, Nat.le_succ _⟩
  split
  · have hr := rotate_down h
    split
    · refine ⟨write_down hr.1 p, ?_, ?_⟩
      · unfold writeL; rw [(after_same _ _).1]; exact hr.2.1
      · unfold writeL; rw [(after_same _ _).2.1]; exact hr.2.2
    · exact hr
  · refine ⟨write_down h p, ?_, ?_⟩
    · unfold writeL; exact (after_same _ _).1
    · unfold writeL; rw [(after_same _ _).2.1]; exact Nat.le_succ _
theorem lv_append (h : Lv w0 w fb F k lb L) (hk : k < 100000) (hdir : L.dir.size ≤ 100000) (hlast : L.last < 99999999) {a : Option Addr} {cap : Nat} {p : List UInt8} (hu : RdAt byteKind w0 (.slice a p.length cap) p) (hp : p.length ≤ 10000000) :
    Calls Try.prog 30 #[.pointer (some ⟨lb, 0, none⟩), .slice a p.length cap] w fun e w' => e = .returned (.int .i64 (appendL L F p).2.2) ∧ Lv w0 w' fb (appendL L F p).2.1 (k + 3) lb (appendL L F p).1 := by
  obtain ⟨S, h⟩ := h
  refine (w_append h hk hdir hlast (hu.below h.hd.below) (fun g hg hne => ?_) hp).mono fun e w' ⟨he, hP⟩ => ⟨he, _, hP.lg⟩
  obtain ⟨off, x, hx⟩ := hu.first hne hg
  have hlt : g < w0.heap.size := World.block_lt_of_cell? w0 _ (by rw [hx]; rfl)
  exact ⟨fun e => by have := h.hd.low g e; omega, fun e => by have := h.log.low; omega⟩
theorem lv_arm (h : Lv w0 w fb F k lb L) (n : Int) (h0 : -9223372036854775808 ≤ n) (h1 : n ≤ 9223372036854775807) :
    Calls Try.prog 40 #[.pointer (some ⟨fb, 0, none⟩), .int .i64 n] w fun e w' => e = .returned (.tuple #[]) ∧ Lv w0 w' fb { F with armed := max n 0 } k lb L := by
  obtain ⟨S, h⟩ := h
  obtain ⟨mb, rs, hf⟩ := h.hd.fs
  refine (f_arm hf n h0 h1).mono fun e w' ⟨he, hp⟩ => ⟨he, _, (h.op hp (h.hd.ok.arm (by omega) (by omega))).1⟩
theorem lv_crash_nil (h : Lv w0 w fb F k lb L) : Calls Try.prog 41 #[.pointer (some ⟨fb, 0, none⟩), .nilFunc] w fun e w' => e = .returned (.tuple #[]) ∧ Lv w0 w' fb (F.crash fun _ _ => 0) k lb L := by
  obtain ⟨S, h⟩ := h
  refine (d_crash_nil h.hd).mono fun e w' ⟨he, hd, hK⟩ => ⟨he, _, ⟨hd, h.log.post hK⟩⟩
theorem lv_steps (h : Lv w0 w fb F k lb L) : Calls Try.prog 38 #[.pointer (some ⟨fb, 0, none⟩)] w fun e w' => e = .returned (.int .i64 F.steps) ∧ w = w' := by
  obtain ⟨S, h⟩ := h
  exact d_steps h.hd
theorem lv_down (h : Lv w0 w fb F k lb L) : Calls Try.prog 46 #[.pointer (some ⟨fb, 0, none⟩)] w fun e w' => e = .returned (.bool F.down) ∧ w = w' := by
  obtain ⟨S, h⟩ := h
  exact d_down h.hd
theorem lv_rotate (h : Lv w0 w fb F k lb L) (hk : k < 1000000) (hdir : L.dir.size ≤ 100000) :
    Calls Try.prog 28 #[.pointer (some ⟨lb, 0, none⟩)] w fun e w' => e = .returned (.int .i64 (rotateL L F).2.2) ∧ Lv w0 w' fb (rotateL L F).2.1 (k + 1) lb (rotateL L F).1 := by
  obtain ⟨S, h⟩ := h
  exact (w_rotate h hk hdir).mono fun e w' ⟨he, hP⟩ => ⟨he, _, hP.lg⟩
theorem Lv.below0 (h : Lv w0 w fb F k lb L) : Below w0.heap.size w0 w := by
  obtain ⟨S, h⟩ := h
  exact h.hd.below
/-- WalStuck under way. -/
structure StI (w wr : World) (fb lb j : Nat) : Prop where
  ex : ∃ F L, Lv w wr fb F (3 + 3 * j) lb L ∧ DownStuck F L ∧ L.dir = nmW ∧ L.last ≤ 1 + j
set_option maxRecDepth 100000 in
set_option maxHeartbeats 8000000 in
theorem l_walStuck (hl : ListsAt w v l 1048576) (n : Int) (_ : -9223372036854775808 ≤ n) (_ : n ≤ 9223372036854775807) :
    Calls Try.prog 10 #[v, .int .i64 n] w fun e w' => e = .returned (.bool true) ∧ Below w.heap.size w w' := by
  have kc := fun (w : World) (C : Array Value) (n c : Nat) => Lib.run_convert_bytes_const (P := Try.prog) w 22 5 C n c Try.underlying22 Try.underlying5
  obtain ⟨a0, cap0, rfl⟩ := hl.rd.shape
  have HL := Lib.hid hl
  have hm : (l.length : Int) ≤ 9223372036854775807 := by have := hl.few; omega
  clear hl
  obtain ⟨N, hN, hN1, hN2⟩ : ∃ N : Int, wrap64 ((wrap64 (n.tmod 9 + 9)).tmod 9 + 1) = N ∧ 1 ≤ N ∧ N ≤ 9 := by
    have t1 : -9 < n.tmod 9 ∧ n.tmod 9 < 9 := ⟨by have := Int.lt_tmod_of_pos n (show (0 : Int) < 9 by omega); omega, Int.tmod_lt_of_pos n (by omega)⟩
    have e1 : wrap64 (n.tmod 9 + 9) = n.tmod 9 + 9 := IntWalk.wrap64_in _ (by omega)
    have t2 : 0 ≤ (n.tmod 9 + 9).tmod 9 ∧ (n.tmod 9 + 9).tmod 9 < 9 := ⟨Int.tmod_nonneg _ (by omega), Int.tmod_lt_of_pos _ (by omega)⟩
    refine ⟨_, rfl, ?_, ?_⟩
    · rw [e1, IntWalk.wrap64_in _ (by omega)]; omega
    · rw [e1, IntWalk.wrap64_in _ (by omega)]; omega
  have HN := Lib.hid (And.intro hN (And.intro hN1 hN2))
  clear hN hN1 hN2
  go_enter Try.func10, Try.ntmps10
  go_wp2_with (fail)
  refine (x_wfirst (w := w)).mono ?_
  rintro e w1 ⟨rfl, hb1⟩
  have HB1 := Lib.hid hb1
  clear hb1
  go_wp2_with (fail)
  refine (x_wfew (HL.out.below HB1.out)).mono ?_
  rintro e w2 ⟨b, rfl, hbf, hb2⟩
  have HB2 : Hid (Below w.heap.size w w2) := Lib.hid (HB1.out.trans (hb2.mono HB1.out.size))
  clear hb2
  cases b with
  | false =>
    go_wp2_with (fail)
    go_ret
    exact ⟨rfl, HB2.out⟩
  | true =>
    have hle : l.length ≤ 60 := hbf rfl
    have HLE := Lib.hid hle
    have hm : (l.length : Int) ≤ 60 := by omega
    clear hbf hle
    go_wp2_with (fail)
    refine (f_new 67108864 (by omega) (by omega)).mono ?_
    rintro e w3 ⟨fb, rfl, hf, hb⟩
    have HF : Hid (Hd w w3 fb (FsS.new 67108864) 0 (New w2 w3 fun _ => False)) := Lib.hid ⟨hf, fun i e => by rcases e with e | e; exact e.elim; have := HB2.out.size; omega, HB2.out.trans (hb.mono HB2.out.size), FsOk.new0 67108864⟩
    clear hf hb
    go_wp2_with (fail)
    refine (w_open HF.out (by omega) nmW (by decide) 64 (fun f l hfl => by show (l + 1 - f) * 0 ≤ _; omega)).mono ?_
    obtain ⟨G, ho, hlog, hcalm, hroom, hused, hfiles⟩ := open_none (F := FsS.new 67108864) (dir := nmW) (size := 64) (segs_new _ _) dirOk_w (by omega) (by omega) rfl rfl (by decide)
    rw [ho]
    rintro e w4 ⟨lv, u, rfl, hO⟩
    obtain ⟨lb, rfl, -, T, -, hlg, hx⟩ := hO.good rfl
    have HL4 : Hid (Lv w w4 fb G 3 lb ⟨nmW, 64, 1, 1, 0, false⟩) := Lib.hid ⟨_, hlg⟩
    have HUP : Hid (G.down = false) := Lib.hid hlog.up
    obtain ⟨au, cu, rfl⟩ := hx.shape
    clear hO hlg hx hlog ho hcalm hroom hused hfiles HF
    go_wp2_with (first | (go_at_call 27; refine (r_num _ _).mono ?_; rintro e w' ⟨rfl, rfl⟩))
    rw [HN.out.1]
    refine (lv_arm HL4.out N (by have := HN.out.2; omega) (by have := HN.out.2; omega)).mono ?_
    rintro e w5 ⟨rfl, hl5⟩
    have HI : Hid (StI w w5 fb lb 0) := Lib.hid ⟨⟨_, _, hl5, (fun hd => absurd (show G.down = true from hd) (by rw [HUP.out]; decide) : DownStuck { G with armed := max N 0 } ⟨nmW, 64, 1, 1, 0, false⟩), rfl, by simp⟩⟩
    clear hl5
    go_wp2_with (fail)
    go_loopw [11] (fun i wr => ∃ j : Nat, j ≤ l.length ∧ i = .int .i64 (j : Int) ∧ Hid (StI w wr fb lb j)) (fun i _ => l.length - (intOf i).toNat)
    case atStart => exact ⟨0, Nat.zero_le _, rfl, HI⟩
    case round =>
      obtain ⟨j, hj, rfl, HX⟩ := hrel
      have fin : ∀ (W : World) (j : Nat), j ≤ 60 → Hid (StI w W fb lb j) → True := fun _ _ _ _ => trivial
      by_cases hlt : j < l.length
      · obtain ⟨r, hr⟩ : ∃ r, l[j]? = some r := ⟨_, List.getElem?_eq_getElem hlt⟩
        obtain ⟨F, L, hLv, hDS, hdir, hlast⟩ := HX.out.ex
        obtain ⟨g, off, cap, a, c, hv, hc, hrd, -, -, hrn⟩ := HL.out.at_ hr
        injection hv with hv _ hv3
        subst hv hv3
        have HRD := Lib.hid hrd
        have hc2 := (hLv.below0.cell (p := ⟨g, off + j, none⟩) (World.block_lt_of_cell? w _ hc)).trans hc
        have HLV := Lib.hid hLv
        have HDL := Lib.hid (And.intro hDS (And.intro hdir hlast))
        have HRN := Lib.hid hrn
        have HJ : Hid (j < 60) := Lib.hid (by have := HLE.out; omega)
        have hk1 : (0 : Int) ≤ (j : Int) := by omega
        have hk2 : (j : Int) < (l.length : Int) := by omega
        clear hLv hDS hdir hlast hrd hc hr hrn fin
        go_wp2_with (fail)
        refine (lv_append HLV.out (by have := HJ.out; omega) (by rw [HDL.out.2.1]; decide) (by have := HDL.out.2.2; have := HJ.out; omega) HRD.out (by have := HRN.out; omega)).mono ?_
        obtain ⟨R, hR⟩ : ∃ R, R = appendL L F r := ⟨_, rfl⟩
        have hdn := appendL_down HDL.out.1 r
        rw [← hR] at hdn ⊢
        rintro e w6 ⟨rfl, h6⟩
        have HNX : Hid (StI w w6 fb lb (j + 1)) := Lib.hid ⟨⟨_, _, by rw [show 3 + 3 * (j + 1) = 3 + 3 * j + 3 by omega]; exact h6, hdn.1, by rw [hdn.2.1]; exact HDL.out.2.1, by have := hdn.2.2; have := HDL.out.2.2; omega⟩⟩
        clear h6 hdn hR
        by_cases h5 : R.2.2 = 5
        · rw [h5]
          go_wp2_with (first | (go_at_call 27; refine (r_num _ _).mono ?_; rintro e w' ⟨rfl, rfl⟩))
          clear HLV HDL
          obtain ⟨F, L, hLv, hDS, hdir, hlast⟩ := HNX.out.ex
          have HDL := Lib.hid (And.intro hdir hlast)
          have HDS := Lib.hid hDS
          have HLV := Lib.hid hLv
          clear hdir hlast hDS hLv
          go_wp2_with (fail)
          refine (lv_down HLV.out).mono ?_
          rintro e w' ⟨rfl, rfl⟩
          cases hdn : F.down with
          | false =>
            have HR : Hid (Below w.heap.size w _) := Lib.hid HLV.out.below0
            clear hdn
            go_wp2_with (fail)
            go_ret
            exact ⟨rfl, HR.out⟩
          | true =>
            have HST : Hid (L.stuck = true) := Lib.hid (HDS.out hdn)
            clear hdn
            go_wp2_with (fail)
            refine (lv_crash_nil HLV.out).mono ?_
            rintro e w6 ⟨rfl, h6⟩
            obtain ⟨G6, hG6⟩ : ∃ G6, G6 = F.crash fun _ _ => 0 := ⟨_, rfl⟩
            rw [← hG6] at h6
            have H6 := Lib.hid h6
            have A1 : Hid (appendL L G6 lit2 = (L, G6, 25)) := Lib.hid (by unfold appendL; rw [if_pos HST.out])
            have A2 : Hid (rotateL L G6 = (L, G6, 25)) := Lib.hid (by unfold rotateL; rw [if_pos HST.out])
            have A3 : Hid (dropLg L G6 1 = (L, G6, 25)) := Lib.hid (by unfold dropLg; rw [if_pos HST.out])
            clear h6 hG6
            go_wp2_with (first | (go_at_call 38; refine (lv_steps H6.out).mono ?_; rintro e w' ⟨rfl, rfl⟩))
            refine (lv_append_lit H6.out (by have := HLE.out; omega) (by rw [HDL.out.1]; decide) (by have := HDL.out.2; have := HLE.out; omega) lit2 (by decide)).mono ?_
            rw [A1.out]
            rintro e w7 ⟨rfl, h7⟩
            have H7 := Lib.hid h7
            clear h7
            go_wp2_with (fail)
            refine (lv_rotate H7.out (by have := HLE.out; omega) (by rw [HDL.out.1]; decide)).mono ?_
            rw [A2.out]
            rintro e w8 ⟨rfl, h8⟩
            have H8 := Lib.hid h8
            clear h8
            go_wp2_with (fail)
            refine (lv_drop H8.out (by have := HLE.out; omega) (by rw [HDL.out.1]; decide) (by have := HDL.out.2; have := HLE.out; omega) 1).mono ?_
            rw [A3.out]
            rintro e w9 ⟨rfl, h9⟩
            have H9 := Lib.hid h9
            clear h9
            go_wp2_with (first | (go_at_call 27; refine (r_num _ _).mono ?_; rintro e w' ⟨rfl, rfl⟩) | (go_at_call 38; refine (lv_steps H9.out).mono ?_; rintro e w' ⟨rfl, rfl⟩))
            have HR : Hid (Below w.heap.size w _) := Lib.hid H9.out.below0
            go_ret
            exact ⟨rfl, HR.out⟩
        · have h51 : (R.2.2 == 5) = false := beq_eq_false_iff_ne.2 h5
          go_wp2_with (first | (go_at_call 27; refine (r_num _ _).mono ?_; rintro e w' ⟨rfl, rfl⟩))
          go_roundw
          case rel => exact ⟨j + 1, by omega, by go_num, HNX⟩
          case measure => simp [intOf]; omega
      · obtain rfl : j = l.length := by omega
        have hk1 : ¬ ((l.length : Int) < (l.length : Int)) := by omega
        obtain ⟨F, L, hLv, hDS, hdir, hlast⟩ := HX.out.ex
        have HDL := Lib.hid (And.intro hdir hlast)
        have HDS := Lib.hid hDS
        have HLV := Lib.hid hLv
        clear hdir hlast hDS hLv
        go_wp2_with (fail)
        refine (lv_down HLV.out).mono ?_
        rintro e w' ⟨rfl, rfl⟩
        cases hdn : F.down with
        | false =>
          have HR : Hid (Below w.heap.size w _) := Lib.hid HLV.out.below0
          clear hdn
          go_wp2_with (fail)
          go_ret
          exact ⟨rfl, HR.out⟩
        | true =>
          have HST : Hid (L.stuck = true) := Lib.hid (HDS.out hdn)
          clear hdn
          go_wp2_with (fail)
          refine (lv_crash_nil HLV.out).mono ?_
          rintro e w6 ⟨rfl, h6⟩
          obtain ⟨G6, hG6⟩ : ∃ G6, G6 = F.crash fun _ _ => 0 := ⟨_, rfl⟩
          rw [← hG6] at h6
          have H6 := Lib.hid h6
          have A1 : Hid (appendL L G6 lit2 = (L, G6, 25)) := Lib.hid (by unfold appendL; rw [if_pos HST.out])
          have A2 : Hid (rotateL L G6 = (L, G6, 25)) := Lib.hid (by unfold rotateL; rw [if_pos HST.out])
          have A3 : Hid (dropLg L G6 1 = (L, G6, 25)) := Lib.hid (by unfold dropLg; rw [if_pos HST.out])
          clear h6 hG6
          go_wp2_with (first | (go_at_call 38; refine (lv_steps H6.out).mono ?_; rintro e w' ⟨rfl, rfl⟩))
          refine (lv_append_lit H6.out (by have := HLE.out; omega) (by rw [HDL.out.1]; decide) (by have := HDL.out.2; have := HLE.out; omega) lit2 (by decide)).mono ?_
          rw [A1.out]
          rintro e w7 ⟨rfl, h7⟩
          have H7 := Lib.hid h7
          clear h7
          go_wp2_with (fail)
          refine (lv_rotate H7.out (by have := HLE.out; omega) (by rw [HDL.out.1]; decide)).mono ?_
          rw [A2.out]
          rintro e w8 ⟨rfl, h8⟩
          have H8 := Lib.hid h8
          clear h8
          go_wp2_with (fail)
          refine (lv_drop H8.out (by have := HLE.out; omega) (by rw [HDL.out.1]; decide) (by have := HDL.out.2; have := HLE.out; omega) 1).mono ?_
          rw [A3.out]
          rintro e w9 ⟨rfl, h9⟩
          have H9 := Lib.hid h9
          clear h9
          go_wp2_with (first | (go_at_call 27; refine (r_num _ _).mono ?_; rintro e w' ⟨rfl, rfl⟩) | (go_at_call 38; refine (lv_steps H9.out).mono ?_; rintro e w' ⟨rfl, rfl⟩))
          have HR : Hid (Below w.heap.size w _) := Lib.hid H9.out.below0
          go_ret
          exact ⟨rfl, HR.out⟩
end
end Go.Proofs.Ythbfkjmpaifblaa
