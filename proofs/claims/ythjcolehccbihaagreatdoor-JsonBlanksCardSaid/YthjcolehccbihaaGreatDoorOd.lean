/- The walk of exlaw7.turned. -/
import Derived.Test.YthjcolehccbihaaGreatDoorNy
import Derived.Test.YthjcolehccbihaaGreatDoorJheld
set_option linter.unusedSectionVars false
set_option linter.unusedSimpArgs false
set_option linter.unusedVariables false
namespace Go.Proofs.YthjcolehccbihaaGreatDoor
open Go.RowKit Go.Shelf

/-- The order in which a value's parts are told. -/
def turnL {α : Type} (k : Int) (l : List α) : List α := if k = 6 then l.reverse else l
def turnP (k : Int) (n i : Nat) : Nat := if k = 6 then n - 1 - i else i
theorem turnL_get {α : Type} (k : Int) (l : List α) {i : Nat} (h : i < l.length) : (turnL k l)[i]? = l[turnP k l.length i]? := by
  unfold turnL turnP
  split
  · rw [List.getElem?_reverse h]
  · rfl
theorem turnL_len {α : Type} (k : Int) (l : List α) : (turnL k l).length = l.length := by
  unfold turnL
  split <;> simp
theorem turnP_lt (k : Int) {n i : Nat} (h : i < n) : turnP k n i < n := by
  unfold turnP
  split <;> omega
def turnN (k : Int) (ns : List ByteArray) : List ByteArray := if k = 6 then ns.reverse else []
theorem turnJ_mk (k : Int) (t : ByteArray) (l : List JV) (ns : List ByteArray) : turnJ (.mk k t l ns) = .mk k t ((turnL k l).map turnJ) (turnN k ns) := by
  unfold turnL turnN
  by_cases h : k = 6
  · subst h; rw [turn_obj, if_pos rfl, if_pos rfl, List.map_reverse]
  · rw [turn_else h, if_neg h, if_neg h]
/-- The contract of turned. -/
def TurnOk (v : JV) : Prop := ∀ (q : RawV) (w : World) (A : Nat → Prop), Neat v → v.Fit → JAt w A v q →
  Calls Tryz.prog 17 #[.agg #[.int .i64 q.k, .string q.t, .slice q.la q.ll q.lc, .slice q.na q.nl q.nc]] w fun e w' => ∃ r : RawV, e = .returned (.agg #[.int .i64 r.k, .string r.t, .slice r.la r.ll r.lc, .slice r.na r.nl r.nc]) ∧ Hid (JAt w' (fun g => w.heap.size ≤ g) (turnJ v) r ∧ Below w.heap.size w w')
theorem text_at {w : World} {a : Option Addr} {cap : Nat} {ns : List ByteArray} (h : RdAt textKind w (.slice a ns.length cap) ns) {i : Nat} {s : ByteArray} (hs : ns[i]? = some s) : ∃ g off, a = some ⟨g, off, none⟩ ∧ ∀ W, Below w.heap.size w W → W.cell? ⟨g, off + i, none⟩ = some (.string s) := by
  obtain ⟨g, off, e, hc⟩ := text_cell h hs
  exact ⟨g, off, e, fun W hW => (hW.cell (p := ⟨g, off + i, none⟩) (World.block_lt_of_cell? w _ hc)).trans hc⟩
section
variable {w : World}
set_option maxRecDepth 100000 in
set_option maxHeartbeats 16000000 in
theorem j_turned1 (k : Int) (t : ByteArray) (l : List JV) (ns : List ByteArray) (ih : ∀ v ∈ l, TurnOk v) : TurnOk (.mk k t l ns) := by
  intro q w A hneat hf hq
  simp only [JAt] at hq
  obtain ⟨hqk, hqt, ⟨hns, -, -⟩, rs, ⟨hrs, -⟩, hl⟩ := hq
  simp only [JV.Fit] at hf
  simp only [Neat, neatAll_iff] at hneat
  obtain ⟨B1, B2, hbb, hzz⟩ := wSame_boxes w q raw0
  have e1 : q.ll = l.length := by
    obtain ⟨_, _, e, _⟩ := hrs
    injection e with _ e _
    rw [e, hl.length]
  have e3 : q.nl = ns.length := by obtain ⟨_, _, e, _⟩ := hns; injection e
  obtain ⟨w1, hw1⟩ : ∃ x, x = wSame w q raw0 := ⟨_, rfl⟩
  rw [← hw1] at B1 B2 hbb hzz
  obtain ⟨qk, qt, la, ll, lc, na, nl, nc⟩ := q
  simp only at hqk hqt e1 e3
  subst hqk hqt e1 e3
  simp only [RawV.lv, RawV.nv] at hns hrs
  obtain ⟨⟨b0, b1, b2, b3⟩, -⟩ := jbox_cells B1
  have HW1 : Hid ((w.alloc (.cells #[.int .i64 qk, .string qt, .slice la l.length lc, .slice na ns.length nc] 25)).alloc (.cells #[.int .i64 0, .string ⟨#[]⟩, .slice none 0 0, .slice none 0 0] 25) = w1) := Lib.hid hw1.symm
  obtain ⟨w2, hw2, HBN⟩ := jbox_new w1 ⟨qk, qt, none, 0, 0, none, 0, 0⟩
  obtain ⟨bx, hbx⟩ : ∃ x, x = w1.heap.size := ⟨_, rfl⟩
  have HO2 : Hid (TurnI w1 w2 bx qk qt [] (.slice none 0 0) (.slice none 0 0) []) := Lib.hid (TurnI.start (by rw [hbx]; exact HBN.out.2) HBN.out.1 (by omega))
  simp only at hw2
  have HW2 := Lib.hid hw2
  have HBX0 := Lib.hid hbx
  have HBB := Lib.hid (And.intro hbb hzz)
  have HBX := Lib.hid (And.intro B1 B2)
  have HRD := Lib.hid (And.intro hns (And.intro hrs hl))
  have HF := Lib.hid hf
  have HNT := Lib.hid hneat
  have HIH := Lib.hid ih
  have hlm : (l.length : Int) ≤ 1000000 := by omega
  clear hw1 hf hns hrs hl hbb hzz B1 B2 ih hneat hw2 hbx HBN
  go_enter Tryz.func17, Tryz.ntmps17
  go_upto_region 1 with (fail)
  rw [HW1.out]
  go_upto_region 2 with (fail)
  rw [HW2.out, ← HBX0.out]
  clear b0 b1 b2 b3
  go_wp2_with (fail)
  go_loopw [4] (fun iv wr => ∃ i : Nat, i ≤ l.length ∧ iv = .int .i64 i ∧ Hid (∃ a1 c1 a2 c2, TurnI w1 wr bx qk qt ((turnN qk ns).take i) (.slice a1 i c1) (.slice a2 ((turnN qk ns).take i).length c2) (((turnL qk l).take i).map turnJ))) (fun iv _ => l.length - (intOf iv).toNat)
  case atStart => exact ⟨0, Nat.zero_le _, rfl, Lib.hid ⟨none, 0, none, 0, by simpa using HO2.out⟩⟩
  case round =>
    obtain ⟨i, hi, rfl, HI⟩ := hrel
    obtain ⟨a1, c1, a2, c2, hOI⟩ := HI.out
    obtain ⟨⟨b0, b1, b2, b3⟩, -⟩ := jbox_cells (jbox_below HBX.out.1 hOI.below)
    have HOI := Lib.hid hOI
    clear hOI HI
    by_cases hlt : i < l.length
    · have j1 : (0 : Int) ≤ (i : Int) := by omega
      have j2 : (i : Int) < (l.length : Int) := by omega
      have hlr : (turnL qk l).length = l.length := turnL_len qk l
      obtain ⟨p, hp⟩ : ∃ p, p = turnP qk l.length i := ⟨_, rfl⟩
      have hpl : p < l.length := by rw [hp]; exact turnP_lt qk hlt
      have hpget : (turnL qk l)[i]? = l[p]? := by rw [hp]; exact turnL_get qk l hlt
      have HP := Lib.hid (And.intro hp (And.intro hpl hpget))
      clear hlr hpget
      go_upto_if 21 with (fail)
      go_cut [5] from 11 to 48 (fun pv wx => pv = .int .i64 (p : Int) ∧ Hid (∃ a2 c2, TurnI w1 wx bx qk qt ((turnN qk ns).take (i + 1)) (.slice a1 i c1) (.slice a2 ((turnN qk ns).take (i + 1)).length c2) (((turnL qk l).take i).map turnJ)))
      case first =>
        by_cases h6 : qk = 6
        · subst h6
          have hnl : ns.length = l.length := HNT.out.1 rfl
          have hpe : (l.length : Int) - 1 - (i : Int) = (p : Int) := by rw [hp]; unfold turnP; rw [if_pos rfl]; omega
          obtain ⟨s, hs⟩ : ∃ s, ns[p]? = some s := ⟨_, List.getElem?_eq_getElem (by omega)⟩
          obtain ⟨ng, noff, e1, hnc⟩ := text_at HRD.out.1 hs
          subst e1
          obtain ⟨NS, hNS⟩ : ∃ x, x = (turnN 6 ns).take i := ⟨_, rfl⟩
          have hNX : (turnN 6 ns).take (i + 1) = NS ++ [s] := by
            rw [hNS, List.take_add_one]
            have : (turnN 6 ns)[i]? = some s := by
              unfold turnN
              rw [if_pos rfl, List.getElem?_reverse (by omega), ← hs, hp]
              unfold turnP
              rw [if_pos rfl, hnl]
            rw [this]
            rfl
          rw [← hNS] at HOI
          have HNX := Lib.hid hNX
          have q1 : (0 : Int) ≤ (p : Int) := by omega
          have q2 : (p : Int) < (ns.length : Int) := by omega
          have HNL : Hid (NS.length + 1 ≤ 1000000) := Lib.hid (by rw [hNS, List.length_take]; unfold turnN; rw [if_pos rfl, List.length_reverse]; omega)
          have hbw1 : ∀ W, Below w1.heap.size w1 W → Below w.heap.size w W := fun W h => HBB.out.1.trans (h.mono HBB.out.1.size)
          have HNC := Lib.hid (And.intro hnc hbw1)
          clear hp hpl hs hnc hNS hNX hbw1 hnl
          go_upto_region 8 with (fail)
          try rw [hpe]
          have HPE := Lib.hid hpe
          clear hpe b0 b1 b2 b3
          have hV : Below wr.heap.size wr wr.drew := (Below.refl _ _).drew
          have hall : ∀ W, Below w1.heap.size w1 W → W.cell? ⟨w.heap.size, 3, none⟩ = some (.slice (some ⟨ng, noff, none⟩) ns.length nc) ∧ W.cell? ⟨ng, noff + p, none⟩ = some (.string s) := fun W h => ⟨(jbox_cells (jbox_below HBX.out.1 h)).1.2.2.2, HNC.out.1 W (HNC.out.2 W h)⟩
          have hT0 : (fun W : World => W.cell? ⟨bx, 3, none⟩ = some (.slice a2 NS.length c2) ∧ W.cell? ⟨w.heap.size, 3, none⟩ = some (.slice (some ⟨ng, noff, none⟩) ns.length nc) ∧ W.cell? ⟨ng, noff + p, none⟩ = some (.string s)) wr.drew := ⟨blk_cell (HOI.out.on hV).box 3, hall _ (HOI.out.on hV).below⟩
          refine wp_region_B (T := fun W : World => W.cell? ⟨bx, 3, none⟩ = some (.slice a2 NS.length c2) ∧ W.cell? ⟨w.heap.size, 3, none⟩ = some (.slice (some ⟨ng, noff, none⟩) ns.length nc) ∧ W.cell? ⟨ng, noff + p, none⟩ = some (.string s)) (B := fun j => decide (j < 9)) (by kernel_rfl) ?_
          generalize wr.drew = V at hV hT0 ⊢
          refine wpAnyB_take (i := 0) (v := ?nv0) rfl (by kernel_rfl) (by kernel_rfl) (by kernel_rfl) (fun _ _ _ h => h) (Or.inl ⟨by rfl, ?ny0⟩) ?ns0
          case ny0 => (intro w; go_simp) <;> with_reducible rfl
          try simp only [Act.put, List.setIfInBounds_toArray, List.set_cons_zero, List.set_cons_succ]
          refine wpAnyB_load (i := 1) (v := ?nv1) rfl (by kernel_rfl) (by kernel_rfl) (by kernel_rfl) (by kernel_rfl) (fun _ _ _ h => h) (Or.inl ⟨by rfl, ?ny1⟩) (by assumption) ?ns1
          case ny1 => (intro w hSw; obtain ⟨u0, u1, u2⟩ := hSw; go_simp) <;> with_reducible rfl
          try simp only [Act.put, List.setIfInBounds_toArray, List.set_cons_zero, List.set_cons_succ]
          refine wpAnyB_take (i := 2) (v := ?nv2) rfl (by kernel_rfl) (by kernel_rfl) (by kernel_rfl) (fun _ _ _ h => h) (Or.inl ⟨by rfl, ?ny2⟩) ?ns2
          case ny2 => (intro w; go_simp) <;> with_reducible rfl
          try simp only [Act.put, List.setIfInBounds_toArray, List.set_cons_zero, List.set_cons_succ]
          refine wpAnyB_load (i := 3) (v := ?nv3) rfl (by kernel_rfl) (by kernel_rfl) (by kernel_rfl) (by kernel_rfl) (fun _ _ _ h => h) (Or.inl ⟨by rfl, ?ny3⟩) (by assumption) ?ns3
          case ny3 => (intro w hSw; obtain ⟨u0, u1, u2⟩ := hSw; go_simp) <;> with_reducible rfl
          try simp only [Act.put, List.setIfInBounds_toArray, List.set_cons_zero, List.set_cons_succ]
          refine wpAnyB_take (i := 4) (v := ?nv4) rfl (by kernel_rfl) (by kernel_rfl) (by kernel_rfl) (fun _ _ _ h => h) (Or.inl ⟨by rfl, ?ny4⟩) ?ns4
          case ny4 => (intro w; go_simp) <;> with_reducible rfl
          try simp only [Act.put, List.setIfInBounds_toArray, List.set_cons_zero, List.set_cons_succ]
          refine wpAnyB_take (i := 5) (v := ?nv5) rfl (by kernel_rfl) (by kernel_rfl) (by kernel_rfl) (fun _ _ _ h => h) (Or.inl ⟨by rfl, ?ny5⟩) ?ns5
          case ny5 => (intro w; go_simp) <;> with_reducible rfl
          try simp only [Act.put, List.setIfInBounds_toArray, List.set_cons_zero, List.set_cons_succ]
          refine wpAnyB_load (i := 6) (v := ?nv6) rfl (by kernel_rfl) (by kernel_rfl) (by kernel_rfl) (by kernel_rfl) (fun _ _ _ h => h) (Or.inl ⟨by rfl, ?ny6⟩) (by assumption) ?ns6
          case ny6 => (intro w hSw; obtain ⟨u0, u1, u2⟩ := hSw; go_simp) <;> with_reducible rfl
          try simp only [Act.put, List.setIfInBounds_toArray, List.set_cons_zero, List.set_cons_succ]
          clear hT0
          have hOV := HOI.out.on hV
          refine wpAnyB_ready (rs := [7]) (by kernel_rfl) (by simp) ?_
          refine AllReadyB.cons (o := { dst := some 35, op := Op.buildSlice 23 1 #[(0, Operand.tmp 34)], type := 23, pos := "law.go:144", after := #[{ on := 6, ground := Ground.data }], guard := none }) rfl (fun K hK => ?_) AllReadyB.nil
          go_simp
          have hal : Below V.heap.size V (V.alloc (.cells #[.string s] 9)) := (Below.refl _ _).alloc (Nat.le_refl _) _
          refine hK.out _ _ (fun _ _ => ⟨blk_cell (hOV.on hal).box 3, hall _ (hOV.on hal).below⟩) ?_
          clear hK K
          try simp only [Act.put, List.setIfInBounds_toArray, List.set_cons_zero, List.set_cons_succ]
          obtain ⟨a', c', V3, hap, hbu, hku, hpush⟩ := HOI.out.pushName hV s HNL.out 23
          refine wpAnyB_ready (rs := [8]) (by kernel_rfl) (by simp) ?_
          refine AllReadyB.cons (o := { dst := some 36, op := Op.call { callee := Callee.builtin Builtin.append, args := #[Operand.tmp 29, Operand.tmp 35], argTypes := #[23, 23] }, type := 23, pos := "law.go:144", after := #[{ on := 1, ground := Ground.data }, { on := 7, ground := Ground.data }], guard := none }) rfl (fun K hK => ?_) AllReadyB.nil
          refine step_append_run rfl (.tmp 29) (.tmp 35) 23 rfl _ _ rfl rfl _ _ hap ?_
          refine hK.out _ _ (fun _ _ => ⟨blk_cell hbu 3, hall _ hku⟩) ?_
          clear hK K
          try simp only [Act.put, List.setIfInBounds_toArray, List.set_cons_zero, List.set_cons_succ]
          refine wpAnyB_take (i := 9) (v := ?nv9) rfl (by kernel_rfl) (by kernel_rfl) (by kernel_rfl) (fun _ _ _ h => h) (Or.inl ⟨by rfl, ?ny9⟩) ?ns9
          case ny9 => (intro w; go_simp) <;> with_reducible rfl
          try simp only [Act.put, List.setIfInBounds_toArray, List.set_cons_zero, List.set_cons_succ]
          have f0 : V3.frozen? ⟨bx, 3, none⟩ = false := blk_free hbu 3
          have f1 : V3.cell? ⟨bx, 3, none⟩ = some (.slice a2 NS.length c2) := blk_cell hbu 3
          refine wpAnyB_ready (rs := [10]) (by kernel_rfl) (by simp) ?_
          refine AllReadyB.cons rfl (fun K hK => ?_) AllReadyB.nil
          go_simp
          refine hK.out _ _ (fun h => by simp at h) ?_
          clear hK K
          try simp only [Act.put, List.setIfInBounds_toArray, List.set_cons_zero, List.set_cons_succ]
          refine wpAnyB_done (by kernel_rfl) ?_ _
          have HN : Hid (∃ a2 c2, TurnI w1 (V3.setCell ⟨bx, 3, none⟩ (.slice a' (NS.length + 1) c')) bx 6 qt ((turnN 6 ns).take (i + 1)) (.slice a1 i c1) (.slice a2 ((turnN 6 ns).take (i + 1)).length c2) (((turnL 6 l).take i).map turnJ)) := Lib.hid ⟨a', c', by rw [HNX.out, List.length_append]; exact hpush⟩
          clear hap hpush hbu hku hOV hal hV hall f0 f1
          go_wp2_with (fail)
          go_meet
          exact ⟨rfl, HN⟩
        · have h6b : (qk == 6) = false := by simp [h6]
          have hpi : p = i := by rw [hp]; unfold turnP; rw [if_neg h6]
          have hn : ∀ j, (turnN qk ns).take j = [] := fun j => by unfold turnN; rw [if_neg h6]; simp
          have HN : Hid (∃ a2 c2, TurnI w1 wr bx qk qt ((turnN qk ns).take (i + 1)) (.slice a1 i c1) (.slice a2 ((turnN qk ns).take (i + 1)).length c2) (((turnL qk l).take i).map turnJ)) := Lib.hid ⟨a2, c2, by rw [hn, ← hn i]; exact HOI.out⟩
          clear hn hp
          subst hpi
          go_wp2_with (fail)
          go_meet
          exact ⟨rfl, HN⟩
      case rest =>
        obtain ⟨rfl, HR⟩ := hcut
        obtain ⟨a2', c2', hRI⟩ := HR.out
        have HRI := Lib.hid hRI
        obtain ⟨x, hx⟩ : ∃ x, l[p]? = some x := ⟨_, List.getElem?_eq_getElem hpl⟩
        obtain ⟨r, hr, hjr⟩ := HRD.out.2.2.get hx
        have hrd2 := HRD.out.2.1
        obtain ⟨lg, loff, e1, -⟩ := raw_cells hrd2 hr
        subst e1
        have hbw1 : ∀ W, Below w1.heap.size w1 W → Below w.heap.size w W := fun W h => HBB.out.1.trans (h.mono HBB.out.1.size)
        have hrc : ∀ W, Below w1.heap.size w1 W → (W.cell? ⟨lg, loff + p * 4, none⟩ = some (.int .i64 r.k) ∧ W.cell? ⟨lg, loff + p * 4 + 1, none⟩ = some (.string r.t) ∧ W.cell? ⟨lg, loff + p * 4 + 2, none⟩ = some (.slice r.la r.ll r.lc) ∧ W.cell? ⟨lg, loff + p * 4 + 3, none⟩ = some (.slice r.na r.nl r.nc)) := fun W h => raw_cells_at (hrd2.below (hbw1 W h)) hr
        have HRC := Lib.hid (And.intro hrc hbw1)
        have HX := Lib.hid (And.intro hx hjr)
        have q1 : (0 : Int) ≤ (p : Int) := by omega
        have q2 : (p : Int) < (l.length : Int) := by omega
        have HLT := Lib.hid (And.intro hlt hi)
        clear hRI HR hx hr hjr hrd2 hrc hbw1 hp hpl b0 b1 b2 b3
        go_upto_region 9 with (fail)
        have hV : Below wc.heap.size wc wc.drew := (Below.refl _ _).drew
        have hall : ∀ W, Below w1.heap.size w1 W → W.cell? ⟨w.heap.size, 2, none⟩ = some (.slice (some ⟨lg, loff, none⟩) l.length lc) ∧ (W.cell? ⟨lg, loff + p * 4, none⟩ = some (.int .i64 r.k) ∧ W.cell? ⟨lg, loff + p * 4 + 1, none⟩ = some (.string r.t) ∧ W.cell? ⟨lg, loff + p * 4 + 2, none⟩ = some (.slice r.la r.ll r.lc) ∧ W.cell? ⟨lg, loff + p * 4 + 3, none⟩ = some (.slice r.na r.nl r.nc)) := fun W h => ⟨(jbox_cells (jbox_below HBX.out.1 h)).1.2.2.1, HRC.out.1 W h⟩
        have hT0 : (fun W : World => W.cell? ⟨bx, 2, none⟩ = some (.slice a1 i c1) ∧ W.cell? ⟨w.heap.size, 2, none⟩ = some (.slice (some ⟨lg, loff, none⟩) l.length lc) ∧ (W.cell? ⟨lg, loff + p * 4, none⟩ = some (.int .i64 r.k) ∧ W.cell? ⟨lg, loff + p * 4 + 1, none⟩ = some (.string r.t) ∧ W.cell? ⟨lg, loff + p * 4 + 2, none⟩ = some (.slice r.la r.ll r.lc) ∧ W.cell? ⟨lg, loff + p * 4 + 3, none⟩ = some (.slice r.na r.nl r.nc))) wc.drew := ⟨blk_cell (HRI.out.on hV).box 2, hall _ (HRI.out.on hV).below⟩
        refine wp_region_B (T := fun W : World => W.cell? ⟨bx, 2, none⟩ = some (.slice a1 i c1) ∧ W.cell? ⟨w.heap.size, 2, none⟩ = some (.slice (some ⟨lg, loff, none⟩) l.length lc) ∧ (W.cell? ⟨lg, loff + p * 4, none⟩ = some (.int .i64 r.k) ∧ W.cell? ⟨lg, loff + p * 4 + 1, none⟩ = some (.string r.t) ∧ W.cell? ⟨lg, loff + p * 4 + 2, none⟩ = some (.slice r.la r.ll r.lc) ∧ W.cell? ⟨lg, loff + p * 4 + 3, none⟩ = some (.slice r.na r.nl r.nc))) (B := fun j => decide (j < 10)) (by kernel_rfl) ?_
        generalize wc.drew = V at hV hT0 ⊢
        refine wpAnyB_take (i := 0) (v := ?mv0) rfl (by kernel_rfl) (by kernel_rfl) (by kernel_rfl) (fun _ _ _ h => h) (Or.inl ⟨by rfl, ?my0⟩) ?ms0
        case my0 => (intro w; go_simp) <;> with_reducible rfl
        try simp only [Act.put, List.setIfInBounds_toArray, List.set_cons_zero, List.set_cons_succ]
        refine wpAnyB_load (i := 1) (v := ?mv1) rfl (by kernel_rfl) (by kernel_rfl) (by kernel_rfl) (by kernel_rfl) (fun _ _ _ h => h) (Or.inl ⟨by rfl, ?my1⟩) (by assumption) ?ms1
        case my1 => (intro w hSw; obtain ⟨u0, u1, ⟨u2, u3, u4, u5⟩⟩ := hSw; go_simp) <;> with_reducible rfl
        try simp only [Act.put, List.setIfInBounds_toArray, List.set_cons_zero, List.set_cons_succ]
        refine wpAnyB_take (i := 2) (v := ?mv2) rfl (by kernel_rfl) (by kernel_rfl) (by kernel_rfl) (fun _ _ _ h => h) (Or.inl ⟨by rfl, ?my2⟩) ?ms2
        case my2 => (intro w; go_simp) <;> with_reducible rfl
        try simp only [Act.put, List.setIfInBounds_toArray, List.set_cons_zero, List.set_cons_succ]
        refine wpAnyB_load (i := 3) (v := ?mv3) rfl (by kernel_rfl) (by kernel_rfl) (by kernel_rfl) (by kernel_rfl) (fun _ _ _ h => h) (Or.inl ⟨by rfl, ?my3⟩) (by assumption) ?ms3
        case my3 => (intro w hSw; obtain ⟨u0, u1, ⟨u2, u3, u4, u5⟩⟩ := hSw; go_simp) <;> with_reducible rfl
        try simp only [Act.put, List.setIfInBounds_toArray, List.set_cons_zero, List.set_cons_succ]
        refine wpAnyB_take (i := 4) (v := ?mv4) rfl (by kernel_rfl) (by kernel_rfl) (by kernel_rfl) (fun _ _ _ h => h) (Or.inl ⟨by rfl, ?my4⟩) ?ms4
        case my4 => (intro w; go_simp) <;> with_reducible rfl
        try simp only [Act.put, List.setIfInBounds_toArray, List.set_cons_zero, List.set_cons_succ]
        refine wpAnyB_take (i := 5) (v := ?mv5) rfl (by kernel_rfl) (by kernel_rfl) (by kernel_rfl) (fun _ _ _ h => h) (Or.inl ⟨by rfl, ?my5⟩) ?ms5
        case my5 => (intro w; go_simp) <;> with_reducible rfl
        try simp only [Act.put, List.setIfInBounds_toArray, List.set_cons_zero, List.set_cons_succ]
        refine wpAnyB_load (i := 6) (v := ?mv6) rfl (by kernel_rfl) (by kernel_rfl) (by kernel_rfl) (by kernel_rfl) (fun _ _ _ h => h) (Or.inl ⟨by rfl, ?my6⟩) (by assumption) ?ms6
        case my6 => (intro w hSw; obtain ⟨u0, u1, ⟨u2, u3, u4, u5⟩⟩ := hSw; go_simp) <;> with_reducible rfl
        try simp only [Act.put, List.setIfInBounds_toArray, List.set_cons_zero, List.set_cons_succ]
        clear hT0
        have hOV := HRI.out.on hV
        have HTU := Lib.hid (HIH.out x (List.mem_of_getElem? HX.out.1) r V A (HNT.out.2 x (List.mem_of_getElem? HX.out.1)) (FitAll.mem HF.out.2.2.2.2 x (List.mem_of_getElem? HX.out.1)) (HX.out.2.below (HRC.out.2 V hOV.below)))
        refine wpAnyB_ready (rs := [7]) (by kernel_rfl) (by simp) ?_
        refine AllReadyB.cons (o := { dst := some 45, op := Op.call { callee := Callee.value (Operand.func 17), args := #[Operand.tmp 44], argTypes := #[25] }, type := 25, pos := "law.go:146", after := #[{ on := 6, ground := Ground.data }], guard := none }) rfl (fun K hK => ?_) AllReadyB.nil
        go_simp
        go_at_call 17
        refine HTU.out.mono ?_
        rintro e V2 ⟨q2, rfl, HQ⟩
        have hO2 := hOV.on HQ.out.2
        refine hK.out _ _ (fun _ _ => ⟨blk_cell hO2.box 2, hall _ hO2.below⟩) ?_
        clear hK K
        try simp only [Act.put, List.setIfInBounds_toArray, List.set_cons_zero, List.set_cons_succ]
        refine wpAnyB_ready (rs := [8]) (by kernel_rfl) (by simp) ?_
        refine AllReadyB.cons (o := { dst := some 46, op := Op.buildSlice 22 1 #[(0, Operand.tmp 45)], type := 22, pos := "law.go:146", after := #[{ on := 7, ground := Ground.data }], guard := none }) rfl (fun K hK => ?_) AllReadyB.nil
        go_simp
        have hal : Below V2.heap.size V2 (V2.alloc (.cells #[.int .i64 q2.k, .string q2.t, .slice q2.la q2.ll q2.lc, .slice q2.na q2.nl q2.nc] 25)) := (Below.refl _ _).alloc (Nat.le_refl _) _
        refine hK.out _ _ (fun _ _ => ⟨blk_cell (hO2.on hal).box 2, hall _ (hO2.on hal).below⟩) ?_
        clear hK K
        try simp only [Act.put, List.setIfInBounds_toArray, List.set_cons_zero, List.set_cons_succ]
        have htl : (((turnL qk l).take i).map turnJ).length = i := by rw [List.length_map, List.length_take, turnL_len]; have := HLT.out.1; omega
        obtain ⟨a', c', V3, hap, hbu, hku, hpush⟩ := hOV.push HQ.out.2 HQ.out.1 (by rw [htl]; have := HLT.out.1; omega) #[.int .i64 q2.k, .string q2.t, .slice q2.la q2.ll q2.lc, .slice q2.na q2.nl q2.nc] rfl 22
        rw [htl] at hap hpush
        refine wpAnyB_ready (rs := [9]) (by kernel_rfl) (by simp) ?_
        refine AllReadyB.cons (o := { dst := some 47, op := Op.call { callee := Callee.builtin Builtin.append, args := #[Operand.tmp 39, Operand.tmp 46], argTypes := #[22, 22] }, type := 22, pos := "law.go:146", after := #[{ on := 1, ground := Ground.data }, { on := 8, ground := Ground.data }, { on := 7, ground := Ground.chain }], guard := none }) rfl (fun K hK => ?_) AllReadyB.nil
        refine step_append_run rfl (.tmp 39) (.tmp 46) 22 rfl _ _ rfl rfl _ _ hap ?_
        refine hK.out _ _ (fun _ _ => ⟨blk_cell hbu 2, hall _ hku⟩) ?_
        clear hK K
        try simp only [Act.put, List.setIfInBounds_toArray, List.set_cons_zero, List.set_cons_succ]
        refine wpAnyB_take (i := 10) (v := ?mv10) rfl (by kernel_rfl) (by kernel_rfl) (by kernel_rfl) (fun _ _ _ h => h) (Or.inl ⟨by rfl, ?my10⟩) ?ms10
        case my10 => (intro w; go_simp) <;> with_reducible rfl
        try simp only [Act.put, List.setIfInBounds_toArray, List.set_cons_zero, List.set_cons_succ]
        have f0 : V3.frozen? ⟨bx, 2, none⟩ = false := blk_free hbu 2
        have f1 : V3.cell? ⟨bx, 2, none⟩ = some (.slice a1 i c1) := blk_cell hbu 2
        refine wpAnyB_ready (rs := [11]) (by kernel_rfl) (by simp) ?_
        refine AllReadyB.cons rfl (fun K hK => ?_) AllReadyB.nil
        go_simp
        refine hK.out _ _ (fun h => by simp at h) ?_
        clear hK K
        try simp only [Act.put, List.setIfInBounds_toArray, List.set_cons_zero, List.set_cons_succ]
        refine wpAnyB_done (by kernel_rfl) ?_ _
        have HNX : Hid (TurnI w1 (V3.setCell ⟨bx, 2, none⟩ (.slice a' (i + 1) c')) bx qk qt ((turnN qk ns).take (i + 1)) (.slice a' (i + 1) c') (.slice a2' ((turnN qk ns).take (i + 1)).length c2') (((turnL qk l).take (i + 1)).map turnJ)) := Lib.hid (by
          rw [List.take_add_one (i := i) (l := turnL qk l), HP.out.2.2, HX.out.1, List.map_append]
          exact hpush)
        clear hap hpush hbu hku hO2 hOV hal hV hall f0 f1 htl
        go_wp2_with (fail)
        go_roundw
        case rel => exact ⟨i + 1, by have := HLT.out.1; omega, by go_num, Lib.hid ⟨a', c', a2', c2', HNX.out⟩⟩
        case measure => simp [intOf]; have := HLT.out.1; omega
    · have j2 : ¬ (i : Int) < (l.length : Int) := by omega
      have hik : i = l.length := by omega
      have ht : ((turnL qk l).take i).map turnJ = (turnL qk l).map turnJ := by rw [List.take_of_length_le (by rw [turnL_len]; omega)]
      have hn : (turnN qk ns).take i = turnN qk ns := List.take_of_length_le (by
        unfold turnN
        split
        · rename_i h6; rw [List.length_reverse]; have := HNT.out.1 h6; omega
        · simp)
      have hOI : TurnI w1 wr bx qk qt (turnN qk ns) (.slice a1 i c1) (.slice a2 (turnN qk ns).length c2) ((turnL qk l).map turnJ) := by
        have := HOI.out
        rw [ht, hn] at this
        exact this
      rw [hn] at HOI
      have hB2 := jbox_below HBX.out.2 hOI.below
      obtain ⟨⟨p0, p1, p2, p3⟩, z0, z1, z2, z3⟩ := jbox_cells hB2
      obtain ⟨⟨s0, s1, s2, s3⟩, -⟩ := jbox_cells (r := ⟨qk, qt, a1, i, c1, a2, (turnN qk ns).length, c2⟩) (show JBox wr bx ⟨qk, qt, a1, i, c1, a2, (turnN qk ns).length, c2⟩ from hOI.box)
      clear ht hn HOI hik
      go_wp2_with (fail)
      have hk := keeps4 wr (w.heap.size + 1) (.int .i64 qk) (.string qt) (.slice a1 i c1) (.slice a2 (turnN qk ns).length c2)
      have hbw : Below w.heap.size w wr := HBB.out.1.trans (hOI.below.mono HBB.out.1.size)
      refine bodyPost_ret (v := (⟨qk, qt, a1, i, c1, a2, (turnN qk ns).length, c2⟩ : RawV).val) (jres_cell rfl (jbox_set hB2 ⟨qk, qt, a1, i, c1, a2, (turnN qk ns).length, c2⟩) _ rfl) rfl ⟨⟨qk, qt, a1, i, c1, a2, (turnN qk ns).length, c2⟩, rfl, Lib.hid ⟨?_, ?_⟩⟩
      · rw [turnJ_mk]
        exact (hOI.fin.keeps hk (fun g hg e => by have e : g = w.heap.size + 1 := e; have := HBB.out.2; omega)).mono (fun g hg => by have := HBB.out.2; omega)
      · exact below_keeps hbw hk (fun i e => by have e : i = w.heap.size + 1 := e; omega) hbw.size
theorem j_turned (v : JV) : TurnOk v := JV.ind (P := TurnOk) (fun k t l ns ih => j_turned1 k t l ns ih) v
end
end Go.Proofs.YthjcolehccbihaaGreatDoor
