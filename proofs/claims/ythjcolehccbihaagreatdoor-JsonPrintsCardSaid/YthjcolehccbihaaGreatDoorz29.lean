/- The walk of an object's members laid. -/
import Derived.Test.YthjcolehccbihaaGreatDoorz28
namespace Go.Proofs.YthjcolehccbihaaGreatDoor
open Go.RowKit Go.Shelf Go.Sort
theorem infoInt : (Tryz.prog.info? 3).map (fun i => (i.zero, i.size, i.bytes)) = some (some (.int .i64 0), 1, 8) := by kernel_rfl
theorem ownsRow_prk {W W' : World} {B b base : Nat} {e : TypeId} {size n : Nat} {v : Value} {xs : List Value} (h : W.ownsRow base e size v n xs) (hk : PrK B b W W') (he : e ≠ 5) (hb : b < base) : W'.ownsRow base e size v n xs := by
  refine ⟨h.1, ?_⟩
  rcases h.2 with h2 | ⟨g, cap, cur, rfl, hg, hgb, r⟩
  · exact .inl h2
  · exact .inr ⟨g, cap, cur, rfl, hg, hk.blk hgb he (by omega), r⟩
/-- The mark ahead of the next part. -/
def sepOf (P : List (List UInt8)) (i : Nat) : List UInt8 := if i = 0 then [] else commas (P.take i) ++ [44]
theorem commas_step {P : List (List UInt8)} {i : Nat} {x : List UInt8} (h : P[i]? = some x) : sepOf P i ++ x = commas (P.take (i + 1)) ∧ (sepOf P i).length + x.length ≤ (commas P).length := by
  have hi := (List.getElem?_eq_some_iff.1 h).1
  have h1 : sepOf P i ++ x = commas (P.take (i + 1)) := by
    unfold sepOf
    rw [List.take_add_one, h, Option.toList_some, commas_snoc]
    by_cases h0 : i = 0
    · subst h0; simp
    · rw [if_neg h0, if_neg (by intro e; have h3 := congrArg List.length e; rw [List.length_take, List.length_nil] at h3; omega)]; simp
  refine ⟨h1, ?_⟩
  obtain ⟨r, hr⟩ := commas_app (P.take (i + 1)) (P.drop (i + 1))
  rw [List.take_append_drop] at hr
  rw [hr, ← h1]
  simp only [List.length_append]
  omega
/-- What is laid between the braces. -/
def pieces (l : List JV) (ns : List ByteArray) (h : ns.length = l.length) : List (List UInt8) := (ordN ns).map fun i => layPair (raw ns[i], lay (l[i.val]'(by omega)))
theorem lay_pieces {t : ByteArray} {l : List JV} {ns : List ByteArray} (h : ns.length = l.length) (hd : (ns.map raw).Nodup) : lay (.mk 6 t l ns) = 123 :: (commas (pieces l ns h) ++ [125]) := by
  have hl : (layAll l).length = ns.length := by rw [layAll_eq]; simp [h]
  have h2 : lay (.mk 6 t l ns) = 123 :: (commas ((sortP ((ns.map raw).zip (layAll l))).map layPair) ++ [125]) := by unfold lay; simp
  rw [h2, ← ordN_pair (layAll l) hl hd, List.map_map]
  congr 3
  unfold pieces
  congr 1
  funext i
  simp [layAll_eq]
section
variable {w : World}
set_option maxRecDepth 100000 in
set_option maxHeartbeats 8000000 in
theorem j_layMembers (d : Nat) (t : ByteArray) (l : List JV) (ns : List ByteArray) (ih : ∀ v ∈ l, LayOk v) (q : RawV) (w : World) (B b : Nat) (p : List UInt8) (hc : chk d (.mk 6 t l ns) = 0) (hf : (JV.mk 6 t l ns).Fit) (hj : JAt w (fun g => g < B) (.mk 6 t l ns) q)
    (hp : Prn B b p w) (hB : B ≤ w.heap.size) (hlen : p.length + (lay (.mk 6 t l ns)).length ≤ 1000000000) :
    Calls Tryz.prog 67 #[.pointer (some ⟨b, 0, none⟩), .agg #[.int .i64 q.k, .string q.t, .slice q.la q.ll q.lc, .slice q.na q.nl q.nc]] w fun e w' => e = .returned (.tuple #[]) ∧ Prn B b (p ++ lay (.mk 6 t l ns)) w' ∧ PrK B b w w' := by
  have hown := (chk_parts hc (by decide)).1
  have hall := (chk_parts hc (by decide)).2
  have hnl : ns.length = l.length ∧ (ns.map raw).Nodup := by
    unfold chkOwn at hown
    rw [if_neg (by decide), if_neg (fun h => absurd h.1 (by decide)), if_neg (fun h => absurd h.1 (by decide))] at hown
    by_cases h1 : (ns.all fun s => valid (raw s)) = false
    · rw [if_pos ⟨rfl, h1⟩] at hown; cases hown
    rw [if_neg (fun h => h1 h.2)] at hown
    by_cases h2 : ns.length = l.length
    · rw [if_neg (fun h => h.2 h2), if_neg (by decide)] at hown
      refine ⟨h2, (distinct_nodup _).1 ?_⟩
      by_cases h3 : 32 ≤ d
      · rw [if_pos h3] at hown; cases hown
      by_cases h4 : 1000 < l.length
      · rw [if_neg h3, if_pos h4] at hown; cases hown
      rw [if_neg h3, if_neg h4] at hown
      cases h5 : distinct (ns.map raw) with
      | true => rfl
      | false => rw [h5, if_pos ⟨rfl, rfl⟩] at hown; cases hown
    · rw [if_pos ⟨rfl, h2⟩] at hown; cases hown
  have HJ := Lib.hid hj
  simp only [JAt] at hj
  obtain ⟨hqk, hqt, ⟨hns, -⟩, rs, ⟨hrs, -⟩, hl⟩ := hj
  simp only [JV.Fit] at hf
  obtain ⟨qk, qt, la, ll, lc, na, nl, nc⟩ := q
  simp only [RawV.lv, RawV.nv] at hqk hqt hrs hns
  subst hqk hqt
  have hll : ll = l.length := by obtain ⟨_, _, e, _⟩ := hrs; injection e with _ e _; rw [e, hl.length]
  have hnl2 : nl = ns.length := by obtain ⟨_, _, e, _⟩ := hns; injection e
  subst hll hnl2
  clear hrs hl rs hns
  obtain ⟨w1, hw1, HBX⟩ := jbox_new w ⟨6, qt, la, l.length, lc, na, ns.length, nc⟩
  have HW1 := Lib.hid hw1
  have HF := Lib.hid hf
  have HXB := Lib.hid (show w.heap.size ≠ b from by have := hp.lt; omega)
  have HP1 : Hid (Prn B b p w1 ∧ B ≤ w1.heap.size ∧ PrK B b w w1) := Lib.hid ⟨hp.below HBX.out.1, Nat.le_trans hB HBX.out.1.size, PrK.of_below HBX.out.1 hB⟩
  have HBB := Lib.hid hB
  have HALL := Lib.hid hall
  have HNL := Lib.hid hnl
  have HIH := Lib.hid ih
  have HLEN := Lib.hid hlen
  obtain ⟨⟨b0, b1, b2, b3⟩, -⟩ := jbox_cells HBX.out.2
  clear hc hf hp hB hlen hw1 hall ih hown hnl
  obtain ⟨i0, hi, hz, hs, hby⟩ := info_parts infoInt
  have HIN := Lib.hid (And.intro hi (And.intro hz (And.intro hs hby)))
  clear hi hz hs hby
  go_enter Tryz.func67, Tryz.ntmps67
  go_upto_region 1 with (fail)
  rw [show w.alloc (.cells #[.int .i64 6, .string qt, .slice la l.length lc, .slice na ns.length nc] 25) = w1 from HW1.out]
  go_upto_region 3 with (fail)
  clear b0 b1 b2 b3
  go_loopg [4, 11] (ns.length + 1) (fun gk u s wx => ∃ i : Nat, gk = ns.length - i + 1 ∧ i ≤ ns.length ∧ s = .int .i64 (i : Int) ∧ Hid (wx.ownsRow w1.heap.size 3 1 u i (idxs i) ∧ Below w1.heap.size w1 wx))
  case atStart => exact ⟨0, rfl, Nat.zero_le _, rfl, Lib.hid ⟨⟨rfl, .inl ⟨rfl, rfl⟩⟩, Below.refl _ _⟩⟩
  case round =>
    obtain ⟨i, rfl, hi, rfl, HR⟩ := hrel
    by_cases hlt : i < ns.length
    · have ht1 : decide (i < ns.length) = true := by simpa using hlt
      have hn := HF.out.2.1
      have hw64 : wrap64 ((i : Int) + 1) = (i : Int) + 1 := by unfold wrap64; omega
      have hb := HR.out.2.size
      have HL := Lib.hid hlt
      have HI := Lib.hid (show i + 1 ≤ 1000000 by omega)
      clear hlt hi hn
      go_wp2_with (at_builtin; refine wpList_append_own _ rfl _ _ 52 rfl w1.heap.size 3 i0 (.int .i64 0) 1 8 Tryz.underlying52 HIN.out.1 HIN.out.2.1 HIN.out.2.2.1 HIN.out.2.2.2 rfl (by decide) _ _ _ rfl (HR.out.1.alloc _) ⟨wr.heap.size, 0, none⟩ 1 1 [.int .i64 (i : Int)] rfl rfl (cell_one_new _ _ _) (by simp [Value.oneCell']) (by have := HI.out; unfold maxLen; omega) (by have := HI.out; omega) (by simp; omega) ?_)
      intro v' w2 hown' hgrow _
      have HR2 : Hid (w2.ownsRow w1.heap.size 3 1 v' (i + 1) (idxs (i + 1)) ∧ Below w1.heap.size w1 w2) := Lib.hid ⟨by rw [idxs_succ]; exact hown', (HR.out.2.alloc hb _).grown hgrow (by simp; omega) (fun k hk => (own_kind HR.out.1 k hk).1)⟩
      obtain ⟨g, cap, rfl⟩ : ∃ g cap, v' = .slice (some ⟨g, 0, none⟩) (i + 1) cap := by
        rcases hown'.2 with ⟨_, h0⟩ | ⟨g, cap, cur, hv, _⟩
        · omega
        · exact ⟨g, cap, hv⟩
      clear hown' hgrow hb
      go_wp2_with (fail)
      go_roundg (ns.length - (i + 1) + 1)
      case measure => have := HL.out; omega
      case rel => exact ⟨i + 1, rfl, HL.out, by rw [hw64]; rfl, HR2⟩
    · have ht1 : decide (i < ns.length) = false := by simpa using hlt
      have hi2 : i = ns.length := by omega
      subst hi2
      have hjr := (HJ.out.below HBX.out.1).below HR.out.2
      simp only [JAt, RawV.nv] at hjr
      obtain ⟨-, -, ⟨hns, hnb, -⟩, -⟩ := hjr
      have HX := Lib.hid (jbox_below HBX.out.2 HR.out.2)
      have HS := Lib.hid (s_sortIdx HR.out.1 (jbox_cells HX.out).1.2.2.2 (lt_of_block HBX.out.2) hns (fun g h1 h2 => Nat.lt_of_lt_of_le (hnb h2 g h1) HP1.out.2.1) HF.out.2.1 HNL.out.2)
      clear hlt hi hns hnb
      go_wp2_with (fail)
      refine HS.out.mono ?_
      rintro e w3 ⟨rfl, hrow3, hg3⟩
      have HR3 : Hid (w3.ownsRow w1.heap.size 3 1 u4 ns.length ((ordN ns).map encF) ∧ Below w1.heap.size w1 w3) := Lib.hid ⟨hrow3, HR.out.2.grown hg3 HR.out.2.size (fun k hk => (own_kind HR.out.1 k hk).1)⟩
      clear hrow3 hg3 HS HX
      have HP3 : Hid (Prn B b p w3 ∧ PrK B b w w3) := Lib.hid ⟨HP1.out.1.below HR3.out.2, HP1.out.2.2.trans (PrK.of_below HR3.out.2 HP1.out.2.1)⟩
      have HT := Lib.hid (pr_byte 123 HP3.out.1 (by have := HLEN.out; omega) (Nat.le_trans HBB.out HP3.out.2.size))
      go_wp2_with (fail)
      refine HT.out.mono ?_
      rintro e w4 ⟨rfl, hp4, hk4⟩
      have HP4 := Lib.hid (And.intro hp4 hk4)
      clear hp4 hk4
      have HR4 : Hid (w4.ownsRow w1.heap.size 3 1 u4 ns.length ((ordN ns).map encF) ∧ PrK B b w w4) := Lib.hid ⟨ownsRow_prk HR3.out.1 HP4.out.2 (by decide) (by have := HP1.out.1.lt; omega), HP3.out.2.trans HP4.out.2⟩
      obtain ⟨ua, uc, hu⟩ : ∃ a c, u4 = .slice a ns.length c := by
        rcases HR4.out.1.2 with ⟨h1, h2⟩ | ⟨g, cap, cur, h1, _⟩
        · exact ⟨_, _, by rw [h1, h2]⟩
        · exact ⟨_, _, h1⟩
      subst hu
      go_upto_region 10 with (fail)
      go_loopg [28] (ns.length + 1) (fun gk s wx => ∃ i : Nat, gk = ns.length - i + 1 ∧ i ≤ ns.length ∧ s = .int .i64 (i : Int) ∧ Hid (Prn B b (p ++ 123 :: commas ((pieces l ns HNL.out.1).take i)) wx ∧ PrK B b w wx ∧ PrK B b w1 wx ∧ wx.ownsRow w1.heap.size 3 1 (.slice ua ns.length uc) ns.length ((ordN ns).map encF)))
      case atStart => exact ⟨0, rfl, Nat.zero_le _, rfl, Lib.hid ⟨by have := HP4.out.1; simpa [commas] using this, HR4.out.2, (PrK.of_below HR3.out.2 HP1.out.2.1).trans HP4.out.2, HR4.out.1⟩⟩
      case round =>
        obtain ⟨i, rfl, hi, rfl, HL⟩ := hrel
        have HX := Lib.hid (HL.out.2.2.1.blk HBX.out.2 (by decide) HXB.out)
        by_cases hlt : i < ns.length
        · have ht1 : decide (i < ns.length) = true := by simpa using hlt
          have ht2 : (i : Int) < (ns.length : Int) := by omega
          have hol : (ordN ns).length = ns.length := by simp [ordN]
          obtain ⟨x, hx⟩ : ∃ x, (ordN ns)[i]? = some x := ⟨_, List.getElem?_eq_getElem (by omega)⟩
          obtain ⟨g, rfl⟩ : ∃ g, ua = some ⟨g, 0, none⟩ := by
            rcases HL.out.2.2.2.2 with ⟨_, h2⟩ | ⟨g, cap, cur, h1, _⟩
            · omega
            · injection h1 with h1 _ _; exact ⟨g, h1⟩
          have c0 : wr.cell? ⟨g, i, none⟩ = some (.int .i64 (x.val : Int)) := by
            have := HL.out.2.2.2.cells (g := g) rfl i (encF x) (by simp [hx])
            have e2 : (⟨g, 0, none⟩ : Addr).add i = ⟨g, i, none⟩ := by
              unfold Addr.add
              by_cases h0 : i = 0
              · simp [h0]
              · simp [h0]
            rw [e2] at this
            exact this
          have hw64 : wrap64 ((i : Int) + 1) = (i : Int) + 1 := by have := HF.out.2.1; unfold wrap64; omega
          have hxl : x.val < l.length := by have := HNL.out.1; have := x.isLt; omega
          obtain ⟨nm, hnm⟩ : ∃ nm, ns[x.val]? = some nm := ⟨_, List.getElem?_eq_getElem x.isLt⟩
          obtain ⟨v, hv⟩ : ∃ v, l[x.val]? = some v := ⟨_, List.getElem?_eq_getElem hxl⟩
          have hpc : (pieces l ns HNL.out.1)[i]? = some (layPair (raw nm, lay v)) := by
            unfold pieces
            rw [List.getElem?_map, hx]
            rw [List.getElem?_eq_getElem x.isLt] at hnm
            rw [List.getElem?_eq_getElem hxl] at hv
            have e1 := Option.some.inj hnm
            have e2 := Option.some.inj hv
            simp [e1, e2]
          have HPC := Lib.hid (And.intro hnm (And.intro hv hpc))
          have HLT := Lib.hid hlt
          obtain ⟨PCS, hPCS⟩ : ∃ z, z = pieces l ns HNL.out.1 := ⟨_, rfl⟩
          have HST := Lib.hid (commas_step hpc)
          have HLN : Hid (p.length + 1 + (sepOf (pieces l ns HNL.out.1) i).length + (layPair (raw nm, lay v)).length + 1 ≤ 1000000000) := Lib.hid (by
            have h1 := HLEN.out
            rw [lay_pieces HNL.out.1 HNL.out.2] at h1
            have h2 := HST.out.2
            simp only [List.length_cons, List.length_append, List.length_nil] at h1
            omega)
          rw [← hPCS] at HST HLN
          have HPB : Hid (Prn B b (p ++ 123 :: commas (PCS.take i)) wr) := Lib.hid (by rw [hPCS]; exact HL.out.1)
          have HPQ := Lib.hid hPCS
          have HBW : Hid (B ≤ wr.heap.size) := Lib.hid (Nat.le_trans HBB.out HL.out.2.1.size)
          clear hPCS hpc hnm hv hxl hlt hi hol hx
          go_upto_region 12 with (fail)
          clear c0
          go_upto_if 34 with (fail)
          go_cut [] (fun wx => ∃ w6, w6 = wx ∧ Hid (Prn B b (p ++ 123 :: sepOf PCS i) w6 ∧ PrK B b wr w6))
          case first =>
            go_wp2_with (fail)
            · have h0 : ¬ i = 0 := by omega
              have HT2 := Lib.hid (pr_byte 44 HPB.out (by have := HLN.out; unfold sepOf at this; rw [if_neg h0] at this; simp at this ⊢; omega) HBW.out)
              refine HT2.out.mono ?_
              rintro e w6 ⟨rfl, hp6, hk6⟩
              have HP6 := Lib.hid (And.intro hp6 hk6)
              have H0 := Lib.hid h0
              clear hp6 hk6 h0
              go_wp2_with (fail)
              go_meet
              exact ⟨w6, rfl, Lib.hid ⟨by have := HP6.out.1; unfold sepOf; rw [if_neg H0.out]; simpa using this, HP6.out.2⟩⟩
            · have h0 : i = 0 := by omega
              go_meet
              exact ⟨wr, rfl, Lib.hid ⟨by have := HPB.out; rw [h0, List.take_zero] at this; unfold sepOf; rw [if_pos h0]; simpa [commas] using this, PrK.refl _ _ _⟩⟩
          case rest =>
            obtain ⟨w6, rfl, HP6⟩ := hcut
            have hk16 : PrK B b w1 w6 := HL.out.2.2.1.trans HP6.out.2
            have HX6 := Lib.hid (hk16.blk HBX.out.2 (by decide) HXB.out)
            have hj6 := (HJ.out.below HBX.out.1).keeps hk16.keeps (fun g hg h => by omega)
            have HJ6 := Lib.hid hj6
            simp only [JAt, RawV.nv] at hj6
            obtain ⟨-, -, ⟨hns6, -⟩, -⟩ := hj6
            obtain ⟨ng, noff, rfl, c6⟩ := text_cell hns6 HPC.out.1
            have l6 : (x.val : Int) < (ns.length : Int) := by have := x.isLt; omega
            obtain ⟨⟨b0, b1, b2, b3⟩, -⟩ := jbox_cells HX6.out
            have HNS : Hid (nm.size ≤ 1000000) := Lib.hid (HF.out.2.2.1 nm (List.mem_of_getElem? HPC.out.1))
            have HQ := Lib.hid (j_quote (w := w6.drew) nm HNS.out)
            have HB6 : Hid (B ≤ w6.heap.size) := Lib.hid (Nat.le_trans HBW.out HP6.out.2.size)
            have HP6D : Hid (Prn B b (p ++ 123 :: sepOf PCS i) w6.drew) := Lib.hid (HP6.out.1.below (Below.refl _ _).drew)
            have hqs : (str (quote (raw nm))).size ≤ 6 * nm.size + 2 := by
              rw [str_size]
              have := quote_room (raw nm)
              have h2 : (raw nm).length = nm.size := rfl
              unfold quote
              simp only [List.length_cons, List.length_append, List.length_nil]
              omega
            have hcat : ¬ (9223372036854775807 < (str (quote (raw nm))).size + 1) := by have := HNS.out; omega
            have HSZ : Hid ((p ++ 123 :: sepOf PCS i).length + (str (quote (raw nm)) ++ ⟨#[58]⟩ : ByteArray).size ≤ 1000000000 ∧ raw (str (quote (raw nm)) ++ ⟨#[58]⟩ : ByteArray) = quote (raw nm) ++ [58]) := Lib.hid (by
              have h1 := HLN.out
              have h2 : raw (str (quote (raw nm)) ++ ⟨#[58]⟩ : ByteArray) = quote (raw nm) ++ [58] := by
                show (str (quote (raw nm)) ++ (⟨#[58]⟩ : ByteArray)).data.toList = _
                rw [ByteArray.data_append, Array.toList_append, str_toList]
              refine ⟨?_, h2⟩
              have h3 : (str (quote (raw nm)) ++ ⟨#[58]⟩ : ByteArray).size = (raw (str (quote (raw nm)) ++ ⟨#[58]⟩ : ByteArray)).length := rfl
              rw [h3, h2]
              unfold layPair at h1
              simp only [List.length_append, List.length_cons, List.length_nil] at h1 ⊢
              omega)
            clear hns6 hk16 hqs
            go_upto_region 14 with (fail)
            go_region_law (first
              | (go_simp; go_at_call 28; refine HQ.out.mono ?_; rintro e w7 ⟨rfl, hb7⟩
                 have HB7 := Lib.hid hb7
                 clear hb7)
              | (go_simp; go_at_call 57; refine (pr_text (W := w7) _ (HP6D.out.below HB7.out) HSZ.out.1 (Nat.le_trans HB6.out HB7.out.size)).mono ?_; rintro e w8 ⟨rfl, hp8, hk8⟩))
            all_goals
              have HP8 : Hid (Prn B b (p ++ 123 :: (sepOf PCS i ++ (quote (raw nm) ++ [58]))) w8 ∧ PrK B b wr w8) := Lib.hid ⟨by
                have h1 := hp8
                rw [HSZ.out.2] at h1
                simpa using h1, HP6.out.2.trans ((PrK.mk (Below.refl _ _).drew (Lib.OthersKept.refl _ _ _).drew).trans ((PrK.of_below HB7.out HB6.out).trans hk8))⟩
              clear hp8 hk8 b0 b1 b2 b3 c6 hcat
              have hk18 : PrK B b w1 w8 := HL.out.2.2.1.trans HP8.out.2
              have HX8 := Lib.hid (hk18.blk HBX.out.2 (by decide) HXB.out)
              have hj8 := (HJ.out.below HBX.out.1).keeps hk18.keeps (fun g hg h => by omega)
              simp only [JAt, RawV.lv] at hj8
              obtain ⟨-, -, -, rs, ⟨hrs, -⟩, hl8⟩ := hj8
              obtain ⟨r, hr, hjr⟩ := hl8.get HPC.out.2.1
              obtain ⟨lg, loff, rfl, c0, c1, c2, c3⟩ := raw_cells hrs hr
              obtain ⟨⟨b0, b1, b2, b3⟩, -⟩ := jbox_cells HX8.out
              have l8 : (x.val : Int) < (l.length : Int) := by have := x.isLt; have := HNL.out.1; omega
              have HCC := Lib.hid (HIH.out v (List.mem_of_getElem? HPC.out.2.1) (d + 1) r w8 B b (p ++ 123 :: (sepOf PCS i ++ (quote (raw nm) ++ [58]))) (chkAll_mem HALL.out v (List.mem_of_getElem? HPC.out.2.1)) (HF.out.2.2.2.2.mem v (List.mem_of_getElem? HPC.out.2.1)) hjr HP8.out.1 (Nat.le_trans HBW.out HP8.out.2.size) (by have := HLN.out; unfold layPair at this; simp at this ⊢; omega))
              clear hrs hl8 hr hjr hk18
              go_wp2_with (fail)
              refine HCC.out.mono ?_
              rintro e w9 ⟨rfl, hp9, hk9⟩
              have HP9 : Hid (Prn B b (p ++ 123 :: commas (PCS.take (i + 1))) w9 ∧ PrK B b wr w9) := Lib.hid ⟨by
                rw [← HST.out.1]
                simpa [layPair] using hp9, HP8.out.2.trans hk9⟩
              clear hp9 hk9 b0 b1 b2 b3 c0 c1 c2 c3
              go_wp2_with (fail)
              go_roundg (ns.length - (i + 1) + 1)
              case measure => have := HLT.out; omega
              case rel => exact ⟨i + 1, rfl, HLT.out, by rw [hw64]; rfl, Lib.hid ⟨by rw [← HPQ.out]; exact HP9.out.1, HL.out.2.1.trans HP9.out.2, HL.out.2.2.1.trans HP9.out.2, ownsRow_prk HL.out.2.2.2 HP9.out.2 (by decide) (by have := HP1.out.1.lt; omega)⟩⟩
        · have ht1 : decide (i < ns.length) = false := by simpa using hlt
          have hpl : (pieces l ns HNL.out.1).length = ns.length := by simp [pieces, ordN]
          have HEND : Hid (Prn B b (p ++ 123 :: commas (pieces l ns HNL.out.1)) wr) := Lib.hid (by have := HL.out.1; rw [List.take_of_length_le (by omega)] at this; exact this)
          have HT3 := Lib.hid (pr_byte 125 HEND.out (by have := HLEN.out; rw [lay_pieces HNL.out.1 HNL.out.2] at this; simp at this ⊢; omega) (Nat.le_trans HBB.out HL.out.2.1.size))
          clear hlt hi hpl
          go_wp2_with (fail)
          refine HT3.out.mono ?_
          rintro e w7 ⟨rfl, hp7, hk7⟩
          have HP7 := Lib.hid (And.intro hp7 hk7)
          clear hp7 hk7
          go_wp2_with (fail)
          go_end0
          exact ⟨rfl, by rw [lay_pieces HNL.out.1 HNL.out.2]; have := HP7.out.1; simpa using this, HL.out.2.1.trans HP7.out.2⟩
end
end Go.Proofs.YthjcolehccbihaaGreatDoor
