/- The walk of MeterSums. -/
import Derived.Test.YtkbdofbjfcajbaaGreatE16
import Derived.Test.YtkbdofbjfcajbaaGreatE19
import Derived.Deep.CutBlock
import Derived.Deep.DeepCutAuto
namespace Go.Proofs.YtkbdofbjfcajbaaGreat
open Go.RowKit Go.Shelf Go.Sort

/-- The ints of an event are Go's. -/
structure IntsOk (x : Ev) : Prop where
  q0 : -9223372036854775808 ≤ x.qty
  q1 : x.qty ≤ 9223372036854775807
  a0 : -9223372036854775808 ≤ x.at_
  a1 : x.at_ ≤ 9223372036854775807
theorem fit_of {x : Ev} (h : IntsOk x) (hs : Short x) : EvFit x := ⟨by have := hs.1; omega, by have := hs.2.1; omega, by have := hs.2.2; omega, h.q0, h.q1, h.a0, h.a1⟩
theorem tot_cells {w : World} {a : Option Addr} {cap : Nat} {L : List Tot} (h : SlAt totKind 37 w (.slice a L.length cap) L) {j : Nat} {x : Tot} (hx : L[j]? = some x) :
    ∃ g off, a = some ⟨g, off, none⟩ ∧ w.cell? ⟨g, off + j * 3, none⟩ = some (.string x.mtr) ∧ w.cell? ⟨g, off + j * 3 + 1, none⟩ = some (.int .i64 x.qty) ∧ w.cell? ⟨g, off + j * 3 + 2, none⟩ = some (.int .i64 x.cnt) := by
  obtain ⟨a', cap', hv, hc⟩ := h.rd
  simp only [Value.slice.injEq] at hv
  obtain ⟨rfl, -, rfl⟩ := hv
  obtain ⟨g, off, ha, hcell⟩ := hc j x hx
  have h0 := hcell 0 (by decide)
  have h1 := hcell 1 (by decide)
  have h2 := hcell 2 (by decide)
  exact ⟨g, off, ha, h0, h1, h2⟩
/-- While events come in. -/
structure InI (w : World) (mb tb : Nat) (s : MSt) (q : Nat) (n z : Int) (wr : World) : Prop where
  mt : MtrIn wr mb tb s
  ok : MOk s q
  nE : n = s.t.size
  zE : z = qsum s.vals
  below : Below w.heap.size w wr
theorem InI.bounds {w wr : World} {mb tb : Nat} {s : MSt} {q : Nat} {n z : Int} (h : InI w mb tb s q n z wr) : (0 ≤ n ∧ n ≤ q) ∧ (0 ≤ z ∧ z ≤ q * 1099511627776) := by
  have h1 := vals_bound h.ok
  have h2 := h.ok.size
  rw [h.nE, h.zE]
  refine ⟨⟨by omega, by omega⟩, h1.1, Int.le_trans h1.2 ?_⟩
  have : (s.t.size : Int) ≤ q := by omega
  omega
theorem InI.next {w wr w' : World} {mb tb : Nat} {s : MSt} {q : Nat} {n z : Int} (h : InI w mb tb s q n z wr) (x : Ev) (hm : MtrIn w' mb tb (ingS s x)) (hk : Keeps (Two mb tb) wr w') (h1 : w.heap.size ≤ mb) (h2 : w.heap.size ≤ tb) :
    InI w mb tb (ingS s x) (q + 1) (n + if takes s x then 1 else 0) (z + if takes s x then x.qty else 0) w' := by
  have hs := ing_sums (v := x) h.ok.rise
  exact ⟨hm, ing_ok h.ok, by rw [h.nE]; exact hs.1.symm, by rw [h.zE]; exact hs.2.symm, two_below h.below hk h1 h2⟩
theorem x_totals {w : World} {mb tb : Nat} {s : MSt} {k : Nat} (h : MtrIn w mb tb s) (ok : MOk s k) (hk : k ≤ 1000) {a : ByteArray} (ha : a ∈ accts s) :
    Calls Tryz.prog 10 #[.pointer (some ⟨mb, 0, none⟩), .string a, .int .i64 0, .int .i64 1099511627777] w fun e w' => ∃ (av : Option Addr) (cv : Nat) (TL : List Tot), e = .returned (.tuple #[.slice av TL.length cv, .int .i64 0]) ∧ TL ≠ [] ∧ SlAt totKind 37 w' (.slice av TL.length cv) TL ∧
      zs (fun t : Tot => t.cnt) TL = (allE a s).length ∧ zs (fun t : Tot => t.qty) TL = qsum (allE a s) ∧ (∀ t ∈ TL, 0 ≤ t.cnt ∧ 0 ≤ t.qty) ∧ TL.length ≤ 1000 ∧ Below w.heap.size w w' := by
  have hv := (acct_of ok ha).1
  refine Calls.mono (m_totals w mb tb s a 0 1099511627777 h (by have := valid_size hv; omega) (by have := ok.size; omega) (fun x hx => ?_)) ?_
  · have := good_of (ok.ok x hx).2
    exact ⟨by have := valid_size this.mtr; omega, this.q0, this.q1⟩
  · rintro e w' ⟨v, L, rfl, hp, hsl, -, hb⟩
    rw [acct_within ok ha, if_pos rfl] at hp
    obtain ⟨av, cv, hsh⟩ := hsl.shape
    subst hsh
    rw [acct_within ok ha]
    have hp' : L.Perm (allE a s) := hp
    have hlen : ((totM L).map (·.2)).length ≤ 1000 := by
      have h1 : (totM L).length ≤ L.length := Kv.tally_len (fun e : Ev => e.mtr) upT L
      have h2 : (selE a 0 1099511627777 s.t.ino).length ≤ s.t.ino.length := by unfold selE; exact Nat.le_trans (List.length_filter_le _ _) (by simp)
      rw [Tr.ino_length] at h2
      rw [List.length_map]
      have := hp.length_eq
      have := ok.size
      omega
    refine ⟨av, cv, (totM L).map (·.2), rfl, ?_, hsl, ?_, ?_, ?_, hlen, hb⟩
    · intro e
      refine tot_some (L := L) (fun e2 => ?_) (List.map_eq_nil_iff.1 e)
      rw [e2] at hp'
      exact (acct_of ok ha).2 hp'.nil_eq.symm
    · rw [tot_cnt, hp'.length_eq]
    · rw [tot_qty, qsum_zs, qsum_zs, zs_perm hp']
    · intro t ht
      obtain ⟨x, hx, rfl⟩ := List.mem_map.1 ht
      rw [tot_entry hx]
      refine ⟨by show (0 : Int) ≤ ((ofM x.1 L).length : Int); omega, (qsum_bound (Q := 1099511627776) (ofM x.1 L) (fun e he => ?_)).1⟩
      exact (qsum_nonneg ok a).2 e (hp'.mem_iff.1 (List.mem_filter.1 he).1)
theorem x_events {w : World} {mb tb : Nat} {s : MSt} {k : Nat} (h : MtrIn w mb tb s) (ok : MOk s k) (hk : k ≤ 1000) {a : ByteArray} (ha : a ∈ accts s) :
    Calls Tryz.prog 13 #[.pointer (some ⟨mb, 0, none⟩), .string a, .int .i64 0, .int .i64 1099511627777] w fun e w' => ∃ (av : Option Addr) (cv : Nat), e = .returned (.slice av (allE a s).length cv) ∧ Below w.heap.size w w' := by
  have hv := (acct_of ok ha).1
  refine Calls.mono (m_events w mb tb s a 0 1099511627777 h (by have := valid_size hv; omega) (by have := ok.size; omega)) ?_
  rintro e w' ⟨v, L, rfl, hsl, hp, -, -, hb⟩
  rw [acct_within ok ha, if_pos rfl] at hp
  obtain ⟨av, cv, hsh⟩ := hsl.shape
  subst hsh
  rw [hp.length_eq]
  exact ⟨av, cv, rfl, hb⟩
theorem x_accts {w : World} {mb tb : Nat} {s : MSt} {k : Nat} (h : MtrIn w mb tb s) (ok : MOk s k) (hk : k ≤ 1000) :
    Calls Tryz.prog 12 #[.pointer (some ⟨mb, 0, none⟩)] w fun e w' => ∃ (av : Option Addr) (cv : Nat) (AL : List ByteArray), AL = accts s ∧ e = .returned (.slice av AL.length cv) ∧ SlAt textKind 9 w' (.slice av AL.length cv) AL ∧ Below w.heap.size w w' := by
  refine Calls.mono (m_accounts w mb tb s h (by have := ok.size; omega) (fun x hx => ?_)) ?_
  · have := valid_size (good_of (ok.ok x hx).2).acct; omega
  · rintro e w' ⟨v, rfl, hsl, -, hb⟩
    obtain ⟨av, cv, hsh⟩ := hsl.shape
    subst hsh
    exact ⟨av, cv, _, rfl, rfl, hsl, hb⟩
set_option maxRecDepth 100000 in
set_option maxHeartbeats 8000000 in
theorem l_meterSums (w : World) (a : Option Addr) (cap : Nat) (L : List Ev) (h : RdAt evKind w (.slice a L.length cap) L) (hi : ∀ x ∈ L, IntsOk x) :
    Calls Tryz.prog 4 #[.slice a L.length cap] w fun e w' => e = .returned (.bool true) ∧ Below w.heap.size w w' := by
  have HRD := Lib.hid h
  have HII := Lib.hid hi
  clear h hi
  have HF := Lib.hid (m_first w)
  go_enter Tryz.func4, Tryz.ntmps4
  go_wp2_with (fail)
  refine HF.out.mono ?_
  rintro e w1 ⟨rfl, hb1⟩
  have HB1 := Lib.hid hb1
  have HFW := Lib.hid (m_few w1 a cap L (HRD.out.below hb1))
  clear hb1
  go_wp2_with (fail)
  refine HFW.out.mono ?_
  rintro e w1' ⟨⟨f, rfl, hf⟩, rfl⟩
  have HFF := Lib.hid hf
  have HN := Lib.hid (m_new w1)
  clear hf
  go_wp2_with (fail)
  refine HN.out.mono ?_
  rintro e w2 ⟨mb, tb, rfl, hm2, hl1, hl2, hb2⟩
  have HB2 : Hid (Below w.heap.size w w2) := Lib.hid (HB1.out.trans (hb2.mono HB1.out.size))
  have HI0 : Hid (InI w mb tb ⟨.leaf, 0, 0⟩ 0 0 0 w2) := Lib.hid ⟨hm2, mok0, rfl, rfl, HB2.out⟩
  have HL : Hid (w.heap.size ≤ mb ∧ w.heap.size ≤ tb) := Lib.hid (by have := HB1.out.size; exact ⟨by omega, by omega⟩)
  clear hm2 hl1 hl2 hb2
  cases f with
  | false =>
    go_wp2_with (fail)
    go_ret
    exact ⟨rfl, HB2.out⟩
  | true =>
    have HSH := Lib.hid (HFF.out rfl)
    have hll : (L.length : Int) ≤ 200 := by have := HSH.out.1; omega
    go_wp2_with (fail)
    go_loopw [6, 7, 8] (fun nv zv iv wr => ∃ (q : Nat) (s : MSt) (n z : Int), q ≤ L.length ∧ iv = .int .i64 q ∧ nv = .int .i64 n ∧ zv = .int .i64 z ∧ Hid (InI w mb tb s q n z wr)) (fun _ _ iv _ => L.length - (intOf iv).toNat)
    case atStart => exact ⟨0, _, 0, 0, Nat.zero_le _, rfl, rfl, rfl, HI0⟩
    case round =>
      obtain ⟨q, s, n, z, hq, rfl, rfl, rfl, HI⟩ := hrel
      obtain ⟨⟨n0, n1⟩, z0, z1⟩ := HI.out.bounds
      by_cases hql : q < L.length
      · obtain ⟨x, hx⟩ : ∃ x, L[q]? = some x := ⟨_, List.getElem?_eq_getElem hql⟩
        obtain ⟨g, off, rfl, d0, d1, d2, d3, d4⟩ := rd_cells (HRD.out.below HI.out.below) hx
        have hxl := List.mem_of_getElem? hx
        have HIG := Lib.hid (m_ingest wr mb tb s x HI.out.mt (fit_of (HII.out x hxl) (HSH.out.2 x hxl)) HI.out.ok.v0 (by have := HI.out.ok.v1; omega) HI.out.ok.n0 (by have := HI.out.ok.n1; omega) (by have := HI.out.ok.size; omega))
        have k1 : (0 : Int) ≤ (q : Int) := by omega
        have k2 : (q : Int) < (L.length : Int) := by omega
        have hn2 : n ≤ 200 := by omega
        have hz2 : z ≤ 300000000000000 := by omega
        have HIN := Lib.hid (HII.out x hxl)
        clear hxl
        go_wp2_with (fail)
        refine HIG.out.mono ?_
        rintro e w' ⟨rfl, hm, hk⟩
        have HNX := Lib.hid (HI.out.next x hm hk HL.out.1 HL.out.2)
        obtain ⟨b, hb⟩ : ∃ b, b = (ingR s x).1 := ⟨_, rfl⟩
        obtain ⟨c, hc⟩ : ∃ c, c = (ingR s x).2 := ⟨_, rfl⟩
        rw [← hb, ← hc]
        have HTK : Hid (ingR s x = (b, c)) := Lib.hid (by rw [hb, hc])
        obtain ⟨g', off', hga, e0, e1, e2, e3, e4⟩ := rd_cells (HRD.out.below HNX.out.below) hx
        simp only [Option.some.injEq, Addr.mk.injEq, and_true] at hga
        obtain ⟨rfl, rfl⟩ := hga
        clear hm hk hb hc hx d0 d1 d2 d3 d4 e0 e1 e2 e4
        by_cases hcz : c = 0
        · subst hcz
          cases b with
          | false =>
            have ht : takes s x = true := by unfold takes; rw [HTK.out]; rfl
            rw [ht, if_pos rfl, if_pos rfl] at HNX
            have hxq : 0 ≤ x.qty ∧ x.qty ≤ 1099511627776 := by
              cases ing_cases s x HI.out.ok.rise with
              | taken hc _ _ _ _ => have := good_of hc; exact ⟨this.q0, this.q1⟩
              | bad c hc _ hR _ => rw [HTK.out] at hR; exact absurd (congrArg Prod.snd hR).symm hc
              | known _ _ hR _ => rw [HTK.out] at hR; exact absurd (congrArg Prod.fst hR) (by decide)
              | other _ _ _ _ hR _ => rw [HTK.out] at hR; exact absurd (congrArg Prod.snd hR) (by decide)
              | full _ _ _ hR _ => rw [HTK.out] at hR; exact absurd (congrArg Prod.snd hR) (by decide)
            obtain ⟨hx0, hx1⟩ := hxq
            clear ht
            go_wp2_with (first | (go_at_call 11; refine (m_num _ _).mono ?_; rintro e w9 ⟨rfl, rfl⟩))
            go_roundw
            case rel => exact ⟨q + 1, _, n + 1, z + x.qty, by omega, by go_num, rfl, rfl, HNX⟩
            case measure => simp [intOf]; omega
          | true =>
            have ht : takes s x = false := by unfold takes; rw [HTK.out]; rfl
            rw [ht, if_neg (by simp), if_neg (by simp), Int.add_zero, Int.add_zero] at HNX
            clear ht
            go_wp2_with (first | (go_at_call 11; refine (m_num _ _).mono ?_; rintro e w9 ⟨rfl, rfl⟩))
            go_roundw
            case rel => exact ⟨q + 1, _, n, z, by omega, by go_num, rfl, rfl, HNX⟩
            case measure => simp [intOf]; omega
        · have ht : takes s x = false := by unfold takes; rw [HTK.out]; simp [hcz]
          rw [ht, if_neg (by simp), if_neg (by simp), Int.add_zero, Int.add_zero] at HNX
          clear ht
          go_wp2_with (first | (go_at_call 11; refine (m_num _ _).mono ?_; rintro e w9 ⟨rfl, rfl⟩))
          go_roundw
          case rel => exact ⟨q + 1, _, n, z, by omega, by go_num, rfl, rfl, HNX⟩
          case measure => simp [intOf]; omega
      · have k2 : ¬ (q : Int) < (L.length : Int) := by omega
        have hq2 : q = L.length := by omega
        subst hq2
        have HAC := Lib.hid (x_accts HI.out.mt HI.out.ok (by omega))
        go_wp2_with (fail)
        refine HAC.out.mono ?_
        rintro e w5 ⟨av, cv, AL, hAL, rfl, hsl, hb5⟩
        have HM5 := Lib.hid (HI.out.mt.below hb5)
        have HB5 := Lib.hid (HI.out.below.trans (hb5.mono HI.out.below.size))
        have HSL := Lib.hid hsl
        have hal : (AL.length : Int) ≤ 200 := by rw [hAL]; have := accts_len s; have := HI.out.ok.size; omega
        have HAL := Lib.hid hAL
        clear hsl hb5 hAL
        go_wp2_with (fail)
        go_loopw [12, 13, 14, 15] (fun cv2 zv ev iv wr => ∃ (i : Nat) (c z : Int), i ≤ AL.length ∧ iv = .int .i64 i ∧ cv2 = .int .i64 c ∧ zv = .int .i64 z ∧ ev = .int .i64 c ∧ Hid (c = cntTo s i ∧ z = qtyTo s i ∧ Below w5.heap.size w5 wr)) (fun _ _ _ iv _ => AL.length - (intOf iv).toNat)
        case atStart => exact ⟨0, 0, 0, Nat.zero_le _, rfl, rfl, rfl, rfl, Lib.hid ⟨rfl, rfl, Below.refl _ _⟩⟩
        case round =>
          obtain ⟨i, c, z', hi, rfl, rfl, rfl, rfl, HQ⟩ := hrel
          have hbd := to_bound HI.out.ok i
          have hvb := vals_bound HI.out.ok
          have hsz := HI.out.ok.size
          rw [← HQ.out.1, ← HQ.out.2.1] at hbd
          have hc0 : 0 ≤ c := hbd.1
          have hc1 : c ≤ 200 := by omega
          have hz0 : 0 ≤ z' := hbd.2.2.1
          have hz1 : z' ≤ 300000000000000 := by omega
          clear hbd hvb hsz
          by_cases hil : i < AL.length
          · obtain ⟨x, hx⟩ : ∃ x, AL[i]? = some x := ⟨_, List.getElem?_eq_getElem hil⟩
            obtain ⟨g, off, rfl, d0⟩ := tx_cell (HSL.out.below HQ.out.2.2) hx
            have hxm : x ∈ accts s := by rw [← HAL.out]; exact List.mem_of_getElem? hx
            have hst := to_succ (s := s) (i := i) (a := x) (by rw [← HAL.out]; exact hx)
            have hbd2 := to_bound HI.out.ok (i + 1)
            have hsz := HI.out.ok.size
            have hvb := vals_bound HI.out.ok
            rw [hst.1, hst.2, ← HQ.out.1, ← HQ.out.2.1] at hbd2
            have HST := Lib.hid hst
            have HT := Lib.hid (x_totals (HM5.out.below HQ.out.2.2) HI.out.ok (by omega) hxm)
            have HXM := Lib.hid hxm
            have HX := Lib.hid hx
            obtain ⟨al, hale⟩ : ∃ al, al = (allE x s).length := ⟨_, rfl⟩
            obtain ⟨aq, haqe⟩ : ∃ aq, aq = qsum (allE x s) := ⟨_, rfl⟩
            rw [← hale, ← haqe] at hbd2 HT HST
            have HALE := Lib.hid hale
            have b1 : c + al ≤ 200 := by omega
            have b2 : z' + aq ≤ 300000000000000 := by omega
            have k1 : (0 : Int) ≤ (i : Int) := by omega
            have k2' : (i : Int) < (AL.length : Int) := by omega
            clear hx hxm hst hbd2 hsz hvb hale haqe
            go_wp2_with (fail)
            refine HT.out.mono ?_
            rintro e w6 ⟨av2, cv2, TL, rfl, hne, hsl2, hct, hqt, hnn, hlen, hb6⟩
            have HB6 := Lib.hid (HQ.out.2.2.trans (hb6.mono HQ.out.2.2.size))
            have HSL2 := Lib.hid hsl2
            have HTL := Lib.hid (And.intro hct (And.intro hqt hnn))
            have htl0 : ¬ (TL.length : Int) = 0 := fun e => hne (List.length_eq_zero_iff.1 (by omega))
            have htl1 : (TL.length : Int) ≤ 1000 := by omega
            clear hne hsl2 hct hqt hnn hlen hb6
            go_wp2_with (first | (go_at_call 11; refine (m_num _ _).mono ?_; rintro e w9 ⟨rfl, rfl⟩))
            go_loopw [12, 13, 18] (fun cv3 zv3 jv wr3 => ∃ (j : Nat) (c3 z3 : Int), j ≤ TL.length ∧ jv = .int .i64 j ∧ cv3 = .int .i64 c3 ∧ zv3 = .int .i64 z3 ∧ wr3 = w6 ∧ Hid (c3 = c + zs (fun t : Tot => t.cnt) (TL.take j) ∧ z3 = z' + zs (fun t : Tot => t.qty) (TL.take j))) (fun _ _ jv _ => TL.length - (intOf jv).toNat)
            case atStart => exact ⟨0, c, z', Nat.zero_le _, rfl, rfl, rfl, rfl, Lib.hid ⟨by rw [List.take_zero]; simp [zs], by rw [List.take_zero]; simp [zs]⟩⟩
            case round =>
              obtain ⟨j, c3, z3, hj, rfl, rfl, rfl, rfl, HC⟩ := hrel
              have u1 := zs_le (f := fun t : Tot => t.cnt) TL (fun t ht => (HTL.out.2.2 t ht).1) j
              have u2 := zs_le (f := fun t : Tot => t.qty) TL (fun t ht => (HTL.out.2.2 t ht).2) j
              rw [HTL.out.1] at u1
              rw [HTL.out.2.1] at u2
              by_cases hjl : j < TL.length
              · obtain ⟨t, ht⟩ : ∃ t, TL[j]? = some t := ⟨_, List.getElem?_eq_getElem hjl⟩
                obtain ⟨g2, off2, rfl, -, e1, e2⟩ := tot_cells HSL2.out ht
                have u3 := zs_le (f := fun t : Tot => t.cnt) TL (fun t ht => (HTL.out.2.2 t ht).1) (j + 1)
                have u4 := zs_le (f := fun t : Tot => t.qty) TL (fun t ht => (HTL.out.2.2 t ht).2) (j + 1)
                rw [HTL.out.1] at u3
                rw [HTL.out.2.1] at u4
                have htk : TL.take (j + 1) = TL.take j ++ [t] := by
                  obtain ⟨hj', he⟩ := List.getElem?_eq_some_iff.1 ht
                  rw [List.take_succ_eq_append_getElem hj', he]
                have s1 : zs (fun t : Tot => t.cnt) (TL.take (j + 1)) = zs (fun t : Tot => t.cnt) (TL.take j) + t.cnt := by rw [htk, zs_append]; simp [zs]
                have s2 : zs (fun t : Tot => t.qty) (TL.take (j + 1)) = zs (fun t : Tot => t.qty) (TL.take j) + t.qty := by rw [htk, zs_append]; simp [zs]
                have tn := HTL.out.2.2 t (List.mem_of_getElem? ht)
                have HCN : Hid (c3 + t.cnt = c + zs (fun t : Tot => t.cnt) (TL.take (j + 1)) ∧ z3 + t.qty = z' + zs (fun t : Tot => t.qty) (TL.take (j + 1))) := Lib.hid ⟨by rw [s1, HC.out.1]; omega, by rw [s2, HC.out.2]; omega⟩
                have p1 : 0 ≤ c3 + t.cnt := by have := HC.out.1; omega
                have p2 : c3 + t.cnt ≤ 200 := by have := HC.out.1; omega
                have p3 : 0 ≤ z3 + t.qty := by have := HC.out.2; omega
                have p4 : z3 + t.qty ≤ 300000000000000 := by have := HC.out.2; omega
                have m1 : (0 : Int) ≤ (j : Int) := by omega
                have m2 : (j : Int) < (TL.length : Int) := by omega
                clear ht u1 u2 u3 u4 htk s1 s2 tn
                go_wp2_with (fail)
                go_roundw
                case rel => exact ⟨j + 1, c3 + t.cnt, z3 + t.qty, by omega, by go_num, rfl, rfl, trivial, HCN⟩
                case measure => simp [intOf]; omega
              · have m2 : ¬ (j : Int) < (TL.length : Int) := by omega
                have hje : j = TL.length := by omega
                subst hje
                have hc3 : c3 = c + al := by rw [HC.out.1, List.take_length, HTL.out.1]
                have hz3 : z3 = z' + aq := by rw [HC.out.2, List.take_length, HTL.out.2.1]
                subst hc3
                subst hz3
                have HEV : Hid (Calls Tryz.prog 13 #[.pointer (some ⟨mb, 0, none⟩), .string x, .int .i64 0, .int .i64 1099511627777] wr fun e w' => ∃ (av : Option Addr) (cv : Nat), e = .returned (.slice av al cv) ∧ Below wr.heap.size wr w') := Lib.hid (by
                  have := x_events (HM5.out.below HB6.out) HI.out.ok (by omega) HXM.out
                  rwa [← HALE.out] at this)
                obtain ⟨g3, off3, hga, d1⟩ := tx_cell (HSL.out.below HB6.out) (j := i) (x := x) (by
                  have h1 : AL[i]? = some x := HX.out
                  exact h1)
                simp only [Option.some.injEq, Addr.mk.injEq, and_true] at hga
                obtain ⟨rfl, rfl⟩ := hga
                clear u1 u2
                go_wp2_with (fail)
                refine HEV.out.mono ?_
                rintro e w7 ⟨av3, cv3, rfl, hb7⟩
                have HB7 := Lib.hid (HB6.out.trans (hb7.mono HB6.out.size))
                clear hb7
                go_wp2_with (fail)
                go_roundw
                case rel => exact ⟨i + 1, c + al, z' + aq, by omega, by go_num, rfl, rfl, rfl, Lib.hid ⟨by rw [HST.out.1, HQ.out.1], by rw [HST.out.2, HQ.out.2.1], HB7.out⟩⟩
                case measure => simp [intOf]; omega
          · have k2' : ¬ (i : Int) < (AL.length : Int) := by omega
            have hie : i = AL.length := by omega
            subst hie
            have hte := to_end HI.out.ok
            have hce : c = n := by rw [HQ.out.1, HAL.out, hte.1, HI.out.nE]
            have hze : z' = z := by rw [HQ.out.2.1, HAL.out, hte.2, HI.out.zE]
            subst hce
            subst hze
            have HLN : Hid (Calls Tryz.prog 14 #[.pointer (some ⟨mb, 0, none⟩)] wr fun e w' => e = .returned (.int .i64 c) ∧ Below wr.heap.size wr w') := Lib.hid (by
              have := m_len wr mb tb s (HM5.out.below HQ.out.2.2)
              rwa [← HI.out.nE] at this)
            clear hte
            go_wp2_with (fail)
            refine HLN.out.mono ?_
            rintro e w8 ⟨rfl, hb8⟩
            have HB8 := Lib.hid (HB5.out.trans ((HQ.out.2.2.trans (hb8.mono HQ.out.2.2.size)).mono HB5.out.size))
            clear hb8
            go_wp2_with (fail)
            go_ret
            exact ⟨rfl, HB8.out⟩
end Go.Proofs.YtkbdofbjfcajbaaGreat
