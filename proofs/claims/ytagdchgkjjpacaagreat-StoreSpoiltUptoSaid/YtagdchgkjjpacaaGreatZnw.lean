/- The walk of the statement StoreSpoilt. -/
import Derived.Test.YtagdchgkjjpacaaGreatx0
import Derived.Test.YtagdchgkjjpacaaGreatZjw
set_option maxRecDepth 100000
open Go.Lib (hid)
set_option linter.unusedSimpArgs false
set_option linter.unusedVariables false
set_option linter.unusedSectionVars false
namespace Go.Proofs.YtagdchgkjjpacaaGreat
open Go.RowKit Go.Shelf
abbrev nmOt : ByteArray := ⟨#[111, 116, 104, 101, 114]⟩
abbrev otB : List UInt8 := [98, 121, 116, 101, 115]
def sp0 : FsS := ⟨67108864, 0, [(nmOt, ⟨[], 0⟩)], 1, 0, false⟩
def sp5 : FsS := ⟨67108864, 5, [(nmOt, ⟨otB, 0⟩)], 2, 0, false⟩
theorem sp_a : (FsS.new 67108864).create nmOt = (sp0, 0) := by kernel_rfl
theorem sp_b : sp0.append nmOt otB = (sp5, 0) := by kernel_rfl
theorem sp_ok0 : FsOk sp0 1 := by have := (FsOk.new0 67108864).create nmOt; rw [sp_a] at this; exact this
theorem sp_ok5 : FsOk sp5 2 := by have := sp_ok0.append nmOt otB; rw [sp_b] at this; exact this
theorem ot_not : ¬ inDir nmDb nmOt := by
 have h : Lib.hasPrefix (tx nmOt) (tx (dirOf nmDb)) = false := by kernel_rfl
 intro e
 rw [show Lib.hasPrefix (tx nmOt) (tx (dirOf nmDb)) = true from e] at h
 cases h
theorem idx_val (z : Int) {n : Nat} (h0 : 0 < n) (h1 : n ≤ 1000000000) : ∃ j : Nat, j < n ∧ (wrap64 (z.tmod (n : Int) + (n : Int))).tmod (n : Int) = (j : Int) := by
 have h1 : z.tmod (n : Int) < n := Int.tmod_lt_of_pos z (by omega)
 have h2 : -(n : Int) < z.tmod n := Int.lt_tmod_of_pos z (by omega)
 obtain ⟨a, ha⟩ : ∃ a, a = z.tmod (n : Int) := ⟨_, rfl⟩
 rw [← ha] at h1 h2 ⊢
 rw [IntWalk.wrap64_in (a + n) (by omega), Int.tmod_eq_emod_of_nonneg (by omega)]
 have h3 := Int.emod_nonneg (a + n) (b := (n : Int)) (by omega)
 have h4 := Int.emod_lt_of_pos (a + n) (b := (n : Int)) (by omega)
 exact ⟨((a + n) % n).toNat, by omega, by omega⟩
theorem cut_val (z : Int) {n : Nat} (h1 : n ≤ 1000000000) : ∃ j : Nat, j ≤ n ∧ (wrap64 (wrap64 (z.tmod ((n : Int) + 1) + (n : Int)) + 1)).tmod ((n : Int) + 1) = (j : Int) := by
 have h1 : z.tmod ((n : Int) + 1) < (n : Int) + 1 := Int.tmod_lt_of_pos z (by omega)
 have h2 : -((n : Int) + 1) < z.tmod ((n : Int) + 1) := Int.lt_tmod_of_pos z (by omega)
 obtain ⟨a, ha⟩ : ∃ a, a = z.tmod ((n : Int) + 1) := ⟨_, rfl⟩
 rw [← ha] at h1 h2 ⊢
 rw [IntWalk.wrap64_in (a + n) (by omega), IntWalk.wrap64_in _ (by omega), Int.tmod_eq_emod_of_nonneg (by omega)]
 have h3 := Int.emod_nonneg (a + n + 1) (b := (n : Int) + 1) (by omega)
 have h4 := Int.emod_lt_of_pos (a + n + 1) (b := (n : Int) + 1) (by omega)
 exact ⟨((a + n + 1) % ((n : Int) + 1)).toNat, by omega, by omega⟩
theorem text_at {w : World} {a : Option Addr} {n cap j : Nat} {x : ByteArray} {xs : List ByteArray} (h : RdAt textKind w (.slice a n cap) xs) (hj : xs[j]? = some x) : ∃ g off, a = some ⟨g, off, none⟩ ∧ w.cell? ⟨g, off + j, none⟩ = some (.string x) := by
 obtain ⟨a', cap', e, hh⟩ := h
 injection e with e1 _ _
 subst e1
 obtain ⟨g, off, ea, hc⟩ := hh j x hj
 have h0 := hc 0 (by decide)
 rw [show off + j * textKind.size + 0 = off + j from by show off + j * 1 + 0 = _; omega] at h0
 exact ⟨g, off, ea, h0⟩
def SpP (w : World) (fb lb sb tb n V : Nat) (wr : World) : Prop :=
 ∃ F S s, Sto w wr fb nmDb 100 n (n + 1) V F S lb sb tb s ∧ F.armed = 0 ∧ F.find nmOt = some ⟨otB, 0⟩
section
variable {w wr : World} {fb lb sb tb n V : Nat}
theorem SpP.write {l : List Chg} (h : SpP w fb lb sb tb n V wr) (hn : n ≤ 80) (hW : batW l ≤ 80000) {x : Option Addr} {cap : Nat} (hr : RdAt chgKind w (.slice x l.length cap) l) (hl : l.length ≤ 1048576) :
 Calls Tryz.prog 25 #[.pointer (some ⟨sb, 0, none⟩), .slice x l.length cap] wr fun e w' => ∃ r : Int, e = .returned (.int .i64 r) ∧ SpP w fb lb sb tb (n + 1) (V + batV l) w' := by
 obtain ⟨F, S, s, hA, hca, hot⟩ := h
 refine (hA.write dirS_db (by omega) (by omega) hr hl).mono ?_
 rintro e w' ⟨rfl, ho, hp⟩
 have h5 := ho.calm hca
 obtain ⟨⟨S', hA', -⟩, hca', -, -⟩ := hA.wrote (by omega) hW ho hp h5
 obtain ⟨ii, uu, hst⟩ := ho.step h5
 rw [hA.dir] at hst
 exact ⟨_, rfl, _, S', _, hA', hca' hca, by rw [hst.others _ ot_not]; exact hot⟩
theorem SpP.chk (h : SpP w fb lb sb tb n V wr) (hn : n ≤ 80) (hV : V ≤ 200000) :
 Calls Tryz.prog 26 #[.pointer (some ⟨sb, 0, none⟩)] wr fun e w' => ∃ r : Int, e = .returned (.int .i64 r) ∧ SpP w fb lb sb tb (n + 1) V w' := by
 obtain ⟨F, S, s, hA, hca, hot⟩ := h
 refine (hA.chk dirS_db (by omega) (by omega) hV).mono ?_
 rintro e w' ⟨rfl, ho, hp⟩
 have h5 := ho.calm hca
 obtain ⟨⟨S', hA', -⟩, hca', -, -⟩ := hA.ckpt (by omega) hV ho hp h5
 obtain ⟨ii, uu, hst⟩ := ho.step h5
 rw [hA.dir] at hst
 exact ⟨_, rfl, _, S', _, hA', hca' hca, by rw [hst.others _ ot_not]; exact hot⟩
theorem SpP.more (h : SpP w fb lb sb tb n V wr) {n' V' : Nat} (hn : n ≤ n') (hV : V ≤ V') (h9 : n' ≤ 900) : SpP w fb lb sb tb n' V' wr := by
 obtain ⟨F, S, s, hA, h⟩ := h
 exact ⟨F, S, s, hA.more hn (by omega) hV h9, h⟩
theorem SpP.bel (h : SpP w fb lb sb tb n V wr) : Below w.heap.size w wr := by
 obtain ⟨F, S, s, hA, h⟩ := h
 exact hA.db.lg.hd.below
theorem spoilt_open {F G : FsS} {k N : Nat} {S : Nat → Prop} {s : StS} {nm : ByteArray} {x : FileS} {m : Int} {b : List UInt8} (h : Hd w wr fb G k S) (hk : k < 600000) (hG : G = ((F.truncate nm m).1.append nm b).1) (hon : On F s 100 N) (hdir : s.dir = nmDb) (hx : F.find nm = some x) (ha : F.armed = 0) (hne : nm ≠ nmOt) (hot : F.find nmOt = some ⟨otB, 0⟩) :
 Calls Tryz.prog 24 #[.pointer (some ⟨fb, 0, none⟩), .string nmDb, .agg #[.int .i64 100]] wr fun e w' => ∃ G' T k', Hd w w' fb G' k' T ∧ G'.find nmOt = some ⟨otB, 0⟩ ∧ ((∃ sb c m n, e = .returned (.tuple #[.pointer (some ⟨sb, 0, none⟩), .int .i64 0]) ∧ StB w' sb c m n) ∨ e = .returned (.tuple #[.pointer none, .int .i64 14])) := by
 have h1 := any_spoilt hon hx ha m b
 simp only at h1
 rw [← hG, hdir] at h1
 obtain ⟨⟨first, ds, y, hsg, htop⟩, hup, harm, hoth⟩ := h1
 obtain ⟨⟨o1, o2, o3⟩, o4⟩ := sopen_any (size := 100) hsg dirS_db (by decide) (by decide) hup harm htop
 refine (st_open2 h.ps (PS.pure _ _) (by omega) nmDb (by decide) 100 o4).mono fun e w' hp => ?_
 have hf : (openS G nmDb 100).1.find nmOt = some ⟨otB, 0⟩ := by rw [o1 _ ot_not, hoth _ (fun e => hne e.symm)]; exact hot
 rcases hp with ⟨-, ⟨s', lb', sb', tb', T, e1, e2, e3, hdb, -⟩ | ⟨e1, e2, e3, T, -, e5, -⟩⟩
 ·exact ⟨_, T, _, hdb.lg.hd, hf, .inl ⟨sb', _, _, _, e3, hdb.st⟩⟩
 ·rcases o3 with ⟨s', e4, _⟩ | ⟨_, e4⟩
  ·rw [e1] at e4; cases e4
  ·rw [e4] at e3
   exact ⟨_, T, _, e5, hf, .inr e3⟩
set_option maxHeartbeats 16000000 in
theorem l_storeSpoilt {u : Value} {ls : List (List Chg)} (hl : BatsAt w u ls) (which at_ : Int) {a3 : Option Addr} {c3 : Nat} {b : List UInt8} (hb3 : RdAt byteKind w (.slice a3 b.length c3) b) :
 Calls Tryz.prog 4 #[u, .int .i64 which, .int .i64 at_, .slice a3 b.length c3] w fun e w' => e = .returned (.bool true) ∧ Below w.heap.size w w' := by
 obtain ⟨a0, c0, rfl⟩ := hl.shape
 have HL := hid hl
 have HB3R := hid hb3
 have kc := fun (w : World) (C : Array Value) (n c : Nat) => Lib.run_convert_bytes_const (P := Tryz.prog) w 23 5 C n c Tryz.underlying23 Tryz.underlying5
 clear hl hb3
 go_enter Tryz.func4, Tryz.ntmps4
 go_wp2_with (fail)
 refine (x_sfirst w).mono ?_
 rintro e w1 ⟨rfl, hb1⟩
 have HB1 := hid hb1
 clear hb1
 go_wp2_with (fail)
 refine (x_fewB (HL.out.below HB1.out)).mono ?_
 rintro e w2 ⟨bb, rfl, hbf, hb2⟩
 have HB2 : Hid (Below w.heap.size w w2) := hid (HB1.out.trans (hb2.mono HB1.out.size))
 clear hb2
 cases bb with
 | false =>
   clear hbf
   go_wp2_with (fail)
   go_ret
   exact ⟨rfl, HB2.out⟩
 | true =>
   have HFEW : Hid (FewB ls) := hid (hbf rfl)
   clear hbf
   by_cases hl20 : (20 : Int) < (ls.length : Int)
   ·go_wp2_with (fail)
    go_ret
    exact ⟨rfl, HB2.out⟩
   by_cases hb20 : (2000 : Int) < (b.length : Int)
   ·go_wp2_with (fail)
    go_ret
    exact ⟨rfl, HB2.out⟩
   have HLEN : Hid (ls.length ≤ 20 ∧ b.length ≤ 2000) := hid (by omega)
   go_wp2_with (fail)
   have hm20 : (ls.length : Int) ≤ 20 := by omega
   clear hl20 hb20
   refine (f_new 67108864 (by omega) (by omega)).mono ?_
   rintro e w3 ⟨fb, rfl, hf, hb⟩
   have HF : Hid (Hd w w3 fb (FsS.new 67108864) 0 (New w2 w3 fun _ => False)) := hid ⟨hf, fun i e => by rcases e with e | e; exact e.elim; have := HB2.out.size; omega, HB2.out.trans (hb.mono HB2.out.size), FsOk.new0 67108864⟩
   clear hf hb
   go_wp2_with (fail)
   refine (d_create HF.out (by decide) nmOt).mono ?_
   rw [sp_a]
   rintro e w4 ⟨rfl, hd4, -⟩
   have HD4 := hid hd4
   clear hd4 HF
   go_wp2_with (fail)
   refine (append_lit HD4.out.fs HD4.out.ok (by decide) nmOt otB (by decide)).mono ?_
   rw [sp_b]
   rintro e w5 ⟨rfl, hp5⟩
   have HD5 := hid (HD4.out.post hp5 sp_ok5)
   clear hp5 HD4 kc
   go_wp2_with (fail)
   refine (open_fresh (c := 1) (size := 100) ⟨HD5.out.fs, HD5.out.low, HD5.out.below, HD5.out.ok.mono (by decide)⟩ (by omega) (fun k x hx hi => ?_) dirS_db (by decide) (by decide) rfl rfl (by show (1 : Nat) ≤ 5; decide) (by show (5 : Int) ≤ 810000; decide)).mono ?_
   ·by_cases e : k = nmOt
    ·rw [e] at hi; exact ot_not hi
    ·have h1 := FsOk.find_mem hx
     have h2 : (k, x) ∈ [(nmOt, (⟨otB, 0⟩ : FileS))] := h1
     rw [List.mem_singleton] at h2
     exact e (Prod.mk.inj h2).1
   rintro e w6 ⟨G, T, lb, sb, tb, s, rfl, hsto, hall, hseq, hcalm, hroom, hkp, hlow, hus, hfl⟩
   have HI : Hid (SpP w fb lb sb tb 1 (batsV ls 0) w6) := hid ⟨G, T, s, by rw [batsV_zero]; exact hsto, hcalm, by
    rw [find_put sp_ok5.rise hfl, if_neg]
    ·kernel_rfl
    ·intro e
     refine ot_not ?_
     rw [e, segName_in]
     exact pre_in _ _⟩
   clear hsto hall hseq hcalm hroom hkp hlow hus hfl HD5
   go_wp2_with (first | (go_at_call 19; refine (r_num _ _).mono ?_; rintro e w' ⟨rfl, rfl⟩))
   go_loopw [14] (fun iv wr => ∃ i : Nat, i ≤ ls.length ∧ iv = .int .i64 (i : Int) ∧ Hid (SpP w fb lb sb tb (1 + 2 * i) (batsV ls i) wr)) (fun iv _ => ls.length - (intOf iv).toNat)
   case atStart => exact ⟨0, Nat.zero_le _, rfl, HI⟩
   case round =>
    clear HI
    obtain ⟨i, hi, rfl, HP⟩ := hrel
    have q0 : (0 : Int) ≤ (i : Int) := by omega
    by_cases hlt : i < ls.length
    ·have q1 : (i : Int) < (ls.length : Int) := by omega
     obtain ⟨l, hli⟩ : ∃ l, ls[i]? = some l := ⟨_, List.getElem?_eq_getElem hlt⟩
     obtain ⟨g, off, cap, la, lc, hv, hc, hrd⟩ := HL.out.at_ hli
     injection hv with hv _ hv3
     subst hv hv3
     have HLT := hid hlt
     have HLI := hid hli
     have HRD := hid hrd
     have HEA := hid (HL.out.each l (List.mem_of_getElem? hli))
     have hc1 := (HP.out.bel.cell (p := ⟨g, off + i, none⟩) (World.block_lt_of_cell? w _ hc)).trans hc
     have HBV := hid (batsV_next hli)
     have HI20 : Hid (i < 20) := hid (by have := HLEN.out; omega)
     clear hli hc hrd hlt hi
     go_wp2_with (fail)
     refine (HP.out.write (by have := HI20.out; omega) (HFEW.out.bat HLI.out) HRD.out HEA.out.1).mono ?_
     rintro e w7 ⟨r, rfl, h7⟩
     rw [← HBV.out] at h7
     have HP7 := hid h7
     clear h7 hc1
     obtain ⟨bm, hbm⟩ : ∃ b : Bool, ((i : Int) == (ls.length : Int) / 2) = b := ⟨_, rfl⟩
     cases bm with
     | false =>
       have HD : Hid (SpP w fb lb sb tb (1 + 2 * (i + 1)) (batsV ls (i + 1)) w7) := hid (HP7.out.more (by omega) (Nat.le_refl _) (by have := HI20.out; omega))
       go_wp2_with (fail)
       go_roundw
       case rel => exact ⟨i + 1, HLT.out, by go_num, HD⟩
       case measure => simp [intOf]; have := HLT.out; omega
     | true =>
       go_wp2_with (fail)
       refine (HP7.out.chk (by have := HI20.out; omega) (HFEW.out.small _)).mono ?_
       rintro e w9 ⟨r2, rfl, h9⟩
       have HD : Hid (SpP w fb lb sb tb (1 + 2 * (i + 1)) (batsV ls (i + 1)) w9) := hid h9
       clear h9
       go_wp2_with (fail)
       go_roundw
       case rel => exact ⟨i + 1, HLT.out, by go_num, HD⟩
       case measure => simp [intOf]; have := HLT.out; omega
    ·have q1 : ¬ (i : Int) < (ls.length : Int) := by omega
     have HI20 : Hid (i ≤ 20) := hid (by have := HLEN.out; omega)
     obtain ⟨F, S, s, hst, hca, hot⟩ := HP.out
     have HST := hid hst
     have HCA := hid (And.intro hca hot)
     obtain ⟨L1, hL1⟩ : ∃ L, L = namesL nmDb F.files := ⟨_, rfl⟩
     have hr := hst.db.lg.hd.ok.rise
     have hmem : ∀ k, k ∈ L1 → (∃ x, F.find k = some x) ∧ k ≠ nmOt := fun k hk => by
      rw [hL1] at hk
      obtain ⟨h1, h2⟩ := (mem_names hr).1 hk
      refine ⟨h1, fun e => ?_⟩
      rw [e, show Lib.hasPrefix (tx nmOt) (tx nmDb) = false from by kernel_rfl] at h2
      cases h2
     have hpos : 0 < L1.length := by
      obtain ⟨f, q0, m0, segs, rc, h1, h2, h3, h4, h5⟩ := hst.on.ex
      have h6 : segs.map fl ≠ [] := by simp [h2.ne]
      obtain ⟨d, hd⟩ : ∃ d, (segs.map fl)[0]? = some d := ⟨_, List.getElem?_eq_getElem (by have := h2.ne; rw [List.length_map]; exact List.length_pos_iff.2 this)⟩
      have h7 := h2.sg.at_ 0 d hd
      rw [hst.on.ldir, hst.dir] at h7
      refine List.length_pos_of_mem (a := segName (nmOf nmDb sLog) (s.log.first + 0)) ?_
      rw [hL1, mem_names hr]
      refine ⟨⟨_, h7⟩, ?_⟩
      rw [segName_in]
      unfold Lib.hasPrefix
      rw [List.isPrefixOf_iff_prefix, tx_st]
      exact List.prefix_append _ _
     have hfew : L1.length ≤ 1000000 := by
      have h1 := hst.few
      have h2 : (namesL nmDb F.files).length ≤ F.files.length := by
       unfold namesL
       rw [List.length_map]
       exact List.length_filter_le ..
      rw [← hL1] at h2
      omega
     have c1 := s_names hst.db.lg.hd.fs hst.db.lg.hd.ok nmDb
     rw [← hL1] at c1
     have HC1 := hid c1
     have HMEM := hid hmem
     obtain ⟨ix, hix, hxe⟩ := idx_val which hpos (by omega)
     obtain ⟨nm, hnm⟩ : ∃ nm, L1[ix]? = some nm := ⟨_, List.getElem?_eq_getElem hix⟩
     obtain ⟨⟨x, hx⟩, hne⟩ := hmem nm (List.mem_of_getElem? hnm)
     have HX := hid (And.intro hx hne)
     have HNM := hid hnm
     have hxl : x.data.length ≤ 67108864 := by have := (hst.db.lg.hd.ok.len hx).1; omega
     obtain ⟨kk, hkk, hke⟩ := cut_val at_ (n := x.data.length) (by omega)
     have z1 : ¬ (L1.length : Int) = 0 := by omega
     have z2 : (0 : Int) < (L1.length : Int) := by omega
     have z3 : (L1.length : Int) ≤ 1000000 := by omega
     have z4 : (ix : Int) < (L1.length : Int) := by omega
     have z5 : (0 : Int) ≤ (ix : Int) := by omega
     have z6 : (x.data.length : Int) ≤ 67108864 := by omega
     have z7 : (0 : Int) ≤ (x.data.length : Int) := by omega
     clear hst hca hot c1 hL1 hr hmem hpos hfew hix hnm hx hne hxl hkk hi hlt
     go_wp2_with (fail)
     refine HC1.out.mono ?_
     rintro e wA ⟨aA, cA, rfl, htA⟩
     have HSA := hid (HST.out.below htA.below)
     obtain ⟨gA, offA, eA, hcA⟩ := text_at htA.sl.rd HNM.out
     subst eA
     clear htA HC1
     go_wp2_with (fail)
     refine (d_size HSA.out.db.lg.hd nm).mono ?_
     rw [HX.out.1, show sizeRes (some x) = .tuple #[.int .i64 (x.data.length : Int), .int .i64 0] from rfl]
     rintro e wE ⟨rfl, rfl⟩
     clear hcA
     go_wp2_with (fail)
     refine (d_truncate HSA.out.db.lg.hd (by have := HI20.out; omega) nm _).mono ?_
     rintro e wF ⟨rfl, hdF, hkF⟩
     have HDF := hid hdF
     clear hdF hkF
     go_wp2_with (fail)
     refine (d_append HDF.out (by have := HI20.out; omega) nm HB3R.out (by have := HLEN.out; omega)).mono ?_
     rintro e wG ⟨rfl, hdG, hkG⟩
     have HDG := hid hdG
     clear hdG hkG
     go_wp2_with (fail)
     refine (spoilt_open HDG.out (by have := HI20.out; omega) rfl HST.out.on HST.out.dir HX.out.1 HCA.out.1 HX.out.2 HCA.out.2).mono ?_
     rintro e wH ⟨G', T', k', hdH, hfH, hcs⟩
     have HDH := hid (And.intro hdH hfH)
     clear hdH hfH
     rcases hcs with ⟨sb5, cc5, m5, n5, rfl, hst5⟩ | rfl
     ·have HS5 := hid hst5
      clear hst5
      go_wp2_with (fail)
      refine (d_read HDH.out.1 HDH.out.2).mono ?_
      rintro e wI ⟨aI, cI, rfl, hfI, hdI⟩
      have HS6 := hid (HS5.out.below hfI.below)
      have HE := hid hdI.below
      have hcv : (convert 23 9 (.slice aI 5 cI)).run Tryz.prog wI = .ok (.string ⟨#[98, 121, 116, 101, 115]⟩) wI := run_text (ys := otB) hfI.sl.rd
      clear hfI hdI
      go_wp2_with (first | (go_at_call 19; refine (r_num _ _).mono ?_; rintro e w' ⟨rfl, rfl⟩))
      refine (so_len HS6.out).mono ?_
      rintro e wJ ⟨rfl, hbJ⟩
      have HE2 := hid (HE.out.trans (hbJ.mono HE.out.size))
      have m0 : (0 : Int) ≤ (m5.length : Int) := by omega
      clear hbJ hcv
      go_wp2_with (fail)
      go_ret
      exact ⟨rfl, HE2.out⟩
     ·go_wp2_with (fail)
      refine (d_read HDH.out.1 HDH.out.2).mono ?_
      rintro e wI ⟨aI, cI, rfl, hfI, hdI⟩
      have HE := hid hdI.below
      have hcv : (convert 23 9 (.slice aI 5 cI)).run Tryz.prog wI = .ok (.string ⟨#[98, 121, 116, 101, 115]⟩) wI := run_text (ys := otB) hfI.sl.rd
      clear hfI hdI
      go_wp2_with (first | (go_at_call 19; refine (r_num _ _).mono ?_; rintro e w' ⟨rfl, rfl⟩))
      go_ret
      exact ⟨rfl, HE.out⟩
end
end Go.Proofs.YtagdchgkjjpacaaGreat
