/- The walk of the statement StoreApart. -/
import Derived.Test.YtagdchgkjjpacaaGreatZjw
set_option maxRecDepth 100000
open Go.Lib (hid)
set_option linter.unusedSimpArgs false
set_option linter.unusedVariables false
set_option linter.unusedSectionVars false
namespace Go.Proofs.YtagdchgkjjpacaaGreat
open Go.RowKit Go.Shelf
abbrev nmA4 : ByteArray := ⟨#[97]⟩
abbrev nmB4 : ByteArray := ⟨#[98]⟩
theorem dirS_a : DirS nmA4 := ⟨by decide, by decide, by decide, by decide⟩
theorem dirS_b : DirS nmB4 := ⟨by decide, by decide, by decide, by decide⟩
theorem dirs_apart {m : ByteArray} (h : inDir nmA4 m) : ¬ inDir nmB4 m := fun k => by
 have h : Lib.hasPrefix (tx m) (tx (dirOf nmA4)) = true := h
 have k : Lib.hasPrefix (tx m) (tx (dirOf nmB4)) = true := k
 unfold Lib.hasPrefix at h k
 rw [List.isPrefixOf_iff_prefix] at h k
 obtain ⟨t, ht⟩ := h
 obtain ⟨r, hr⟩ := k
 have e1 : tx (dirOf nmA4) = [97, 47] := by kernel_rfl
 have e2 : tx (dirOf nmB4) = [98, 47] := by kernel_rfl
 rw [e1] at ht
 rw [e2] at hr
 rw [← hr] at ht
 simp at ht
theorem batsV_stay {ls : List (List Chg)} {i : Nat} (h : ls.length ≤ i) : batsV ls (i + 1) = batsV ls i := by
 unfold batsV
 rw [List.take_of_length_le (by omega), List.take_of_length_le h]
structure Pair2 (w : World) (fb n VA VB : Nat) (lA sA tA lB sB tB : Nat) (MA MB : Prs) (pa pb : Value) (wr : World) : Prop where
 ex : ∃ F S a b, Sto w wr fb nmA4 64 n n VA F S lA sA tA a ∧ Sto w wr fb nmB4 100 n n VB F S lB sB tB b ∧ F.armed = 0 ∧ a.all = MA ∧ b.all = MB
 wa : SlAt prKind 85 wr pa MA
 wb : SlAt prKind 85 wr pb MB
 oa : ∀ g, pa.ownBlock = some g → w.heap.size ≤ g
 ob : ∀ g, pb.ownBlock = some g → w.heap.size ≤ g
 ap : lA ≠ lB ∧ sA ≠ sB ∧ tA ≠ tB
section
variable {w w0 w' wr : World} {fb n c VA VB lA sA tA lB sB tB : Nat} {MA MB : Prs} {pa pb : Value} {F G : FsS} {S T : Nat → Prop} {a b a' : StS} {dA dB : ByteArray} {zA zB : Int}
theorem Pair2.more {n' VA' VB' : Nat} (h : Pair2 w fb n VA VB lA sA tA lB sB tB MA MB pa pb wr) (hn : n ≤ n') (hA : VA ≤ VA') (hB : VB ≤ VB') (h9 : n' ≤ 900) : Pair2 w fb n' VA' VB' lA sA tA lB sB tB MA MB pa pb wr := by
 obtain ⟨F, S, a, b, h1, h2, h3⟩ := h.ex
 exact ⟨⟨F, S, a, b, h1.more hn hn hA h9, h2.more hn hn hB h9, h3⟩, h.wa, h.wb, h.oa, h.ob, h.ap⟩
theorem Sto.other {n' c' i : Nat} {uu : Int} {VA' : Nat} (hA : Sto w0 w fb dA zA n c VA F S lA sA tA a) (hB : Sto w0 w fb dB zB n c VB F S lB sB tB b) (ap : lA ≠ lB ∧ sA ≠ sB ∧ tA ≠ tB) (hdis : ∀ m, inDir dB m → ¬ inDir dA m)
 (hA' : Sto w0 w' fb dA zA n' c' VA' G T lA sA tA a') (hT : ∀ i, T i → S i ∨ w.heap.size ≤ i) (hk : Keeps (StoU S lA sA tA) w w') (st : Step (inDir dA) i uu F G) (hn : n ≤ n') (hc : c ≤ c') (h9 : n' ≤ 900) : Sto w0 w' fb dB zB n' c' VB G T lB sB tB b := by
 obtain ⟨tt, ver, ⟨root, htb, _⟩, _⟩ := hB.db.st.tab
 obtain ⟨tt2, ver2, ⟨root2, hta, _⟩, _⟩ := hA.db.st.tab
 refine hB.moved hk ?_ ?_ ?_ ?_ hA'.db.lg.hd hA'.db.pure hT hA'.on.up (fun m hm => st.others m (hdis m hm)) hA'.few hA'.used hn hc h9
 ·rintro (e | e | e | e)
  ·exact hB.db.lg.log.out e
  ·exact ap.1 e.symm
  ·exact blk_ne_type hB.db.lg.log.blk hA.db.st.blk (by decide) e
  ·exact blk_ne_type hB.db.lg.log.blk hta (by decide) e
 ·rintro (e | e | e | e)
  ·exact hB.db.apart.1 e
  ·exact blk_ne_type hB.db.st.blk hA.db.lg.log.blk (by decide) e
  ·exact ap.2.1 e.symm
  ·exact blk_ne_type hB.db.st.blk hta (by decide) e
 ·rintro (e | e | e | e)
  ·exact hB.db.apart.2.1 e
  ·exact blk_ne_type htb hA.db.lg.log.blk (by decide) e
  ·exact blk_ne_type htb hA.db.st.blk (by decide) e
  ·exact ap.2.2 e.symm
 ·intro x cs hx
  exact hA.db.notU hx (by decide) (by decide) (by decide) (by decide) (by decide) (by decide)
theorem Pair2.writeA {l : List Chg} (h : Pair2 w fb n VA VB lA sA tA lB sB tB MA MB pa pb wr) (hn : n ≤ 80) (hW : batW l ≤ 80000) {x : Option Addr} {cap : Nat} (hr : RdAt chgKind w (.slice x l.length cap) l) (hl : l.length ≤ 1048576) :
 Calls Tryz.prog 25 #[.pointer (some ⟨sA, 0, none⟩), .slice x l.length cap] wr fun e w' => ∃ r : Int, e = .returned (.int .i64 r) ∧ ((r ≠ 0 ∧ Pair2 w fb (n + 1) (VA + batV l) VB lA sA tA lB sB tB MA MB pa pb w') ∨ (r = 0 ∧ Rise slt MA ∧ MA.length ≤ 450000 ∧ ∀ w2 v2, Below w'.heap.size w' w2 → SlAt prKind 85 w2 v2 (applyB MA l) → (∀ g, v2.ownBlock = some g → w.heap.size ≤ g) → Pair2 w fb (n + 1) (VA + batV l) VB lA sA tA lB sB tB (applyB MA l) MB v2 pb w2)) ∧ SlAt prKind 85 w' pa MA ∧ Below w.heap.size w w' := by
 obtain ⟨F, S, a, b, hA, hB, hca, ha, hb⟩ := h.ex
 refine (hA.write dirS_a (by omega) (by omega) hr hl).mono ?_
 rintro e w' ⟨rfl, ho, hp⟩
 have h5 := ho.calm hca
 obtain ⟨⟨S', hA', hS'⟩, hca', hro', hcs⟩ := hA.wrote (by omega) hW ho hp h5
 obtain ⟨ii, uu, hst⟩ := ho.step h5
 rw [hA.dir] at hst
 have hB' := hA.other hB h.ap (fun m hm hm2 => dirs_apart hm2 hm) hA' hS' hp.keeps hst (Nat.le_succ n) (Nat.le_succ n) (by omega)
 have hwa := want_keeps hA.db h.wa hp.keeps
 have hwb := want_keeps hA.db h.wb hp.keeps
 refine ⟨_, rfl, ?_, hwa, hA'.db.lg.hd.below⟩
 have same : (writeS a F l).1.all = a.all → Pair2 w fb (n + 1) (VA + batV l) VB lA sA tA lB sB tB MA MB pa pb w' := fun e =>
  ⟨⟨_, S', _, b, hA', hB', hca' hca, by rw [e, ha], hb⟩, hwa, hwb, h.oa, h.ob, h.ap⟩
 rcases hcs with ⟨h1, h2, h3, _⟩ | ⟨h1, h2, h3, _⟩ | ⟨h1, h2, h3, _⟩
 ·exact .inl ⟨h2, same h3⟩
 ·have hf := hA.on.fit
  rw [ha] at hf
  have := hA.on.nq
  have := hA.on.n1
  refine .inr ⟨h1, hf.ok.1, by have := hf.len; omega, fun w2 v2 hb2 hv2 hg2 => ?_⟩
  exact ⟨⟨_, S', _, b, hA'.below hb2, hB'.below hb2, hca' hca, by rw [h3, ha], hb⟩, hv2, hwb.below hb2, hg2, h.ob, h.ap⟩
 ·exact .inl ⟨by omega, same h3⟩
theorem Pair2.writeB {l : List Chg} (h : Pair2 w fb n VA VB lA sA tA lB sB tB MA MB pa pb wr) (hn : n ≤ 80) (hW : batW l ≤ 80000) {x : Option Addr} {cap : Nat} (hr : RdAt chgKind w (.slice x l.length cap) l) (hl : l.length ≤ 1048576) :
 Calls Tryz.prog 25 #[.pointer (some ⟨sB, 0, none⟩), .slice x l.length cap] wr fun e w' => ∃ r : Int, e = .returned (.int .i64 r) ∧ ((r ≠ 0 ∧ Pair2 w fb (n + 1) VA (VB + batV l) lA sA tA lB sB tB MA MB pa pb w') ∨ (r = 0 ∧ Rise slt MB ∧ MB.length ≤ 450000 ∧ ∀ w2 v2, Below w'.heap.size w' w2 → SlAt prKind 85 w2 v2 (applyB MB l) → (∀ g, v2.ownBlock = some g → w.heap.size ≤ g) → Pair2 w fb (n + 1) VA (VB + batV l) lA sA tA lB sB tB MA (applyB MB l) pa v2 w2)) ∧ SlAt prKind 85 w' pb MB ∧ Below w.heap.size w w' := by
 obtain ⟨F, S, a, b, hA, hB, hca, ha, hb⟩ := h.ex
 have ap' : lB ≠ lA ∧ sB ≠ sA ∧ tB ≠ tA := ⟨h.ap.1.symm, h.ap.2.1.symm, h.ap.2.2.symm⟩
 refine (hB.write dirS_b (by omega) (by omega) hr hl).mono ?_
 rintro e w' ⟨rfl, ho, hp⟩
 have h5 := ho.calm hca
 obtain ⟨⟨S', hB', hS'⟩, hca', hro', hcs⟩ := hB.wrote (by omega) hW ho hp h5
 obtain ⟨ii, uu, hst⟩ := ho.step h5
 rw [hB.dir] at hst
 have hA' := hB.other hA ap' (fun m hm hm2 => dirs_apart hm hm2) hB' hS' hp.keeps hst (Nat.le_succ n) (Nat.le_succ n) (by omega)
 have hwa := want_keeps hB.db h.wa hp.keeps
 have hwb := want_keeps hB.db h.wb hp.keeps
 refine ⟨_, rfl, ?_, hwb, hA'.db.lg.hd.below⟩
 have same : (writeS b F l).1.all = b.all → Pair2 w fb (n + 1) VA (VB + batV l) lA sA tA lB sB tB MA MB pa pb w' := fun e =>
  ⟨⟨_, S', a, _, hA', hB', hca' hca, ha, by rw [e, hb]⟩, hwa, hwb, h.oa, h.ob, h.ap⟩
 rcases hcs with ⟨h1, h2, h3, _⟩ | ⟨h1, h2, h3, _⟩ | ⟨h1, h2, h3, _⟩
 ·exact .inl ⟨h2, same h3⟩
 ·have hf := hB.on.fit
  rw [hb] at hf
  have := hB.on.nq
  have := hB.on.n1
  refine .inr ⟨h1, hf.ok.1, by have := hf.len; omega, fun w2 v2 hb2 hv2 hg2 => ?_⟩
  exact ⟨⟨_, S', a, _, hA'.below hb2, hB'.below hb2, hca' hca, ha, by rw [h3, hb]⟩, hwa.below hb2, hv2, h.oa, hg2, h.ap⟩
 ·exact .inl ⟨by omega, same h3⟩
theorem Pair2.chkA (h : Pair2 w fb n VA VB lA sA tA lB sB tB MA MB pa pb wr) (hn : n ≤ 80) (hV : VA ≤ 200000) :
 Calls Tryz.prog 26 #[.pointer (some ⟨sA, 0, none⟩)] wr fun e w' => ∃ r : Int, e = .returned (.int .i64 r) ∧ Pair2 w fb (n + 1) VA VB lA sA tA lB sB tB MA MB pa pb w' := by
 obtain ⟨F, S, a, b, hA, hB, hca, ha, hb⟩ := h.ex
 refine (hA.chk dirS_a (by omega) (by omega) hV).mono ?_
 rintro e w' ⟨rfl, ho, hp⟩
 have h5 := ho.calm hca
 obtain ⟨⟨S', hA', hS'⟩, hca', hro', hall, -, -⟩ := hA.ckpt (by omega) hV ho hp h5
 obtain ⟨ii, uu, hst⟩ := ho.step h5
 rw [hA.dir] at hst
 have hB' := hA.other hB h.ap (fun m hm hm2 => dirs_apart hm2 hm) hA' hS' hp.keeps hst (Nat.le_succ n) (Nat.le_succ n) (by omega)
 exact ⟨_, rfl, ⟨_, S', _, b, hA', hB', hca' hca, by rw [hall, ha], hb⟩, want_keeps hA.db h.wa hp.keeps, want_keeps hA.db h.wb hp.keeps, h.oa, h.ob, h.ap⟩
end
def StepW (w : World) (ls : List (List Chg)) (i : Nat) (M : Prs) (pv : Value) (b : Bool) (wd : World) (done : Prop) (next : List Chg → World → Value → Prop) : Prop :=
 (b = false ∧ done) ∨ (b = true ∧ ∃ l, ls[i]? = some l ∧ Rise slt M ∧ M.length ≤ 450000 ∧ SlAt prKind 85 wd pv M ∧ Below w.heap.size w wd ∧ ∀ w2 v2, Below wd.heap.size wd w2 → SlAt prKind 85 w2 v2 (applyB M l) → (∀ g, v2.ownBlock = some g → w.heap.size ≤ g) → next l w2 v2)
theorem Pair2.wrA {w wr : World} {fb n VA VB lA sA tA lB sB tB : Nat} {MA MB : Prs} {pa pb : Value} (h : Pair2 w fb n VA VB lA sA tA lB sB tB MA MB pa pb wr) : Below w.heap.size w wr := by
 obtain ⟨F, S, a, b, h1, h2, h3⟩ := h.ex
 exact h1.db.lg.hd.below
set_option maxHeartbeats 16000000 in
theorem l_storeApart {w : World} {u v : Value} {ls ms : List (List Chg)} (hl : BatsAt w u ls) (hm : BatsAt w v ms) :
 Calls Tryz.prog 6 #[u, v] w fun e w' => e = .returned (.bool true) ∧ Below w.heap.size w w' := by
 obtain ⟨a0, c0, rfl⟩ := hl.shape
 obtain ⟨a1, c1, rfl⟩ := hm.shape
 have HLS := hid hl
 have HMS := hid hm
 clear hl hm
 go_enter Tryz.func6, Tryz.ntmps6
 go_wp2_with (fail)
 refine (x_sfirst w).mono ?_
 rintro e w1 ⟨rfl, hb1⟩
 have HB1 := hid hb1
 clear hb1
 go_wp2_with (fail)
 refine (x_fewB (HLS.out.below HB1.out)).mono ?_
 rintro e w2 ⟨bb, rfl, hbf, hb2⟩
 have HB2 : Hid (Below w.heap.size w w2) := hid (HB1.out.trans (hb2.mono HB1.out.size))
 clear hb2
 cases bb with
 | false =>
   clear hbf
   go_wp2_with (fail)
   go_ret
   exact ⟨rfl, HB2.out⟩
 | true =>
   have HFA : Hid (FewB ls) := hid (hbf rfl)
   clear hbf
   go_wp2_with (fail)
   refine (x_fewB (HMS.out.below HB2.out)).mono ?_
   rintro e w3 ⟨bb, rfl, hbf, hb3⟩
   have HB3 : Hid (Below w.heap.size w w3) := hid (HB2.out.trans (hb3.mono HB2.out.size))
   clear hb3
   cases bb with
   | false =>
     clear hbf
     go_wp2_with (fail)
     go_ret
     exact ⟨rfl, HB3.out⟩
   | true =>
     have HFB : Hid (FewB ms) := hid (hbf rfl)
     clear hbf
     by_cases hl20 : (20 : Int) < (ls.length : Int)
     ·go_wp2_with (fail)
      go_ret
      exact ⟨rfl, HB3.out⟩
     by_cases hm20 : (20 : Int) < (ms.length : Int)
     ·go_wp2_with (fail)
      go_ret
      exact ⟨rfl, HB3.out⟩
     have HLEN : Hid (ls.length ≤ 20 ∧ ms.length ≤ 20) := hid (by omega)
     go_wp2_with (fail)
     clear hl20 hm20
     refine (f_new 67108864 (by omega) (by omega)).mono ?_
     rintro e w4 ⟨fb, rfl, hf, hb⟩
     have HF : Hid (Hd w w4 fb (FsS.new 67108864) 0 (New w3 w4 fun _ => False)) := hid ⟨hf, fun i e => by rcases e with e | e; exact e.elim; have := HB3.out.size; omega, HB3.out.trans (hb.mono HB3.out.size), FsOk.new0 67108864⟩
     clear hf hb
     go_wp2_with (fail)
     refine (open_fresh (c := 0) (size := 64) HF.out (by omega) (fun k x hx => by cases hx) dirS_a (by decide) (by decide) rfl rfl (by show (0 : Nat) ≤ 5; decide) (by show (0 : Int) ≤ 810000; decide)).mono ?_
     rintro e w5 ⟨G, T, lA, sA, tA, sa, rfl, hA, hall, hseq, hcalm, hroom, hkp, hlow, hus, hfl⟩
     have HA := hid hA
     have HCA := hid hcalm
     have HALL := hid hall
     have HNO : Hid (∀ k x, G.find k = some x → ¬ inDir nmB4 k) := hid fun k x hx hi => by
      rw [find_put (F := FsS.new 67108864) List.Pairwise.nil hfl] at hx
      split at hx
      ·rename_i e
       refine dirs_apart ?_ hi
       rw [e, segName_in]
       exact pre_in _ _
      ·cases hx
     have HFEW : Hid (G.files.length ≤ 5) := hid (by
      rw [hfl]
      have := put_len_le (l := (FsS.new 67108864).files) List.Pairwise.nil (segName (nmOf nmA4 sLog) 1) (fl [])
      have e : (FsS.new 67108864).files.length = 0 := rfl
      omega)
     have HUS : Hid (G.used ≤ 810000) := hid (by rw [hus]; show (0 : Int) ≤ 810000; decide)
     clear hA hall hseq hcalm hroom hkp hlow hus hfl HF
     go_wp2_with (fail)
     refine (open_fresh (c := 0 + 1) (size := 100) HA.out.db.lg.hd (by omega) HNO.out dirS_b (by decide) (by decide) HA.out.on.up HCA.out HFEW.out HUS.out).mono ?_
     rintro e w6 ⟨G2, T2, lB, sB, tB, sb, rfl, hB, hall2, hseq2, hcalm2, hroom2, hkp2, hlow2, hus2, hfl2⟩
     have HI : Hid (Pair2 w fb (2 + 3 * 0) (batsV ls 0) (batsV ms 0) lA sA tA lB sB tB [] [] (.slice none 0 0) (.slice none 0 0) w6) := hid (by
      rw [batsV_zero, batsV_zero]
      have ha := HA.out.db.apart
      have hA2 : Sto w w6 fb nmA4 64 1 (0 + 1 + 1) 0 G2 T2 lA sA tA sa := by
       refine HA.out.moved hkp2 (fun e => HA.out.db.lg.log.out e.1) (fun e => ha.1 e.1) (fun e => ha.2.1 e.1) (fun x cs hx e => (PS.pure _ _).not hx (by decide) (by decide) (by decide) e) hB.db.lg.hd hB.db.pure hlow2.1 hB.on.up (fun m hm => ?_) hB.few hB.used (Nat.le_refl _) (Nat.le_succ _) (by decide)
       rw [find_put HA.out.on.x.rise hfl2, if_neg]
       intro e
       refine dirs_apart hm ?_
       rw [e, segName_in]
       exact pre_in _ _
      exact ⟨⟨G2, T2, sa, sb, hA2.more (by decide) (by decide) (Nat.le_refl _) (by decide), hB.more (by decide) (by decide) (Nat.le_refl _) (by decide), hcalm2, HALL.out, hall2⟩, SlAt.nil, SlAt.nil, fun g hg => by simp [Value.ownBlock] at hg, fun g hg => by simp [Value.ownBlock] at hg, by have := hlow2.2; omega⟩)
     clear HA HCA HALL HNO HFEW HUS hall2 hseq2 hcalm2 hroom2 hkp2 hlow2 hus2 hfl2 hB
     go_wp2_with (first | (go_at_call 19; refine (r_num _ _).mono ?_; rintro e w' ⟨rfl, rfl⟩))
     go_loopw [12, 13, 14] (fun pv qv iv wr => ∃ (i : Nat) (pa : Option Addr) (pc : Nat) (qa : Option Addr) (qc : Nat) (MA MB : Prs), i ≤ 20 ∧ iv = .int .i64 (i : Int) ∧ pv = .slice pa MA.length pc ∧ qv = .slice qa MB.length qc ∧ Hid (Pair2 w fb (2 + 3 * i) (batsV ls i) (batsV ms i) lA sA tA lB sB tB MA MB (.slice pa MA.length pc) (.slice qa MB.length qc) wr)) (fun _ _ iv _ => 20 - (intOf iv).toNat)
     case atStart => exact ⟨0, none, 0, none, 0, [], [], Nat.zero_le _, rfl, rfl, rfl, HI⟩
     case round =>
      clear HI
      obtain ⟨i, pa, pc, qa, qc, MA, MB, hi, rfl, rfl, rfl, HP⟩ := hrel
      have q0 : (0 : Int) ≤ (i : Int) := by omega
      by_cases hany : i < ls.length ∨ i < ms.length
      ·have HI20 : Hid (i < 20) := hid (by have := HLEN.out; omega)
       have HOWN : Hid ((∀ g, (Value.slice pa MA.length pc).ownBlock = some g → w.heap.size ≤ g) ∧ ∀ g, (Value.slice qa MB.length qc).ownBlock = some g → w.heap.size ≤ g) := hid ⟨HP.out.oa, HP.out.ob⟩
       have HANY := hid hany
       clear hi hany
       go_upto_region 12 with (fail)
       go_cut [81] from 72 to 130 (fun bv wd => bv = .bool true ∧ wd = wr)
       case first =>
        by_cases h1 : i < ls.length
        ·have q1 : (i : Int) < (ls.length : Int) := by omega
         clear h1
         go_wp2_with (fail)
         go_meet
         exact ⟨rfl, rfl⟩
        ·have q1 : ¬ (i : Int) < (ls.length : Int) := by omega
         have q2 : (i : Int) < (ms.length : Int) := by have := HANY.out; omega
         clear h1
         go_wp2_with (fail)
         go_meet
         exact ⟨rfl, rfl⟩
       case rest =>
        obtain ⟨rfl, rfl⟩ := hcut
        rename World => w6
        have HP0 := hid HP.out.wrA
        go_upto_region 14 with (fail)
        go_cut [97] from 72 to 130 (fun bv wd => ∃ b : Bool, bv = .bool b ∧ Hid (StepW w ls i MA (.slice pa MA.length pc) b wd (Pair2 w fb (2 + 3 * i + 1) (batsV ls (i + 1)) (batsV ms i) lA sA tA lB sB tB MA MB (.slice pa MA.length pc) (.slice qa MB.length qc) wd) (fun l w2 v2 => Pair2 w fb (2 + 3 * i + 1) (batsV ls (i + 1)) (batsV ms i) lA sA tA lB sB tB (applyB MA l) MB v2 (.slice qa MB.length qc) w2)))
        case first =>
         by_cases hlt : i < ls.length
         ·have q1 : (i : Int) < (ls.length : Int) := by omega
          obtain ⟨l, hli⟩ : ∃ l, ls[i]? = some l := ⟨_, List.getElem?_eq_getElem hlt⟩
          obtain ⟨g, off, cap, la, lc, hv, hc, hrd⟩ := HLS.out.at_ hli
          injection hv with hv _ hv3
          subst hv hv3
          have HRD := hid hrd
          have HLI := hid hli
          have HEA := hid (HLS.out.each l (List.mem_of_getElem? hli))
          have hc1 := (HP0.out.cell (p := ⟨g, off + i, none⟩) (World.block_lt_of_cell? w _ hc)).trans hc
          have HBV := hid (batsV_next hli)
          clear hli hc hrd hlt
          go_wp2_with (fail)
          refine (HP.out.writeA (by have := HI20.out; omega) (HFA.out.bat HLI.out) HRD.out HEA.out.1).mono ?_
          rintro e w7 ⟨r, rfl, hcs, hwp, hbw⟩
          rw [← HBV.out] at hcs
          rcases hcs with ⟨h1, h2⟩ | ⟨h1, h2, h3, h4⟩
          ·have z0 : (r == 0) = false := by simp; omega
           have HD : Hid (Pair2 w fb (2 + 3 * i + 1) (batsV ls (i + 1)) (batsV ms i) lA sA tA lB sB tB MA MB (.slice pa MA.length pc) (.slice qa MB.length qc) w7) := hid h2
           clear h1 h2 hwp hbw
           go_wp2_with (first | (go_at_call 19; refine (r_num _ _).mono ?_; rintro e w' ⟨rfl, rfl⟩))
           go_meet
           exact ⟨false, rfl, hid (.inl ⟨rfl, HD.out⟩)⟩
          ·subst h1
           have HD : Hid (StepW w ls i MA (.slice pa MA.length pc) true w7 (Pair2 w fb (2 + 3 * i + 1) (batsV ls (i + 1)) (batsV ms i) lA sA tA lB sB tB MA MB (.slice pa MA.length pc) (.slice qa MB.length qc) w7) (fun l w2 v2 => Pair2 w fb (2 + 3 * i + 1) (batsV ls (i + 1)) (batsV ms i) lA sA tA lB sB tB (applyB MA l) MB v2 (.slice qa MB.length qc) w2)) := hid (.inr ⟨rfl, l, HLI.out, h2, h3, hwp, hbw, h4⟩)
           clear h2 h3 h4 hwp hbw
           go_wp2_with (first | (go_at_call 19; refine (r_num _ _).mono ?_; rintro e w' ⟨rfl, rfl⟩))
           go_meet
           exact ⟨true, rfl, HD⟩
         ·have q1 : ¬ (i : Int) < (ls.length : Int) := by omega
          have HD := hid (HP.out.more (n' := 2 + 3 * i + 1) (Nat.le_succ _) (Nat.le_of_eq (batsV_stay (by omega)).symm) (Nat.le_refl _) (by have := HI20.out; omega))
          clear hlt
          go_wp2_with (fail)
          go_meet
          exact ⟨false, rfl, hid (.inl ⟨rfl, HD.out⟩)⟩
        case rest =>
         obtain ⟨b, rfl, HB⟩ := hcut
         rename World => w7
         clear HP
         go_upto_if 97 with (fail)
         go_cut [12] from 72 to 130 (fun pv wd => ∃ (pa2 : Option Addr) (pc2 : Nat) (MA2 : Prs), pv = .slice pa2 MA2.length pc2 ∧ Hid (Pair2 w fb (2 + 3 * i + 1) (batsV ls (i + 1)) (batsV ms i) lA sA tA lB sB tB MA2 MB (.slice pa2 MA2.length pc2) (.slice qa MB.length qc) wd))
         case first =>
          cases b with
          | false =>
            have HD : Hid (Pair2 w fb (2 + 3 * i + 1) (batsV ls (i + 1)) (batsV ms i) lA sA tA lB sB tB MA MB (.slice pa MA.length pc) (.slice qa MB.length qc) w7) := hid (by
             rcases HB.out with ⟨_, h⟩ | ⟨h, _⟩
             ·exact h
             ·cases h)
            go_wp2_with (fail)
            go_meet
            exact ⟨_, _, _, rfl, HD⟩
          | true =>
            have hB : ∃ l, ls[i]? = some l ∧ Rise slt MA ∧ MA.length ≤ 450000 ∧ SlAt prKind 85 w7 (.slice pa MA.length pc) MA ∧ Below w.heap.size w w7 ∧ ∀ w2 v2, Below w7.heap.size w7 w2 → SlAt prKind 85 w2 v2 (applyB MA l) → (∀ g, v2.ownBlock = some g → w.heap.size ≤ g) → (fun l w2 v2 => Pair2 w fb (2 + 3 * i + 1) (batsV ls (i + 1)) (batsV ms i) lA sA tA lB sB tB (applyB MA l) MB v2 (.slice qa MB.length qc) w2) l w2 v2 := by
             rcases HB.out with ⟨h, _⟩ | ⟨_, h⟩
             ·cases h
             ·exact h
            obtain ⟨l, hli, h2, h3, h4, h5, h6⟩ := hB
            obtain ⟨g, off, cap, la, lc, hv, hc, hrd⟩ := HLS.out.at_ hli
            injection hv with hv _ hv3
            subst hv hv3
            have HRD := hid hrd
            have HEA := hid (HLS.out.each l (List.mem_of_getElem? hli))
            have hc1 := (h5.cell (p := ⟨g, off + i, none⟩) (World.block_lt_of_cell? w _ hc)).trans hc
            have q1 : (i : Int) < (ls.length : Int) := by have := (List.getElem?_eq_some_iff.1 hli).1; omega
            have H234 := hid (And.intro h2 (And.intro h3 (And.intro h4 (And.intro h5 h6))))
            have HOW := hid HOWN.out.1
            clear hli hc hrd h2 h3 h4 h5 h6 HB
            go_wp2_with (fail)
            refine (x_changes (HRD.out.below H234.out.2.2.2.1) (by have := HEA.out.1; omega)).mono ?_
            rintro e w8 ⟨va, vc, rfl, hn8⟩
            have HN8 := hid hn8
            clear hn8
            go_wp2_with (fail)
            refine (d_apply (H234.out.2.2.1.below HN8.out.below) HN8.out.sl.rd H234.out.1 (by have := H234.out.2.1; have := HEA.out.1; omega)).mono ?_
            rintro e w9 ⟨vb, vd, rfl, h8, h9, h10⟩
            have HD := hid (H234.out.2.2.2.2 w9 _ (HN8.out.below.trans (h10.mono HN8.out.below.size)) h8 (fun g hg => by
             rcases h9 g hg with e | e
             ·exact HOW.out g e
             ·have := HN8.out.below.size; have := H234.out.2.2.2.1.size; omega))
            clear h8 h9 h10
            go_wp2_with (fail)
            go_meet
            exact ⟨_, _, _, rfl, HD⟩
         case rest =>
          clear HB
          obtain ⟨pa2, pc2, MA2, rfl, HP⟩ := hcut
          rename World => w8
          have HP0 := hid HP.out.wrA
          go_upto_region 16 with (fail)
          go_cut [118] from 72 to 130 (fun bv wd => ∃ b : Bool, bv = .bool b ∧ Hid (StepW w ms i MB (.slice qa MB.length qc) b wd (Pair2 w fb (2 + 3 * i + 1 + 1) (batsV ls (i + 1)) (batsV ms (i + 1)) lA sA tA lB sB tB MA2 MB (.slice pa2 MA2.length pc2) (.slice qa MB.length qc) wd) (fun l w2 v2 => Pair2 w fb (2 + 3 * i + 1 + 1) (batsV ls (i + 1)) (batsV ms (i + 1)) lA sA tA lB sB tB MA2 (applyB MB l) (.slice pa2 MA2.length pc2) v2 w2)))
          case first =>
           by_cases hlt : i < ms.length
           ·have q1 : (i : Int) < (ms.length : Int) := by omega
            obtain ⟨l, hli⟩ : ∃ l, ms[i]? = some l := ⟨_, List.getElem?_eq_getElem hlt⟩
            obtain ⟨g, off, cap, la, lc, hv, hc, hrd⟩ := HMS.out.at_ hli
            injection hv with hv _ hv3
            subst hv hv3
            have HRD := hid hrd
            have HLI := hid hli
            have HEA := hid (HMS.out.each l (List.mem_of_getElem? hli))
            have hc1 := (HP0.out.cell (p := ⟨g, off + i, none⟩) (World.block_lt_of_cell? w _ hc)).trans hc
            have HBV := hid (batsV_next hli)
            clear hli hc hrd hlt
            go_wp2_with (fail)
            refine (HP.out.writeB (by have := HI20.out; omega) (HFB.out.bat HLI.out) HRD.out HEA.out.1).mono ?_
            rintro e w7 ⟨r, rfl, hcs, hwp, hbw⟩
            rw [← HBV.out] at hcs
            rcases hcs with ⟨h1, h2⟩ | ⟨h1, h2, h3, h4⟩
            ·have z0 : (r == 0) = false := by simp; omega
             have HD : Hid (Pair2 w fb (2 + 3 * i + 1 + 1) (batsV ls (i + 1)) (batsV ms (i + 1)) lA sA tA lB sB tB MA2 MB (.slice pa2 MA2.length pc2) (.slice qa MB.length qc) w7) := hid h2
             clear h1 h2 hwp hbw
             go_wp2_with (first | (go_at_call 19; refine (r_num _ _).mono ?_; rintro e w' ⟨rfl, rfl⟩))
             go_meet
             exact ⟨false, rfl, hid (.inl ⟨rfl, HD.out⟩)⟩
            ·subst h1
             have HD : Hid (StepW w ms i MB (.slice qa MB.length qc) true w7 (Pair2 w fb (2 + 3 * i + 1 + 1) (batsV ls (i + 1)) (batsV ms (i + 1)) lA sA tA lB sB tB MA2 MB (.slice pa2 MA2.length pc2) (.slice qa MB.length qc) w7) (fun l w2 v2 => Pair2 w fb (2 + 3 * i + 1 + 1) (batsV ls (i + 1)) (batsV ms (i + 1)) lA sA tA lB sB tB MA2 (applyB MB l) (.slice pa2 MA2.length pc2) v2 w2)) := hid (.inr ⟨rfl, l, HLI.out, h2, h3, hwp, hbw, h4⟩)
             clear h2 h3 h4 hwp hbw
             go_wp2_with (first | (go_at_call 19; refine (r_num _ _).mono ?_; rintro e w' ⟨rfl, rfl⟩))
             go_meet
             exact ⟨true, rfl, HD⟩
           ·have q1 : ¬ (i : Int) < (ms.length : Int) := by omega
            have HD := hid (HP.out.more (n' := 2 + 3 * i + 1 + 1) (Nat.le_succ _) (Nat.le_refl _) (Nat.le_of_eq (batsV_stay (by omega)).symm) (by have := HI20.out; omega))
            clear hlt
            go_wp2_with (fail)
            go_meet
            exact ⟨false, rfl, hid (.inl ⟨rfl, HD.out⟩)⟩
          case rest =>
           obtain ⟨b, rfl, HB⟩ := hcut
           rename World => w7
           clear HP
           go_upto_if 118 with (fail)
           go_cut [13] from 72 to 130 (fun pv wd => ∃ (qa2 : Option Addr) (qc2 : Nat) (MB2 : Prs), pv = .slice qa2 MB2.length qc2 ∧ Hid (Pair2 w fb (2 + 3 * i + 1 + 1) (batsV ls (i + 1)) (batsV ms (i + 1)) lA sA tA lB sB tB MA2 MB2 (.slice pa2 MA2.length pc2) (.slice qa2 MB2.length qc2) wd))
           case first =>
            cases b with
            | false =>
              have HD : Hid (Pair2 w fb (2 + 3 * i + 1 + 1) (batsV ls (i + 1)) (batsV ms (i + 1)) lA sA tA lB sB tB MA2 MB (.slice pa2 MA2.length pc2) (.slice qa MB.length qc) w7) := hid (by
               rcases HB.out with ⟨_, h⟩ | ⟨h, _⟩
               ·exact h
               ·cases h)
              go_wp2_with (fail)
              go_meet
              exact ⟨_, _, _, rfl, HD⟩
            | true =>
              have hB : ∃ l, ms[i]? = some l ∧ Rise slt MB ∧ MB.length ≤ 450000 ∧ SlAt prKind 85 w7 (.slice qa MB.length qc) MB ∧ Below w.heap.size w w7 ∧ ∀ w2 v2, Below w7.heap.size w7 w2 → SlAt prKind 85 w2 v2 (applyB MB l) → (∀ g, v2.ownBlock = some g → w.heap.size ≤ g) → (fun l w2 v2 => Pair2 w fb (2 + 3 * i + 1 + 1) (batsV ls (i + 1)) (batsV ms (i + 1)) lA sA tA lB sB tB MA2 (applyB MB l) (.slice pa2 MA2.length pc2) v2 w2) l w2 v2 := by
               rcases HB.out with ⟨h, _⟩ | ⟨_, h⟩
               ·cases h
               ·exact h
              obtain ⟨l, hli, h2, h3, h4, h5, h6⟩ := hB
              obtain ⟨g, off, cap, la, lc, hv, hc, hrd⟩ := HMS.out.at_ hli
              injection hv with hv _ hv3
              subst hv hv3
              have HRD := hid hrd
              have HEA := hid (HMS.out.each l (List.mem_of_getElem? hli))
              have hc1 := (h5.cell (p := ⟨g, off + i, none⟩) (World.block_lt_of_cell? w _ hc)).trans hc
              have q1 : (i : Int) < (ms.length : Int) := by have := (List.getElem?_eq_some_iff.1 hli).1; omega
              have H234 := hid (And.intro h2 (And.intro h3 (And.intro h4 (And.intro h5 h6))))
              have HOW := hid HOWN.out.2
              clear hli hc hrd h2 h3 h4 h5 h6 HB
              go_wp2_with (fail)
              refine (x_changes (HRD.out.below H234.out.2.2.2.1) (by have := HEA.out.1; omega)).mono ?_
              rintro e w8 ⟨va, vc, rfl, hn8⟩
              have HN8 := hid hn8
              clear hn8
              go_wp2_with (fail)
              refine (d_apply (H234.out.2.2.1.below HN8.out.below) HN8.out.sl.rd H234.out.1 (by have := H234.out.2.1; have := HEA.out.1; omega)).mono ?_
              rintro e w9 ⟨vb, vd, rfl, h8, h9, h10⟩
              have HD := hid (H234.out.2.2.2.2 w9 _ (HN8.out.below.trans (h10.mono HN8.out.below.size)) h8 (fun g hg => by
               rcases h9 g hg with e | e
               ·exact HOW.out g e
               ·have := HN8.out.below.size; have := H234.out.2.2.2.1.size; omega))
              clear h8 h9 h10
              go_wp2_with (fail)
              go_meet
              exact ⟨_, _, _, rfl, HD⟩
           case rest =>
            clear HB
            obtain ⟨qa2, qc2, MB2, rfl, HP⟩ := hcut
            rename World => w8
            have HN2 : Hid (2 + 3 * i + 1 + 1 ≤ 80) := hid (by have := HI20.out; omega)
            obtain ⟨bm, hbm⟩ : ∃ b : Bool, ((i : Int) % 3 == 1) = b := ⟨_, rfl⟩
            have hi20 : (i : Int) < 20 := by have := HI20.out; omega
            cases bm with
            | false =>
              have HD : Hid (Pair2 w fb (2 + 3 * (i + 1)) (batsV ls (i + 1)) (batsV ms (i + 1)) lA sA tA lB sB tB MA2 MB2 (.slice pa2 MA2.length pc2) (.slice qa2 MB2.length qc2) w8) := hid (HP.out.more (by omega) (Nat.le_refl _) (Nat.le_refl _) (by have := HI20.out; omega))
              go_wp2_with (fail)
              go_roundw
              case rel => exact ⟨i + 1, pa2, pc2, qa2, qc2, MA2, MB2, by have := HI20.out; omega, by go_num, rfl, rfl, HD⟩
              case measure => simp [intOf]; have := HI20.out; omega
            | true =>
              go_wp2_with (fail)
              refine (HP.out.chkA HN2.out (HFA.out.small _)).mono ?_
              rintro e w9 ⟨r, rfl, h9⟩
              have HD : Hid (Pair2 w fb (2 + 3 * (i + 1)) (batsV ls (i + 1)) (batsV ms (i + 1)) lA sA tA lB sB tB MA2 MB2 (.slice pa2 MA2.length pc2) (.slice qa2 MB2.length qc2) w9) := hid h9
              clear h9
              go_wp2_with (fail)
              go_roundw
              case rel => exact ⟨i + 1, pa2, pc2, qa2, qc2, MA2, MB2, by have := HI20.out; omega, by go_num, rfl, rfl, HD⟩
              case measure => simp [intOf]; have := HI20.out; omega
      ·have q1 : ¬ (i : Int) < (ls.length : Int) := by omega
       have q2 : ¬ (i : Int) < (ms.length : Int) := by omega
       clear hany
       go_wp2_with (fail)
       obtain ⟨F, S, a, b, hA, hB, hca, ha, hb⟩ := HP.out.ex
       have HA := hid hA
       have HB := hid hB
       have HEQ := hid (And.intro ha hb)
       have HWA := hid HP.out.wa
       have HWB := hid HP.out.wb
       have HMB : Hid (MA.length ≤ 1000000 ∧ MB.length ≤ 1000000) := hid (by
        have h1 := hA.on.fit.len
        have h2 := hA.on.nq
        have h3 := hB.on.fit.len
        have h4 := hB.on.nq
        have h5 := hA.on.n1
        rw [ha] at h1
        rw [hb] at h3
        constructor <;> omega)
       have HI : Hid (i ≤ 20) := hid hi
       clear hA hB ha hb HP hi
       refine (d_crash_nil HA.out.db.lg.hd.ps).mono ?_
       rintro e wF ⟨rfl, hdF, hkF⟩
       have HDF := hid hdF
       have HWA1 := hid (want_keeps HA.out.db HWA.out (hkF.mono fun i _ e => .inl e.1))
       have HWB1 := hid (want_keeps HB.out.db HWB.out (hkF.mono fun i _ e => .inl e.1))
       have HDA : Hid (Disk (F.crash fun _ _ => 0) nmA4 (2 + 3 * i) a.seq a.all) := hid (by
        have h := HA.out.on.disk
        rw [HA.out.dir] at h
        exact h.crash _)
       have HDB : Hid (Disk (F.crash fun _ _ => 0) nmB4 (2 + 3 * i) b.seq b.all) := hid (by
        have h := HB.out.on.disk
        rw [HB.out.dir] at h
        exact h.crash _)
       clear hdF hkF
       go_wp2_with (fail)
       refine (open_calm (size := 64) HDF.out HDA.out dirS_a (by decide) (by decide) rfl (by have := HI.out; omega) rfl (by rw [crash_len]; exact HA.out.few) (Int.le_trans (crash_used F HA.out.db.lg.hd.ok _) HA.out.used) HA.out.wt).mono ?_
       rintro e wG ⟨G5, T5, lb5, sb5, tb5, s5, rfl, hst5, hall5, hseq5, hca5, hro5, hkp5, hlow5, hstp5⟩
       have HST5 := hid hst5
       have HALL5 : Hid (s5.all = MA) := hid (by rw [hall5, HEQ.out.1])
       have HCA5 := hid hca5
       have nopair : ∀ {W : World} {v : Value} {m : Prs} {S : Nat → Prop}, SlAt prKind 85 W v m → ∀ g, v.ownBlock = some g → ¬ PS S W g := fun hs g hg e => by
        obtain ⟨cs, hcs⟩ := hs.own g hg
        exact (PS.pure _ _).not hcs (by decide) (by decide) (by decide) e
       have HWA2 := hid (HWA1.out.keeps hkp5 (nopair HWA1.out))
       have HWB2 := hid (HWB1.out.keeps hkp5 (nopair HWB1.out))
       have HDB2 : Hid (Disk G5 nmB4 (2 + 3 * i) b.seq b.all) := hid (HDB.out.apart hst5.db.lg.hd.ok.rise fun k hk => hstp5.others k fun e => dirs_apart e hk)
       clear hst5 hall5 hseq5 hca5 hro5 hkp5 hlow5 hstp5 HDF HDA HDB HWA1 HWB1
       go_wp2_with (fail)
       refine (open_calm (size := 100) HST5.out.db.lg.hd HDB2.out dirS_b (by decide) (by decide) HST5.out.on.up (by have := HI.out; omega) HCA5.out HST5.out.few HST5.out.used HB.out.wt).mono ?_
       rintro e wH ⟨G6, T6, lb6, sb6, tb6, s6, rfl, hst6, hall6, hseq6, hca6, hro6, hkp6, hlow6, hstp6⟩
       have HST6 := hid hst6
       have HALL6 : Hid (s6.all = MB) := hid (by rw [hall6, HEQ.out.2])
       have HWA3 := hid (HWA2.out.keeps hkp6 (nopair HWA2.out))
       have HWB3 := hid (HWB2.out.keeps hkp6 (nopair HWB2.out))
       have HSB5 := hid (HST5.out.db.st.pure (PS.pure _ _) hkp6)
       have HB6 := hid hst6.db.lg.hd.below
       have HSAME : Hid (Calls Tryz.prog 34 #[.pointer (some ⟨sb5, 0, none⟩), .slice pa MA.length pc] wH fun e w' => e = .returned (.bool true) ∧ Below wH.heap.size wH w') := hid (by
        have h := x_same HSB5.out HWA3.out.rd (by rw [HALL5.out]; have := HMB.out; omega) (by have := HMB.out; omega)
        rw [decide_eq_true HALL5.out] at h
        exact h)
       have HSAME2 : Hid (∀ W, Below wH.heap.size wH W → Calls Tryz.prog 34 #[.pointer (some ⟨sb6, 0, none⟩), .slice qa MB.length qc] W fun e w' => e = .returned (.bool true) ∧ Below W.heap.size W w') := hid fun W hW => by
        have h := x_same (HST6.out.db.st.below hW) (HWB3.out.below hW).rd (by rw [HALL6.out]; have := HMB.out; omega) (by have := HMB.out; omega)
        rw [decide_eq_true HALL6.out] at h
        exact h
       clear hst6 hall6 hseq6 hca6 hro6 hkp6 hlow6 hstp6 nopair
       go_wp2_with (first | (go_at_call 19; refine (r_num _ _).mono ?_; rintro e w' ⟨rfl, rfl⟩))
       refine HSAME.out.mono ?_
       rintro e wI ⟨rfl, hbI⟩
       have HBI := hid hbI
       clear hbI
       go_wp2_with (fail)
       refine (HSAME2.out _ HBI.out).mono ?_
       rintro e wJ ⟨rfl, hbJ⟩
       have HE := hid (HB6.out.trans ((HBI.out.trans (hbJ.mono HBI.out.size)).mono HB6.out.size))
       clear hbJ
       go_wp2_with (fail)
       go_ret
       exact ⟨rfl, HE.out⟩
end Go.Proofs.YtagdchgkjjpacaaGreat
