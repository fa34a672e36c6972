/- The meter's Accounts. -/
import Derived.Test.YtkbdofbjfcajbaaGreatE10
import Derived.Test.YtkbdofbjfcajbaaGreatE11
import Derived.Test.YtkbdofbjfcajbaaGreatKv
namespace Go.Proofs.YtkbdofbjfcajbaaGreat
open Go.RowKit Go.Shelf Go.Sort
attribute [local go_sem] Oper.semAt_some
attribute [local go_sem] no_callee

theorem wpListIn_mapUpdate_run {F : Fence} {n : Nat} {P : Program} {w : World} {ops : Array Oper} {rest : List Oper} {o : Oper} {a : Act} {Q : Exit → Act → World → Prop} (hgd : o.guard = none) (m x v : Operand) (t : TypeId) (ho : o.op = .mapUpdate t m x v)
    (mv kv vv : Value) (hm : a.eval m = mv) (hx : a.eval x = kv) (hv : a.eval v = vv) (w' : World) (hrun : (Instr.mapUpdate t mv kv vv).run P w = .ok () w') (h : wpListIn F n P ops Q rest (a.put o.dst undef) w') : wpListIn F n P ops Q (o :: rest) a w := by
  refine wpListIn_plain hgd fun K hK' => ?_
  unfold Oper.wpIn
  refine ⟨?_, ?_⟩
  · simp [Oper.about, ho]
  · rw [Oper.semAt_plain F _ _ (by rw [ho]; intro c hc'; cases hc')]
    simp [execOp, ho, hm, hx, hv, hrun, Result.andThen]
    exact hK' _ _ h
def upC {E : Type} (o : Option Int) (_ : E) : Int := o.getD 0 + 1
abbrev evInt : Int → Value := fun c => .int .i64 c
/-- How many events each account has. -/
abbrev cntL (l : List (ByteArray × Ev)) : List (ByteArray × Int) := Kv.tally (fun x : ByteArray × Ev => x.2.acct) upC l
theorem upC_fold {E : Type} : ∀ (l : List E) (o : Option Int), l.foldl (fun o e => some (upC o e)) o = if l = [] then o else some (o.getD 0 + l.length)
  | [], _ => rfl
  | e :: l, o => by
    rw [List.foldl_cons, upC_fold l]
    by_cases h : l = []
    · subst h; simp [upC]
    · rw [if_neg h, if_neg (by simp)]
      simp [upC]; omega
theorem cnt_find (l : List (ByteArray × Ev)) (k : ByteArray) : 0 ≤ (findL slt (cntL l) k).getD 0 ∧ (findL slt (cntL l) k).getD 0 ≤ l.length := by
  rw [Kv.tally_find, upC_fold]
  have := List.length_filter_le (fun e : ByteArray × Ev => decide (e.2.acct = k)) l
  split
  · simp
  · simp only [Option.getD_some, Option.getD_none]; omega
/-- While Accounts goes over the table. -/
structure AcI (w : World) (pre : List (ByteArray × Ev)) (A : World) : Prop where
  bv : IsBlk A (w.heap.size + 1) #[.map (some w.heap.size)] 81
  mp : MapAt strKind evInt A w.heap.size (cntL pre)
  below : Below w.heap.size w A
theorem AcI.keeps {S : Nat → Prop} {w A B : World} {pre : List (ByteArray × Ev)} (h : AcI w pre A) (hk : Keeps S A B) (h1 : ¬ S (w.heap.size + 1)) (h2 : ¬ S w.heap.size) (hlo : ∀ k, S k → w.heap.size ≤ k) : AcI w pre B :=
  ⟨hk.obj h.bv h1, h.mp.keeps hk h2, below_keeps h.below hk hlo h.below.size⟩
theorem AcI.start (w : World) : AcI w [] ((w.alloc (.map #[] 0)).alloc (.cells #[.map (some w.heap.size)] 81)) ∧ ((w.alloc (.map #[] 0)).alloc (.cells #[.map (some w.heap.size)] 81)).heap.size = w.heap.size + 2 := by
  have h1 : MapAt strKind evInt (w.alloc (.map #[] 0)) w.heap.size (cntL []) := mapAt_made w
  have h2 : Below (w.alloc (.map #[] 0)).heap.size (w.alloc (.map #[] 0)) ((w.alloc (.map #[] 0)).alloc (.cells #[.map (some w.heap.size)] 81)) := (Below.refl _ _).alloc (Nat.le_refl _) _
  have h3 : Below w.heap.size w (w.alloc (.map #[] 0)) := (Below.refl _ _).alloc (Nat.le_refl _) _
  refine ⟨⟨?_, h1.below h2, h3.trans (h2.mono h3.size)⟩, by simp⟩
  have := blk_new (w.alloc (.map #[] 0)) (.cells #[.map (some w.heap.size)] 81)
  rwa [World.size_alloc] at this
set_option maxRecDepth 100000 in
set_option maxHeartbeats 4000000 in
theorem m_accounts (w : World) (mb tb : Nat) (s : MSt) (hm : MtrIn w mb tb s) (hs : s.t.size < 100000) (hfit : ∀ x ∈ s.t.ino, x.2.acct.size ≤ 1000000) :
    Calls Tryz.prog 12 #[.pointer (some ⟨mb, 0, none⟩)] w fun e w' => ∃ v, e = .returned v ∧ SlAt textKind 9 w' v ((cntL s.t.ino).map (·.1)) ∧ (∀ g, v.ownBlock = some g → w.heap.size ≤ g) ∧ Below w.heap.size w w' := by
  have hlt := hm.lt
  have hc : w.cell? ⟨mb, 2, none⟩ = some (.pointer (some ⟨tb, 0, none⟩)) := blk_cell hm.blk 2
  have HM := Lib.hid hm
  have HS := Lib.hid (And.intro hs hfit)
  clear hm hs hfit
  refine calls_of_wp_marks Tryz.func12 rfl ?_
  simp only [Tryz.ntmps12, List.size_toArray, List.length_cons, List.length_nil, Nat.reduceAdd, Nat.reduceSub, Array.replicate_succ, Array.replicate_zero, List.push_toArray, List.append_toArray, List.nil_append, List.cons_append]
  have hmm := run_makeMap (P := Tryz.prog) 81 w
  go_upto_region 2 with fail
  obtain ⟨hE, hsz⟩ := AcI.start w
  generalize (w.alloc (.map #[] 0)).alloc (.cells #[.map (some w.heap.size)] 81) = W0 at hE hsz ⊢
  have hc0 : W0.cell? ⟨mb, 2, none⟩ = some (.pointer (some ⟨tb, 0, none⟩)) := (hE.below.cell (p := ⟨mb, 2, none⟩) hlt).trans hc
  have HE := Lib.hid hE
  have HSZ := Lib.hid hsz
  clear hE hsz hc hlt hmm
  go_wp2_with fail
  refine (Ev.q_tAll _ tb).mono ?_
  rintro e w1 ⟨rfl, rfl⟩
  go_wp2_with fail
  have hb1 := blk_new W0 (.cells #[.pointer (some ⟨tb, 0, none⟩)] 56)
  have hB1 : Below W0.heap.size W0 (W0.alloc (.cells #[.pointer (some ⟨tb, 0, none⟩)] 56)) := (Below.refl _ _).alloc (Nat.le_refl _) _
  have hz1 : (W0.alloc (.cells #[.pointer (some ⟨tb, 0, none⟩)] 56)).heap.size = w.heap.size + 3 := by rw [World.size_alloc, HSZ.out]
  generalize W0.alloc (.cells #[.pointer (some ⟨tb, 0, none⟩)] 56) = W1 at hb1 hB1 hz1 ⊢
  have HE1 := Lib.hid (HE.out.keeps (Keeps.of_below hB1) (fun h => h) (fun h => h) (fun _ h => h.elim))
  have HIT := Lib.hid (iter_tall hb1 (HM.out.tab.below HE1.out.below))
  have HZ := Lib.hid hz1
  clear hb1 hB1 hz1 hc0
  refine wp_forSeqA rfl egTAll1 HIT.out (fun _ => rfl) Ev.KeepW.trans (fun W r o h => keepW_put o h) (fun pre W => AcI w pre W) (fun _ _ _ => False)
    (fun s A B h hk => ?hI) (fun _ _ _ _ h _ => h.elim) HE1.out (fun h => Ev.KeepW.below h) ?a1 (fun x W => W.alloc (.cells #[.string x.2.key, .string x.2.acct, .string x.2.mtr, .int .i64 x.2.qty, .int .i64 x.2.at_] 32)) (fun x W => (Below.refl _ _).alloc (Nat.le_refl _) _) ?assign ?body ?done ?stop
  case hI => exact h.keeps hk (loopAt_not h.bv) (fun e => by have := e.1; have := HZ.out; omega) (fun k hk' => by have := hk'.1; have := HZ.out; omega)
  case assign =>
    intro x W K hK
    gi_wp2
    exact hK
  case stop => intro c q B _ h; exact h.elim
  case body =>
    rintro pre x A0 A hA hp hsz2 hk
    have hbx : Ev.BoxAtE A A0.heap.size x.2 := hk.obj (blk_new A0 _) (loopAt_not (blk_new A0 _))
    have x1 : A.cell? ⟨A0.heap.size, 1, none⟩ = some (.string x.2.acct) := blk_cell hbx 1
    have f3 : A.cell? ⟨w.heap.size + 1, 0, none⟩ = some (.map (some w.heap.size)) := blk_cell hA.bv 0
    have hlen : pre.length ≤ 100000 := by
      have h1 := hp.length_le
      rw [List.length_append, List.length_singleton, Tr.ino_length] at h1
      have := HS.out.1
      omega
    have hAs : w.heap.size + 5 ≤ A.heap.size := by
      have h1 := hk.size
      have := HZ.out
      have h2 : A0.heap.size ≤ (A0.alloc (.cells #[.string x.2.key, .string x.2.acct, .string x.2.mtr, .int .i64 x.2.qty, .int .i64 x.2.at_] 32)).heap.size := by simp
      omega
    have hlk : (Instr.lookup 81 (.map (some w.heap.size)) (.string x.2.acct) false).run Tryz.prog A = .ok (.int .i64 ((findL slt (cntL pre) x.2.acct).getD 0)) A := by
      have := hA.mp.lookup (P := Tryz.prog) (t := 81) Tryz.underlying81 Tryz.underlying9 (Tryz.zeroValue3 A) x.2.acct false
      rw [if_neg (by simp)] at this
      have e : ((findL strKind.lt (cntL pre) x.2.acct).map evInt).getD (.int .i64 0) = .int .i64 ((findL slt (cntL pre) x.2.acct).getD 0) := by
        show ((findL slt (cntL pre) x.2.acct).map evInt).getD (.int .i64 0) = _
        cases findL slt (cntL pre) x.2.acct <;> rfl
      rw [e] at this
      exact this
    obtain ⟨w', hup, hmp, hkm, hzm⟩ := hA.mp.update (P := Tryz.prog) (t := 81) Tryz.underlying81 Tryz.underlying9 x.2.acct ((findL slt (cntL pre) x.2.acct).getD 0 + 1)
    have hcb := cnt_find pre x.2.acct
    have hsn : cntL (pre ++ [x]) = putL slt (cntL pre) x.2.acct ((findL slt (cntL pre) x.2.acct).getD 0 + 1) := Kv.tally_snoc _ _ pre x
    have HF : Hid (AcI w (pre ++ [x]) w') := Lib.hid ⟨hkm.obj hA.bv (by omega), by rw [hsn]; exact hmp, below_keeps hA.below hkm (fun i e => by omega) hA.below.size⟩
    have HKM := Lib.hid hkm
    have HMP := Lib.hid hA.mp
    have HAS := Lib.hid hAs
    obtain ⟨k, u⟩ := x
    simp only at x1 hlk hup hcb
    obtain ⟨c, hc⟩ : ∃ c, c = (findL slt (cntL pre) u.acct).getD 0 := ⟨_, rfl⟩
    rw [← hc] at hlk hup hcb
    obtain ⟨hc0, hc1⟩ := hcb
    have hc2 : c ≤ 100000 := by omega
    replace hup : (Instr.mapUpdate 81 (.map (some w.heap.size)) (.string u.acct) (.int .i64 (c + 1))).run Tryz.prog A = .ok () w' := hup
    clear hA hp hk hbx hsz2 hlen hAs hmp hkm hzm hsn hc hc1
    gi_wp2
    refine ⟨?_, ?_, ?_, HF.out⟩
    · exact HKM.out.block _ (by have := HAS.out; have := HZ.out; omega) (by have := HZ.out; omega)
    · exact HKM.out.block _ (by have := HAS.out; have := HZ.out; omega) (by have := HZ.out; omega)
    · exact keepW_keeps HKM.out (fun T hT b cs hb e => HMP.out.not_blk hb e)
  case done =>
    rintro A hA hD
    have f3 : A.cell? ⟨w.heap.size + 1, 0, none⟩ = some (.map (some w.heap.size)) := blk_cell hA.bv 0
    have hn : (cntL s.t.ino).length ≤ s.t.ino.length := Kv.tally_len (fun x : ByteArray × Ev => x.2.acct) upC s.t.ino
    rw [Tr.ino_length] at hn
    have HSO := Lib.hid (sortedInt hA.mp (by have := HS.out.1; omega) (by
      intro x hx
      rcases Kv.tally_keys _ _ hx with ⟨e, h1, h2⟩ | ⟨y, hy, _⟩
      · have h3 := HS.out.2 e h1; replace h2 : e.2.acct = x.1 := h2; rw [← h2]; unfold maxLen; omega
      · cases hy))
    have HA := Lib.hid hA
    have HD := Lib.hid hD
    clear hA hD hn
    go_wp2_with fail
    refine (keysInt _ _).mono ?_
    rintro e w4 ⟨rfl, rfl⟩
    go_wp2_with fail
    refine HSO.out.mono ?_
    rintro e w5 ⟨v, rfl, hsl, hnew, hb5⟩
    have HD5 : Hid (w5.heap[W1.heap.size]? = some (.deferred (some []))) := Lib.hid ((hb5.block _ (lt_of_block HD.out)).trans HD.out)
    have HB5 : Hid (Below w.heap.size w w5) := Lib.hid (HA.out.below.trans (hb5.mono HA.out.below.size))
    have HR5 := Lib.hid (And.intro hsl hnew)
    have HLT := Lib.hid (lt_of_block HD.out)
    clear f3 hsl hnew hb5
    go_wp2_with fail
    refine leaves_of_marked [W1.heap.size] w5 ⟨HD5.out, v, by rw [results_tmp (t := 2) rfl]; rfl, v, rfl, ?_, fun g hg => ?_, ?_⟩
    · exact HR5.out.1.keeps (keeps_putObj _ _ _) (fun g hg e => by have := HR5.out.2 _ hg; have := HLT.out; omega)
    · have := HR5.out.2 _ hg; have := HA.out.below.size; omega
    · exact below_keeps HB5.out (keeps_putObj w5 W1.heap.size (.deferred none)) (fun i e => by have := HZ.out; omega) HB5.out.size
end Go.Proofs.YtkbdofbjfcajbaaGreat
