/- exlaw4.StoreWhole returns true: behind any crashes the store has what was answered OK, in order, and perhaps, wholly, what was interrupted, and opened again it is the same; proved for every segment, capacity, l, crashes and more, where what is read is of bulk at most 1048576; each argument reads behind the call as it did. -/
import Derived.Test.YtagdchgkjjpacaaGreatw48
import Derived.Test.YtagdchgkjjpacaaGreatw49
set_option maxRecDepth 100000
namespace Go.Proofs.YtagdchgkjjpacaaGreat
open Go.ChangeShapes Go.WideShapes Go.ChangeAt Go.RowKit
theorem storeWhole_contract (H : Type) (enc : TypeId × Value → H) (W : World) (base : Nat) (args : Array Value) (ds gs : List (DataW H)) (before : List MemPlace)
 (hval : ∀ (j : Nat) t v, Tryz.f8.params[j]? = some t → args[j]? = some v → Value.okWide Tryz.prog W .any base t v)
 (hW : DataW.Whole enc Tryz.prog Tryz.f8.params.toList Rows.storeWholeSpec.vars false W args.toList ds gs before) (hk : Rows.uptoSmall H (ds ++ gs) = true) :
 Calls Tryz.prog 8 args W fun e W' => ∃ v, e = .returned v ∧ Rows.storeWholeSpec.post enc Tryz.prog Tryz.f8 false true false false W args v W' := by
 have hW' := hW
 obtain ⟨p, q, hA0, hV, rfl, _, _⟩ := hW
 have hA : DataW.TrodAll enc Tryz.prog W 0 (fun _ => true) true Tryz.f8.params.toList args.toList ds p := hA0
 rw [Tryz.params8] at hA hval
 obtain ⟨v0, vs0, d0, ds0, p0, q0, hargs, rfl, rfl, h0, r0⟩ := trodAll_cons hA
 obtain ⟨v1, vs1, d1, ds1, p1, q1, rfl, rfl, rfl, h1, r1⟩ := trodAll_cons r0
 obtain ⟨v2, vs2, d2, ds2, p2, q2, rfl, rfl, rfl, h2, r2⟩ := trodAll_cons r1
 obtain ⟨v3, vs3, d3, ds3, p3, q3, rfl, rfl, rfl, h3, r3⟩ := trodAll_cons r2
 obtain ⟨v4, vs4, d4, ds4, p4, q4, rfl, rfl, rfl, h4, r4⟩ := trodAll_cons r3
 obtain ⟨rfl, rfl, rfl⟩ := trodAll_nil r4
 obtain rfl : args = #[v0, v1, v2, v3, v4] := by cases args; simp_all
 obtain ⟨rfl, rfl⟩ := trodVars_none hV
 obtain ⟨n0, rfl, rfl, rfl, w0⟩ := open_int Tryz.underlying3 (hval 0 3 v0 rfl rfl) h0
 have b0 := bounds_i64 w0
 obtain ⟨n1, rfl, rfl, rfl, w1⟩ := open_int Tryz.underlying3 (hval 1 3 v1 rfl rfl) h1
 have b1 := bounds_i64 w1
 obtain ⟨l2, hs2⟩ := bats_open (hval 2 26 v2 rfl rfl) h2 (by
  have k2 := of_decide_eq_true hk
  have k3 : Rows.uptoBulk d2 ≤ _ := Nat.le_trans (bulkMem (by simp)) k2
  omega)
 obtain ⟨l3, hs3⟩ := scrs_open (hval 3 71 v3 rfl rfl) h3 (by
  have k2 := of_decide_eq_true hk
  have k3 : Rows.uptoBulk d3 ≤ _ := Nat.le_trans (bulkMem (by simp)) k2
  omega)
 obtain ⟨l4, hs4⟩ := scrs_open (hval 4 71 v4 rfl rfl) h4 (by
  have k2 := of_decide_eq_true hk
  have k3 : Rows.uptoBulk d4 ≤ _ := Nat.le_trans (bulkMem (by simp)) k2
  omega)
 have hlt2 : ∀ x ∈ p2, x.block < W.heap.size := fun x hx => hW'.lt x (by simp [hx])
 have hlt3 : ∀ x ∈ p3, x.block < W.heap.size := fun x hx => hW'.lt x (by simp [hx])
 have hlt4 : ∀ x ∈ p4, x.block < W.heap.size := fun x hx => hW'.lt x (by simp [hx])
 clear hA0
 refine (l_storeWhole hs2 n0 n1 b1.1 b1.2 hs3.1 hs4.1 hs3.2 hs4.2).mono fun e W' ⟨he, hb⟩ => ?_
 subst he
 exact ⟨_, rfl, _, _, _, [], ([] ++ ([] ++ (p2 ++ (p3 ++ (p4 ++ []))))), [], hW', trodAll_cons_mk (shut_bool Tryz.underlying4 _) trodAll_mk0,
   (trodAll_cons_mk (shut_int Tryz.underlying3 w0) (trodAll_cons_mk (shut_int Tryz.underlying3 w1) (trodAll_cons_mk (Below.trod Tryz.laidOut (by kernel_rfl) (of_decide_eq_true (by kernel_rfl)) h2 hb hlt2) (trodAll_cons_mk (Below.trod Tryz.laidOut (by kernel_rfl) (of_decide_eq_true (by kernel_rfl)) h3 hb hlt3) (trodAll_cons_mk (Below.trod Tryz.laidOut (by kernel_rfl) (of_decide_eq_true (by kernel_rfl)) h4 hb hlt4) trodAll_mk0))))), rfl, hb.frame _, fun h => by cases h⟩
theorem storeWhole_lifted (os : Os) (started : os.Started) (H : Type) (enc : TypeId × Value → H) (F : Stop.Interp) :
 ReturnsInHanded {} Tryz.checked os 8 .any ((Rows.OpenSpec.upto Rows.storeWholeSpec).pre6 enc Tryz.prog Tryz.f8 Rows.storeWholeUptoRow.domain false) (((Rows.OpenSpec.upto Rows.storeWholeSpec).at F).post enc Tryz.prog Tryz.f8 false true false false) := by
 refine returnsInHanded_of_cond (C := Tryz.checked) (s := Rows.OpenSpec.upto Rows.storeWholeSpec) (k := Rows.uptoSmall) rfl Tryz.own started (by kernel_rfl) Tryz.func8
   (OpenSpec.witness (enc := enc) (C := Tryz.checked) (s := Rows.OpenSpec.upto Rows.storeWholeSpec) (k := Rows.uptoSmall) rfl false ⟨#[], #[.int .i64 0, .int .i64 0, .slice none 0 0, .slice none 0 0, .slice none 0 0], []⟩ 8 (by kernel_rfl) (by kernel_rfl) (by kernel_rfl)
     (x := ([.lit (.int .i64 0), .lit (.int .i64 0), .nil, .nil, .nil], [], [])) (by kernel_rfl) rfl (by kernel_rfl)) ?_
 intro W base args ds gs before hval hW _ hk _
 exact storeWhole_contract H enc W base args ds gs before hval hW hk
theorem storeWhole_proved : Rows.StoreWholeUptoSaid :=
 OpenClaim.holds_of_cond 8 Tryz.f8 rfl rfl rfl rfl rfl rfl rfl ⟨rfl, rfl, rfl, rfl, rfl⟩ rfl rfl rfl rfl rfl (by kernel_rfl) Tryz.func8 (by kernel_rfl)
   (of_decide_eq_true (by kernel_rfl)) (by unfold Func.isWrapper; first | (rw [if_pos (by decide +kernel)]; kernel_rfl) | (rw [if_neg (by decide +kernel)]; exact ⟨rfl, rfl⟩))
   (fun os started H enc _ F => storeWhole_lifted os started H enc F)
end Go.Proofs.YtagdchgkjjpacaaGreat
