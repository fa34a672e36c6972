/- exlaw4.StoreApart returns true: two stores in directories of their own on one file system do not see one another; proved for every l and m, where what is read is of bulk at most 1048576; each argument reads behind the call as it did. -/
import Derived.Test.YtagdchgkjjpacaaGreatZlw
import Derived.Test.YtagdchgkjjpacaaGreatz49
set_option maxRecDepth 100000
namespace Go.Proofs.YtagdchgkjjpacaaGreat
open Go.ChangeShapes Go.WideShapes Go.ChangeAt Go.RowKit
theorem storeApart_contract (H : Type) (enc : TypeId × Value → H) (W : World) (base : Nat) (args : Array Value) (ds gs : List (DataW H)) (before : List MemPlace)
 (hval : ∀ (j : Nat) t v, Tryz.f6.params[j]? = some t → args[j]? = some v → Value.okWide Tryz.prog W .any base t v)
 (hW : DataW.Whole enc Tryz.prog Tryz.f6.params.toList Rows.storeApartSpec.vars false W args.toList ds gs before) (hk : Rows.uptoSmall H (ds ++ gs) = true) :
 Calls Tryz.prog 6 args W fun e W' => ∃ v, e = .returned v ∧ Rows.storeApartSpec.post enc Tryz.prog Tryz.f6 false true false false W args v W' := by
 have hW' := hW
 obtain ⟨p, q, hA0, hV, rfl, _, _⟩ := hW
 have hA : DataW.TrodAll enc Tryz.prog W 0 (fun _ => true) true Tryz.f6.params.toList args.toList ds p := hA0
 rw [Tryz.params6] at hA hval
 obtain ⟨v0, vs0, d0, ds0, p0, q0, hargs, rfl, rfl, h0, r0⟩ := trodAll_cons hA
 obtain ⟨v1, vs1, d1, ds1, p1, q1, rfl, rfl, rfl, h1, r1⟩ := trodAll_cons r0
 obtain ⟨rfl, rfl, rfl⟩ := trodAll_nil r1
 obtain rfl : args = #[v0, v1] := by cases args; simp_all
 obtain ⟨rfl, rfl⟩ := trodVars_none hV
 obtain ⟨l0, hs0⟩ := bats_open (hval 0 26 v0 rfl rfl) h0 (by
  have k2 := of_decide_eq_true hk
  have k3 : Rows.uptoBulk d0 ≤ _ := Nat.le_trans (bulkMem (by simp)) k2
  omega)
 obtain ⟨l1, hs1⟩ := bats_open (hval 1 26 v1 rfl rfl) h1 (by
  have k2 := of_decide_eq_true hk
  have k3 : Rows.uptoBulk d1 ≤ _ := Nat.le_trans (bulkMem (by simp)) k2
  omega)
 have hlt0 : ∀ x ∈ p0, x.block < W.heap.size := fun x hx => hW'.lt x (by simp [hx])
 have hlt1 : ∀ x ∈ p1, x.block < W.heap.size := fun x hx => hW'.lt x (by simp [hx])
 clear hA0
 refine (l_storeApart hs0 hs1).mono fun e W' ⟨he, hb⟩ => ?_
 subst he
 exact ⟨_, rfl, _, _, _, [], (p0 ++ (p1 ++ [])), [], hW', trodAll_cons_mk (shut_bool Tryz.underlying4 _) trodAll_mk0,
   (trodAll_cons_mk (Below.trod Tryz.laidOut (by kernel_rfl) (of_decide_eq_true (by kernel_rfl)) h0 hb hlt0) (trodAll_cons_mk (Below.trod Tryz.laidOut (by kernel_rfl) (of_decide_eq_true (by kernel_rfl)) h1 hb hlt1) trodAll_mk0)), rfl, hb.frame _, fun h => by cases h⟩
theorem storeApart_lifted (os : Os) (started : os.Started) (H : Type) (enc : TypeId × Value → H) (F : Stop.Interp) :
 ReturnsInHanded {} Tryz.checked os 6 .any ((Rows.OpenSpec.upto Rows.storeApartSpec).pre6 enc Tryz.prog Tryz.f6 Rows.storeApartUptoRow.domain false) (((Rows.OpenSpec.upto Rows.storeApartSpec).at F).post enc Tryz.prog Tryz.f6 false true false false) := by
 refine returnsInHanded_of_cond (C := Tryz.checked) (s := Rows.OpenSpec.upto Rows.storeApartSpec) (k := Rows.uptoSmall) rfl Tryz.own started (by kernel_rfl) Tryz.func6
   (OpenSpec.witness (enc := enc) (C := Tryz.checked) (s := Rows.OpenSpec.upto Rows.storeApartSpec) (k := Rows.uptoSmall) rfl false ⟨#[], #[.slice none 0 0, .slice none 0 0], []⟩ 8 (by kernel_rfl) (by kernel_rfl) (by kernel_rfl)
     (x := ([.nil, .nil], [], [])) (by kernel_rfl) rfl (by kernel_rfl)) ?_
 intro W base args ds gs before hval hW _ hk _
 exact storeApart_contract H enc W base args ds gs before hval hW hk
theorem storeApart_proved : Rows.StoreApartUptoSaid :=
 OpenClaim.holds_of_cond 6 Tryz.f6 rfl rfl rfl rfl rfl rfl rfl ⟨rfl, rfl, rfl, rfl, rfl⟩ rfl rfl rfl rfl rfl (by kernel_rfl) Tryz.func6 (by kernel_rfl)
   (of_decide_eq_true (by kernel_rfl)) (by unfold Func.isWrapper; first | (rw [if_pos (by decide +kernel)]; kernel_rfl) | (rw [if_neg (by decide +kernel)]; exact ⟨rfl, rfl⟩))
   (fun os started H enc _ F => storeApart_lifted os started H enc F)
end Go.Proofs.YtagdchgkjjpacaaGreat
