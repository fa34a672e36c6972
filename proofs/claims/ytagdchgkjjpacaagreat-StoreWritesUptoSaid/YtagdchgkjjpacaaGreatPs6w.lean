/- exlaw4.StoreWrites returns true: batches, with checkpoints and openings between, leave just what they say, a range goes over just what lies in it, a snapshot stays; proved for every segment, l, kinds, from and to, where what is read is of bulk at most 1048576; each argument reads behind the call as it did. -/
import Derived.Test.YtagdchgkjjpacaaGreatr48
import Derived.Test.YtagdchgkjjpacaaGreatr49
set_option maxRecDepth 100000
namespace Go.Proofs.YtagdchgkjjpacaaGreat
open Go.ChangeShapes Go.WideShapes Go.ChangeAt Go.RowKit
theorem storeWrites_contract (H : Type) (enc : TypeId × Value → H) (W : World) (base : Nat) (args : Array Value) (ds gs : List (DataW H)) (before : List MemPlace)
 (hval : ∀ (j : Nat) t v,Tryz.f9.params[j]? = some t → args[j]? = some v → Value.okWide Tryz.prog W .any base t v)
 (hW : DataW.Whole enc Tryz.prog Tryz.f9.params.toList Rows.storeWritesSpec.vars false W args.toList ds gs before) (hk : Rows.uptoSmall H (ds ++ gs) = true) :
 Calls Tryz.prog 9 args W fun e W' => ∃ v,e = .returned v ∧ Rows.storeWritesSpec.post enc Tryz.prog Tryz.f9 false true false false W args v W':=by
 have hW':=hW
 obtain ⟨p,q,hA0,hV,rfl,_,_⟩:=hW
 have hA : DataW.TrodAll enc Tryz.prog W 0 (fun _ => true) true Tryz.f9.params.toList args.toList ds p:=hA0
 rw [Tryz.params9] at hA hval
 obtain ⟨v0,vs0,d0,ds0,p0,q0,hargs,rfl,rfl,h0,r0⟩:=trodAll_cons hA
 obtain ⟨v1,vs1,d1,ds1,p1,q1,rfl,rfl,rfl,h1,r1⟩:=trodAll_cons r0
 obtain ⟨v2,vs2,d2,ds2,p2,q2,rfl,rfl,rfl,h2,r2⟩:=trodAll_cons r1
 obtain ⟨v3,vs3,d3,ds3,p3,q3,rfl,rfl,rfl,h3,r3⟩:=trodAll_cons r2
 obtain ⟨v4,vs4,d4,ds4,p4,q4,rfl,rfl,rfl,h4,r4⟩:=trodAll_cons r3
 obtain ⟨rfl,rfl,rfl⟩:=trodAll_nil r4
 obtain rfl : args = #[v0,v1,v2,v3,v4]:=by cases args; simp_all
 obtain ⟨rfl,rfl⟩:=trodVars_none hV
 obtain ⟨n0,rfl,rfl,rfl,w0⟩:=open_int Tryz.underlying3 (hval 0 3 v0 rfl rfl) h0
 have b0:=bounds_i64 w0
 obtain ⟨l1,hs1⟩:=bats_open (hval 1 26 v1 rfl rfl) h1 (by
  have k2:=of_decide_eq_true hk
  have k3 : Rows.uptoBulk d1 ≤ _:=Nat.le_trans (bulkMem (by simp)) k2
  omega)
 obtain ⟨l2,hs2⟩:=ints_open (hval 2 78 v2 rfl rfl) h2
 obtain ⟨s3,rfl,rfl,rfl,z3⟩:=Go.ChangeMaps.open_string Tryz.underlying9 (hval 3 9 v3 rfl rfl) h3
 obtain ⟨s4,rfl,rfl,rfl,z4⟩:=Go.ChangeMaps.open_string Tryz.underlying9 (hval 4 9 v4 rfl rfl) h4
 have hlt1 : ∀ x ∈ p1,x.block < W.heap.size:=fun x hx => hW'.lt x (by simp [hx])
 have hlt2 : ∀ x ∈ p2,x.block < W.heap.size:=fun x hx => hW'.lt x (by simp [hx])
 clear hA0
 refine (l_storeWrites hs1 n0 hs2.1 hs2.2 s3 s4).mono fun e W' ⟨he,hb⟩ => ?_
 subst he
 exact ⟨_,rfl,_,_,_,[],([] ++ (p1 ++ (p2 ++ ([] ++ ([] ++ []))))),[],hW',trodAll_cons_mk (shut_bool Tryz.underlying4 _) trodAll_mk0,
   (trodAll_cons_mk (shut_int Tryz.underlying3 w0) (trodAll_cons_mk (Below.trod Tryz.laidOut (by kernel_rfl) (of_decide_eq_true (by kernel_rfl)) h1 hb hlt1) (trodAll_cons_mk (Below.trod Tryz.laidOut (by kernel_rfl) (of_decide_eq_true (by kernel_rfl)) h2 hb hlt2) (trodAll_cons_mk (Go.ChangeMaps.shut_string Tryz.underlying9 z3) (trodAll_cons_mk (Go.ChangeMaps.shut_string Tryz.underlying9 z4) trodAll_mk0))))),rfl,hb.frame _,fun h => by cases h⟩
theorem storeWrites_lifted (os : Os) (started : os.Started) (H : Type) (enc : TypeId × Value → H) (F : Stop.Interp) :
 ReturnsInHanded {} Tryz.checked os 9 .any ((Rows.OpenSpec.upto Rows.storeWritesSpec).pre6 enc Tryz.prog Tryz.f9 Rows.storeWritesUptoRow.domain false) (((Rows.OpenSpec.upto Rows.storeWritesSpec).at F).post enc Tryz.prog Tryz.f9 false true false false):=by
 refine returnsInHanded_of_cond (C:=Tryz.checked) (s:=Rows.OpenSpec.upto Rows.storeWritesSpec) (k:=Rows.uptoSmall) rfl Tryz.own started (by kernel_rfl) Tryz.func9
   (OpenSpec.witness (enc:=enc) (C:=Tryz.checked) (s:=Rows.OpenSpec.upto Rows.storeWritesSpec) (k:=Rows.uptoSmall) rfl false ⟨#[],#[.int .i64 0,.slice none 0 0,.slice none 0 0,.string ⟨#[]⟩,.string ⟨#[]⟩],[]⟩ 8 (by kernel_rfl) (by kernel_rfl) (by kernel_rfl)
     (x:=([.lit (.int .i64 0),.nil,.nil,.lit (.string []),.lit (.string [])],[],[])) (by kernel_rfl) rfl (by kernel_rfl)) ?_
 intro W base args ds gs before hval hW _ hk _
 exact storeWrites_contract H enc W base args ds gs before hval hW hk
theorem storeWrites_proved : Rows.StoreWritesUptoSaid :=
 OpenClaim.holds_of_cond 9 Tryz.f9 rfl rfl rfl rfl rfl rfl rfl ⟨rfl,rfl,rfl,rfl,rfl⟩ rfl rfl rfl rfl rfl (by kernel_rfl) Tryz.func9 (by kernel_rfl)
   (of_decide_eq_true (by kernel_rfl)) (by unfold Func.isWrapper; first | (rw [if_pos (by decide +kernel)]; kernel_rfl) | (rw [if_neg (by decide +kernel)]; exact ⟨rfl,rfl⟩))
   (fun os started H enc _ F => storeWrites_lifted os started H enc F)
end Go.Proofs.YtagdchgkjjpacaaGreat
