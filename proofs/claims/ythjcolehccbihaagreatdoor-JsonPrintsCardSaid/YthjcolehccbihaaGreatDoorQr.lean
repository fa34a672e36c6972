/- exlaw7.JsonPrints returns true: any value is printed, or refused, any text quoted, any member and number read, any two values compared, as the chapter says; proved for all values v and u, all texts s and name, every n; the tables of unicode/utf8 and of strconv and strconv's two errors hold what the library's text lays (the row lists them, the card ties them); each argument reads behind the call as it did. -/
import Derived.Test.YthjcolehccbihaaGreatDoorz52
import Derived.Test.YthjcolehccbihaaGreatDoorz36
import Derived.Stop.LaidErr
set_option linter.unusedSimpArgs false
set_option linter.unusedVariables false
set_option linter.unusedSectionVars false
namespace Go.Proofs.YthjcolehccbihaaGreatDoor
open Go.ChangeShapes Go.WideShapes Go.ChangeAt Go.RowKit Go.Shelf
theorem pow_data : (Rows.laid_internal_strconv_uint64pow10 : DataW Unit) = Lib.tabData .u64 Lib.pow10Tab := by kernel_rfl
/-- What the rows of JsonInts and JsonPrints list. -/
abbrev laid7 : List (String × DataW Unit) := [("math/bits.deBruijn32tab", Rows.laid_math_bits_deBruijn32tab), ("math/bits.deBruijn64tab", Rows.laid_math_bits_deBruijn64tab), ("internal/strconv.uint64pow10", Rows.laid_internal_strconv_uint64pow10), ("unicode/utf8.acceptRanges", Rows.laid_unicode_utf8_acceptRanges), ("strconv.ErrRange", Rows.laid_strconv_ErrRange), ("strconv.ErrSyntax", Rows.laid_strconv_ErrSyntax), ("unicode/utf8.first", Rows.laid_unicode_utf8_first)]
theorem laid7_plain {W : World} (h : laidMetH Tryz.prog laid7 W) : laidMet Tryz.prog laid7 W := by
  rw [MakeChecks.laidMetH_plain _ _ _ (by kernel_rfl)] at h
  exact h
theorem tabs_of_laid7 {W : World} (h : laidMetH Tryz.prog laid7 W) : Tabs W := by
  have h := laid7_plain h
  unfold laid7 at h
  rw [first_data, accept_data] at h
  exact utf8Tabs_of_readsT (U8Types.of196 Tryz.laysValid) ⟨by kernel_rfl, by kernel_rfl, by kernel_rfl, by kernel_rfl, by kernel_rfl, by kernel_rfl, by kernel_rfl⟩ (Lib.laidMet.reads h (by simp)) (Lib.laidMet.reads h (by simp))
theorem ptab_of_laid7 {W : World} (h : laidMetH Tryz.prog laid7 W) : PTab W := by
  have h := (laid7_plain h).tail.tail
  rw [pow_data] at h
  exact Lib.tabIs_of_head (g := 5) (t := 187) (e := 154) (n := 20) (by kernel_rfl) (by kernel_rfl) (by kernel_rfl) (by kernel_rfl) (by kernel_rfl) (by kernel_rfl) h
theorem star_err : "*" ++ "errors.errorString" = "*errors.errorString" := by decide
theorem row_err (u : TypeId) (h : Tryz.prog.typeName? 3 u = some "*errors.errorString") : u = 190 :=
  typeName_ptr_named (nm := "errors.errorString") (by rw [star_err]; kernel_rfl) (by kernel_rfl) (by decide) u (by rw [star_err]; exact h)
theorem err_of_laid7 {W : World} (h : laidMetH Tryz.prog laid7 W) : ErrAt W := by
  obtain ⟨a1, s1, hv1, -, -, -⟩ := laid_sentinel (laid7_plain h).tail.tail.tail.tail (g := 3) (ti := 97) (by kernel_rfl) (by kernel_rfl) Tryz.underlying97 row_err Tryz.underlying190 Tryz.underlying192 rfl rfl Tryz.underlying9 (by kernel_rfl) (by kernel_rfl)
  exact ⟨_, by have h0 := World.var?_cell (show Tryz.prog.globalNamed "strconv.ErrRange" = some 3 by kernel_rfl) hv1 0; simpa using h0, .inr ⟨_, _, rfl⟩⟩
set_option maxRecDepth 100000 in
/-- A JSON value that is handed in. -/
theorem jv_open_top {H : Type} {enc : TypeId × Value → H} {W : World} {base : Nat} {spare : Nat → Bool} {held : Bool} {r : Reach} {b0 : Nat} {v : Value} {d : DataW H} {p : List MemPlace} (hv : Value.okWide Tryz.prog W r b0 25 v) (h : DataW.Trod enc Tryz.prog W base spare held 25 v d p) (hw : ∀ z ∈ d.weights Tryz.prog 25, z ≤ reachBytes) :
    ∃ (x : JV) (q : RawV), v = .agg #[.int .i64 q.k, .string q.t, .slice q.la q.ll q.lc, .slice q.na q.nl q.nc] ∧ JAt W (fun _ => True) x q ∧ x.Sz := by
  obtain ⟨cs, rfl, -⟩ := okWide_struct Tryz.underlying25 hv
  obtain ⟨fuel, hf⟩ := h
  obtain ⟨x, q, e, hj, hz⟩ := jv_open fuel _ _ hf hw
  have e : cs.toList = q.cells := e
  refine ⟨x, q, ?_, hj, hz⟩
  rw [show cs = q.cells.toArray by rw [← e]]
  rfl
set_option maxRecDepth 100000 in
theorem jsonPrints_lifted (os : Os) (started : os.Started) (H : Type) (enc : TypeId × Value → H) :
    ReturnsInHanded {} Tryz.checked os 7 .any (fun w args => (Rows.jsonPrintsSpec.pre enc Tryz.prog Tryz.f7 Rows.jsonPrintsRow.domain false w args ∧ laidMetH Tryz.prog Rows.jsonPrintsRow.laid w) ∧ sizedMet enc Tryz.prog Tryz.f7 (OpenSpec.ofChange Rows.jsonPrintsSpec) false w args)
      (Rows.jsonPrintsSpec.post enc Tryz.prog Tryz.f7 false true false false) := by
  refine returnsInHanded_of_change_and (C := Tryz.checked) (X := fun w _ => laidMetH Tryz.prog Rows.jsonPrintsRow.laid w) (fun _ _ _ hh h => h.of_heap hh) own_knob started (by kernel_rfl) Tryz.func7
    (ChangeSpec.witness_shaped (enc := enc) (C := Tryz.checked) (os := os) (X := fun w _ => laidMetH Tryz.prog Rows.jsonPrintsRow.laid w) false (World.laidAll Tryz.prog os Rows.jsonPrintsRow.laid) #[.agg #[.int .i64 0, .string ⟨#[]⟩, .slice none 0 0, .slice none 0 0], .agg #[.int .i64 0, .string ⟨#[]⟩, .slice none 0 0, .slice none 0 0], .string ⟨#[]⟩, .string ⟨#[]⟩, .int .i64 0] 8 (World.laidAll_os _ _ _)
      (World.shaped_of_ZipB (by kernel_rfl) (by kernel_rfl)) (by kernel_rfl) (by kernel_rfl) (by kernel_rfl)
      (by rw [MakeChecks.laidMetH_plain _ _ _ (by kernel_rfl)]; exact laidMet_laidAll _ (by kernel_rfl) (by kernel_rfl))) ?_
  intro W base args ds gs before hval0 hW _ hwt hL _
  have hval : ∀ (j : Nat) t v, Tryz.f7.params[j]? = some t → args[j]? = some v → Value.okWide Tryz.prog W .any base t v := hval0
  have hW' := hW
  obtain ⟨p, q, hA0, hV, rfl, _, _⟩ := hW
  have hA : DataW.TrodAll enc Tryz.prog W 0 (fun _ => true) true Tryz.f7.params.toList args.toList ds p := hA0
  rw [Tryz.params7] at hA hval
  obtain ⟨v0, vs0, d0, ds0, p0, q0, hargs, rfl, rfl, h0, r0⟩ := trodAll_cons hA
  obtain ⟨v1, vs1, d1, ds1, p1, q1, rfl, rfl, rfl, h1, r1⟩ := trodAll_cons r0
  obtain ⟨v2, vs2, d2, ds2, p2, q2, rfl, rfl, rfl, h2, r2⟩ := trodAll_cons r1
  obtain ⟨v3, vs3, d3, ds3, p3, q3, rfl, rfl, rfl, h3, r3⟩ := trodAll_cons r2
  obtain ⟨v4, vs4, d4, ds4, p4, q4, rfl, rfl, rfl, h4, r4⟩ := trodAll_cons r3
  obtain ⟨rfl, rfl, rfl⟩ := trodAll_nil r4
  obtain rfl : args = #[v0, v1, v2, v3, v4] := by cases args; simp_all
  obtain ⟨rfl, rfl⟩ := trodVars_none hV
  obtain ⟨s, rfl, rfl, rfl, ws⟩ := Go.ChangeMaps.open_string Tryz.underlying9 (hval 2 9 v2 rfl rfl) h2
  obtain ⟨name, rfl, rfl, rfl, ws2⟩ := Go.ChangeMaps.open_string Tryz.underlying9 (hval 3 9 v3 rfl rfl) h3
  obtain ⟨n, rfl, rfl, rfl, ws3⟩ := open_int Tryz.underlying3 (hval 4 3 v4 rfl rfl) h4
  have bn := bounds_i64 ws3
  have hlt0 : ∀ x ∈ p0, x.block < W.heap.size := fun x hx => hW'.lt x (by simp [hx])
  have hlt1 : ∀ x ∈ p1, x.block < W.heap.size := fun x hx => hW'.lt x (by simp [hx])
  clear hA0 hval0
  have hwts0 : ∀ z ∈ d0.weights Tryz.prog 25, z ≤ reachBytes := fun z hz => by
    rw [Tryz.params7] at hwt
    have := List.all_eq_true.1 hwt z (by simp [DataW.weightsEach]; exact .inl hz)
    simpa using this
  have hwts1 : ∀ z ∈ d1.weights Tryz.prog 25, z ≤ reachBytes := fun z hz => by
    rw [Tryz.params7] at hwt
    have := List.all_eq_true.1 hwt z (by simp [DataW.weightsEach]; exact .inr (.inl hz))
    simpa using this
  obtain ⟨x, q, rfl, hj, hz⟩ := jv_open_top (hval 0 25 v0 rfl rfl) h0 hwts0
  obtain ⟨y, r, rfl, hj2, hz2⟩ := jv_open_top (hval 1 25 v1 rfl rfl) h1 hwts1
  refine (l_prints hj hj2 hz hz2 s name n bn.1 bn.2 (tabs_of_laid7 hL) (ptab_of_laid7 hL) (err_of_laid7 hL)).mono fun e W' ⟨he, hb⟩ => ?_
  subst he
  exact ⟨_, rfl, _, _, _, [], (p0 ++ (p1 ++ ([] ++ ([] ++ ([] ++ []))))), [], hW', trodAll_cons_mk (shut_bool Tryz.underlying4 _) trodAll_mk0,
    (trodAll_cons_mk (Below.trod Tryz.laidOut (by kernel_rfl) (of_decide_eq_true (by kernel_rfl)) h0 hb hlt0) (trodAll_cons_mk (Below.trod Tryz.laidOut (by kernel_rfl) (of_decide_eq_true (by kernel_rfl)) h1 hb hlt1) (trodAll_cons_mk (Go.ChangeMaps.shut_string Tryz.underlying9 ws) (trodAll_cons_mk (Go.ChangeMaps.shut_string Tryz.underlying9 ws2) (trodAll_cons_mk (shut_int Tryz.underlying3 ws3) trodAll_mk0))))), rfl, hb.frame _, fun h => by cases h⟩
theorem jsonPrints_holds : Rows.JsonPrintsSaid :=
  OpenClaim.holds_of_wide 7 Tryz.f7 rfl rfl rfl rfl rfl rfl rfl ⟨rfl, rfl, rfl, rfl, rfl⟩ rfl rfl rfl rfl rfl (by kernel_rfl) Tryz.func7 (by kernel_rfl)
    (of_decide_eq_true (by kernel_rfl)) (by unfold Func.isWrapper; first | (rw [if_pos (by decide +kernel)]; kernel_rfl) | (rw [if_neg (by decide +kernel)]; exact ⟨rfl, rfl⟩))
    (fun os started H enc _ => jsonPrints_lifted os started H enc)
theorem jsonPrints_proved : Rows.JsonPrintsCardSaid :=
  Claim7.holds_tied_plain_at .later [] [.data, .data, .data, .data, .sentinel, .sentinel, .pinned] true (true, "01edc64c8c8fd6ad8f9577c01559383e20f8b602fea7bf3d28d354a7279f22c5") true jsonPrints_holds (fun _ h => by cases h) (by kernel_rfl) (fun _ h => by cases h) jsonPrints_row_tie rfl ⟨rfl, rfl⟩ (by kernel_rfl) rfl
    (fun f fn hf hfn => by
      obtain rfl : f = 7 := Option.some.inj ((show Tryz.prog.funcNamed "exchequer/exlaw7.JsonPrints" = some 7 by kernel_rfl).symm.trans hf) |>.symm
      obtain rfl : fn = Tryz.f7 := (Option.some.inj (Tryz.func7.symm.trans hfn)).symm
      exact ⟨by kernel_rfl, fun j t ht => by
        rw [Tryz.params7] at ht
        have hm : t ∈ [25, 25, 9, 9, 3] := by simpa using Array.mem_of_getElem? ht
        have hall : ([25, 25, 9, 9, 3].all fun u => !Tryz.prog.wantsStandIn u) = true := by kernel_rfl
        exact (show Tryz.prog.wantsStandIn t = false by simpa using List.all_eq_true.1 hall t hm)⟩)
    (by kernel_rfl)
end Go.Proofs.YthjcolehccbihaaGreatDoor
