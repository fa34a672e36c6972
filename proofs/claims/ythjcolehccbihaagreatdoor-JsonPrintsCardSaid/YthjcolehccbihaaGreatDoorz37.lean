/- What is laid and read back: laid again it is the same text; the two values are alike. Few parts make a short text. Plain; no program in it but for what Fit says. -/
import Derived.Test.YthjcolehccbihaaGreatDoorz33
import Derived.Test.YthjcolehccbihaaGreatDoorz32
import Derived.Test.YthjcolehccbihaaGreatDoorz36
import Derived.Shelf.Strings.Builder1
import Derived.Shelf.Small.Bits
import Derived.Shelf.Small.Strs
import Derived.Shelf.Small.Wraps
import Derived.Shelf.Strings.BuilderF
import Derived.Shelf.Strings.BuilderK
import Derived.Shelf.Utf8.AppendRune
import Derived.Shelf.Utf8.AppendRunePlain
import Derived.Shelf.Strconv.Atoi
import Derived.Shelf.Strconv.Itoa0
import Derived.Shelf.Strconv.Itoa1
import Derived.Shelf.LaysM
import Derived.Shelf.Strconv.Itoa2
import Derived.Shelf.Strconv.Itoa3
import Derived.Shelf.Strconv.AtoiErrFast
import Derived.Shelf.Strconv.ParseIntEmpty
import Derived.Shelf.Strconv.AtoiFail
import Derived.Shelf.Strconv.Clone
import Derived.Shelf.Strconv.SyntaxError
import Derived.Shelf.LaysC
import Derived.Shelf.Strconv.ToError
import Derived.Shelf.Strconv.Lower
import Derived.Shelf.Strconv.ParseUint10
import Derived.Shelf.Strconv.ParseUint10Empty
import Derived.Shelf.Strconv.ParseUint10Any
import Derived.Shelf.Strconv.ParseInt10
import Derived.Shelf.Strconv.AtoiLong
import Derived.Shelf.Strconv.AtoiInnerAll
import Derived.Shelf.Strconv.RangeError
import Derived.Shelf.Strconv.ToErrorRange
import Derived.Shelf.Strconv.AtoiAll
import Derived.Shelf.Strings.Search1
import Derived.Shelf.Sort.Plain
import Derived.Shelf.GgClosure.StringsIndexFunc
import Derived.Ground.GgwProg
import Derived.Shelf.GgClosure.StringsIndexFuncTop
import Derived.Shelf.GgClosure.StringsRunes
import Derived.Shelf.Strings.Prefix
import Derived.Shelf.Strings.FuncGrows
import Derived.Shelf.Slices.CompactS
import Derived.Shelf.Slices.Cells
import Derived.Shelf.Slices.In.SortNone
import Derived.Ground.SlsfProg
import Derived.Shelf.SlSortCmp.Insertion
import Derived.Shelf.SlSortCmp.SiftDown1
import Derived.Shelf.SlSortCmp.HeapSort1
import Derived.Shelf.SlSortCmp.Insertion1
import Derived.Shelf.SlSortCmp.Median1
import Derived.Shelf.SlSortCmp.Pivot1
import Derived.Shelf.SlSortCmp.ReverseRange1
import Derived.Shelf.SlSortCmp.PartialInsertion1
import Derived.Shelf.SlSortCmp.PartitionEqual1
import Derived.Shelf.SlSortCmp.Partition1
import Derived.Shelf.SlSortCmp.Pdq1
import Derived.Shelf.SlSortCmp.Whole1
import Derived.Shelf.SlSortCmp.NoneTotal
import Derived.Test.YthjcolehccbihaaGreatDoorProg
import Derived.Test.YthjcolehccbihaaGreatDoorz04
set_option linter.unusedSimpArgs false
set_option linter.unusedVariables false
namespace Go.Proofs.YthjcolehccbihaaGreatDoor
theorem namesN_ge {p : Nat} : ∀ (ns : List ByteArray) (n : Nat), n ≤ namesN p n ns
  | [], n => Nat.le_refl _
  | s :: ns, n => by
    unfold namesN
    split
    · have := namesN_ge (p := p) ns (n + 1 + s.size / 20); omega
    · exact Nat.le_refl _
theorem smallL_ge {p : Nat} : ∀ (fs : List (Nat → Nat)) (n : Nat), n ≤ smallL p n fs
  | [], n => Nat.le_refl _
  | f :: fs, n => by
    unfold smallL
    split
    · have := smallL_ge (p := p) fs (n + f (p - n)); omega
    · exact Nat.le_refl _
/-- What names take when they are laid. -/
def nameSum (ns : List ByteArray) : Nat := (ns.map fun s => 6 * s.size + 4).sum
theorem names_full {p : Nat} : ∀ (ns : List ByteArray) (n : Nat), namesN p n ns ≤ p → (∀ s ∈ ns, s.size ≤ 20 * p + 19) ∧ nameSum ns + 200 * n ≤ 200 * namesN p n ns
  | [], n, _ => by simp [nameSum, namesN]
  | s :: ns, n, h => by
    unfold namesN at h ⊢
    by_cases hn : n ≤ p
    · rw [if_pos hn] at h ⊢
      obtain ⟨h1, h2⟩ := names_full ns _ h
      have hg := namesN_ge (p := p) ns (n + 1 + s.size / 20)
      refine ⟨fun x hx => ?_, ?_⟩
      · rcases List.mem_cons.1 hx with rfl | hx
        · omega
        · exact h1 x hx
      · have : nameSum (s :: ns) = 6 * s.size + 4 + nameSum ns := by simp [nameSum]
        omega
    · rw [if_neg hn] at h
      exact absurd h hn
theorem small_full {p : Nat} : ∀ (l : List JV) (n : Nat), (∀ v ∈ l, ∀ p' ≤ p, smallJ v p' ≤ p' → v.Fit ∧ (lay v).length + 1 ≤ 200 * smallJ v p') → smallL p n (l.map smallJ) ≤ p → (∀ v ∈ l, v.Fit) ∧ sumL (l.map lay) + 200 * n ≤ 200 * smallL p n (l.map smallJ)
  | [], n, _, _ => by simp [sumL, smallL]
  | v :: l, n, ih, h => by
    simp only [List.map_cons] at h ⊢
    unfold smallL at h ⊢
    by_cases hn : n ≤ p
    · rw [if_pos hn] at h ⊢
      obtain ⟨h1, h2⟩ := small_full l _ (fun x hx => ih x (by simp [hx])) h
      have hg := smallL_ge (p := p) (l.map smallJ) (n + smallJ v (p - n))
      obtain ⟨h3, h4⟩ := ih v (by simp) (p - n) (by omega) (by omega)
      refine ⟨fun x hx => ?_, ?_⟩
      · rcases List.mem_cons.1 hx with rfl | hx
        · exact h3
        · exact h1 x hx
      · rw [sumL_cons]
        omega
    · rw [if_neg hn] at h
      exact absurd h hn
theorem fitAll_of : ∀ m : List JV, (∀ v ∈ m, v.Fit) → FitAll m
  | [], _ => by simp [FitAll]
  | v :: m, h => by simp only [FitAll]; exact ⟨h v (by simp), fitAll_of m fun x hx => h x (by simp [hx])⟩
theorem zip_sum : ∀ (ns : List ByteArray) (l : List JV), sumL (((ns.map raw).zip l).map fun p => layPair (p.1, lay p.2)) ≤ nameSum ns + sumL (l.map lay)
  | [], l => by simp [sumL]
  | n :: ns, [] => by simp [sumL]
  | n :: ns, v :: l => by
    have ih := zip_sum ns l
    simp only [List.map_cons, List.zip_cons_cons]
    rw [sumL_cons, sumL_cons]
    have hq := quote_size (raw n)
    have hs : (raw n).length = n.size := rfl
    have hp : (layPair (raw n, lay v)).length = (quote (raw n)).length + 1 + (lay v).length := by unfold layPair; simp only [List.length_append, List.length_cons]; omega
    have : nameSum (n :: ns) = 6 * n.size + 4 + nameSum ns := by simp [nameSum]
    omega
theorem small_fit : ∀ v : JV, ∀ p, p ≤ 200 → smallJ v p ≤ p → v.Fit ∧ (lay v).length + 1 ≤ 200 * smallJ v p := JV.ind (P := fun v => ∀ p, p ≤ 200 → smallJ v p ≤ p → v.Fit ∧ (lay v).length + 1 ≤ 200 * smallJ v p) fun k t l ns ih p hp h => by
  rw [smallJ_mk] at h ⊢
  have hg := smallL_ge (p := p) (l.map smallJ) (namesN p (1 + (t.size + ns.length + l.length) / 20) ns)
  obtain ⟨h1, h2⟩ := small_full l _ (fun v hv p' hp' => ih v hv p' (by omega)) h
  have hg2 := namesN_ge (p := p) ns (1 + (t.size + ns.length + l.length) / 20)
  obtain ⟨h3, h4⟩ := names_full (p := p) ns (1 + (t.size + ns.length + l.length) / 20) (by omega)
  refine ⟨?_, ?_⟩
  · simp only [JV.Fit]
    exact ⟨by omega, by omega, fun s hs => by have := h3 s hs; omega, by omega, fitAll_of l h1⟩
  · have hs : sumL (l.map lay) ≤ 200 * smallL p (namesN p (1 + (t.size + ns.length + l.length) / 20) ns) (l.map smallJ) := by omega
    have key : ∀ n, n ≤ 6 * t.size + 2 ∨ n ≤ 5 → n + 1 ≤ 200 * smallL p (namesN p (1 + (t.size + ns.length + l.length) / 20) ns) (l.map smallJ) := fun n hn => by omega
    unfold lay
    split
    · exact key _ (.inr (by decide))
    split
    · exact key _ (.inr (by decide))
    split
    · exact key _ (.inr (by decide))
    split
    · exact key _ (.inl (by have : (raw t).length = t.size := rfl; omega))
    split
    · exact key _ (.inl (by have := quote_size (raw t); have : (raw t).length = t.size := rfl; omega))
    split
    · rw [layAll_map]
      by_cases hl0 : l = []
      · subst hl0
        simp only [List.map_nil, commas, List.nil_append, List.length_cons, List.length_nil] at hg hg2 h ⊢
        omega
      · have := commas_sum (l.map lay) (by simpa using hl0)
        simp only [List.length_cons, List.length_append, List.length_nil]
        omega
    · rw [layAll_map]
      have hz := zip_sum ns l
      have hq : ((sortP ((ns.map raw).zip (l.map lay))).map layPair).Perm (((ns.map raw).zip l).map fun p => layPair (p.1, lay p.2)) := by
        have := (sortP_perm ((ns.map raw).zip (l.map lay))).map layPair
        rw [zip_map_snd, List.map_map] at this
        rw [zip_map_snd]
        exact this
      have hs2 := sumL_perm hq
      by_cases he : ((sortP ((ns.map raw).zip (l.map lay))).map layPair) = []
      · rw [he]
        simp only [commas, List.nil_append, List.length_cons, List.length_nil]
        omega
      · have := commas_sum _ he
        simp only [List.length_cons, List.length_append, List.length_nil]
        omega
end Go.Proofs.YthjcolehccbihaaGreatDoor
namespace Go.Proofs
open Go.Shelf
open Go.RowKit in
def Tryz.lays103_ren : Go.Shelf.Ren := ⟨fun | 103 => 47 | 210 => 78 | 206 => 104 | n => n, fun | 9 => 9 | 4 => 4 | 24 => 92 | 3 => 3 | n => n, fun | n => n⟩
theorem Tryz.lays103 : Go.Proofs.Lays.n103 Tryz.prog Tryz.lays103_ren := {
  mixed := by kernel_rfl
  f103 := Tryz.func47.trans (congrArg some (by kernel_rfl))
  f206 := Tryz.func104.trans (congrArg some (by kernel_rfl))
  f210 := Tryz.func78.trans (congrArg some (by kernel_rfl))
  t3 := Tryz.underlying3
  a3 := Tryz.isAgg3
  z3 := Tryz.sizeOf3
  v3 := Tryz.zeroValue3
  t4 := Tryz.underlying4
  a4 := Tryz.isAgg4
  z4 := Tryz.sizeOf4
  v4 := Tryz.zeroValue4
  t9 := Tryz.underlying9
  a9 := Tryz.isAgg9
  z9 := Tryz.sizeOf9
  v9 := Tryz.zeroValue9
  t24 := Tryz.underlying92
  a24 := Tryz.isAgg92
  z24 := Tryz.sizeOf92
  v24 := Tryz.zeroValue92 }
open Go.RowKit in
theorem Tryz.strings_CutPrefix (s p : ByteArray) (w : World) :
    Calls Tryz.prog 47 #[.string s, .string p] w fun e w' => e = .returned (.tuple #[.string ⟨(Lib.trimPrefix s.data.toList p.data.toList).toArray⟩, .bool (Lib.hasPrefix s.data.toList p.data.toList)]) ∧ w' = w := Any.strings_CutPrefix Tryz.lays103 s p w
open Go.RowKit in
open Go.RowKit in
open Go.Lib in
open Go.Lib in
open Go.Lib in
open Go.Lib in
open Go.RowKit Go.Sort Go.Lib in
open Go.RowKit Go.Sort Go.Lib in
open Go.RowKit Go.Sort Go.Lib in
open Go.RowKit Go.Sort Go.Lib in
open Go.RowKit Go.Sort Go.Lib in
def Tryz.laysM171_ren : Go.Shelf.Ren := ⟨fun | 171 => 46 | 243 => 77 | 246 => 103 | 283 => 123 | 284 => 124 | 285 => 125 | 286 => 126 | 129 => 143 | 317 => 154 | 318 => 155 | 319 => 156 | 320 => 157 | 337 => 170 | 338 => 171 | n => n, fun | 3 => 3 | 9 => 9 | 2 => 2 | 4 => 4 | 171 => 161 | 0 => 0 | 53 => 154 | 37 => 26 | 5 => 5 | 173 => 164 | 212 => 187 | 51 => 159 | 20 => 20 | 213 => 188 | 46 => 127 | 232 => 205 | 233 => 206 | n => n, fun | 17 => 5 | 18 => 6 | 19 => 7 | n => n⟩
theorem Tryz.laysM171 : Go.Proofs.LaysM.n171 Tryz.prog Tryz.laysM171_ren := {
  mixed := by kernel_rfl
  f129 := Tryz.func143.trans (congrArg some (by kernel_rfl))
  f171 := Tryz.func46.trans (congrArg some (by kernel_rfl))
  f243 := Tryz.func77.trans (congrArg some (by kernel_rfl))
  f246 := Tryz.func103.trans (congrArg some (by kernel_rfl))
  f283 := Tryz.func123.trans (congrArg some (by kernel_rfl))
  f284 := Tryz.func124.trans (congrArg some (by kernel_rfl))
  f285 := Tryz.func125.trans (congrArg some (by kernel_rfl))
  f286 := Tryz.func126.trans (congrArg some (by kernel_rfl))
  f317 := Tryz.func154.trans (congrArg some (by kernel_rfl))
  f318 := Tryz.func155.trans (congrArg some (by kernel_rfl))
  f319 := Tryz.func156.trans (congrArg some (by kernel_rfl))
  f320 := Tryz.func157.trans (congrArg some (by kernel_rfl))
  f337 := Tryz.func170.trans (congrArg some (by kernel_rfl))
  f338 := Tryz.func171.trans (congrArg some (by kernel_rfl))
  t0 := Tryz.underlying0
  a0 := Tryz.isAgg0
  z0 := Tryz.sizeOf0
  v0 := Tryz.zeroValue0
  t2 := Tryz.underlying2
  a2 := Tryz.isAgg2
  z2 := Tryz.sizeOf2
  v2 := Tryz.zeroValue2
  t3 := Tryz.underlying3
  a3 := Tryz.isAgg3
  z3 := Tryz.sizeOf3
  v3 := Tryz.zeroValue3
  t4 := Tryz.underlying4
  a4 := Tryz.isAgg4
  z4 := Tryz.sizeOf4
  v4 := Tryz.zeroValue4
  t5 := Tryz.underlying5
  a5 := Tryz.isAgg5
  z5 := Tryz.sizeOf5
  v5 := Tryz.zeroValue5
  t9 := Tryz.underlying9
  a9 := Tryz.isAgg9
  z9 := Tryz.sizeOf9
  v9 := Tryz.zeroValue9
  t20 := Tryz.underlying20
  a20 := Tryz.isAgg20
  z20 := Tryz.sizeOf20
  v20 := Tryz.zeroValue20
  t37 := Tryz.underlying26
  a37 := Tryz.isAgg26
  z37 := Tryz.sizeOf26
  v37 := Tryz.zeroValue26
  t46 := Tryz.underlying127
  a46 := Tryz.isAgg127
  z46 := Tryz.sizeOf127
  v46 := Tryz.zeroValue127
  t51 := Tryz.underlying159
  a51 := Tryz.isAgg159
  z51 := Tryz.sizeOf159
  v51 := Tryz.zeroValue159
  t53 := Tryz.underlying154
  a53 := Tryz.isAgg154
  z53 := Tryz.sizeOf154
  v53 := Tryz.zeroValue154
  t171 := Tryz.underlying161
  a171 := Tryz.isAgg161
  z171 := Tryz.sizeOf161
  v171 := Tryz.zeroValue161
  t173 := Tryz.underlying164
  a173 := Tryz.isAgg164
  z173 := Tryz.sizeOf164
  v173 := Tryz.zeroValue164
  t212 := Tryz.underlying187
  a212 := Tryz.isAgg187
  z212 := Tryz.sizeOf187
  v212 := Tryz.zeroValue187
  t213 := Tryz.underlying188
  a213 := Tryz.isAgg188
  z213 := Tryz.sizeOf188
  t232 := Tryz.underlying205
  a232 := Tryz.isAgg205
  z232 := Tryz.sizeOf205
  v232 := Tryz.zeroValue205
  t233 := Tryz.underlying206
  a233 := Tryz.isAgg206
  z233 := Tryz.sizeOf206
  v233 := Tryz.zeroValue206
  g17 := by kernel_rfl
  g18 := by kernel_rfl
  g19 := by kernel_rfl
  i0 := by kernel_rfl
  i2 := by kernel_rfl
  i3 := by kernel_rfl
  i4 := by kernel_rfl
  i5 := by kernel_rfl
  i9 := by kernel_rfl
  i20 := by kernel_rfl
  i37 := by kernel_rfl
  i46 := by kernel_rfl
  i51 := by kernel_rfl
  i53 := by kernel_rfl
  i171 := by kernel_rfl
  i173 := by kernel_rfl
  i212 := by kernel_rfl
  i232 := by kernel_rfl
  i233 := by kernel_rfl
  m17 := by kernel_rfl
  m18 := by kernel_rfl
  m19 := by kernel_rfl }
open Go.RowKit Go.Sort Go.Lib in
theorem Tryz.strconv_Itoa (n : Int) (h0 : -9223372036854775808 ≤ n) (h1 : n ≤ 9223372036854775807) (w : World) (htab : Lib.TabIs Tryz.prog w "internal/strconv.uint64pow10" .u64 Lib.pow10Tab) :
    Calls Tryz.prog 46 #[.int .i64 n] w fun e w' => e = .returned (.string ⟨(Lib.itoa n).toArray⟩) ∧ ∃ k os, w' = grow (w.drewN k) os := Any.strconv_Itoa Tryz.laysM171 n h0 h1 w htab
open Go.RowKit Go.Sort Go.Lib in
open Go.RowKit in
open Go.RowKit in
open Go.RowKit in
open Go.RowKit in
open Go.RowKit in
open Go.RowKit in
open Go.RowKit in
open Go.RowKit in
open Go.RowKit in
open Go.RowKit in
open Go.RowKit in
open Go.RowKit in
open Go.RowKit in
open Go.RowKit in
open Go.RowKit in
open Go.RowKit in
def Tryz.laysC172_ren : Go.Shelf.Ren := ⟨fun | 172 => 50 | 244 => 80 | 245 => 81 | 247 => 106 | 279 => 107 | 280 => 108 | 281 => 109 | 282 => 110 | 287 => 127 | 316 => 128 | 171 => 46 | 205 => 129 | 321 => 158 | 322 => 159 | 243 => 77 | 246 => 103 | 283 => 123 | 284 => 124 | 285 => 125 | 286 => 126 | 129 => 143 | 317 => 154 | 318 => 155 | 319 => 156 | 320 => 157 | 337 => 170 | 338 => 171 | n => n, fun | 9 => 9 | 3 => 3 | 75 => 97 | 76 => 98 | 4 => 4 | 5 => 5 | 167 => 142 | 37 => 26 | 0 => 0 | 85 => 143 | 2 => 2 | 168 => 145 | 53 => 154 | 175 => 166 | 46 => 127 | 210 => 169 | 127 => 115 | 145 => 192 | 143 => 190 | 21 => 21 | 171 => 161 | 173 => 164 | 212 => 187 | 51 => 159 | 20 => 20 | 213 => 188 | 232 => 205 | 233 => 206 | 80 => 82 | n => n, fun | 15 => 2 | 16 => 3 | 17 => 5 | 18 => 6 | 19 => 7 | n => n⟩
theorem Tryz.laysC172 : Go.Proofs.LaysC.n172 Tryz.prog Tryz.laysC172_ren := {
  mixed := by kernel_rfl
  f129 := Tryz.func143.trans (congrArg some (by kernel_rfl))
  f171 := Tryz.func46.trans (congrArg some (by kernel_rfl))
  f172 := Tryz.func50.trans (congrArg some (by kernel_rfl))
  f205 := Tryz.func129.trans (congrArg some (by kernel_rfl))
  f243 := Tryz.func77.trans (congrArg some (by kernel_rfl))
  f244 := Tryz.func80.trans (congrArg some (by kernel_rfl))
  f245 := Tryz.func81.trans (congrArg some (by kernel_rfl))
  f246 := Tryz.func103.trans (congrArg some (by kernel_rfl))
  f247 := Tryz.func106.trans (congrArg some (by kernel_rfl))
  f279 := Tryz.func107.trans (congrArg some (by kernel_rfl))
  f280 := Tryz.func108.trans (congrArg some (by kernel_rfl))
  f281 := Tryz.func109.trans (congrArg some (by kernel_rfl))
  f282 := Tryz.func110.trans (congrArg some (by kernel_rfl))
  f283 := Tryz.func123.trans (congrArg some (by kernel_rfl))
  f284 := Tryz.func124.trans (congrArg some (by kernel_rfl))
  f285 := Tryz.func125.trans (congrArg some (by kernel_rfl))
  f286 := Tryz.func126.trans (congrArg some (by kernel_rfl))
  f287 := Tryz.func127.trans (congrArg some (by kernel_rfl))
  f316 := Tryz.func128.trans (congrArg some (by kernel_rfl))
  f317 := Tryz.func154.trans (congrArg some (by kernel_rfl))
  f318 := Tryz.func155.trans (congrArg some (by kernel_rfl))
  f319 := Tryz.func156.trans (congrArg some (by kernel_rfl))
  f320 := Tryz.func157.trans (congrArg some (by kernel_rfl))
  f321 := Tryz.func158.trans (congrArg some (by kernel_rfl))
  f322 := Tryz.func159.trans (congrArg some (by kernel_rfl))
  f337 := Tryz.func170.trans (congrArg some (by kernel_rfl))
  f338 := Tryz.func171.trans (congrArg some (by kernel_rfl))
  t0 := Tryz.underlying0
  a0 := Tryz.isAgg0
  z0 := Tryz.sizeOf0
  v0 := Tryz.zeroValue0
  t2 := Tryz.underlying2
  a2 := Tryz.isAgg2
  z2 := Tryz.sizeOf2
  v2 := Tryz.zeroValue2
  t3 := Tryz.underlying3
  a3 := Tryz.isAgg3
  z3 := Tryz.sizeOf3
  v3 := Tryz.zeroValue3
  t4 := Tryz.underlying4
  a4 := Tryz.isAgg4
  z4 := Tryz.sizeOf4
  v4 := Tryz.zeroValue4
  t5 := Tryz.underlying5
  a5 := Tryz.isAgg5
  z5 := Tryz.sizeOf5
  v5 := Tryz.zeroValue5
  t9 := Tryz.underlying9
  a9 := Tryz.isAgg9
  z9 := Tryz.sizeOf9
  v9 := Tryz.zeroValue9
  t20 := Tryz.underlying20
  a20 := Tryz.isAgg20
  z20 := Tryz.sizeOf20
  v20 := Tryz.zeroValue20
  t21 := Tryz.underlying21
  a21 := Tryz.isAgg21
  z21 := Tryz.sizeOf21
  v21 := Tryz.zeroValue21
  t37 := Tryz.underlying26
  a37 := Tryz.isAgg26
  z37 := Tryz.sizeOf26
  v37 := Tryz.zeroValue26
  t46 := Tryz.underlying127
  a46 := Tryz.isAgg127
  z46 := Tryz.sizeOf127
  v46 := Tryz.zeroValue127
  t51 := Tryz.underlying159
  a51 := Tryz.isAgg159
  z51 := Tryz.sizeOf159
  v51 := Tryz.zeroValue159
  t53 := Tryz.underlying154
  a53 := Tryz.isAgg154
  z53 := Tryz.sizeOf154
  v53 := Tryz.zeroValue154
  t75 := Tryz.underlying97
  a75 := Tryz.isAgg97
  z75 := Tryz.sizeOf97
  v75 := Tryz.zeroValue97
  t76 := Tryz.underlying98
  a76 := Tryz.isAgg98
  z76 := Tryz.sizeOf98
  v76 := Tryz.zeroValue98
  t85 := Tryz.underlying143
  a85 := Tryz.isAgg143
  z85 := Tryz.sizeOf143
  v85 := Tryz.zeroValue143
  t127 := Tryz.underlying115
  a127 := Tryz.isAgg115
  z127 := Tryz.sizeOf115
  v127 := Tryz.zeroValue115
  t143 := Tryz.underlying190
  a143 := Tryz.isAgg190
  z143 := Tryz.sizeOf190
  v143 := Tryz.zeroValue190
  t145 := Tryz.underlying192
  a145 := Tryz.isAgg192
  z145 := Tryz.sizeOf192
  v145 := Tryz.zeroValue192
  t167 := Tryz.underlying142
  a167 := Tryz.isAgg142
  z167 := Tryz.sizeOf142
  v167 := Tryz.zeroValue142
  t168 := Tryz.underlying145
  a168 := Tryz.isAgg145
  z168 := Tryz.sizeOf145
  v168 := Tryz.zeroValue145
  t171 := Tryz.underlying161
  a171 := Tryz.isAgg161
  z171 := Tryz.sizeOf161
  v171 := Tryz.zeroValue161
  t173 := Tryz.underlying164
  a173 := Tryz.isAgg164
  z173 := Tryz.sizeOf164
  v173 := Tryz.zeroValue164
  t175 := Tryz.underlying166
  a175 := Tryz.isAgg166
  z175 := Tryz.sizeOf166
  v175 := Tryz.zeroValue166
  t210 := Tryz.underlying169
  a210 := Tryz.isAgg169
  z210 := Tryz.sizeOf169
  v210 := Tryz.zeroValue169
  t212 := Tryz.underlying187
  a212 := Tryz.isAgg187
  z212 := Tryz.sizeOf187
  v212 := Tryz.zeroValue187
  t213 := Tryz.underlying188
  a213 := Tryz.isAgg188
  z213 := Tryz.sizeOf188
  t232 := Tryz.underlying205
  a232 := Tryz.isAgg205
  z232 := Tryz.sizeOf205
  v232 := Tryz.zeroValue205
  t233 := Tryz.underlying206
  a233 := Tryz.isAgg206
  z233 := Tryz.sizeOf206
  v233 := Tryz.zeroValue206
  g15 := by kernel_rfl
  g16 := by kernel_rfl
  g17 := by kernel_rfl
  g18 := by kernel_rfl
  g19 := by kernel_rfl
  t80 := Tryz.underlying82
  a80 := Tryz.isAgg82
  z80 := Tryz.sizeOf82
  v80 := Tryz.zeroValue82
  i0 := by kernel_rfl
  i2 := by kernel_rfl
  i3 := by kernel_rfl
  i4 := by kernel_rfl
  i5 := by kernel_rfl
  i9 := by kernel_rfl
  i20 := by kernel_rfl
  i21 := by kernel_rfl
  i37 := by kernel_rfl
  i46 := by kernel_rfl
  i51 := by kernel_rfl
  i53 := by kernel_rfl
  i75 := by kernel_rfl
  i76 := by kernel_rfl
  i80 := by kernel_rfl
  i85 := by kernel_rfl
  i127 := by kernel_rfl
  i143 := by kernel_rfl
  i145 := by kernel_rfl
  i167 := by kernel_rfl
  i168 := by kernel_rfl
  i171 := by kernel_rfl
  i173 := by kernel_rfl
  i175 := by kernel_rfl
  i210 := by kernel_rfl
  i212 := by kernel_rfl
  i232 := by kernel_rfl
  i233 := by kernel_rfl
  m15 := by kernel_rfl
  m16 := by kernel_rfl
  m17 := by kernel_rfl
  m18 := by kernel_rfl
  m19 := by kernel_rfl
  c0 := by kernel_rfl
  c2 := by kernel_rfl
  c3 := by kernel_rfl
  c4 := by kernel_rfl
  c5 := by kernel_rfl
  c9 := by kernel_rfl
  c20 := by kernel_rfl
  c21 := by kernel_rfl
  c37 := by kernel_rfl
  c46 := by kernel_rfl
  c51 := by kernel_rfl
  c53 := by kernel_rfl
  c75 := by kernel_rfl
  c76 := by kernel_rfl
  c80 := by kernel_rfl
  c85 := by kernel_rfl
  c127 := by kernel_rfl
  c143 := by kernel_rfl
  c145 := by kernel_rfl
  c167 := by kernel_rfl
  c168 := by kernel_rfl
  c171 := by kernel_rfl
  c173 := by kernel_rfl
  c175 := by kernel_rfl
  c210 := by kernel_rfl
  c212 := by kernel_rfl
  c213 := by kernel_rfl
  c232 := by kernel_rfl
  c233 := by kernel_rfl }
open Go.RowKit in
theorem Tryz.strconv_Atoi_ok (s : ByteArray) (hmax : s.size ≤ 9223372036854775806) (v : Int) (h : Lib.atoiAll s.data.toList = .ok v) (w : World) :
    Calls Tryz.prog 50 #[.string s] w fun e w' => e = .returned (.tuple #[.int .i64 v, .nilIface]) ∧ (w' = w ∨ ∃ t, w' = Lib.bytesWorld w 5 t) := Any.strconv_Atoi_ok Tryz.laysC172 s hmax v h w
open Go.RowKit in
open Go.RowKit in
theorem Tryz.strconv_Atoi_range (s : ByteArray) (hlim : s.size ≤ 281474976710656) (h : Lib.atoiAll s.data.toList = .range) (ev : Value) (w : World) (hv : w.cell? ⟨3, 0, none⟩ = some ev) (hev : ev = .nilIface ∨ ∃ te pe, ev = .iface te pe) :
    Calls Tryz.prog 50 #[.string s] w fun e w' => ∃ N, e = .returned (.tuple #[.int .i64 (Lib.atoiSat s.data.toList), .iface 145 (.pointer (some ⟨N, 0, none⟩))]) ∧ w.heap.size ≤ N ∧ w'.heap[N]? = some (.cells #[.string ⟨#[65, 116, 111, 105]⟩, .string s, ev] 169 (0, 0)) ∧ Below w.heap.size w w' := Any.strconv_Atoi_range Tryz.laysC172 s hlim h ev w hv hev
end Go.Proofs
