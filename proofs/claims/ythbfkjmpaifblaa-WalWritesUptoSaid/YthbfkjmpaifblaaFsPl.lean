/- What the statements ask, as plain facts on the plain file system. No program. -/
import Derived.Test.YthbfkjmpaifblaaFsU
import Derived.Lib.SlBytesConst
namespace Go.Proofs.Ythbfkjmpaifblaa

/-- Names and bytes. -/
def FsS.dataOf (F : FsS) : List (ByteArray × List UInt8) := F.files.map fun x => (x.1, x.2.data)
/-- All bytes are synced. -/
def AllSynced (F : FsS) : Prop := ∀ x ∈ F.files, x.2.synced = x.2.data.length
section
variable {F G : FsS} {k : Nat} {n : ByteArray} {x : FileS}
theorem FsOk.find_at (h : FsOk F k) {j : Nat} (hx : F.files[j]? = some (n, x)) : F.find n = some x := by
  obtain ⟨hj, he⟩ := List.getElem?_eq_some_iff.1 hx
  have hs : F.files = F.files.take j ++ (n, x) :: F.files.drop (j + 1) := by
    have := List.take_append_drop j F.files
    rw [List.drop_eq_getElem_cons hj, he] at this
    exact this.symm
  unfold FsS.find
  have hr := h.rise
  rw [hs] at hr ⊢
  exact findL_eq slt_ord hr
theorem FsOk.find_of_mem (h : FsOk F k) (hx : (n, x) ∈ F.files) : F.find n = some x := by
  obtain ⟨j, hj⟩ := List.getElem?_of_mem hx
  exact h.find_at hj
theorem crash_files (kf : ByteArray → Int → Int) : (F.crash kf).files = F.files.map fun x => (x.1, crashFile kf x.1 x.2) := by
  show crashTo kf F.files F.files.length = _
  unfold crashTo
  rw [List.take_length, List.drop_length, List.append_nil]
theorem crashFile_synced {kf : ByteArray → Int → Int} (hx : x.synced = x.data.length) : crashFile kf n x = x := by
  unfold crashFile
  rw [if_pos (by omega), hx, List.take_length]
  cases x
  simp only at hx
  rw [hx]
theorem crash_synced (h : FsOk F k) (kf : ByteArray → Int → Int) : AllSynced (F.crash kf) := by
  intro x hx
  rw [crash_files] at hx
  obtain ⟨y, hy, rfl⟩ := List.mem_map.1 hx
  exact (crashFile_le (kf := kf) (n := y.1) (h.synced y hy)).2.1
theorem crash_all (h : FsOk F k) (ha : AllSynced F) (kf : ByteArray → Int → Int) : F.crash kf = { F with armed := 0, down := false } := by
  have e : crashTo kf F.files F.files.length = F.files := by
    have h1 := crash_files (F := F) kf
    have h2 : (F.crash kf).files = crashTo kf F.files F.files.length := rfl
    rw [← h2, h1]
    refine (List.map_congr_left fun x hx => ?_).trans (List.map_id _)
    show (x.1, crashFile kf x.1 x.2) = x
    rw [crashFile_synced (ha x hx)]
  unfold FsS.crash FsS.crashAt
  rw [e, ← h.used]
theorem crash_down (kf : ByteArray → Int → Int) : (F.crash kf).down = false := rfl
theorem crash_armed (kf : ByteArray → Int → Int) : (F.crash kf).armed = 0 := rfl
theorem write_of {eff : FsS → FsS} (ha : F.armed = 0) : F.write eff = ({ eff F with steps := (eff F).steps + 1 }, 0) := by
  unfold FsS.write; rw [if_neg (by omega)]
theorem on_none {g : FileS → FsS × Int} (hd : F.down = false) (hx : F.find n = none) : F.on n g = (F, 2) := by unfold FsS.on; rw [if_neg (by simp [hd]), hx]
theorem on_some {g : FileS → FsS × Int} (hd : F.down = false) (hx : F.find n = some x) : F.on n g = g x := by unfold FsS.on; rw [if_neg (by simp [hd]), hx]
/-- What a file has been set to. -/
theorem find_set (h : FsOk F k) (y : FileS) : (F.set n y).find n = some y := by
  unfold FsS.find FsS.set
  simp only
  obtain ⟨a, b, e, hr⟩ : ∃ a b, putL slt F.files n y = a ++ (n, y) :: b ∧ Rise slt (a ++ (n, y) :: b) := ⟨_, _, rfl, rise_putL slt_ord h.rise n y⟩
  rw [e]
  exact findL_eq slt_ord hr
theorem findL_congr {l l' : List (ByteArray × FileS)} (hr : Rise slt l) (hr' : Rise slt l') (h : ∀ y, (n, y) ∈ l ↔ (n, y) ∈ l') : findL slt l n = findL slt l' n := by
  rcases find_split slt_ord l hr n with ⟨h1, h2⟩ | ⟨a, v, b, e, h1⟩
  · rcases find_split slt_ord l' hr' n with ⟨h3, _⟩ | ⟨a', v', b', e', h3⟩
    · rw [h1, h3]
    · exact absurd rfl (h2 _ ((h v').2 (by rw [e']; simp)))
  · rcases find_split slt_ord l' hr' n with ⟨_, h4⟩ | ⟨a', v', b', e', h3⟩
    · exact absurd rfl (h4 _ ((h v).1 (by rw [e]; simp)))
    · have hm : (n, v) ∈ l' := (h v).1 (by rw [e]; simp)
      rw [h1, h3]
      congr 1
      obtain ⟨c, d, e2⟩ := List.append_of_mem hm
      have : findL slt l' n = some v := by rw [e2] at hr' ⊢; exact findL_eq slt_ord hr'
      rw [h3] at this
      exact (Option.some.inj this).symm
theorem mem_putL {l : List (ByteArray × FileS)} {m : ByteArray} {y z : FileS} (hne : n ≠ m) : (n, z) ∈ putL slt l m y ↔ (n, z) ∈ l := by
  unfold putL
  have hb : (slt n m || slt m n) = true := by
    cases h1 : slt n m with
    | true => rfl
    | false =>
      cases h2 : slt m n with
      | true => rfl
      | false => exact absurd (slt_ord.eq _ _ h1 h2) hne
  simp only [List.mem_append, List.mem_cons, List.mem_filter, Prod.mk.injEq]
  constructor
  · rintro (⟨h, _⟩ | ⟨h, _⟩ | ⟨h, _⟩)
    · exact h
    · exact absurd h hne
    · exact h
  · intro h
    rcases Bool.or_eq_true_iff.1 hb with hb | hb
    · exact .inl ⟨h, hb⟩
    · exact .inr (.inr ⟨h, hb⟩)
theorem mem_dropL {l : List (ByteArray × FileS)} {m : ByteArray} {z : FileS} : (n, z) ∈ dropL slt l m ↔ (n, z) ∈ l ∧ n ≠ m := by
  unfold dropL
  simp only [List.mem_filter]
  constructor
  · rintro ⟨h, hb⟩
    refine ⟨h, ?_⟩
    rintro rfl
    simp [slt_ord.irr] at hb
  · rintro ⟨h, hne⟩
    refine ⟨h, ?_⟩
    cases h1 : slt n m with
    | true => rfl
    | false =>
      cases h2 : slt m n with
      | true => rfl
      | false => exact absurd (slt_ord.eq _ _ h1 h2) hne
theorem find_drop (h : Rise slt F.files) : findL slt (dropL slt F.files n) n = none := by
  rcases find_split slt_ord (dropL slt F.files n) (rise_dropL h n) n with ⟨h1, _⟩ | ⟨a, v, b, e, _⟩
  · exact h1
  · have : (n, v) ∈ dropL slt F.files n := by rw [e]; simp
    exact absurd rfl (mem_dropL.1 this).2
theorem sum_dataOf : F.dataOf = G.dataOf → F.files.map (·.1) = G.files.map (·.1) := by
  intro h
  have := congrArg (List.map Prod.fst) h
  unfold FsS.dataOf at this
  rw [List.map_map, List.map_map] at this
  exact this
theorem dataOf_at (h : F.dataOf = G.dataOf) {j : Nat} (hx : F.files[j]? = some (n, x)) : ∃ y, G.files[j]? = some (n, y) ∧ y.data = x.data := by
  have h1 : F.dataOf[j]? = some (n, x.data) := by unfold FsS.dataOf; rw [List.getElem?_map, hx]; rfl
  rw [h] at h1
  unfold FsS.dataOf at h1
  rw [List.getElem?_map] at h1
  obtain ⟨⟨m, y⟩, hy, e⟩ := Option.map_eq_some_iff.1 h1
  simp only [Prod.mk.injEq] at e
  obtain ⟨rfl, e⟩ := e
  exact ⟨y, hy, e⟩
end
end Go.Proofs.Ythbfkjmpaifblaa
/- The walks of the statements' helpers: alike, Begins. -/
namespace Go.Proofs.Ythbfkjmpaifblaa
open Go.RowKit Go.Shelf

section
variable {w : World} {fb gb : Nat} {F G : FsS} {S T : Nat → Prop}
theorem s_read (h : FsIs w fb F S) {k : Nat} (ho : FsOk F k) {n : ByteArray} {x : FileS} (hx : F.find n = some x) :
    Calls Try.prog 34 #[.pointer (some ⟨fb, 0, none⟩), .string n] w fun e w' => ∃ a cap, e = .returned (.tuple #[.slice a x.data.length cap, .int .i64 0]) ∧ FreshAt w w' (.slice a x.data.length cap) x.data := by
  obtain ⟨mb, rs, h⟩ := h
  refine (f_read h n (fun y hy => by have := (ho.len hy).1; omega)).mono ?_
  intro e w' hr
  rw [hx] at hr
  obtain ⟨v, rfl, hf⟩ := hr
  obtain ⟨a, cap, e⟩ := hf.sl.shape
  subst e
  exact ⟨a, cap, rfl, hf⟩
theorem s_read_none (h : FsIs w fb F S) {n : ByteArray} (hx : F.find n = none) :
    Calls Try.prog 34 #[.pointer (some ⟨fb, 0, none⟩), .string n] w fun e w' => e = .returned (.tuple #[.slice none 0 0, .int .i64 2]) ∧ w = w' := by
  obtain ⟨mb, rs, h⟩ := h
  refine (f_read h n (fun y hy => by rw [hx] at hy; cases hy)).mono ?_
  intro e w' hr
  rw [hx] at hr
  exact ⟨hr.1, hr.2.symm⟩
theorem s_names (h : FsIs w fb F S) {k : Nat} (ho : FsOk F k) (front : ByteArray) : Calls Try.prog 33 #[.pointer (some ⟨fb, 0, none⟩), .string front] w fun e w' => ∃ a cap, e = .returned (.slice a (namesL front F.files).length cap) ∧ TextsAt w w' (.slice a (namesL front F.files).length cap) (namesL front F.files) := by
  obtain ⟨mb, rs, h⟩ := h
  have hl : rs.length ≤ 1000000 := by
    have := ho.few
    rw [h.files, List.length_map] at this
    omega
  refine (f_names h hl front).mono ?_
  rintro e w' ⟨v, rfl, ht⟩
  obtain ⟨a, cap, e⟩ := ht.sl.shape
  subst e
  exact ⟨a, cap, rfl, ht⟩
theorem s_allNames (h : FsIs w fb F S) {k : Nat} (ho : FsOk F k) : Calls Try.prog 33 #[.pointer (some ⟨fb, 0, none⟩), .string ⟨#[]⟩] w fun e w' => ∃ a cap, e = .returned (.slice a F.files.length cap) ∧ TextsAt w w' (.slice a F.files.length cap) (F.files.map (·.1)) := by
  have := s_names h ho ⟨#[]⟩
  rw [namesL_all] at this
  simpa only [List.length_map] using this
/-- The text at a place. -/
theorem text_cell {v : Value} {L : List ByteArray} {a : Option Addr} {len cap : Nat} (h : RdAt textKind w v L) (hv : v = .slice a len cap) {j : Nat} {n : ByteArray} (hn : L[j]? = some n) : ∃ g off, a = some ⟨g, off, none⟩ ∧ w.cell? ⟨g, off + j, none⟩ = some (.string n) := by
  obtain ⟨a', cap', e, hr⟩ := h
  rw [hv] at e
  injection e with e1 e2 e3
  subst e1
  obtain ⟨g, off, ha, hc⟩ := hr j n hn
  have := hc 0 (by decide)
  exact ⟨g, off, ha, by simpa [textKind] using this⟩
end
end Go.Proofs.Ythbfkjmpaifblaa
/- The walks of the statements' helpers: first. -/
namespace Go.Proofs.Ythbfkjmpaifblaa
open Go.RowKit Go.Shelf

abbrev nmA : ByteArray := ⟨#[97]⟩
def fi1 : FsS := ⟨10, 0, [(nmA, ⟨[], 0⟩)], 1, 0, false⟩
def fi2 : FsS := ⟨10, 3, [(nmA, ⟨[97, 98, 99], 0⟩)], 2, 0, false⟩
def fi3 : FsS := ⟨10, 3, [(nmA, ⟨[97, 98, 99], 3⟩)], 3, 0, false⟩
def fi4 : FsS := ⟨10, 5, [(nmA, ⟨[97, 98, 99, 100, 101], 3⟩)], 4, 0, false⟩
def fi5 : FsS := ⟨10, 4, [(nmA, ⟨[97, 98, 99, 100], 4⟩)], 4, 0, false⟩
theorem fi_a : (FsS.new 10).append nmA [] = (FsS.new 10, 2) := by kernel_rfl
theorem fi_b : (FsS.new 10).create nmA = (fi1, 0) := by kernel_rfl
theorem fi_c : fi1.append nmA [49, 50, 51, 52, 53, 54, 55, 56, 57, 48, 49] = (fi1, 4) := by kernel_rfl
theorem fi_d : fi1.append nmA [97, 98, 99] = (fi2, 0) := by kernel_rfl
theorem fi_e : fi2.sync nmA = (fi3, 0) := by kernel_rfl
theorem fi_g : fi3.append nmA [100, 101] = (fi4, 0) := by kernel_rfl
theorem fi_h : fi4.crash (fun _ _ => 1) = fi5 := by kernel_rfl
theorem fi_i : fi5.find nmA = some ⟨[97, 98, 99, 100], 4⟩ := by kernel_rfl
theorem fi_ok1 : FsOk fi1 1 := by have := (FsOk.new0 10).create nmA; rw [fi_b] at this; exact this
theorem fi_ok2 : FsOk fi2 2 := by have := fi_ok1.append nmA [97, 98, 99]; rw [fi_d] at this; exact this
theorem fi_ok3 : FsOk fi3 3 := by have := fi_ok2.sync nmA; rw [fi_e] at this; exact this
theorem fi_ok4 : FsOk fi4 4 := by have := fi_ok3.append nmA [100, 101]; rw [fi_g] at this; exact this
theorem fi_ok5 : FsOk fi5 4 := by have := fi_ok4.crash (fun _ _ => 1); rw [fi_h] at this; exact this
section
variable {w : World}
abbrev litObj (ys : List UInt8) : Obj := .cells (ys.map fun b => Value.int .u8 (b.toNat : Int)).toArray 5 (ys.length, ys.length + 1)
/-- New bytes of a literal. -/
theorem lit_bytes (W : World) (ys : List UInt8) : Hid (RdAt byteKind (W.alloc (litObj ys)) (.slice (some ⟨W.heap.size, 0, none⟩) ys.length ys.length) ys) := Lib.hid (by
  refine ⟨_, _, rfl, fun j x hx => ⟨W.heap.size, 0, rfl, fun i hi => ?_⟩⟩
  have hi0 : i = 0 := by have : i < 1 := hi; omega
  subst hi0
  have hb := heap_alloc_new W (litObj ys)
  have hc : (W.alloc (litObj ys)).cell? ⟨W.heap.size, 0 + j * 1 + 0, none⟩ = ((ys.map fun b => Value.int .u8 (b.toNat : Int)).toArray)[0 + j * 1 + 0]? := by simp only [World.cell?, hb]; rw [if_neg (by simp)]
  refine hc.trans ?_
  simp [hx, byteKind])
/-- string(b). -/
theorem run_text {a : Option Addr} {cap : Nat} {ys : List UInt8} {W : World} (h : RdAt byteKind W (.slice a ys.length cap) ys) : (convert 22 9 (.slice a ys.length cap)).run Try.prog W = .ok (.string ⟨ys.toArray⟩) W := by
  obtain ⟨a', cap', e, hnil, hc⟩ := h.cells
  simp only [Value.slice.injEq, true_and] at e
  obtain ⟨rfl, rfl⟩ := e
  cases a with
  | none =>
    obtain rfl := hnil rfl
    rw [run_convert_bytes_string W 22 9 5 none _ cap Try.underlying22 Try.underlying5 Try.underlying9]
    simp [Conv.bytesToString]
    rfl
  | some b =>
    refine run_convert_bytes_back W 22 9 5 b cap ys Try.underlying22 Try.underlying5 Try.underlying9 ?_
    intro j hj
    refine hc b rfl j _ ?_
    have h1 := flat_at byteKind.len ys j 0 ys[j] (List.getElem?_eq_getElem hj) (by decide)
    have e : byteKind.size = 1 := rfl
    rw [e, Nat.mul_one, Nat.add_zero] at h1
    rw [h1]; rfl
theorem append_lit {fb : Nat} {F : FsS} {S : Nat → Prop} (h : FsIs w fb F S) {k : Nat} (ho : FsOk F k) (hk : k < 1000000) (n : ByteArray) (ys : List UInt8) (hy : ys.length ≤ 100) :
    Calls Try.prog 36 #[.pointer (some ⟨fb, 0, none⟩), .string n, .slice (some ⟨w.heap.size, 0, none⟩) ys.length ys.length] (w.alloc (litObj ys)) fun e w' => e = .returned (.int .i64 (F.append n ys).2) ∧ FsPost w fb (F.append n ys).1 S w' := by
  have hb : Below w.heap.size w (w.alloc (litObj ys)) := (Below.refl _ _).alloc (Nat.le_refl _) _
  obtain ⟨mb, rs, h1⟩ := h.below hb
  refine (f_append h1 ho hk n (lit_bytes w ys).out (by omega)).mono ?_
  rintro e w' ⟨rfl, hp⟩
  exact ⟨rfl, FsPost.trans_keeps hb h.lt hp⟩
end
end Go.Proofs.Ythbfkjmpaifblaa
