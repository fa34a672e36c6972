/- Open of a store, whatever its files' bytes are: the counts are small of themselves. -/
import Derived.Test.YtagdchgkjjpacaaGreatb41
import Derived.Test.YtagdchgkjjpacaaGreatb34
import Derived.Test.YtagdchgkjjpacaaGreatb45
import Derived.Test.YtagdchgkjjpacaaGreatb42
import Derived.Test.YtagdchgkjjpacaaGreatb20
import Derived.Test.YtagdchgkjjpacaaGreatb25
import Derived.Test.YtagdchgkjjpacaaGreatb32
import Derived.Test.YtagdchgkjjpacaaGreatb14
import Derived.Test.YtagdchgkjjpacaaGreatb30
set_option maxRecDepth 100000
open Go.Lib (hid)
set_option linter.unusedSimpArgs false
set_option linter.unusedVariables false
set_option linter.unusedSectionVars false
namespace Go.Proofs.YtagdchgkjjpacaaGreat
open Go.RowKit Go.Shelf
section
variable {F : FsS} {dir : ByteArray} {k last : Nat}
theorem readF_bytes : ∀ (c n : Nat) (F : FsS) (cut : Nat) (out : List (List UInt8)), n + c = last + 1 ∨ c = 0 → endOf (readF dir last c n F cut out).2.2.1 ≤ endOf out + restN F dir n c
 | 0, n, F, cut, out, _ => by simp only [readF]; omega
 | c + 1, n, F, cut, out, hs => by
   have hs : n + (c + 1) = last + 1 := by rcases hs with e | e; exact e; omega
   rw [restN_succ]
   have e0 : endOf [] = 0 := rfl
   cases hx : F.find (segName dir n) with
   | none => simp only [readF, hx, e0]; omega
   | some x =>
     have h1 := scan_end x.data
     have h2 : szO (some x) = x.data.length := rfl
     rw [h2]
     by_cases he : endOf (scanOf x.data) = x.data.length
     ·have := readF_bytes c (n + 1) F cut (out ++ scanOf x.data) (.inl (by omega))
      rw [endOf_append] at this
      simp only [readF, hx]
      rw [if_pos he]
      omega
     ·by_cases hl : n < last
      ·simp only [readF, hx]
       rw [if_neg he, if_pos hl]
       simp only [e0]; omega
      ·have hc0 : c = 0 := by omega
       subst hc0
       simp only [readF, hx]
       rw [if_neg he, if_neg hl]
       split
       ·split
        ·simp only [endOf_append]; omega
        ·simp only [e0]; omega
       ·simp only [e0]; omega
theorem openR_bytes {size : Int} (h : FsOk F k) (f l : Nat) (hl : l ≤ 1000) : endOf (openR F dir size f l).2.2.1 ≤ 67108864 := by
 unfold openR
 simp only
 have h1 := readF_bytes (dir := dir) (last := l) (l + 1 - f) f F 0 [] (by omega)
 have e0 : endOf [] = 0 := rfl
 rw [e0] at h1
 by_cases hf : f ≤ l
 ·have h2 := restN_le h dir f (l + 1 - f) (by omega)
  omega
 ·have hc : l + 1 - f = 0 := by omega
  rw [hc] at h1 ⊢
  have : restN F dir f 0 = 0 := rfl
  omega
theorem openL_bytes {size : Int} (h : FsOk F k) (hl : (openL F dir size).2.1.last ≤ 1000) : endOf (openL F dir size).2.2.1 ≤ 67108864 := by
 have e0 : endOf [] = 0 := rfl
 unfold openL at hl ⊢
 split
 ·simp [e0]
 ·rename_i h1
  rw [if_neg h1] at hl
  split
  ·simp [e0]
  ·rename_i h2
   rw [if_neg h2] at hl
   split
   ·simp [e0]
   ·rename_i h3
    rw [if_neg h3] at hl
    cases hs : scanNums (segNums F dir) 0 0 with
    | none => simp only [hs] at hl ⊢; simp [e0]
    | some x =>
      obtain ⟨f, l⟩ := x
      simp only [hs] at hl ⊢
      split
      ·split
       ·exact openR_bytes (h.create _) 1 1 (by omega)
       ·simp [e0]
      ·rename_i hf
       rw [if_neg hf] at hl
       exact openR_bytes h f l hl
theorem openL_dir (F : FsS) (dir : ByteArray) (size : Int) : (openL F dir size).2.1.dir = dir := by
 unfold openL
 split
 ·rfl
 ·split
  ·rfl
  ·split
   ·rfl
   ·split
    ·rfl
    ·split
     ·split <;> rfl
     ·rfl
theorem end_len (rs : List (List UInt8)) : 8 * rs.length ≤ endOf rs := by
 induction rs with
 | nil => simp
 | cons p rs ih => rw [endOf_cons, List.length_cons]; omega
theorem end_mem {rs : List (List UInt8)} {p : List UInt8} (h : p ∈ rs) : p.length ≤ endOf rs := by
 induction rs with
 | nil => simp at h
 | cons q rs ih =>
   rw [endOf_cons]
   rcases List.mem_cons.1 h with e | e
   ·subst e; omega
   ·have := ih e; omega
section
variable {w0 w : World} {fb : Nat} {S : Nat → Prop}
theorem st_open2 (h : Hd w0 w fb F k S) (hp : PureS S w) (hk : k < 700000) (dir : ByteArray) (hdir : dir.size ≤ 900) (size : Int) (hl : (openL F (nmOf dir sLog) size).2.2.2 = 0 → (openL F (nmOf dir sLog) size).2.1.last ≤ 1000) :
 Calls Tryz.prog 24 #[.pointer (some ⟨fb, 0, none⟩), .string dir, .agg #[.int .i64 size]] w (OpnPost w0 w fb S (k + 1500) (openS F dir size)) := by
 refine st_open h hp hk dir hdir size (fun b y _ hy => ?_) fun h0 => ?_
 ·have h1 := (h.ok.len hy).1
  have h2 := cntR_bytes (scanOf y.data)
  have h3 := scan_end y.data
  omega
 ·have h1 := hl h0
  have h2 := openL_bytes h.ok h1
  have h3 := end_len (openL F (nmOf dir sLog) size).2.2.1
  have h4 := cntR_bytes (openL F (nmOf dir sLog) size).2.2.1
  have h5 := nm_size dir sLog
  have h6 : sLog.size = 3 := rfl
  exact ⟨by omega, fun p hp => by have := end_mem hp; omega, by omega, h1, by rw [openL_dir]; omega⟩
end
end
abbrev nmS : ByteArray := ⟨#[115]⟩
abbrev sg1 : ByteArray := ⟨#[115, 47, 108, 111, 103, 47, 48, 48, 48, 48, 48, 48, 48, 49]⟩
abbrev sg2 : ByteArray := ⟨#[115, 47, 108, 111, 103, 47, 48, 48, 48, 48, 48, 48, 48, 50]⟩
abbrev bs1 : ByteArray := ⟨#[115, 47, 98, 97, 115, 101, 45, 48, 48, 48, 48, 48, 48, 48, 49]⟩
abbrev mn1 : ByteArray := ⟨#[115, 47, 109, 97, 110, 105, 102, 101, 115, 116]⟩
def ca1 : Chg := ⟨⟨#[97]⟩, ⟨#[49]⟩, false⟩
def ca2 : Chg := ⟨⟨#[98]⟩, ⟨#[50]⟩, false⟩
def cb1 : Chg := ⟨⟨#[97]⟩, ⟨#[]⟩, true⟩
def cb2 : Chg := ⟨⟨#[99]⟩, ⟨#[51]⟩, false⟩
def cc1 : Chg := ⟨⟨#[97]⟩, ⟨#[]⟩, false⟩
def sp1 : Prs := [(⟨#[97]⟩, ⟨#[49]⟩), (⟨#[98]⟩, ⟨#[50]⟩)]
def sp2 : Prs := [(⟨#[98]⟩, ⟨#[50]⟩), (⟨#[99]⟩, ⟨#[51]⟩)]
def sx1 : List UInt8 := frameOf (batB 1 [ca1, ca2])
def sx2 : List UInt8 := sx1 ++ frameOf (batB 2 [cb1, cb2])
def sl1 : LogS := ⟨⟨#[115, 47, 108, 111, 103]⟩, 64, 1, 1, 0, false⟩
def sl2 : LogS := ⟨⟨#[115, 47, 108, 111, 103]⟩, 64, 2, 2, 0, false⟩
def sf1 : FsS := ⟨10000, 0, [(sg1, ⟨[], 0⟩)], 1, 0, false⟩
def sf2 : FsS := ⟨10000, 34, [(sg1, ⟨sx1, 34⟩)], 3, 0, false⟩
def sf3 : FsS := ⟨10000, 63, [(sg1, ⟨sx2, 63⟩)], 5, 0, false⟩
def sf4 : FsS := ⟨10000, 82, [(bs1, ⟨imgB 2 sp2, 58⟩), (sg2, ⟨[], 0⟩), (mn1, ⟨frameOf (saidB 1 2), 24⟩)], 14, 0, false⟩
def ss1 : StS := ⟨nmS, sl1, 0, false, [], 0⟩
def ss2 : StS := ⟨nmS, sl1, 0, false, sp1, 1⟩
def ss3 : StS := ⟨nmS, sl1, 0, false, sp2, 2⟩
def ss4 : StS := ⟨nmS, sl2, 1, false, sp2, 2⟩
theorem sf_a : openS (FsS.new 10000) nmS 64 = (sf1, some ss1, 0) := by kernel_rfl
theorem sf_b : writeS ss1 sf1 [ca1, ca2] = (ss2, sf2, 0) := by kernel_rfl
theorem sf_c : writeS ss2 sf2 [cb1, cb2] = (ss3, sf3, 0) := by kernel_rfl
theorem sf_d : writeS ss3 sf3 [cc1, cc1] = (ss3, sf3, 12) := by kernel_rfl
theorem sf_e : chkS ss3 sf3 = (ss4, sf4, 0) := by kernel_rfl
theorem sf_g : namesL nmS sf4.files = [bs1, sg2, mn1] := by kernel_rfl
theorem sf_h : sf4.crash (fun _ _ => 0) = sf4 := by kernel_rfl
theorem sf_i : openS sf4 nmS 64 = (sf4, some ss4, 0) := by kernel_rfl
abbrev twoCs (x y : Chg) : Array Value := #[.string x.key, .string x.val, .bool x.drop, .string y.key, .string y.val, .bool y.drop]
theorem two_chg (w : World) (x y : Chg) : RdAt chgKind (w.alloc (.cells (twoCs x y) 42)) (.slice (some ⟨w.heap.size, 0, none⟩) 2 2) [x, y] := by
 have hb := blk_new w (.cells (twoCs x y) 42)
 refine ⟨_, 2, rfl, fun j z hz => ⟨w.heap.size, 0, rfl, fun i hi => ?_⟩⟩
 have hi3 : i < 3 := hi
 match j, hz with
 | 0, hz =>
   simp only [List.getElem?_cons_zero, Option.some.injEq] at hz
   subst hz
   match i, hi3 with
   | 0, _ => exact blk_cell hb 0
   | 1, _ => exact blk_cell hb 1
   | 2, _ => exact blk_cell hb 2
 | 1, hz =>
   simp only [List.getElem?_cons_succ, List.getElem?_cons_zero, Option.some.injEq] at hz
   subst hz
   match i, hi3 with
   | 0, _ => exact blk_cell hb 3
   | 1, _ => exact blk_cell hb 4
   | 2, _ => exact blk_cell hb 5
def Lst (w0 w : World) (fb : Nat) (F : FsS) (k lb sb tb : Nat) (s : StS) (n : Nat) : Prop := ∃ S, Db w0 w fb F k S lb sb tb s n
section
variable {w0 w : World} {fb k lb sb tb n : Nat} {F : FsS} {s : StS}
theorem lst_write2 (h : Lst w0 w fb F k lb sb tb s n) (hk : k < 900000) (hdir : s.log.dir.size ≤ 1000) (hlast : s.log.last < 90000000) (hq : s.seq < 9223372036854775800) (hn : n < 700000000) (x y : Chg) :
 Calls Tryz.prog 25 #[.pointer (some ⟨sb, 0, none⟩), .slice (some ⟨w.heap.size, 0, none⟩) 2 2] (w.alloc (.cells (twoCs x y) 42)) fun e w' => e = .returned (.int .i64 (writeS s F [x, y]).2.2) ∧ Lst w0 w' fb (writeS s F [x, y]).2.1 (k + 3) lb sb tb (writeS s F [x, y]).1 (n + 500) := by
 obtain ⟨S, h⟩ := h
 have hb : Below w.heap.size w (w.alloc (.cells (twoCs x y) 42)) := (Below.refl _ _).alloc (Nat.le_refl _) _
 have ha := h.apart
 refine (st_write (h.below hb) (by omega) hdir hlast hq hn (l := [x, y]) (two_chg w x y) (fun _ g hg => ?_) (by simp)).mono fun e w' ⟨he, hp⟩ => ⟨he, ?_⟩
 ·have e : g = w.heap.size := by simpa [Value.ownBlock] using hg.symm
  subst e
  exact ⟨fun e => by have := h.lg.hd.fs.lt _ e; omega, by omega, by omega, by omega⟩
 ·obtain ⟨T, h1, _⟩ := hp.ex
  exact ⟨T, h1⟩
theorem lst_chk (h : Lst w0 w fb F k lb sb tb s n) (hk : k < 700000) (hdir : s.dir.size ≤ 900) (hdl : s.log.dir.size ≤ 1000) (hlast : s.log.last < 900) (hq : s.seq < 9223372036854775800) (hn : n < 700000000) (hok : PrsOk s.all) (hlen : (imgB s.seq s.all).length ≤ 1000000) (hN : topBase s.dir F < 100000000) :
 Calls Tryz.prog 26 #[.pointer (some ⟨sb, 0, none⟩)] w fun e w' => e = .returned (.int .i64 (chkS s F).2.2) ∧ Lst w0 w' fb (chkS s F).2.1 (k + 1500) lb sb tb (chkS s F).1 n := by
 obtain ⟨S, h⟩ := h
 refine (st_checkpoint h hk hdir hdl hlast hq hn hok hlen hN).mono fun e w' ⟨he, hp⟩ => ⟨he, ?_⟩
 obtain ⟨T, h1, _⟩ := hp.ex
 exact ⟨T, h1⟩
theorem lst_open {S : Nat → Prop} (h : Hd w0 w fb F k S) (hk : k < 700000) (dir : ByteArray) (hdir : dir.size ≤ 900) (size : Int) (hl : (openL F (nmOf dir sLog) size).2.1.last ≤ 1000) {G : FsS} (hO : openS F dir size = (G, some s, 0)) :
 Calls Tryz.prog 24 #[.pointer (some ⟨fb, 0, none⟩), .string dir, .agg #[.int .i64 size]] w fun e w' => ∃ lb sb tb, e = .returned (.tuple #[.pointer (some ⟨sb, 0, none⟩), .int .i64 0]) ∧ Lst w0 w' fb G (k + 1500) lb sb tb s 600000000 ∧ Keeps S w w' := by
 refine (st_open2 h.ps (PS.pure _ _) hk dir hdir size (fun _ => hl)).mono fun e w' ⟨hkp, ho⟩ => ?_
 rw [hO] at ho
 rcases ho with ⟨s2, lb, sb, tb, T, e1, _, rfl, hdb, _⟩ | ⟨e1, _⟩
 ·obtain rfl : s = s2 := Option.some.inj e1
  exact ⟨lb, sb, tb, rfl, ⟨T, hdb⟩, hkp.mono fun i _ e => e.1⟩
 ·cases e1
end
theorem prs_sp2 : PrsOk sp2 := by
 refine ⟨?_, ?_⟩
 ·unfold Rise sp2
  refine List.Pairwise.cons (fun y hy => ?_) (List.Pairwise.cons (fun y hy => by simp at hy) List.Pairwise.nil)
  rw [List.mem_singleton.1 hy]
  kernel_rfl
 ·intro p hp
  unfold sp2 at hp
  rcases List.mem_cons.1 hp with e | e
  ·subst e; decide
  ·rw [List.mem_singleton.1 e]; decide
theorem three_texts (W : World) (a b c : ByteArray) : RdAt textKind (W.alloc (.cells #[.string a, .string b, .string c] 9)) (.slice (some ⟨W.heap.size, 0, none⟩) 3 3) [a, b, c] := by
 have hb := blk_new W (.cells #[.string a, .string b, .string c] 9)
 refine ⟨_, 3, rfl, fun j y hy => ⟨W.heap.size, 0, rfl, fun i hi => ?_⟩⟩
 have hi0 : i = 0 := by have : i < 1 := hi; omega
 subst hi0
 match j, hy with
 | 0, hy => simp only [List.getElem?_cons_zero, Option.some.injEq] at hy; subst hy; exact blk_cell hb 0
 | 1, hy => simp only [List.getElem?_cons_succ, List.getElem?_cons_zero, Option.some.injEq] at hy; subst hy; exact blk_cell hb 1
 | 2, hy => simp only [List.getElem?_cons_succ, List.getElem?_cons_zero, Option.some.injEq] at hy; subst hy; exact blk_cell hb 2
set_option maxHeartbeats 8000000 in
theorem x_sfirst (w : World) : Calls Tryz.prog 10 #[] w fun e w' => e = .returned (.bool true) ∧ Below w.heap.size w w' := by
 go_enter Tryz.func10, Tryz.ntmps10
 go_wp2_with (fail)
 refine (f_new 10000 (by omega) (by omega)).mono ?_
 rintro e w1 ⟨fb, rfl, hf, hb⟩
 have HF : Hid (Hd w w1 fb (FsS.new 10000) 0 (New w w1 fun _ => False)) := hid ⟨hf, fun i e => by rcases e with e | e; exact e.elim; exact e.1, hb, FsOk.new0 10000⟩
 clear hf hb
 go_wp2_with (fail)
 refine (lst_open HF.out (by omega) nmS (by decide) 64 (of_decide_eq_true (by kernel_rfl)) sf_a).mono ?_
 rintro e w2 ⟨lb, sb, tb, rfl, hl, -⟩
 have HL2 := hid hl
 clear hl HF
 go_wp2_with (first | (go_at_call 19; refine (r_num _ _).mono ?_; rintro e w' ⟨rfl, rfl⟩))
 refine (lst_write2 HL2.out (by omega) (by decide) (by decide) (by decide) (by decide) ca1 ca2).mono ?_
 rw [sf_b]
 rintro e w3 ⟨rfl, hl⟩
 have HL3 := hid hl
 clear hl HL2
 go_wp2_with (fail)
 refine (lst_write2 HL3.out (by omega) (by decide) (by decide) (by decide) (by decide) cb1 cb2).mono ?_
 rw [sf_c]
 rintro e w4 ⟨rfl, hl⟩
 have HL4 := hid hl
 clear hl HL3
 go_wp2_with (fail)
 refine (lst_write2 HL4.out (by omega) (by decide) (by decide) (by decide) (by decide) cc1 cc1).mono ?_
 rw [sf_d]
 rintro e w5 ⟨rfl, hl⟩
 have HL5 := hid hl
 clear hl HL4
 go_wp2_with (fail)
 refine (lst_chk HL5.out (by omega) (by decide) (by decide) (by decide) (by decide) (by decide) prs_sp2 (of_decide_eq_true (by kernel_rfl)) (of_decide_eq_true (by kernel_rfl))).mono ?_
 rw [sf_e]
 rintro e w6 ⟨rfl, hl⟩
 have HL6 := hid hl
 clear hl HL5
 go_wp2_with (fail)
 obtain ⟨S6, hl6⟩ := HL6.out
 have hnm := s_names hl6.lg.hd.fs hl6.lg.hd.ok nmS
 rw [sf_g] at hnm
 have HW6 : Hid (Hd w w6 fb sf4 (0 + 1500 + 3 + 3 + 3 + 1500) S6) := hid hl6.lg.hd
 have HLT := hid hl6.lg.hd.fs.lt
 clear hl6 HL6
 refine hnm.mono ?_
 rintro e w7 ⟨a7, c7, rfl, ht⟩
 have HT := hid ht
 have HW7 := hid (HW6.out.read ht.below)
 have HTN : Hid (∀ g, (Value.slice a7 [bs1, sg2, mn1].length c7).ownBlock = some g → w6.heap.size ≤ g ∧ g < w7.heap.size) := hid fun g hg => by
  obtain ⟨cs, hcs⟩ := HT.out.sl.own g hg
  exact ⟨HT.out.new g hg, lt_of_block hcs⟩
 clear ht hnm HW6
 go_wp2_with (fail)
 refine (d_crash_nil HW7.out).mono ?_
 rw [sf_h]
 rintro e w8 ⟨rfl, hd8, hk8⟩
 have HW8 := hid hd8
 have HT8 : Hid (RdAt textKind w8 (.slice a7 [bs1, sg2, mn1].length c7) [bs1, sg2, mn1]) := hid (HT.out.sl.rd.keeps hk8 (fun g hg e => by
  have h1 := HTN.out g hg
  have h2 := HLT.out g e
  omega))
 clear hd8 hk8 HW7 HT
 go_wp2_with (fail)
 refine (lst_open HW8.out (by omega) nmS (by decide) 64 (of_decide_eq_true (by kernel_rfl)) sf_i).mono ?_
 rintro e w9 ⟨lb2, sb2, tb2, rfl, ⟨S9, hdb⟩, hk9⟩
 have HD9 := hid hdb
 have HT9 : Hid (RdAt textKind w9 (.slice a7 [bs1, sg2, mn1].length c7) [bs1, sg2, mn1]) := hid (HT8.out.keeps hk9 (fun g hg e => by
  have h1 := HTN.out g hg
  rcases e with e | e
  ·have h2 := HLT.out g e; omega
  ·omega))
 have HB9 : Hid (Below w.heap.size w w9) := hid hdb.lg.hd.below
 clear hdb hk9 HW8 HT8
 go_wp2_with (first | (go_at_call 19; refine (r_num _ _).mono ?_; rintro e w' ⟨rfl, rfl⟩))
 refine (so_get HD9.out.st ⟨#[99]⟩).mono ?_
 rw [show findL slt ss4.all ⟨#[99]⟩ = some ⟨#[51]⟩ from by kernel_rfl]
 simp only [Ss.getRes, Option.getD_some, Option.isSome_some]
 rintro e w10 ⟨rfl, hb10⟩
 have HB10 := hid hb10
 have HS10 := hid (HD9.out.st.below hb10)
 clear hb10
 go_wp2_with (first | (go_at_call 19; refine (r_num _ _).mono ?_; rintro e w' ⟨rfl, rfl⟩))
 refine (so_seq HS10.out.blk).mono ?_
 rintro e w11 ⟨rfl, hb11⟩
 have HB11 := hid hb11
 have HS11 := hid (HS10.out.below hb11)
 clear hb11
 rw [show ((ss4.seq : Nat) : Int) = 2 from rfl]
 go_wp2_with (fail)
 refine (so_len HS11.out).mono ?_
 rintro e w12 ⟨rfl, hb12⟩
 have HB12 := hid (HB10.out.trans ((HB11.out.trans (hb12.mono HB11.out.size)).mono HB10.out.size))
 clear hb12 HB10 HB11 HS10 HS11
 rw [show ((ss4.all.length : Nat) : Int) = 2 from rfl]
 go_wp2_with (fail)
 have hal : Below w12.heap.size w12 (w12.alloc (.cells #[.string bs1, .string sg2, .string mn1] 9)) := (Below.refl _ _).alloc (Nat.le_refl _) _
 refine (r_sameTexts ((HT9.out.below HB12.out).below hal) (three_texts w12 bs1 sg2 mn1) (by decide)).mono ?_
 rintro e w13 ⟨rfl, hb13⟩
 have h12 : Below w.heap.size w w12 := HB9.out.trans (HB12.out.mono HB9.out.size)
 have HE : Hid (Below w.heap.size w w13) := hid (h12.trans ((hal.trans (hb13.mono hal.size)).mono h12.size))
 clear hal hb13 h12
 go_wp2_with (fail)
 go_ret
 exact ⟨rfl, HE.out⟩
end Go.Proofs.YtagdchgkjjpacaaGreat
