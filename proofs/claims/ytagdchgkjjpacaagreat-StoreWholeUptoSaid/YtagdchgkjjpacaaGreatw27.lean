/- A store in memory; the walks of its names. -/
import Derived.Test.YtagdchgkjjpacaaGreatw16
import Derived.Test.YtagdchgkjjpacaaGreatw18
import Derived.Test.YtagdchgkjjpacaaGreatw26
set_option maxRecDepth 100000
open Go.Lib (hid)
set_option linter.unusedSimpArgs false
set_option linter.unusedVariables false
set_option linter.unusedSectionVars false
namespace Go.Proofs.YtagdchgkjjpacaaGreat
open Go.RowKit Go.Shelf
structure StC where
 fb : Nat
 dir : ByteArray
 lv : Option Addr
 base : Int
 stuck : Bool
 tb : Nat
 seq : Int
abbrev stCells (c : StC) (s r : Int) : Array Value := #[.pointer (some ⟨c.fb, 0, none⟩), .string c.dir, .pointer c.lv, .int .i64 c.base, .bool c.stuck, .int .i32 s, .int .u32 0, .int .u32 0, .int .u32 0, .int .i32 r, .int .i32 0, .pointer (some ⟨c.tb, 0, none⟩), .int .i64 c.seq]
abbrev StIn (w : World) (sb : Nat) (c : StC) : Prop := IsBlk w sb (stCells c 0 0) 126
theorem StIn.below {w w' : World} {sb : Nat} {c : StC} (h : StIn w sb c) (k : Below w.heap.size w w') : StIn w' sb c := (k.block _ (lt_of_block h)).trans h
theorem nm_add (dir what : ByteArray) : dir ++ (⟨#[47]⟩ : ByteArray) ++ what = nmOf dir what := by
 have h1 : dir = ⟨dir.data.toList.toArray⟩ := (bytes_eta dir).symm
 have h2 : what = ⟨what.data.toList.toArray⟩ := (bytes_eta what).symm
 conv => lhs; rw [h1, h2, show (⟨#[47]⟩ : ByteArray) = ⟨[47].toArray⟩ from rfl, bytes_add, bytes_add, List.append_assoc]
 rfl
section
variable {w : World} {sb : Nat} {c : StC}
theorem st_name (h : StIn w sb c) (hd : c.dir.size ≤ 100000) (what : ByteArray) (hw : what.size ≤ 100000) :
 Calls Tryz.prog 65 #[.pointer (some ⟨sb, 0, none⟩), .string what] w fun e w' => e = .returned (.string (nmOf c.dir what)) ∧ w = w' := by
 have c1 : w.cell? ⟨sb, 1, none⟩ = some (.string c.dir) := blk_cell h 1
 have he := nm_add c.dir what
 clear h
 go_enter Tryz.func65, Tryz.ntmps65
 go_wp2_with (fail)
 go_ret
 first | exact ⟨rfl, rfl⟩ | exact ⟨by rw [he], rfl⟩
theorem base_add (a : ByteArray) (n : Nat) : a ++ (⟨(digs 8 n).toArray⟩ : ByteArray) = st (tx a ++ digs 8 n) := by
 have h1 : a = ⟨a.data.toList.toArray⟩ := (bytes_eta a).symm
 conv => lhs; rw [h1, bytes_add]
theorem trim_seg (n : Nat) : Lib.trimPrefix (segName ⟨#[]⟩ n).data.toList (⟨#[47]⟩ : ByteArray).data.toList = digs 8 n := by
 rw [segName_list]
 have e1 : (⟨#[47]⟩ : ByteArray).data.toList = [47] := rfl
 have e2 : (⟨#[]⟩ : ByteArray).data.toList = [] := rfl
 rw [e1, e2, List.nil_append]
 unfold Lib.trimPrefix Lib.hasPrefix
 simp
theorem st_baseName (h : StIn w sb c) (hd : c.dir.size ≤ 100000) (n : Nat) (hn : n < 100000000) (z : Int) (hz : z = (n : Int)) :
 Calls Tryz.prog 66 #[.pointer (some ⟨sb, 0, none⟩), .int .i64 z] w fun e w' => e = .returned (.string (baseNm c.dir n)) ∧ Below w.heap.size w w' := by
 have HNM := hid (st_name h hd ⟨#[98, 97, 115, 101, 45]⟩ (by decide))
 have HWN := hid (w_name w ⟨#[]⟩ (by decide) n hn)
 obtain ⟨a, ha⟩ : ∃ a, a = nmOf c.dir ⟨#[98, 97, 115, 101, 45]⟩ := ⟨_, rfl⟩
 have hasz : a.size ≤ 200000 := by
  rw [ha]; unfold nmOf; rw [st_size, List.length_append]
  have e : (tx c.dir).length = c.dir.size := rfl
  simp only [List.length_cons]
  have : (tx (⟨#[98, 97, 115, 101, 45]⟩ : ByteArray)).length = 5 := rfl
  omega
 have hfin : a ++ (⟨(digs 8 n).toArray⟩ : ByteArray) = baseNm c.dir n := by rw [base_add, ha]; rfl
 rw [← ha] at HNM
 have hng : ¬ 9223372036854775807 < a.size + (digs 8 n).length := by rw [digs_len]; omega
 have hz1 : (0 : Int) ≤ z := by omega
 have hz2 : z < 100000000 := by omega
 rw [← hz] at HWN
 have HTP : Hid (∀ W, Calls Tryz.prog 104 #[.string (segName ⟨#[]⟩ n), .string ⟨#[47]⟩] W fun e w' => e = .returned (.string ⟨(digs 8 n).toArray⟩) ∧ W = w') := hid fun W => by
  refine (Tryz.strings_TrimPrefix _ _ W).mono ?_
  rintro e w' ⟨rfl, rfl⟩
  exact ⟨by rw [trim_seg], rfl⟩
 clear h ha hz
 go_enter Tryz.func66, Tryz.ntmps66
 go_wp2_with (fail)
 refine HNM.out.mono ?_
 rintro e w1 ⟨rfl, rfl⟩
 go_wp2_with (fail)
 refine HWN.out.mono ?_
 rintro e w2 ⟨rfl, hb⟩
 have HB := hid hb
 clear hb
 go_wp2_with (fail)
 refine (HTP.out _).mono ?_
 rintro e w3 ⟨rfl, rfl⟩
 go_wp2_with (fail)
 go_ret
 first | exact ⟨rfl, HB.out⟩ | exact ⟨by rw [hfin], HB.out⟩
set_option maxHeartbeats 2000000 in
theorem st_baseNumber (h : StIn w sb c) (hd : c.dir.size ≤ 100000) (name : ByteArray) :
 Calls Tryz.prog 79 #[.pointer (some ⟨sb, 0, none⟩), .string name] w fun e w' => e = .returned (.int .i64 (baseNum c.dir name : Int)) ∧ w = w' := by
 have HNM := hid (st_name h hd ⟨#[98, 97, 115, 101, 45]⟩ (by decide))
 obtain ⟨F, hF⟩ : ∃ F, F = nmOf c.dir ⟨#[98, 97, 115, 101, 45]⟩ := ⟨_, rfl⟩
 have HB : Hid (baseNum c.dir name = if Lib.hasPrefix (tx name) (tx F) = true then numTail ((tx name).drop (tx F).length) else 0) := hid (by rw [hF]; rfl)
 rw [← hF] at HNM
 have HC := hid ((Tryz.strings_CutPrefix name F w).mono fun _ _ (h : _ ∧ _) => And.intro h.1 h.2.symm)
 clear h hF
 cases hp : Lib.hasPrefix name.data.toList F.data.toList with
 | false =>
   have HN : Hid (baseNum c.dir name = 0) := hid (by rw [HB.out, hp, if_neg (by simp)])
   rw [hp] at HC
   clear hp
   go_enter Tryz.func79, Tryz.ntmps79
   go_wp2_with (fail)
   refine HNM.out.mono ?_
   rintro e w' ⟨rfl, rfl⟩
   go_wp2_with (fail)
   refine HC.out.mono ?_
   rintro e w' ⟨rfl, rfl⟩
   go_wp2_with (fail)
   go_ret
   rw [HN.out]
   exact ⟨rfl, rfl⟩
 | true =>
   obtain ⟨s, hs⟩ : ∃ s : ByteArray, s = ⟨(Lib.trimPrefix name.data.toList F.data.toList).toArray⟩ := ⟨_, rfl⟩
   have HN : Hid (baseNum c.dir name = numTail s.data.toList) := hid (by
    rw [HB.out, hp, if_pos rfl, hs]
    unfold Lib.trimPrefix
    rw [hp, if_pos rfl])
   rw [hp, ← hs] at HC
   clear hp hs
   by_cases h8 : s.size = 8
   ·have h8' : (s.size : Int) = 8 := by omega
    have hl8 : s.data.toList.length = 8 := h8
    go_enter Tryz.func79, Tryz.ntmps79
    go_wp2_with (fail)
    refine HNM.out.mono ?_
    rintro e w' ⟨rfl, rfl⟩
    go_wp2_with (fail)
    refine HC.out.mono ?_
    rintro e w' ⟨rfl, rfl⟩
    go_wp2_with (fail)
    go_loopw [7, 25] (fun c i wr => ∃ k : Nat, k ≤ 8 ∧ i = .int .i64 (k : Int) ∧ c = .int .i64 (numDigs (s.data.toList.take k) : Int) ∧ Hid ((s.data.toList.take k).all isDig = true) ∧ wr = w) (fun _ i _ => (8 - intOf i).toNat)
    case atStart => exact ⟨0, Nat.zero_le _, rfl, rfl, hid rfl, rfl⟩
    case round =>
     obtain ⟨k, hk, rfl, rfl, HA, rfl⟩ := hrel
     by_cases hlt : k < 8
     ·have hks : k < s.size := by omega
      have hx := str_at s hks
      have HT := hid (numDigs_take hx)
      have HX := hid hx
      have hk0 : (0 : Int) ≤ (k : Int) := by omega
      have hk1 : (k : Int) < 8 := by omega
      have hk2 : (k : Int) < (s.size : Int) := by omega
      clear hx
      have HBAD : Hid (isDig s[k] = false → baseNum c.dir name = 0) := hid (fun hb => by
       rw [HN.out]
       unfold numTail
       rw [if_neg]
       rintro ⟨_, h2⟩
       have := List.all_eq_true.1 h2 _ (List.mem_of_getElem? HX.out)
       rw [hb] at this; cases this)
      go_wp2_with (fail)
      ·rename_i h1 h2
       go_ret
       rw [HBAD.out (by unfold isDig; simp; omega)]
       exact ⟨rfl, rfl⟩
      ·rename_i h1 h2
       have hlt2 : numDigs (s.data.toList.take k) < 10 ^ 8 := by
        have h3 := numDigs_lt _ HA.out
        have h4 : 10 ^ (s.data.toList.take k).length ≤ 10 ^ 8 := Nat.pow_le_pow_right (by omega) (by rw [List.length_take]; omega)
        omega
       have HD : Hid (isDig s[k] = true) := hid (by unfold isDig; simp; omega)
       have HE : Hid (wrap64 (wrap64 (10 * (numDigs (s.data.toList.take k) : Int)) + ((s[k].toNat : Int) - 48)) = (numDigs (s.data.toList.take (k + 1)) : Int)) := hid (by
        rw [HT.out, IntWalk.wrap64_in (10 * _) (by omega), IntWalk.wrap64_in _ (by omega)]
        omega)
       have HA2 : Hid ((s.data.toList.take (k + 1)).all isDig = true) := hid (by
        rw [List.take_add_one, HX.out, List.all_append, HA.out]
        simp [HD.out])
       clear hlt2
       go_roundw
       case rel => exact ⟨k + 1, by omega, by go_num, by rw [HE.out], HA2, trivial⟩
       case measure => simp [intOf]; omega
      ·rename_i h1
       go_ret
       rw [HBAD.out (by unfold isDig; simp; omega)]
       exact ⟨rfl, rfl⟩
     ·obtain rfl : k = 8 := by omega
      have HE : Hid (baseNum c.dir name = numDigs (s.data.toList.take 8)) := hid (by
       have e : s.data.toList.take 8 = s.data.toList := List.take_of_length_le (by omega)
       have ha := HA.out
       rw [e] at ha ⊢
       rw [HN.out]
       unfold numTail
       rw [if_pos ⟨hl8, ha⟩])
      go_wp2_with (fail)
      go_ret
      rw [HE.out]
      exact ⟨rfl, rfl⟩
   ·have h8' : ((s.size : Int) != 8) = true := by rw [bne_iff_ne]; omega
    have HE : Hid (baseNum c.dir name = 0) := hid (by
     rw [HN.out]
     unfold numTail
     rw [if_neg]
     rintro ⟨h1, _⟩
     exact h8 h1)
    clear h8
    go_enter Tryz.func79, Tryz.ntmps79
    go_wp2_with (fail)
    refine HNM.out.mono ?_
    rintro e w' ⟨rfl, rfl⟩
    go_wp2_with (fail)
    refine HC.out.mono ?_
    rintro e w' ⟨rfl, rfl⟩
    go_wp2_with (fail)
    go_ret
    rw [HE.out]
    exact ⟨rfl, rfl⟩
def StC.met (c : StC) (e : Int) : StC := { c with stuck := c.stuck || e == 5 }
theorem st_met (h : StIn w sb c) (r : Int) :
 Calls Tryz.prog 75 #[.pointer (some ⟨sb, 0, none⟩), .int .i64 r] w fun e w' => e = .returned (.int .i64 r) ∧ StIn w' sb (c.met r) ∧ Keeps (Only sb) w w' := by
 have c4 : w.cell? ⟨sb, 4, none⟩ = some (.bool c.stuck) := blk_cell h 4
 have z4 : w.frozen? ⟨sb, 4, none⟩ = false := blk_free h 4
 have H := hid h
 have HS : Hid (∀ b, b = (c.stuck || r == 5) → StIn (w.setCell ⟨sb, 4, none⟩ (.bool b)) sb (c.met r) ∧ Keeps (Only sb) w (w.setCell ⟨sb, 4, none⟩ (.bool b))) := hid fun b hb => by
  subst hb
  exact ⟨blk_set H.out 4 _, (Keeps.refl (Only sb) w).setCell (p := ⟨sb, 4, none⟩) (fun _ => rfl) _⟩
 clear h
 cases hs : c.stuck with
 | true =>
   rw [hs] at c4 HS
   clear hs
   go_enter Tryz.func75, Tryz.ntmps75
   go_wp2_with (fail)
   go_ret
   exact ⟨rfl, HS.out _ rfl⟩
 | false =>
   rw [hs] at c4 HS
   clear hs
   go_enter Tryz.func75, Tryz.ntmps75
   go_wp2_with (fail)
   go_ret
   exact ⟨rfl, HS.out _ rfl⟩
theorem LsAt.shape {B : Nat} {v : Value} {rs : List (List UInt8)} (h : LsAt B w v rs) : ∃ a cap, v = .slice a rs.length cap := h.rd.shape
theorem st_framed {a : Option Addr} {cap : Nat} {ys : List UInt8} (hu : RdAt byteKind w (.slice a ys.length cap) ys) (hn : ys.length ≤ 70000000) (hcap : ys.length ≤ cap) (hcm : cap ≤ 9223372036854775807) :
 Calls Tryz.prog 106 #[.slice a ys.length cap] w fun e w' => Below w.heap.size w w' ∧ ((endOf (scanOf ys) = ys.length ∧ ∃ va vc, e = .returned (.slice va (scanOf ys).length vc) ∧ LsAt w.heap.size w' (.slice va (scanOf ys).length vc) (scanOf ys)) ∨ (endOf (scanOf ys) ≠ ys.length ∧ e = spoiltE)) := by
 have HSC := hid ((w_scan hu hn hcap hcm).mono fun e w' (h : ScanPost w ys e w') => h)
 clear hu
 by_cases he : endOf (scanOf ys) = ys.length
 ·have HE := hid he
  have hd : decide (endOf (scanOf ys) = ys.length) = true := by simp [he]
  clear he
  go_enter Tryz.func106, Tryz.ntmps106
  go_wp2_with (fail)
  refine HSC.out.mono ?_
  rintro e w1 ⟨v, rfl, hl, hb⟩
  obtain ⟨va, vc, rfl⟩ := hl.shape
  rw [hd]
  have HL := hid (And.intro hl hb)
  clear hl hb hd
  go_wp2_with (fail)
  go_ret
  exact ⟨HL.out.2, .inl ⟨HE.out, va, vc, rfl, HL.out.1⟩⟩
 ·have HE := hid he
  have hd : decide (endOf (scanOf ys) = ys.length) = false := by simp [he]
  clear he
  go_enter Tryz.func106, Tryz.ntmps106
  go_wp2_with (fail)
  refine HSC.out.mono ?_
  rintro e w1 ⟨v, rfl, hl, hb⟩
  obtain ⟨va, vc, rfl⟩ := hl.shape
  rw [hd]
  have HL := hid (And.intro hl hb)
  clear hl hb hd
  go_wp2_with (fail)
  refine st_leave rfl ?_
  exact ⟨HL.out.2, .inr ⟨HE.out, rfl⟩⟩
end
theorem tx_inj0 {a b : ByteArray} (h : tx a = tx b) : a = b := by rw [← st_tx a, ← st_tx b]; exact congrArg st h
theorem st_get {l : List UInt8} {i : Nat} {x : UInt8} (h : l[i]? = some x) : (st l).get! i = x := by
 have hi := (List.getElem?_eq_some_iff.1 h).1
 have h1 := get_list (st l) (i := i) (by rw [st_size]; exact hi)
 rw [show (st l).data.toList = l from tx_st l, h] at h1
 exact (Option.some.inj h1).symm
theorem okName_st {l : List UInt8} (h1 : l.length ≤ 100) {x y : UInt8} (hx : l[0]? = some x) (hy : l.getLast? = some y) (x47 : x ≠ 47) (y47 : y ≠ 47) (h : ∀ z ∈ l, oddR z.toNat = false) : okName (st l) = true := by
 have hpos : 0 < l.length := (List.getElem?_eq_some_iff.1 hx).1
 refine okName_all _ (by rw [st_size]; omega) (by rw [st_size]; omega) (by rw [st_get hx]; exact x47) ?_ (fun i hi => ?_)
 ·rw [st_size, st_get (by rw [← List.getLast?_eq_getElem?]; exact hy)]; exact y47
 ·rw [st_size] at hi
  rw [st_get (List.getElem?_eq_getElem hi)]
  exact h _ (List.getElem_mem hi)
structure DirS (dir : ByteArray) : Prop where
 small : dir.size ≤ 70
 some_ : 0 < dir.size
 front : dir.get! 0 ≠ 47
 all : ∀ x ∈ tx dir, oddR x.toNat = false
abbrev inD (dir : ByteArray) (r : List UInt8) : ByteArray := st (tx dir ++ 47 :: r)
theorem nmOf_in (dir what : ByteArray) : nmOf dir what = inD dir (tx what) := rfl
theorem baseNm_in (dir : ByteArray) (n : Nat) : baseNm dir n = inD dir (tx sBase ++ digs 8 n) := by
 unfold baseNm nmOf
 rw [tx_st, List.append_assoc, List.cons_append]
theorem segName_in (dir : ByteArray) (n : Nat) : segName (nmOf dir sLog) n = inD dir (tx sLog ++ 47 :: digs 8 n) := by
 show st (tx (nmOf dir sLog) ++ 47 :: digs 8 n) = _
 unfold nmOf
 rw [tx_st, List.append_assoc, List.cons_append]
section
variable {dir n : ByteArray} {r : List UInt8}
theorem okName_in (h : DirS dir) {y : UInt8} (hl : r.length ≤ 20) (hy : r.getLast? = some y) (y47 : y ≠ 47) (hr : ∀ z ∈ r, oddR z.toNat = false) : okName (inD dir r) = true := by
 refine okName_st (x := dir.get! 0) (y := y) ?_ ?_ ?_ h.front y47 fun z hz => ?_
 ·have := h.small
  have e : (tx dir).length = dir.size := rfl
  rw [List.length_append, List.length_cons]; omega
 ·rw [List.getElem?_append_left (by have := h.some_; exact this)]
  exact get_list dir h.some_
 ·rw [List.getLast?_append, List.getLast?_cons, hy]; rfl
 ·rcases List.mem_append.1 hz with e | e
  ·exact h.all z e
  ·rcases List.mem_cons.1 e with e | e
   ·subst e; decide
   ·exact hr z e
theorem digs_dig {k m : Nat} {x : UInt8} (hx : x ∈ digs k m) : oddR x.toNat = false := by
 have h1 : 48 ≤ x.toNat ∧ x.toNat ≤ 57 := by
  have := List.all_eq_true.1 (digs_all k m) x hx
  unfold isDig at this
  simpa using this
 unfold oddR
 have a3 : decide (x.toNat < 48) = false := decide_eq_false (by omega)
 have a4 : decide (57 < x.toNat) = false := decide_eq_false (by omega)
 rw [a3, a4]; simp
theorem DirS.log (h : DirS dir) : DirOk (nmOf dir sLog) := by
 have e : (nmOf dir sLog).size = dir.size + 4 := by rw [nmOf_in, st_size, List.length_append]; rfl
 refine ⟨by have := h.small; omega, by omega, ?_, fun x hx => ?_⟩
 ·rw [nmOf_in, st_get (x := dir.get! 0) ?_]
  ·exact h.front
  ·rw [List.getElem?_append_left (by have := h.some_; exact this)]
   exact get_list dir h.some_
 ·have hx : x ∈ tx (nmOf dir sLog) := hx
  rw [nmOf_in, tx_st] at hx
  rcases List.mem_append.1 hx with e | e
  ·exact h.all x e
  ·exact (by decide : ∀ z ∈ (47 :: tx sLog : List UInt8), oddR z.toNat = false) x e
theorem DirS.man (h : DirS dir) : okName (nmOf dir sMan) = true := okName_in h (y := 116) (by decide) (by decide) (by decide) (by decide)
theorem DirS.next (h : DirS dir) : okName (nmOf dir sNext) = true := okName_in h (y := 116) (by decide) (by decide) (by decide) (by decide)
theorem DirS.base (h : DirS dir) (n : Nat) : okName (baseNm dir n) = true := by
 rw [baseNm_in]
 have hd : (digs 8 n).length = 8 := digs_len 8 n
 have hne : digs 8 n ≠ [] := by intro e; rw [e] at hd; cases hd
 have hodd : ∀ z ∈ tx sBase ++ digs 8 n, oddR z.toNat = false := fun z hz => by
  rcases List.mem_append.1 hz with e | e
  ·exact (by decide : ∀ z ∈ (tx sBase : List UInt8), oddR z.toNat = false) z e
  ·exact digs_dig e
 obtain ⟨y, hy⟩ : ∃ y, (tx sBase ++ digs 8 n).getLast? = some y ∧ y ∈ digs 8 n := by
  refine ⟨(digs 8 n).getLast hne, ?_, List.getLast_mem hne⟩
  rw [List.getLast?_append, List.getLast?_eq_some_getLast hne]; rfl
 refine okName_in h (y := y) (by rw [List.length_append, hd]; decide) hy.1 ?_ hodd
 rintro rfl
 have h1 : isDig 47 = true := List.all_eq_true.1 (digs_all 8 n) _ hy.2
 exact absurd h1 (by decide)
theorem DirS.seg (h : DirS dir) (n : Nat) : okName (segName (nmOf dir sLog) n) = true := okName_seg h.log n
def nth (dir n : ByteArray) : Option UInt8 := (tx n)[dir.size + 1]?
theorem nth_in (dir : ByteArray) (r : List UInt8) : nth dir (inD dir r) = r[0]? := by
 unfold nth
 have e : (tx dir).length = dir.size := rfl
 rw [tx_st, List.getElem?_append_right (by omega), show dir.size + 1 - (tx dir).length = 0 + 1 by omega, List.getElem?_cons_succ]
theorem nth_man (dir : ByteArray) : nth dir (nmOf dir sMan) = some 109 := nth_in _ _
theorem nth_next (dir : ByteArray) : nth dir (nmOf dir sNext) = some 110 := nth_in _ _
theorem nth_base (dir : ByteArray) (n : Nat) : nth dir (baseNm dir n) = some 98 := by rw [baseNm_in, nth_in]; rfl
theorem nth_seg (dir : ByteArray) (n : Nat) : nth dir (segName (nmOf dir sLog) n) = some 108 := by rw [segName_in, nth_in]; rfl
theorem nth_segNum (h : segNum (nmOf dir sLog) n ≠ 0) : nth dir n = some 108 := by rw [name_of_num _ _ h, nth_seg]
theorem segNum_zero (h : nth dir n ≠ some 108) : segNum (nmOf dir sLog) n = 0 := by
 by_cases e : segNum (nmOf dir sLog) n = 0
 ·exact e
 ·exact absurd (nth_segNum e) h
theorem pre_in (dir : ByteArray) (r : List UInt8) : Lib.hasPrefix (tx (inD dir r)) (tx (dirOf dir)) = true := by
 unfold Lib.hasPrefix
 rw [List.isPrefixOf_iff_prefix, tx_st]
 refine ⟨r, ?_⟩
 show (dirOf dir).data.toList ++ r = _
 rw [dirOf_list, List.append_assoc]
 rfl
theorem pre_base (dir : ByteArray) (k : Nat) : Lib.hasPrefix (tx (baseNm dir k)) (tx (nmOf dir sBase)) = true := by
 unfold Lib.hasPrefix
 rw [List.isPrefixOf_iff_prefix]
 exact ⟨digs 8 k, (tx_st _).symm⟩
theorem base_split (h : Lib.hasPrefix (tx n) (tx (nmOf dir sBase)) = true) : ∃ t, tx n = tx (nmOf dir sBase) ++ t ∧ baseNum dir n = numTail t := by
 have h2 := h
 unfold Lib.hasPrefix at h
 rw [List.isPrefixOf_iff_prefix] at h
 obtain ⟨t, ht⟩ := h
 refine ⟨t, ht.symm, ?_⟩
 unfold baseNum
 rw [if_pos h2, ← ht, List.drop_left' rfl]
theorem baseNum_nm (dir : ByteArray) {k : Nat} (hk : k < 100000000) : baseNum dir (baseNm dir k) = k := by
 obtain ⟨t, h1, h2⟩ := base_split (pre_base dir k)
 have h3 : tx (baseNm dir k) = tx (nmOf dir sBase) ++ digs 8 k := tx_st _
 rw [h3] at h1
 rw [h2, ← List.append_cancel_left h1]
 unfold numTail
 rw [if_pos ⟨digs_len 8 k, digs_all 8 k⟩]
 exact numDigs_digs 8 k (by omega)
theorem base_of_num (h : baseNum dir n ≠ 0) : n = baseNm dir (baseNum dir n) := by
 by_cases hp : Lib.hasPrefix (tx n) (tx (nmOf dir sBase)) = true
 ·obtain ⟨t, h1, h2⟩ := base_split hp
  rw [h2] at h ⊢
  unfold numTail at h ⊢
  by_cases hd : t.length = 8 ∧ t.all isDig = true
  ·rw [if_pos hd]
   refine tx_inj0 ?_
   have h3 := digs_numDigs t hd.2
   rw [hd.1] at h3
   rw [h1]
   unfold baseNm
   rw [tx_st, h3]
  ·rw [if_neg hd] at h; exact absurd rfl h
 ·unfold baseNum at h
  rw [if_neg hp] at h; exact absurd rfl h
theorem baseNum_lt (dir n : ByteArray) : baseNum dir n < 100000000 := by
 by_cases hp : Lib.hasPrefix (tx n) (tx (nmOf dir sBase)) = true
 ·obtain ⟨t, h1, h2⟩ := base_split hp
  rw [h2]
  unfold numTail
  by_cases hd : t.length = 8 ∧ t.all isDig = true
  ·rw [if_pos hd]
   have := numDigs_lt t hd.2
   rw [hd.1] at this
   omega
  ·rw [if_neg hd]; omega
 ·unfold baseNum
  rw [if_neg hp]; omega
theorem nth_baseNum (h : baseNum dir n ≠ 0) : nth dir n = some 98 := by rw [base_of_num h, nth_base]
theorem baseNum_zero (h : nth dir n ≠ some 98) : baseNum dir n = 0 := by
 by_cases e : baseNum dir n = 0
 ·exact e
 ·exact absurd (nth_baseNum e) h
theorem baseNm_inj (dir : ByteArray) {a b : Nat} (ha : a < 100000000) (hb : b < 100000000) (h : baseNm dir a = baseNm dir b) : a = b := by rw [← baseNum_nm dir ha, ← baseNum_nm dir hb, h]
theorem man_base (dir : ByteArray) : baseNum dir (nmOf dir sMan) = 0 := baseNum_zero (by rw [nth_man]; decide)
theorem next_base (dir : ByteArray) : baseNum dir (nmOf dir sNext) = 0 := baseNum_zero (by rw [nth_next]; decide)
theorem seg_base (dir : ByteArray) (k : Nat) : baseNum dir (segName (nmOf dir sLog) k) = 0 := baseNum_zero (by rw [nth_seg]; decide)
theorem man_seg (dir : ByteArray) : segNum (nmOf dir sLog) (nmOf dir sMan) = 0 := segNum_zero (by rw [nth_man]; decide)
theorem next_seg (dir : ByteArray) : segNum (nmOf dir sLog) (nmOf dir sNext) = 0 := segNum_zero (by rw [nth_next]; decide)
theorem base_seg (dir : ByteArray) (k : Nat) : segNum (nmOf dir sLog) (baseNm dir k) = 0 := segNum_zero (by rw [nth_base]; decide)
theorem man_next (dir : ByteArray) : nmOf dir sMan ≠ nmOf dir sNext := fun e => by have := nth_man dir; rw [e, nth_next] at this; cases this
theorem man_ne_base (dir : ByteArray) (k : Nat) : nmOf dir sMan ≠ baseNm dir k := fun e => by have := nth_man dir; rw [e, nth_base] at this; cases this
end
end Go.Proofs.YtagdchgkjjpacaaGreat
