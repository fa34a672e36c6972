/- The walk of a JSON reader's object. -/
import Derived.Test.YthjcolehccbihaaGreatDoorz14
import Derived.Test.YthjcolehccbihaaGreatDoorz15
set_option linter.unusedSimpArgs false
set_option linter.unusedVariables false
namespace Go.Proofs.YthjcolehccbihaaGreatDoor
open Go.RowKit Go.Shelf
/-- How often the names were seen. -/
def Seen (m : List (ByteArray × Int)) (names : List ByteArray) : Prop := ∀ s, (s ∈ names → findL slt m s = some 1) ∧ (s ∉ names → findL slt m s = none)
theorem zeroInt (w : World) : (zeroValue 3).run Tryz.prog w = .ok (.int .i64 0) w := by kernel_rfl
theorem str_mem {name : List UInt8} {names : List ByteArray} : str name ∈ names ↔ name ∈ names.map raw := by
  constructor
  · intro h; exact List.mem_map.2 ⟨_, h, str_toList name⟩
  · intro h
    obtain ⟨s, hs, e⟩ := List.mem_map.1 h
    have : s = str name := by rw [← e]; exact (str_of s).symm
    rw [← this]; exact hs
theorem Seen.put {m : List (ByteArray × Int)} {names : List ByteArray} (h : Seen m names) (hr : Rise slt m) {s : ByteArray} (hs : s ∉ names) : Seen (putL slt m s 1) (names ++ [s]) := by
  intro k
  by_cases e : k = s
  · subst e; exact ⟨fun _ => Kv.find_put hr, fun h => absurd (by simp) h⟩
  · rw [Kv.find_put_ne hr e]
    exact ⟨fun hk => (h k).1 (by simpa [e] using hk), fun hk => (h k).2 (fun h2 => hk (by simp [h2]))⟩
theorem ListJ.aside {w wx wy : World} {rb : Nat} {bv : Value} {bs l' : List UInt8} {B vb : Nat} {kd : Int} {lc nc lv nv : Value} {acc : List JV} {names : List ByteArray} {sb : Nat} (h : ListJ w wx rb bv bs l' B vb kd lc nc lv nv acc names) (hk : Keeps (fun i => i = sb) wx wy)
    (h1 : w.heap.size < sb) (h2 : sb ≠ vb) (h3 : sb < B) : ListJ w wy rb bv bs l' B vb kd lc nc lv nv acc names := by
  have hr := h.rlt
  obtain ⟨rs, h4, h5⟩ := h.lst
  refine ⟨h.rdr.above (w := w) hk (Nat.le_refl _) h.rlt h.glt (fun k e => by have e : k = sb := e; omega), h.keep.trans hk (fun k hk e => by have e : k = sb := e; omega), jbox_keeps h.res hk (fun e => by have e : w.heap.size = sb := e; omega), hk.obj h.own (fun e => h2 e.symm), ⟨rs, h4.keeps hk (fun g hg e => ?_), h5.keeps hk (fun g hg e => ?_)⟩, h.nms.keeps hk (fun g hg e => ?_), h.lown, h.nown, h.vlt, h.rlt, h.glt⟩
  · have e : g = sb := e; have := h.lown g hg; omega
  · have e : g = sb := e; have := hg.1; omega
  · have e : g = sb := e; have := h.nown g hg; omega
theorem seen_step {W : World} {sb : Nat} {m : List (ByteArray × Int)} (h : MapAt strKind (Value.int .i64) W sb m) (s : ByteArray) (c : Int) (hc : (findL slt m s).getD 0 = c) :
    (Instr.lookup 134 (.map (some sb)) (.string s) false).run Tryz.prog W = .ok (.int .i64 c) W ∧ ∃ W', (Instr.mapUpdate 134 (.map (some sb)) (.string s) (.int .i64 (c + 1))).run Tryz.prog W = .ok () W' ∧
      MapAt strKind (Value.int .i64) W' sb (putL slt m s (c + 1)) ∧ Keeps (fun i => i = sb) W W' ∧ (Instr.lookup 134 (.map (some sb)) (.string s) false).run Tryz.prog W' = .ok (.int .i64 (c + 1)) W' := by
  have key : ∀ {V : World} {mm : List (ByteArray × Int)}, MapAt strKind (Value.int .i64) V sb mm → (Instr.lookup 134 (.map (some sb)) (.string s) false).run Tryz.prog V = .ok (.int .i64 ((findL slt mm s).getD 0)) V := fun {V mm} hm => by
    have := hm.lookup (P := Tryz.prog) (t := 134) Tryz.underlying134 Tryz.underlying9 (zeroInt V) s false
    rw [if_neg (by simp)] at this
    have e : ((findL strKind.lt mm s).map (Value.int .i64)).getD (.int .i64 0) = .int .i64 ((findL slt mm s).getD 0) := by
      show ((findL slt mm s).map (Value.int .i64)).getD (.int .i64 0) = _
      cases findL slt mm s <;> rfl
    rw [e] at this
    exact this
  obtain ⟨W', h1, h2, h3, _⟩ := h.update (P := Tryz.prog) (t := 134) Tryz.underlying134 Tryz.underlying9 s (c + 1)
  refine ⟨hc ▸ key h, W', h1, h2, h3, ?_⟩
  have := key h2
  rw [show findL slt (putL strKind.lt m s (c + 1)) s = some (c + 1) from Kv.find_put h.rise] at this
  exact this
/-- A member behind the blanks. -/
def afterV (val : List UInt8 → Out JV) (n : Nat) (acc : List JV) (names : List ByteArray) (name : List UInt8) (v : JV) : List UInt8 → Out (List JV × List ByteArray)
  | [] => .bad 0 11
  | c :: r => if c = 125 then .ok (acc ++ [v], names ++ [str name]) r else if c = 44 then membersN val n (acc ++ [v]) (names ++ [str name]) r else .bad (r.length + 1) 11
def memStep (val : List UInt8 → Out JV) (n : Nat) (acc : List JV) (names : List ByteArray) : List UInt8 → Out (List JV × List ByteArray)
  | [] => .bad 0 11
  | c :: l1 => if c ≠ 34 then .bad (l1.length + 1) 11 else if acc.length = 1000 then .bad (l1.length + 1) 9
      else (text l1).andThen fun name l2 => if name ∈ names.map raw then .bad (l1.length + 1) 12
        else (musts [58] (blanks l2)).andThen fun _ l3 => (val (blanks l3)).andThen fun v l4 => afterV val n acc names name v (blanks l4)
theorem membersN_step (val : List UInt8 → Out JV) (n : Nat) (acc : List JV) (names : List ByteArray) (l : List UInt8) : membersN val (n + 1) acc names l = memStep val n acc names (blanks l) := by
  unfold membersN memStep
  cases blanks l with
  | nil => rfl
  | cons c l1 =>
    dsimp only
    congr 1
section
variable {w : World} {rb : Nat} {bv : Value} {bs l : List UInt8}
set_option maxRecDepth 100000 in
set_option maxHeartbeats 8000000 in
theorem j_object (dep : Int) (hd0 : 0 ≤ dep) (hd1 : dep ≤ 100) (val : List UInt8 → Out JV) (hfit : ∀ l, (val l).Fits 1 l)
    (hval : ∀ W l, Rdr W rb bv bs l → Calls Tryz.prog 39 #[.pointer (some ⟨rb, 0, none⟩), .int .i64 (dep + 1)] W (ROut rb bv bs W (VJ W.heap.size) (val l))) (h : Rdr w rb bv bs l) :
    Calls Tryz.prog 72 #[.pointer (some ⟨rb, 0, none⟩), .int .i64 dep] w (ROut rb bv bs w (VJ w.heap.size) (object val l)) := by
  obtain ⟨RES, hres⟩ : ∃ o, o = object val l := ⟨_, rfl⟩
  rw [← hres]
  have HRES := Lib.hid hres
  have HVAL := Lib.hid hval
  have HFIT := Lib.hid hfit
  have HR := Lib.hid h
  obtain ⟨w1, hw1, HBX⟩ := jbox_zero w
  obtain ⟨w2, hw2, HBV⟩ := jbox_new w1 (rawOf 6 ⟨#[]⟩)
  obtain ⟨w3, hw3⟩ : ∃ w3, w3 = w2.alloc (.map #[] 0) := ⟨_, rfl⟩
  have hz1 : w1.heap.size = w.heap.size + 1 := by rw [← hw1]; simp
  have hz2 : w2.heap.size = w.heap.size + 2 := by rw [← hw2]; simp; omega
  have hz3 : w3.heap.size = w.heap.size + 3 := by rw [hw3]; simp; omega
  have hb3 : Below w2.heap.size w2 w3 := by rw [hw3]; exact (Below.refl _ _).alloc (Nat.le_refl _) _
  have HI3 : Hid (ListI w w3 rb bv bs l (w.heap.size + 3) (w.heap.size + 1) 6 (.slice none 0 0) (.slice none 0 0) [] []) := Lib.hid (by
    have hb : Below w.heap.size w w2 := HBX.out.1.trans (HBV.out.1.mono HBX.out.1.size)
    have hi : ListI w w2 rb bv bs l (w.heap.size + 3) (w.heap.size + 1) 6 (.slice none 0 0) (.slice none 0 0) [] [] := by
      refine ⟨h.below hb, (Keeps.refl _ _).below hb, jbox_below HBX.out.2 HBV.out.1, ?_, ⟨[], SlAt.nil, by simp only [JsAt]⟩, SlAt.nil, by simp [Value.ownBlock], by simp [Value.ownBlock], by omega, h.lt, h.glt⟩
      have := HBV.out.2
      rw [hz1] at this
      exact this
    exact hi.below hb3)
  have HM3 : Hid (MapAt strKind (Value.int .i64) w3 (w.heap.size + 2) []) := Lib.hid (by rw [hw3, ← hz2]; exact mapAt_made w2)
  have HW1 := Lib.hid hw1
  have HW2 : Hid (w1.alloc (.cells #[.int .i64 6, .string ⟨#[]⟩, .slice none 0 0, .slice none 0 0] 25) = w2) := Lib.hid hw2
  have HW3 := Lib.hid hw3
  have HZ2 := Lib.hid hz2
  have HZ3 : Hid (w.heap.size + 3 ≤ w3.heap.size) := Lib.hid (by omega)
  clear hw1 hw2 hw3 hz1 hz2 hz3 hres hval hfit h HBX HBV hb3
  go_enter Tryz.func72, Tryz.ntmps72
  have hmm := run_makeMap (P := Tryz.prog) 134 w2
  rw [HW3.out.symm, HZ2.out] at hmm
  go_upto_region 2 with fail
  rw [show w.alloc (.cells #[.int .i64 0, .string ⟨#[]⟩, .slice none 0 0, .slice none 0 0] 25) = w1 from HW1.out, HW2.out]
  go_upto_region 3 with fail
  clear hmm
  obtain ⟨vb, hvb⟩ : ∃ vb, vb = w.heap.size + 1 := ⟨_, rfl⟩
  obtain ⟨sb, hsb⟩ : ∃ sb, sb = w.heap.size + 2 := ⟨_, rfl⟩
  obtain ⟨B, hB⟩ : ∃ B, B = w.heap.size + 3 := ⟨_, rfl⟩
  rw [← hvb, ← hB] at HI3
  rw [← hB] at HZ3
  rw [← hsb] at HM3
  rw [← hvb, ← hsb]
  have HVB := Lib.hid (And.intro hvb (And.intro hsb hB))
  clear hvb hsb hB HW1 HW2 HW3 HZ2
  have HBL := Lib.hid (j_blanks HI3.out.rdr)
  go_wp2_with (fail)
  refine HBL.out.mono ?_
  rintro e w4 ⟨rfl, hr4, hk4⟩
  have HI4 := Lib.hid (HI3.out.step hr4 hk4)
  have HZ4 : Hid (B ≤ w4.heap.size) := Lib.hid (Nat.le_trans HZ3.out hk4.size)
  have HM4 : Hid (MapAt strKind (Value.int .i64) w4 sb []) := Lib.hid (HM3.out.keeps hk4 (fun e => by have e : sb = rb := e; have := HVB.out; have := HI3.out.rlt; omega))
  obtain ⟨l1, hl1⟩ : ∃ l1, l1 = blanks l := ⟨_, rfl⟩
  rw [← hl1] at HI4
  have HRES1 : Hid (RES = if (mayBe (· == 125) l1).1 then .ok (.mk 6 ByteArray.empty [] []) (mayBe (· == 125) l1).2 else (membersN val (l.length + 1) [] [] l1).andThen fun vs r => .ok (.mk 6 ByteArray.empty vs.1 vs.2) r) := Lib.hid (by rw [HRES.out, hl1]; rfl)
  have HL1 : Hid (l1.length ≤ l.length) := Lib.hid (by rw [hl1]; exact suf_len (blanks_suf l))
  clear hr4 hk4 hl1 HBL HI3 HRES HZ3 HM3
  have HM := Lib.hid (j_may (p := (· == 125)) (s := ⟨#[125]⟩) (one_set 125) HI4.out.rdr)
  obtain ⟨b, hb⟩ : ∃ b, b = (mayBe (· == 125) l1).1 := ⟨_, rfl⟩
  rw [← hb] at HM
  rw [← hb] at HRES1
  have HBB := Lib.hid hb
  clear hb
  go_wp2_with (fail)
  refine HM.out.mono ?_
  rintro e w5 ⟨rfl, hr5, hk5⟩
  have HI5 := Lib.hid (HI4.out.step hr5 hk5)
  have HZ5 : Hid (B ≤ w5.heap.size) := Lib.hid (Nat.le_trans HZ4.out hk5.size)
  have HM5 : Hid (MapAt strKind (Value.int .i64) w5 sb []) := Lib.hid (HM4.out.keeps hk5 (fun e => by have e : sb = rb := e; have := HVB.out; have := HI4.out.rlt; omega))
  clear hr5 hk5 HM HM4
  cases b with
  | true =>
    obtain ⟨d0, d1, d2, d3, f2, f3⟩ := HI5.out.cells
    obtain ⟨⟨b0, b1, b2, b3⟩, z0, z1, z2, z3⟩ := jbox_cells HI5.out.res
    go_wp2_with (fail)
    have HN := jbox_set HI5.out.res (rawOf 6 ⟨#[]⟩)
    refine bodyPost_ret (v := (rawOf 6 ⟨#[]⟩).val) (jres_cell rfl HN _ rfl) rfl ?_
    rw [HRES1.out]
    refine ⟨⟨_, rfl, rawOf 6 ⟨#[]⟩, rfl, JAt.plain _ _ _ _⟩, HI5.out.rdr.above (w := w) (keeps4 w5 w.heap.size (.int .i64 6) (.string ⟨#[]⟩) (.slice none 0 0) (.slice none 0 0)) (Nat.le_refl _) HI5.out.rlt HI5.out.glt (fun k e => by have e : k = w.heap.size := e; omega), jbox_keep4 HI5.out.keep (Nat.le_refl _) _ _ _ _⟩
  | false =>
    have HNO := Lib.hid (mayBe_no HBB.out.symm)
    have HI6 : Hid (ListI w w5 rb bv bs l1 B vb 6 (.slice none 0 0) (.slice none 0 0) [] []) := Lib.hid (by have := HI5.out; rw [HNO.out] at this; exact this)
    have HR6 : Hid ((membersN val (l.length + 1) [] [] l1).andThen (fun vs r => .ok (.mk 6 ByteArray.empty vs.1 vs.2) r) = RES) := Lib.hid (by rw [HRES1.out]; rfl)
    clear HRES1 HI5 HI4 HZ4
    go_wp2_with (fail)
    go_loopg [16] (l.length + 1) (fun gk _ wx => ∃ (lv nv : Value) (acc : List JV) (names : List ByteArray) (m : List (ByteArray × Int)) (l' : List UInt8), Hid (l'.length < gk) ∧ Hid (B ≤ wx.heap.size) ∧ Hid (ListI w wx rb bv bs l' B vb 6 lv nv acc names) ∧ Hid (MapAt strKind (Value.int .i64) wx sb m) ∧ Hid (Seen m names ∧ names.length = acc.length) ∧ Hid ((membersN val gk acc names l').andThen (fun vs r => .ok (.mk 6 ByteArray.empty vs.1 vs.2) r) = RES) ∧ Hid (acc.length + l'.length ≤ l.length))
    case atStart => exact ⟨_, _, [], [], [], l1, Lib.hid (by have := HL1.out; omega), HZ5, HI6, HM5, Lib.hid ⟨fun s => ⟨by simp, fun _ => rfl⟩, rfl⟩, HR6, Lib.hid (by have := HL1.out; simpa using this)⟩
    case round =>
      obtain ⟨lv, nv, acc, names, m, l', HG, HZ, HI, HMP, HSN, HE, HA⟩ := hrel
      obtain ⟨n, rfl⟩ : ∃ n, gk = n + 1 := ⟨gk - 1, by have := HG.out; omega⟩
      have HBL := Lib.hid (j_blanks HI.out.rdr)
      go_wp2_with (fail)
      refine HBL.out.mono ?_
      rintro e w6 ⟨rfl, hr6, hk6⟩
      have HI7 := Lib.hid (HI.out.step hr6 hk6)
      have HZ7 : Hid (B ≤ w6.heap.size) := Lib.hid (Nat.le_trans HZ.out hk6.size)
      have HM7 : Hid (MapAt strKind (Value.int .i64) w6 sb m) := Lib.hid (HMP.out.keeps hk6 (fun e => by have e : sb = rb := e; have := HVB.out; have := HI.out.rlt; omega))
      obtain ⟨l2, hl2⟩ : ∃ l2, l2 = blanks l' := ⟨_, rfl⟩
      rw [← hl2] at HI7
      have HL2 : Hid (l2.length ≤ l'.length) := Lib.hid (by rw [hl2]; exact suf_len (blanks_suf l'))
      have HE7 : Hid ((memStep val n acc names l2).andThen (fun vs r => .ok (.mk 6 ByteArray.empty vs.1 vs.2) r) = RES) := Lib.hid (by rw [← HE.out, hl2, membersN_step])
      clear hr6 hk6 hl2 HBL HI HZ HE HMP
      obtain ⟨a, cap, hlv⟩ := HI7.out.llen
      subst hlv
      obtain ⟨ra, rcap, k, hbv, hk, hkl, c0, c1, f1⟩ := HI7.out.rdr.parts
      have HK := Lib.hid hk
      clear hk hkl hbv
      cases l2 with
      | nil =>
        have HH := Lib.hid (j_here_end HI7.out.rdr)
        go_wp2_with (fail)
        refine HH.out.mono ?_
        rintro e w7 ⟨rfl, n7, rfl⟩
        go_wp2_with (fail)
        refine (j_wrong (HI7.out.drew n7).rdr).mono ?_
        rintro e w8 ⟨rfl, rfl⟩
        refine leave_panic (P := Tryz.prog) (fn := Tryz.f72) rfl ?_
        rw [← HE7.out]
        exact ⟨rfl, (HI7.out.drew n7).keep⟩
      | cons c l2 =>
        have HH := Lib.hid (j_here HI7.out.rdr)
        go_wp2_with (fail)
        refine HH.out.mono ?_
        rintro e w7 ⟨rfl, n7, rfl⟩
        obtain ⟨w7, hw7⟩ : ∃ w7, w7 = w6.drewN n7 := ⟨_, rfl⟩
        have hi8 := HI7.out.drew n7
        have hm8 := HM7.out.below (below_drewN w6.heap.size w6 n7)
        rw [← hw7] at hi8 hm8
        rw [← hw7]
        have HI8 := Lib.hid hi8
        have HM8 := Lib.hid hm8
        have HZ8 : Hid (B ≤ w7.heap.size) := Lib.hid (by rw [hw7]; exact HZ7.out)
        clear hi8 hm8 hw7 HI7 HM7 HZ7 HH c0 c1 f1
        by_cases hc : c = 34
        · subst hc
          --B
          have t0 : (((34 : UInt8).toNat : Int) != 34) = false := rfl
          go_upto_region 10 with (fail)
          obtain ⟨-, -, d2, -⟩ := HI8.out.cells
          by_cases hm : acc.length = 1000
          · have t1 : ((acc.length : Int) == 1000) = true := by simp; omega
            have HM := Lib.hid hm
            clear hm
            go_wp2_with (fail)
            refine (j_fail _ _ _ _).mono ?_
            rintro e w8 ⟨rfl, rfl⟩
            refine leave_panic (P := Tryz.prog) (fn := Tryz.f72) rfl ?_
            rw [← HE7.out]
            unfold memStep
            dsimp only
            rw [if_neg (by simp), if_pos HM.out, HK.out]
            exact ⟨rfl, HI8.out.keep⟩
          · have t1 : ((acc.length : Int) == 1000) = false := by simp; omega
            have HE8 : Hid (((text l2).andThen fun name l2' => if name ∈ names.map raw then .bad (l2.length + 1) 12
                  else (musts [58] (blanks l2')).andThen fun _ l3 => (val (blanks l3)).andThen fun v l4 => afterV val n acc names name v (blanks l4)).andThen (fun vs r => .ok (.mk 6 ByteArray.empty vs.1 vs.2) r) = RES) := Lib.hid (by
              rw [← HE7.out]; unfold memStep; dsimp only; rw [if_neg (by simp), if_neg hm])
            clear hm HE7
            have HTX := Lib.hid (j_text HI8.out.rdr)
            go_wp2_with (fail)
            refine HTX.out.mono ?_
            intro e w8 hp
            cases ho : text l2 with
            | bad p er =>
              rw [ho] at hp
              obtain ⟨rfl, hk⟩ := hp
              refine leave_panic (P := Tryz.prog) (fn := Tryz.f72) rfl ?_
              rw [← HE8.out, ho]
              exact ⟨rfl, HI8.out.keep.trans' hk⟩
            | ok name l3 =>
              have HFT := Lib.hid (text_fits l2 name l3 ho)
              rw [ho] at hp HE8
              obtain ⟨⟨_, rfl, rfl⟩, hr8, hk8⟩ := hp
              have HI9 := Lib.hid (HI8.out.step hr8 hk8)
              have HZ9 : Hid (B ≤ w8.heap.size) := Lib.hid (Nat.le_trans HZ8.out hk8.size)
              have HM9 : Hid (MapAt strKind (Value.int .i64) w8 sb m) := Lib.hid (HM8.out.keeps hk8 (fun e => by have e : sb = rb := e; have := HVB.out; have := HI8.out.rlt; omega))
              clear hr8 hk8 HTX ho HI8 HM8 HZ8
              have HE9 : Hid ((if name ∈ names.map raw then .bad (l2.length + 1) 12
                  else (musts [58] (blanks l3)).andThen fun _ l3 => (val (blanks l3)).andThen fun v l4 => afterV val n acc names name v (blanks l4) : Out (List JV × List ByteArray)).andThen (fun vs r => .ok (.mk 6 ByteArray.empty vs.1 vs.2) r) = RES) := Lib.hid (by rw [← HE8.out]; rfl)
              clear HE8
              by_cases hin : name ∈ names.map raw
              · have hfc : (findL slt m (str name)).getD 0 = 1 := by rw [(HSN.out.1 (str name)).1 (str_mem.2 hin)]; rfl
                obtain ⟨hlk, w9, hup, hm9, hk9, hlk2⟩ := seen_step HM9.out (str name) 1 hfc
                have HI10 := Lib.hid (HI9.out.aside hk9 (by have := HVB.out; omega) (by have := HVB.out; omega) (by have := HVB.out; omega))
                have HIN := Lib.hid hin
                replace hlk2 : (Instr.lookup 134 (.map (some sb)) (.string (str name)) false).run Tryz.prog w9 = .ok (.int .i64 2) w9 := hlk2
                replace hup : (Instr.mapUpdate 134 (.map (some sb)) (.string (str name)) (.int .i64 2)).run Tryz.prog w8 = .ok () w9 := hup
                clear hfc hm9 hk9 hin
                go_wp2_with (fail)
                refine (j_fail _ _ _ _).mono ?_
                rintro e w10 ⟨rfl, rfl⟩
                refine leave_panic (P := Tryz.prog) (fn := Tryz.f72) rfl ?_
                rw [← HE9.out, if_pos HIN.out, HK.out]
                exact ⟨rfl, HI10.out.keep⟩
              · have hns : str name ∉ names := fun e => hin (str_mem.1 e)
                have hfc : (findL slt m (str name)).getD 0 = 0 := by rw [(HSN.out.1 (str name)).2 hns]; rfl
                obtain ⟨hlk, w9, hup, hm9, hk9, hlk2⟩ := seen_step HM9.out (str name) 0 hfc
                have HI10 := Lib.hid (HI9.out.aside hk9 (by have := HVB.out; omega) (by have := HVB.out; omega) (by have := HVB.out; omega))
                have HM10 : Hid (MapAt strKind (Value.int .i64) w9 sb (putL slt m (str name) 1)) := Lib.hid hm9
                have HS10 : Hid (Seen (putL slt m (str name) 1) (names ++ [str name]) ∧ names.length = acc.length) := Lib.hid ⟨HSN.out.1.put HM9.out.rise hns, HSN.out.2⟩
                have HZ10 : Hid (B ≤ w9.heap.size) := Lib.hid (Nat.le_trans HZ9.out hk9.size)
                have HE10 : Hid (((musts [58] (blanks l3)).andThen fun _ l3 => (val (blanks l3)).andThen fun v l4 => afterV val n acc names name v (blanks l4)).andThen (fun vs r => .ok (.mk 6 ByteArray.empty vs.1 vs.2) r) = RES) := Lib.hid (by rw [← HE9.out, if_neg hin])
                replace hlk2 : (Instr.lookup 134 (.map (some sb)) (.string (str name)) false).run Tryz.prog w9 = .ok (.int .i64 1) w9 := hlk2
                replace hup : (Instr.mapUpdate 134 (.map (some sb)) (.string (str name)) (.int .i64 1)).run Tryz.prog w8 = .ok () w9 := hup
                clear hfc hm9 hk9 hin hns HE9 HI9 HM9 HZ9 HSN
                go_upto_region 16 with (fail)
                clear hup hlk hlk2
                have HBL := Lib.hid (j_blanks HI10.out.rdr)
                go_wp2_with (fail)
                refine HBL.out.mono ?_
                rintro e w10 ⟨rfl, hr10, hk10⟩
                have HI11 := Lib.hid (HI10.out.step hr10 hk10)
                have HZ11 : Hid (B ≤ w10.heap.size) := Lib.hid (Nat.le_trans HZ10.out hk10.size)
                have HM11 : Hid (MapAt strKind (Value.int .i64) w10 sb (putL slt m (str name) 1)) := Lib.hid (HM10.out.keeps hk10 (fun e => by have e : sb = rb := e; have := HVB.out; have := HI10.out.rlt; omega))
                obtain ⟨l4, hl4⟩ : ∃ l4, l4 = blanks l3 := ⟨_, rfl⟩
                rw [← hl4] at HI11 HE10
                have HL4 : Hid (l4.length ≤ l3.length) := Lib.hid (by rw [hl4]; exact suf_len (blanks_suf l3))
                clear hr10 hk10 hl4 HBL HI10 HM10 HZ10
                have HMU := Lib.hid (j_must 58 HI11.out.rdr)
                go_wp2_with (fail)
                refine HMU.out.mono ?_
                intro e w11 hp
                cases ho : musts [58] l4 with
                | bad p er =>
                  rw [ho] at hp
                  obtain ⟨rfl, hk⟩ := hp
                  refine leave_panic (P := Tryz.prog) (fn := Tryz.f72) rfl ?_
                  rw [← HE10.out, ho]
                  exact ⟨rfl, HI11.out.keep.trans' hk⟩
                | ok _ l5 =>
                  have HFM := Lib.hid (musts_fits [58] l4 _ l5 ho)
                  rw [ho] at hp
                  obtain ⟨⟨_, rfl, rfl⟩, hr11, hk11⟩ := hp
                  have HE11 : Hid (((val (blanks l5)).andThen fun v l4 => afterV val n acc names name v (blanks l4)).andThen (fun vs r => .ok (.mk 6 ByteArray.empty vs.1 vs.2) r) = RES) := Lib.hid (by rw [← HE10.out, ho]; rfl)
                  have HI12 := Lib.hid (HI11.out.step hr11 hk11)
                  have HZ12 : Hid (B ≤ w11.heap.size) := Lib.hid (Nat.le_trans HZ11.out hk11.size)
                  have HM12 : Hid (MapAt strKind (Value.int .i64) w11 sb (putL slt m (str name) 1)) := Lib.hid (HM11.out.keeps hk11 (fun e => by have e : sb = rb := e; have := HVB.out; have := HI11.out.rlt; omega))
                  clear ho hr11 hk11 HE10 HI11 HZ11 HM11 HMU
                  have HBL := Lib.hid (j_blanks HI12.out.rdr)
                  go_wp2_with (fail)
                  refine HBL.out.mono ?_
                  rintro e w12 ⟨rfl, hr12, hk12⟩
                  have HI13 := Lib.hid (HI12.out.step hr12 hk12)
                  have HZ13 : Hid (B ≤ w12.heap.size) := Lib.hid (Nat.le_trans HZ12.out hk12.size)
                  have HM13 : Hid (MapAt strKind (Value.int .i64) w12 sb (putL slt m (str name) 1)) := Lib.hid (HM12.out.keeps hk12 (fun e => by have e : sb = rb := e; have := HVB.out; have := HI12.out.rlt; omega))
                  obtain ⟨l6, hl6⟩ : ∃ l6, l6 = blanks l5 := ⟨_, rfl⟩
                  rw [← hl6] at HI13 HE11
                  have HL6 : Hid (l6.length + 1 ≤ l2.length ∧ l2.length + 1 ≤ l'.length) := Lib.hid (by rw [hl6]; have h1 := suf_len (blanks_suf l5); have h2 := HFM.out.2; have h3 := HL4.out; have h4 := HFT.out.2; have h5 := HL2.out; simp only [List.length_cons, List.length_nil] at h2 h5; omega)
                  clear hr12 hk12 hl6 HBL HI12 HZ12 HM12 HFM HL4 HFT HL2
                  go_upto_region 19 with (fail)
                  obtain ⟨na, ncap, hnv⟩ := HI13.out.nms.shape
                  subst hnv
                  have hdep : wrap64 (dep + 1) = dep + 1 := by unfold wrap64; omega
                  have hdep2 : IntKind.i64.wrap (dep + 1) = dep + 1 := IntWalk.i64_in _ (by omega)
                  have HB0 := Lib.hid (HI13.out.below (Below.refl _ _).drew)
                  have HMB0 := Lib.hid (HM13.out.below (Below.refl _ _).drew)
                  obtain ⟨v13, w13, p1, ⟨na', ncap', hv13⟩, hz13, HJ, hk13⟩ := HB0.out.pushN (by show B ≤ w12.heap.size; exact HZ13.out) (by have := HS10.out.2; have := HA.out; have := HR.out.len; have := suf_len HR.out.suf; have := HL6.out; omega) (str name) 23
                  subst hv13
                  have HJ := Lib.hid HJ
                  have HP1 := Lib.hid p1
                  have HZ14 : Hid (B ≤ w13.heap.size) := Lib.hid (Nat.le_trans HZ13.out hz13)
                  have HM14 : Hid (MapAt strKind (Value.int .i64) w13 sb (putL slt m (str name) 1)) := Lib.hid ((HMB0.out.below ((Below.refl _ _).alloc (Nat.le_refl _) _)).keeps hk13 (fun e => by have e : B ≤ sb := e; have := HVB.out; omega))
                  have HC0 := Lib.hid (HB0.out.cells)
                  have HCA := Lib.hid ((HB0.out.below ((Below.refl _ _).alloc (Nat.le_refl _) (.cells #[.string (str name)] 9))).cells)
                  have HC1 := Lib.hid (HJ.out.cells)
                  have HV := Lib.hid (HVAL.out w13 l6 HJ.out.rdr)
                  clear p1 hz13 hk13
                  refine wp_region_B (T := fun w => w.cell? ⟨vb, 3, none⟩ = some (.slice na names.length ncap) ∧ w.cell? ⟨vb, 2, none⟩ = some (.slice a acc.length cap)) (B := fun j => decide (j < 13)) (by kernel_rfl) ?_
                  have hT : w12.drew.cell? ⟨vb, 3, none⟩ = some (.slice na names.length ncap) ∧ w12.drew.cell? ⟨vb, 2, none⟩ = some (.slice a acc.length cap) := ⟨HC0.out.2.2.2.1, HC0.out.2.2.1⟩
                  refine wpAnyB_take (i := 0) (v := ?vv0) rfl (by kernel_rfl) (by kernel_rfl) (by kernel_rfl) (fun _ _ _ h => h) (Or.inl ⟨by rfl, ?hy0⟩) ?rs0
                  case hy0 => (intro w; go_simp) <;> with_reducible rfl
                  try simp only [Act.put, List.setIfInBounds_toArray, List.set_cons_zero, List.set_cons_succ]
                  refine wpAnyB_load (i := 1) (v := ?vv1) rfl (by kernel_rfl) (by kernel_rfl) (by kernel_rfl) (by kernel_rfl) (fun _ _ _ h => h) (Or.inl ⟨by rfl, ?hy1⟩) (by assumption) ?rs1
                  case hy1 => (intro w hSw; obtain ⟨s3, s2⟩ := hSw; go_simp) <;> with_reducible rfl
                  try simp only [Act.put, List.setIfInBounds_toArray, List.set_cons_zero, List.set_cons_succ]
                  refine wpAnyB_take (i := 5) (v := ?vv5) rfl (by kernel_rfl) (by kernel_rfl) (by kernel_rfl) (fun _ _ _ h => h) (Or.inl ⟨by rfl, ?hy5⟩) ?rs5
                  case hy5 => (intro w; go_simp) <;> with_reducible rfl
                  try simp only [Act.put, List.setIfInBounds_toArray, List.set_cons_zero, List.set_cons_succ]
                  refine wpAnyB_load (i := 6) (v := ?vv6) rfl (by kernel_rfl) (by kernel_rfl) (by kernel_rfl) (by kernel_rfl) (fun _ _ _ h => h) (Or.inl ⟨by rfl, ?hy6⟩) (by assumption) ?rs6
                  case hy6 => (intro w hSw; obtain ⟨s3, s2⟩ := hSw; go_simp) <;> with_reducible rfl
                  try simp only [Act.put, List.setIfInBounds_toArray, List.set_cons_zero, List.set_cons_succ]
                  refine wpAnyB_take (i := 2) (v := ?vv2) rfl (by kernel_rfl) (by kernel_rfl) (by kernel_rfl) (fun _ _ _ h => h) (Or.inl ⟨by rfl, ?hy2⟩) ?rs2
                  case hy2 => (intro w; go_simp) <;> with_reducible rfl
                  try simp only [Act.put, List.setIfInBounds_toArray, List.set_cons_zero, List.set_cons_succ]
                  refine wpAnyB_take (i := 7) (v := ?vv7) rfl (by kernel_rfl) (by kernel_rfl) (by kernel_rfl) (fun _ _ _ h => h) (Or.inl ⟨by rfl, ?hy7⟩) ?rs7
                  case hy7 => (intro w; go_simp) <;> with_reducible rfl
                  try simp only [Act.put, List.setIfInBounds_toArray, List.set_cons_zero, List.set_cons_succ]
                  refine wpAnyB_take (i := 8) (v := ?vv8) rfl (by kernel_rfl) (by kernel_rfl) (by kernel_rfl) (fun _ _ _ h => h) (Or.inl ⟨by rfl, ?hy8⟩) ?rs8
                  case hy8 => (intro w; go_simp) <;> with_reducible rfl
                  try simp only [Act.put, List.setIfInBounds_toArray, List.set_cons_zero, List.set_cons_succ]
                  refine wpAnyB_take (i := 9) (v := ?vv9) rfl (by kernel_rfl) (by kernel_rfl) (by kernel_rfl) (fun _ _ _ h => h) (Or.inl ⟨by rfl, ?hy9⟩) ?rs9
                  case hy9 => (intro w; go_simp) <;> with_reducible rfl
                  try simp only [Act.put, List.setIfInBounds_toArray, List.set_cons_zero, List.set_cons_succ]
                  clear hT
                  refine wpAnyB_ready (rs := [3]) (by kernel_rfl) (by simp) ?_
                  refine AllReadyB.cons (o := { dst := some 56, op := Op.buildSlice 23 1 #[(0, Operand.tmp 55)], type := 23, pos := "read.go:155", after := #[{ on := 2, ground := Ground.data }], guard := none }) rfl (fun K hK => ?_) AllReadyB.nil
                  go_simp
                  refine hK.out _ _ (fun _ _ => ⟨HCA.out.2.2.2.1, HCA.out.2.2.1⟩) ?_
                  clear hK K
                  try simp only [Act.put, List.setIfInBounds_toArray, List.set_cons_zero, List.set_cons_succ]
                  refine wpAnyB_ready (rs := [4]) (by kernel_rfl) (by simp) ?_
                  refine AllReadyB.cons (o := { dst := some 57, op := Op.call { callee := Callee.builtin Builtin.append, args := #[Operand.tmp 54, Operand.tmp 56], argTypes := #[23, 23] }, type := 23, pos := "read.go:155", after := #[{ on := 1, ground := Ground.data }, { on := 3, ground := Ground.data }], guard := none }) rfl (fun K hK => ?_) AllReadyB.nil
                  refine step_append_run rfl (.tmp 54) (.tmp 56) 23 rfl _ _ rfl rfl _ _ HP1.out ?_
                  refine hK.out _ _ (fun _ _ => ⟨HC1.out.2.2.2.1, HC1.out.2.2.1⟩) ?_
                  clear hK K
                  try simp only [Act.put, List.setIfInBounds_toArray, List.set_cons_zero, List.set_cons_succ]
                  refine wpAnyB_take (i := 13) (v := ?vv13) rfl (by kernel_rfl) (by kernel_rfl) (by kernel_rfl) (fun _ _ _ h => h) (Or.inl ⟨by rfl, ?hy13⟩) ?rs13
                  case hy13 => (intro w; go_simp) <;> with_reducible rfl
                  try simp only [Act.put, List.setIfInBounds_toArray, List.set_cons_zero, List.set_cons_succ]
                  have HV2 : Hid (Calls Tryz.prog 39 #[.pointer (some ⟨rb, 0, none⟩), .int .i64 (dep + 1)] w13 fun e w7 => (∃ p er : Nat, e = faultE ((bs.length - p : Nat) : Int) (er : Int) ∧ Hid (val l6 = .bad p er ∧ Keeps (Only rb) w13 w7)) ∨ ∃ (q : RawV) (v : JV) (l7 : List UInt8), e = .returned (.agg #[.int .i64 q.k, .string q.t, .slice q.la q.ll q.lc, .slice q.na q.nl q.nc]) ∧ Hid (val l6 = .ok v l7 ∧ JAt w7 (fun g => w13.heap.size ≤ g) v q ∧ Rdr w7 rb bv bs l7 ∧ Keeps (Only rb) w13 w7)) := Lib.hid (HV.out.mono (by
                    intro e w7 hp
                    cases ho : val l6 with
                    | bad p er =>
                      rw [ho] at hp
                      obtain ⟨rfl, hk⟩ := hp
                      exact .inl ⟨p, er, rfl, Lib.hid ⟨rfl, hk⟩⟩
                    | ok v l7 =>
                      rw [ho] at hp
                      obtain ⟨⟨_, rfl, q, rfl, hq⟩, hr7, hk7⟩ := hp
                      exact .inr ⟨q, v, l7, rfl, Lib.hid ⟨rfl, hq, hr7, hk7⟩⟩))
                  clear HV
                  refine wpAnyB_ready (rs := [10]) (by kernel_rfl) (by simp) ?_
                  refine AllReadyB.cons (o := { dst := some 63, op := Op.call { callee := Callee.value (Operand.func 39), args := #[Operand.tmp 60, Operand.tmp 62], argTypes := #[83, 3] }, type := 25, pos := "read.go:155", after := #[{ on := 7, ground := Ground.data }, { on := 9, ground := Ground.data }, { on := 4, ground := Ground.chain }], guard := none }) rfl (fun K hK => ?_) AllReadyB.nil
                  go_simp
                  go_at_call 39
                  refine HV2.out.mono ?_
                  rintro e w14 (⟨p, er, rfl, HQ⟩ | ⟨q, v, l7, rfl, HQ⟩)
                  · refine leave_panic (P := Tryz.prog) (fn := Tryz.f72) rfl ?_
                    rw [← HE11.out, HQ.out.1]
                    exact ⟨rfl, HJ.out.keep.trans' HQ.out.2⟩
                  have HT14 := Lib.hid (HJ.out.step HQ.out.2.2.1 HQ.out.2.2.2).cells
                  have HTA := Lib.hid ((HJ.out.step HQ.out.2.2.1 HQ.out.2.2.2).below ((Below.refl _ _).alloc (Nat.le_refl _) (.cells #[.int .i64 q.k, .string q.t, .slice q.la q.ll q.lc, .slice q.na q.nl q.nc] 25))).cells
                  obtain ⟨v15, w15, p2, ⟨a', cap', hv15⟩, hz15, HJ2, hk15⟩ := HJ.out.push (by exact HZ14.out) (by have := HA.out; have := HR.out.len; have := suf_len HR.out.suf; have := HL6.out; omega) HQ.out.2.2.1 HQ.out.2.2.2 HQ.out.2.1 #[.int .i64 q.k, .string q.t, .slice q.la q.ll q.lc, .slice q.na q.nl q.nc] rfl 22
                  subst hv15
                  have HP2 := Lib.hid p2
                  have HZ15 : Hid (B ≤ w15.heap.size) := Lib.hid (Nat.le_trans HZ14.out hz15)
                  have HM15 : Hid (MapAt strKind (Value.int .i64) w15 sb (putL slt m (str name) 1)) := Lib.hid (((HM14.out.keeps HQ.out.2.2.2 (fun e => by have e : sb = rb := e; have := HVB.out; have := HJ.out.rlt; omega)).below ((Below.refl _ _).alloc (Nat.le_refl _) _)).keeps hk15 (fun e => by have e : B ≤ sb := e; have := HVB.out; omega))
                  have HJ2 := Lib.hid HJ2
                  clear p2 hz15 hk15
                  refine hK.out _ _ (fun _ _ => (by exact ⟨HT14.out.2.2.2.1, HT14.out.2.2.1⟩)) ?_
                  clear hK K
                  try simp only [Act.put, List.setIfInBounds_toArray, List.set_cons_zero, List.set_cons_succ]
                  refine wpAnyB_ready (rs := [11]) (by kernel_rfl) (by simp) ?_
                  refine AllReadyB.cons (o := { dst := some 64, op := Op.buildSlice 22 1 #[(0, Operand.tmp 63)], type := 22, pos := "read.go:155", after := #[{ on := 10, ground := Ground.data }], guard := none }) rfl (fun K hK => ?_) AllReadyB.nil
                  go_simp
                  refine hK.out _ _ (fun _ _ => ⟨HTA.out.2.2.2.1, HTA.out.2.2.1⟩) ?_
                  clear hK K
                  try simp only [Act.put, List.setIfInBounds_toArray, List.set_cons_zero, List.set_cons_succ]
                  refine wpAnyB_ready (rs := [12]) (by kernel_rfl) (by simp) ?_
                  refine AllReadyB.cons (o := { dst := some 65, op := Op.call { callee := Callee.builtin Builtin.append, args := #[Operand.tmp 59, Operand.tmp 64], argTypes := #[22, 22] }, type := 22, pos := "read.go:155", after := #[{ on := 6, ground := Ground.data }, { on := 11, ground := Ground.data }, { on := 10, ground := Ground.chain }], guard := none }) rfl (fun K hK => ?_) AllReadyB.nil
                  refine step_append_run rfl (.tmp 59) (.tmp 64) 22 rfl _ _ rfl rfl _ _ HP2.out ?_
                  refine hK.out _ _ (fun _ _ => ⟨HJ2.out.cells.2.2.2.1, HJ2.out.cells.2.2.1⟩) ?_
                  clear hK K
                  try simp only [Act.put, List.setIfInBounds_toArray, List.set_cons_zero, List.set_cons_succ]
                  have HI16 := Lib.hid ((HJ2.out.set 3 (.slice na' (names.length + 1) ncap') (.slice a acc.length cap) (.slice na' (names.length + 1) ncap') rfl).set 2 (.slice a' (acc.length + 1) cap') (.slice a' (acc.length + 1) cap') (.slice na' (names.length + 1) ncap') rfl)
                  have HM16 : Hid (MapAt strKind (Value.int .i64) ((w15.setCell ⟨vb, 3, none⟩ (.slice na' (names.length + 1) ncap')).setCell ⟨vb, 2, none⟩ (.slice a' (acc.length + 1) cap')) sb (putL slt m (str name) 1)) := Lib.hid ((HM15.out.keeps (keeps_set _ vb 3 _) (fun e => by have e : sb = vb := e; have := HVB.out; omega)).keeps (keeps_set _ vb 2 _) (fun e => by have e : sb = vb := e; have := HVB.out; omega))
                  have HZ16 : Hid (B ≤ ((w15.setCell ⟨vb, 3, none⟩ (.slice na' (names.length + 1) ncap')).setCell ⟨vb, 2, none⟩ (.slice a' (acc.length + 1) cap')).heap.size) := Lib.hid (Nat.le_trans HZ15.out (Nat.le_trans (keeps_set _ vb 3 _).size (keeps_set _ vb 2 _).size))
                  have f3 : w15.frozen? ⟨vb, 3, none⟩ = false := HJ2.out.cells.2.2.2.2.2
                  have g3 : w15.cell? ⟨vb, 3, none⟩ = some (.slice na names.length ncap) := HJ2.out.cells.2.2.2.1
                  have hj3 := (HJ2.out.set 3 (.slice na' (names.length + 1) ncap') (.slice a acc.length cap) (.slice na' (names.length + 1) ncap') rfl).cells
                  have f2 : (w15.setCell ⟨vb, 3, none⟩ (.slice na' (names.length + 1) ncap')).frozen? ⟨vb, 2, none⟩ = false := hj3.2.2.2.2.1
                  have g2 : (w15.setCell ⟨vb, 3, none⟩ (.slice na' (names.length + 1) ncap')).cell? ⟨vb, 2, none⟩ = some (.slice a acc.length cap) := hj3.2.2.1
                  clear hj3
                  refine wpAnyB_ready (rs := [14]) (by kernel_rfl) (by simp) ?_
                  refine AllReadyB.cons (o := { dst := none, op := Op.store 23 (Operand.tmp 66) (Operand.tmp 57), type := 0, pos := "read.go:155", after := #[{ on := 13, ground := Ground.data }, { on := 4, ground := Ground.data }, { on := 12, ground := Ground.chain }, { on := 0, ground := Ground.phase }, { on := 1, ground := Ground.phase }, { on := 2, ground := Ground.phase }, { on := 3, ground := Ground.phase }, { on := 4, ground := Ground.phase }, { on := 5, ground := Ground.phase }, { on := 6, ground := Ground.phase }, { on := 7, ground := Ground.textOnly Departure.lateStores }, { on := 8, ground := Ground.textOnly Departure.lateStores }, { on := 9, ground := Ground.textOnly Departure.lateStores }, { on := 10, ground := Ground.textOnly Departure.lateStoresUnsure }, { on := 11, ground := Ground.textOnly Departure.lateStores }, { on := 12, ground := Ground.textOnly Departure.lateStoresUnsure }], guard := none }) rfl (fun K hK => ?_) AllReadyB.nil
                  go_simp
                  refine hK.out _ _ (fun h => absurd h (by decide)) ?_
                  clear hK K
                  try simp only [Act.put, List.setIfInBounds_toArray, List.set_cons_zero, List.set_cons_succ]
                  refine wpAnyB_take (i := 15) (v := ?vv15) rfl (by kernel_rfl) (by kernel_rfl) (by kernel_rfl) (fun _ _ _ h => h) (Or.inl ⟨by rfl, ?hy15⟩) ?rs15
                  case hy15 => (intro w; go_simp) <;> with_reducible rfl
                  try simp only [Act.put, List.setIfInBounds_toArray, List.set_cons_zero, List.set_cons_succ]
                  refine wpAnyB_ready (rs := [16]) (by kernel_rfl) (by simp) ?_
                  refine AllReadyB.cons (o := { dst := none, op := Op.store 22 (Operand.tmp 67) (Operand.tmp 65), type := 0, pos := "read.go:155", after := #[{ on := 15, ground := Ground.data }, { on := 12, ground := Ground.data }, { on := 14, ground := Ground.chain }, { on := 0, ground := Ground.phase }, { on := 1, ground := Ground.phase }, { on := 2, ground := Ground.phase }, { on := 3, ground := Ground.phase }, { on := 4, ground := Ground.phase }, { on := 5, ground := Ground.phase }, { on := 6, ground := Ground.phase }, { on := 7, ground := Ground.phase }, { on := 8, ground := Ground.phase }, { on := 9, ground := Ground.phase }, { on := 10, ground := Ground.phase }, { on := 11, ground := Ground.phase }, { on := 12, ground := Ground.phase }, { on := 13, ground := Ground.phase }, { on := 14, ground := Ground.phase }], guard := none }) rfl (fun K hK => ?_) AllReadyB.nil
                  go_simp
                  refine hK.out _ _ (fun h => absurd h (by decide)) ?_
                  clear hK K
                  try simp only [Act.put, List.setIfInBounds_toArray, List.set_cons_zero, List.set_cons_succ]
                  refine wpAnyB_done (by kernel_rfl) ?_ _
                  clear f2 g2 f3 g3
                  have HV16 := Lib.hid HQ.out.1
                  obtain ⟨w16, hw16⟩ : ∃ x, x = ((w15.setCell ⟨vb, 3, none⟩ (.slice na' (names.length + 1) ncap')).setCell ⟨vb, 2, none⟩ (.slice a' (acc.length + 1) cap')) := ⟨_, rfl⟩
                  rw [← hw16] at HI16 HM16 HZ16 ⊢
                  clear hw16
                  have HFT := Lib.hid (HFIT.out l6 v l7 HV16.out)
                  have HE16 : Hid ((afterV val n acc names name v (blanks l7)).andThen (fun vs r => .ok (.mk 6 ByteArray.empty vs.1 vs.2) r) = RES) := Lib.hid (by rw [← HE11.out, HV16.out]; rfl)
                  clear HQ HP1 HP2 HJ2 HM15 HZ15 HJ HV2 HT14 HTA HC0 HCA HC1 HB0 HMB0 HI13 HZ13 HM13 HZ14 HM14 HE11
                  have HBL := Lib.hid (j_blanks HI16.out.rdr)
                  go_wp2_with (fail)
                  refine HBL.out.mono ?_
                  rintro e w17 ⟨rfl, hr17, hk17⟩
                  have HI17 := Lib.hid (HI16.out.step hr17 hk17)
                  have HZ17 : Hid (B ≤ w17.heap.size) := Lib.hid (Nat.le_trans HZ16.out hk17.size)
                  have HM17 : Hid (MapAt strKind (Value.int .i64) w17 sb (putL slt m (str name) 1)) := Lib.hid (HM16.out.keeps hk17 (fun e => by have e : sb = rb := e; have := HVB.out; have := HI16.out.rlt; omega))
                  obtain ⟨l8, hl8⟩ : ∃ x, x = blanks l7 := ⟨_, rfl⟩
                  rw [← hl8] at HI17 HE16
                  have HL8 : Hid (l8.length + 1 ≤ l2.length) := Lib.hid (by rw [hl8]; have := suf_len (blanks_suf l7); have := HFT.out.2; have := HL6.out; omega)
                  clear hr17 hk17 hl8 HBL HI16 HZ16 HM16
                  have HM := Lib.hid (j_may (p := (· == 125)) (s := ⟨#[125]⟩) (one_set 125) HI17.out.rdr)
                  obtain ⟨b4, hb4⟩ : ∃ b, b = (mayBe (· == 125) l8).1 := ⟨_, rfl⟩
                  rw [← hb4] at HM
                  have HB4 := Lib.hid hb4
                  clear hb4
                  go_wp2_with (fail)
                  refine HM.out.mono ?_
                  rintro e w18 ⟨rfl, hr18, hk18⟩
                  have HI18 := Lib.hid (HI17.out.step hr18 hk18)
                  have HZ18 : Hid (B ≤ w18.heap.size) := Lib.hid (Nat.le_trans HZ17.out hk18.size)
                  have HM18 : Hid (MapAt strKind (Value.int .i64) w18 sb (putL slt m (str name) 1)) := Lib.hid (HM17.out.keeps hk18 (fun e => by have e : sb = rb := e; have := HVB.out; have := HI17.out.rlt; omega))
                  clear hr18 hk18 HM HI17 HZ17 HM17
                  cases b4 with
                  | true =>
                    have HFIN : Hid (RES = .ok (.mk 6 ByteArray.empty (acc ++ [v]) (names ++ [str name])) (mayBe (· == 125) l8).2) := Lib.hid (by
                      rw [← HE16.out]
                      unfold afterV
                      cases l8 with
                      | nil => have := HB4.out; simp [mayBe] at this
                      | cons c r =>
                        have hc : (c == 125) = true := by
                          have := HB4.out
                          unfold mayBe at this
                          dsimp only at this
                          split at this
                          · assumption
                          · cases this
                        have hc2 : c = 125 := by simpa using hc
                        subst hc2
                        rfl)
                    obtain ⟨q, hq1, hq2, hq3, hq4, hq5⟩ := HI18.out.done
                    obtain ⟨d0, d1, d2, d3, f2, f3⟩ := HI18.out.cells
                    obtain ⟨⟨b0, b1, b2, b3⟩, z0, z1, z2, z3⟩ := jbox_cells HI18.out.res
                    have HQ5 := Lib.hid hq5
                    have HQQ : Hid (q = ⟨6, ⟨#[]⟩, a', acc.length + 1, cap', na', names.length + 1, ncap'⟩) := Lib.hid (by
                      cases q
                      simp only [RawV.lv, RawV.nv, Value.slice.injEq] at hq1 hq2 hq3 hq4
                      obtain ⟨h1, h2, h3⟩ := hq3
                      obtain ⟨h4, h5, h6⟩ := hq4
                      subst hq1 hq2 h1 h2 h3 h4 h5 h6
                      rfl)
                    clear hq1 hq2 hq3 hq4 hq5
                    go_wp2_with (fail)
                    have HN := jbox_set HI18.out.res ⟨6, ⟨#[]⟩, a', acc.length + 1, cap', na', names.length + 1, ncap'⟩
                    have hk9 := keeps4 w18 w.heap.size (.int .i64 6) (.string ⟨#[]⟩) (.slice a' (acc.length + 1) cap') (.slice na' (names.length + 1) ncap')
                    refine bodyPost_ret (v := RawV.val ⟨6, ⟨#[]⟩, a', acc.length + 1, cap', na', names.length + 1, ncap'⟩) (jres_cell rfl HN _ rfl) rfl ?_
                    rw [HFIN.out]
                    have hq5 := HQ5.out
                    rw [HQQ.out] at hq5
                    refine ⟨⟨_, rfl, _, rfl, (hq5.keeps hk9 (fun g hg e => by have e : g = w.heap.size := e; have := HVB.out; omega)).mono (fun g hg => by have := HVB.out; omega)⟩, HI18.out.rdr.above (w := w) hk9 (Nat.le_refl _) HI18.out.rlt HI18.out.glt (fun k e => by have e : k = w.heap.size := e; omega), jbox_keep4 HI18.out.keep (Nat.le_refl _) _ _ _ _⟩
                  | false =>
                    have HI19 : Hid (ListI w w18 rb bv bs l8 B vb 6 (.slice a' (acc.length + 1) cap') (.slice na' (names.length + 1) ncap') (acc ++ [v]) (names ++ [str name])) := Lib.hid (by have := HI18.out; rw [mayBe_no HB4.out.symm] at this; exact this)
                    have HMU := Lib.hid (j_must 44 HI19.out.rdr)
                    clear HI18
                    go_wp2_with (fail)
                    refine HMU.out.mono ?_
                    intro e w19 hp
                    cases l8 with
                    | nil =>
                      obtain ⟨rfl, hk⟩ := hp
                      refine leave_panic (P := Tryz.prog) (fn := Tryz.f72) rfl ?_
                      rw [← HE16.out]
                      exact ⟨rfl, HI19.out.keep.trans' hk⟩
                    | cons c r =>
                      have hc93 : ¬ c = 125 := by
                        have := HB4.out
                        unfold mayBe at this
                        dsimp only at this
                        intro e
                        rw [e] at this
                        cases this
                      by_cases hc : c = 44
                      · subst hc
                        rw [show musts [44] (44 :: r) = .ok () r from by simp [musts]] at hp
                        obtain ⟨⟨_, rfl, rfl⟩, hr19, hk19⟩ := hp
                        have HI20 := Lib.hid (HI19.out.step hr19 hk19)
                        have HZ20 : Hid (B ≤ w19.heap.size) := Lib.hid (Nat.le_trans HZ18.out hk19.size)
                        have HM20 : Hid (MapAt strKind (Value.int .i64) w19 sb (putL slt m (str name) 1)) := Lib.hid (HM18.out.keeps hk19 (fun e => by have e : sb = rb := e; have := HVB.out; have := HI19.out.rlt; omega))
                        have HE20 : Hid ((membersN val n (acc ++ [v]) (names ++ [str name]) r).andThen (fun vs r => .ok (.mk 6 ByteArray.empty vs.1 vs.2) r) = RES) := Lib.hid (by rw [← HE16.out]; rfl)
                        clear hr19 hk19
                        go_wp2_with (fail)
                        go_roundg n
                        case measure => exact Nat.lt_succ_self n
                        case rel => exact ⟨_, _, _, _, _, r, Lib.hid (by have h1 := HG.out; have h2 := HL8.out; have h3 := HL6.out; simp only [List.length_cons] at h2; omega), HZ20, HI20, HM20, Lib.hid ⟨HS10.out.1, by have := HS10.out.2; simp; omega⟩, HE20, Lib.hid (by have h1 := HA.out; have h2 := HL8.out; have h3 := HL6.out; simp only [List.length_cons] at h2; simp; omega)⟩
                      · rw [show musts [44] (c :: r) = .bad (r.length + 1) 11 from by simp [musts, hc]] at hp
                        obtain ⟨rfl, hk⟩ := hp
                        refine leave_panic (P := Tryz.prog) (fn := Tryz.f72) rfl ?_
                        rw [← HE16.out]
                        unfold afterV
                        dsimp only
                        rw [if_neg hc93, if_neg hc]
                        exact ⟨rfl, HI19.out.keep.trans' hk⟩
        · have t0 : ((c.toNat : Int) != 34) = true := by
            have : c.toNat ≠ 34 := fun e => hc (UInt8.toNat_inj.1 e)
            simp; omega
          go_wp2_with (fail)
          refine (j_wrong HI8.out.rdr).mono ?_
          rintro e w8 ⟨rfl, rfl⟩
          refine leave_panic (P := Tryz.prog) (fn := Tryz.f72) rfl ?_
          rw [← HE7.out]
          unfold memStep
          dsimp only
          rw [if_pos hc]
          exact ⟨rfl, HI8.out.keep⟩
end
end Go.Proofs.YthjcolehccbihaaGreatDoor
