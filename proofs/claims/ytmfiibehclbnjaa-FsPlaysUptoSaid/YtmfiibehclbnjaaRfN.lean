/- The program's file system beside the reference's; the statements' Crash. -/
import Derived.Test.YtmfiibehclbnjaaRf3
import Derived.Test.YtmfiibehclbnjaaFsL6
namespace Go.Proofs.Ytmfiibehclbnjaa
open Go.RowKit Go.Shelf

/-- Both under way: the program's says G, the reference's F. -/
structure Mid (w0 w : World) (fb rb : Nat) (F G : FsS) (k : Nat) (S R : Nat → Prop) : Prop where
  fs : Hd w0 w fb G k S
  ref : ∃ lv rs, RefAt w rb F R lv rs
  apart : ∀ i, S i → ¬ R i
  low : ∀ i, R i → w0.heap.size ≤ i
section
variable {w0 w w' : World} {fb rb k k' : Nat} {F G H : FsS} {S R T : Nat → Prop}
theorem Mid.rlt (h : Mid w0 w fb rb F G k S R) : ∀ i, R i → i < w.heap.size := by obtain ⟨lv, rs, hr⟩ := h.ref; exact hr.lt
theorem Mid.read (h : Mid w0 w fb rb F G k S R) (hb : Below w.heap.size w w') : Mid w0 w' fb rb F G k S R := by
  obtain ⟨lv, rs, hr⟩ := h.ref
  exact ⟨h.fs.read hb, ⟨lv, rs, hr.below hb⟩, h.apart, h.low⟩
theorem Mid.keeps (h : Mid w0 w fb rb F G k S R) (hk : Keeps T w w') (hS : ∀ i, T i → ¬ S i) (hR : ∀ i, T i → ¬ R i) (h0 : ∀ i, T i → w0.heap.size ≤ i) : Mid w0 w' fb rb F G k S R := by
  obtain ⟨lv, rs, hr⟩ := h.ref
  exact ⟨⟨h.fs.fs.keeps hk hS, h.fs.low, below_keeps h.fs.below hk h0 h.fs.below.size, h.fs.ok⟩, ⟨lv, rs, hr.keeps hk hR⟩, h.apart, h.low⟩
/-- The program's has gone on. -/
theorem Mid.stepF (h : Mid w0 w fb rb F G k S R) (hd : Hd w0 w' fb H k' (New w w' S)) (hk : Keeps S w w') : Mid w0 w' fb rb F H k' (New w w' S) R := by
  obtain ⟨lv, rs, hr⟩ := h.ref
  exact ⟨hd, ⟨lv, rs, hr.keeps hk h.apart⟩, new_apart h.apart hr.lt, h.low⟩
/-- The reference's has gone on. -/
theorem Mid.stepR (h : Mid w0 w fb rb F G k S R) (hp : RefPost w rb H R w') : Mid w0 w' fb rb H G k S (New w w' R) := by
  obtain ⟨lv, rs, h1, h2⟩ := hp
  refine ⟨⟨h.fs.fs.keeps h2 (fun i e1 e2 => h.apart i e2 e1), h.fs.low, below_keeps h.fs.below h2 h.low h.fs.below.size, h.fs.ok⟩, ⟨lv, rs, h1⟩, apart_new h.apart h.fs.fs.lt, fun i e => ?_⟩
  rcases e with e | e
  · exact h.low i e
  · exact Nat.le_trans h.fs.below.size e.1
/-- A block that neither owns. -/
structure Free (w : World) (b : Nat) (o : Array Value) (t : TypeId) (S R : Nat → Prop) : Prop where
  blk : IsBlk w b o t
  s : ¬ S b
  r : ¬ R b
theorem Free.keepF {b : Nat} {o : Array Value} {t : TypeId} (h : Free w b o t S R) (hk : Keeps S w w') : Free w' b o t (New w w' S) R := by
  refine ⟨hk.obj h.blk h.s, fun e => ?_, h.r⟩
  rcases e with e | e
  · exact h.s e
  · have := lt_of_block h.blk; omega
theorem Free.keepR {b : Nat} {o : Array Value} {t : TypeId} (h : Free w b o t S R) (hk : Keeps R w w') : Free w' b o t S (New w w' R) := by
  refine ⟨hk.obj h.blk h.r, h.s, fun e => ?_⟩
  rcases e with e | e
  · exact h.r e
  · have := lt_of_block h.blk; omega
theorem Free.read {b : Nat} {o : Array Value} {t : TypeId} (h : Free w b o t S R) (hb : Below w.heap.size w w') : Free w' b o t S R := ⟨(hb.block b (lt_of_block h.blk)).trans h.blk, h.s, h.r⟩
/-- What the statements' closure keeps an eye on. -/
structure EyeI (W : World) (rb bw bl bg bn : Nat) (F : FsS) (R : Nat → Prop) (m : Int) (i : Nat) : Prop where
  w : IsBlk W bw #[.pointer (some ⟨rb, 0, none⟩)] 61
  last : ∃ last, IsBlk W bl #[.string last] 9 ∧ (last = ⟨#[]⟩ ∨ ∃ j x, j < i ∧ F.files[j]? = some (last, x))
  good : IsBlk W bg #[.bool true] 4
  n : IsBlk W bn #[.int .i64 m] 3
  ref : ∃ lv rs, RefAt W rb F R lv rs
theorem last_less (h : FsOk F k) {i : Nat} {n : ByteArray} {x : FileS} (hx : F.files[i]? = some (n, x)) {last : ByteArray} (hl : last = ⟨#[]⟩ ∨ ∃ j x, j < i ∧ F.files[j]? = some (last, x)) : slt last n = true := by
  rcases hl with rfl | ⟨j, y, hj, hy⟩
  · have hv := h.valid _ (List.mem_of_getElem? hx)
    have h0 : n.size ≠ 0 := by
      unfold okName at hv
      simp only [Bool.and_eq_true, decide_eq_true_eq] at hv
      exact hv.1.1.1.1
    unfold slt
    have e : (⟨#[]⟩ : ByteArray).toList = [] := by rw [Lib.toList_data]
    rw [e, Lib.toList_data]
    cases hl : n.data.toList with
    | nil => exact absurd (by show n.data.toList.length = 0; rw [hl]; rfl) h0
    | cons _ _ => rfl
  · have hr := h.rise
    obtain ⟨a1, a2⟩ := List.getElem?_eq_some_iff.1 hy
    obtain ⟨b1, b2⟩ := List.getElem?_eq_some_iff.1 hx
    have := (List.pairwise_iff_getElem.1 hr) j i a1 b1 hj
    rw [a2, b2] at this
    exact this
set_option maxRecDepth 100000 in
set_option maxHeartbeats 4000000 in
theorem x_crash1 {W : World} {bw bl bg bn : Nat} {m : Int} {i : Nat} (h : EyeI W rb bw bl bg bn F R m i) (ho : FsOk F k) {n : ByteArray} {x : FileS} (hx : F.files[i]? = some (n, x)) (hu : 0 < (x.data.length : Int) - x.synced) (hbl : bl ≠ bw ∧ bl ≠ bg ∧ bl ≠ bn ∧ ¬ R bl) :
    Calls Try.prog 81 (#[.string n, .int .i64 ((x.data.length : Int) - x.synced)] ++ #[.pointer (some ⟨bw, 0, none⟩), .pointer (some ⟨bl, 0, none⟩), .pointer (some ⟨bg, 0, none⟩), .pointer (some ⟨bn, 0, none⟩)]) W
      fun e W' => e = .returned (.int .i64 (keepN n m)) ∧ EyeI W' rb bw bl bg bn F R m (i + 1) ∧ Keeps (Only bl) W W' := by
  obtain ⟨last, hlast, hlc⟩ := h.last
  have hlt := last_less ho hx hlc
  have cw : W.cell? ⟨bw, 0, none⟩ = some (.pointer (some ⟨rb, 0, none⟩)) := blk_cell h.w 0
  have cl : W.cell? ⟨bl, 0, none⟩ = some (.string last) := blk_cell hlast 0
  have zl : W.frozen? ⟨bl, 0, none⟩ = false := blk_free hlast 0
  have cn : W.cell? ⟨bn, 0, none⟩ = some (.int .i64 m) := blk_cell h.n 0
  obtain ⟨lv, rs, hr⟩ := h.ref
  have c1 : W.cell? ⟨rb, 1, none⟩ = some lv := blk_cell hr.blk 1
  obtain ⟨r, g, off, cap, _, _, hlv, d0, d1, d2⟩ := hr.at_file hx
  subst hlv
  have HAT := Lib.hid (g_at_some hr ho.rise ho.few hx)
  have hnl : n.size ≤ 100 := okName_size2 (ho.valid _ (List.mem_of_getElem? hx))
  have HKP := Lib.hid (fun W' => g_keep (w := W') n m (by omega))
  have hil := (List.getElem?_eq_some_iff.1 hx).1
  have hfew := ho.few
  have hxl := (ho.len (ho.find_at hx)).1
  have hsy := (ho.len (ho.find_at hx)).2.1
  have k1 : (0 : Int) ≤ (i : Int) := by omega
  have k2 : (i : Int) < (F.files.length : Int) := by omega
  have k3 : (F.files.length : Int) ≤ 400 := by omega
  have k4 : (0 : Int) ≤ (x.synced : Int) := by omega
  have k5 : (x.synced : Int) ≤ (x.data.length : Int) := by omega
  have k6 : ¬ ((x.data.length : Int) - x.synced < 1) := by omega
  have hlt' : Op.bytesLess last.toList n.toList = true := hlt
  have hq1 : Op.bytesLess n.toList last.toList = false := slt_ord.asymm hlt
  have hq2 : (n.toList == last.toList) = false := eqb_ne (fun e => by rw [e, slt_ord.irr] at hlt; cases hlt)
  have kw : IntKind.i64.wrap ((x.data.length : Int) - x.synced) = (x.data.length : Int) - x.synced := IntWalk.i64_in _ (by omega)
  have kd0 : decide ((i : Int) < 0) = false := decide_eq_false (by omega)
  have kd1 : decide ((x.data.length : Int) - x.synced < 1) = false := decide_eq_false k6
  simp only at d0 d1 d2
  have HFIN : Hid (∀ W2, Below W.heap.size W W2 → EyeI (W2.setCell ⟨bl, 0, none⟩ (.string n)) rb bw bl bg bn F R m (i + 1) ∧ Keeps (Only bl) W (W2.setCell ⟨bl, 0, none⟩ (.string n))) := Lib.hid fun W2 hW2 => by
    have k : Keeps (Only bl) W2 (W2.setCell ⟨bl, 0, none⟩ (.string n)) := keeps_set _ _ _ _
    have hb : ∀ b o t, IsBlk W b o t → IsBlk W2 b o t := fun b o t hb => (hW2.block b (lt_of_block hb)).trans hb
    refine ⟨⟨k.obj (hb _ _ _ h.w) (fun e => hbl.1 e.symm), ⟨n, blk_set (hb _ _ _ hlast) 0 _, .inr ⟨i, x, Nat.lt_succ_self i, hx⟩⟩, k.obj (hb _ _ _ h.good) (fun e => hbl.2.1 e.symm), k.obj (hb _ _ _ h.n) (fun e => hbl.2.2.1 e.symm), ⟨_, rs, (hr.below hW2).keeps k (fun j e => by have : j = bl := e; rw [this]; exact hbl.2.2.2)⟩⟩, ?_⟩
    exact ((Keeps.of_below hW2).mono (fun _ _ e => e.elim)).trans' k
  have HCN : Hid (∀ W2, Below W.heap.size W W2 → (W2.setCell ⟨bl, 0, none⟩ (.string n)).cell? ⟨bn, 0, none⟩ = some (.int .i64 m)) := Lib.hid fun W2 hW2 => by
    have k : Keeps (Only bl) W2 (W2.setCell ⟨bl, 0, none⟩ (.string n)) := keeps_set _ _ _ _
    exact blk_cell (k.obj ((hW2.block bn (lt_of_block h.n)).trans h.n) (fun e => hbl.2.2.1 e.symm)) 0
  have hcn := HCN.out _ (below_drewN _ _ 0)
  clear h hlast hlc hlt hr hx hbl hil hfew
  show Calls Try.prog 81 #[.string n, .int .i64 ((x.data.length : Int) - x.synced), .pointer (some ⟨bw, 0, none⟩), .pointer (some ⟨bl, 0, none⟩), .pointer (some ⟨bg, 0, none⟩), .pointer (some ⟨bn, 0, none⟩)] W _
  go_enter Try.func81, Try.ntmps81
  go_wp2_with (fail)
  refine HAT.out.mono ?_
  rintro e w1 ⟨rfl, rfl⟩
  go_wp2_with (fail)
  go_quiet (fail)
  have hbd : Below W.heap.size W (W.drewN nq) := below_drewN _ _ _
  have hcn := HCN.out _ hbd
  have HE := Lib.hid (HFIN.out _ hbd)
  clear hbd
  go_wp2_with (fail)
  refine (HKP.out _).mono ?_
  rintro e w1 ⟨rfl, rfl⟩
  go_wp2_with (fail)
  go_ret
  exact ⟨rfl, HE.out.1, HE.out.2⟩
end
end Go.Proofs.Ytmfiibehclbnjaa
