/- The statements' Crash walked. -/
import Derived.Test.YtmfiibehclbnjaaRfN
import Derived.Test.YtmfiibehclbnjaaRf3
namespace Go.Proofs.Ytmfiibehclbnjaa
open Go.RowKit Go.Shelf

section
variable {w0 w w' : World} {fb rb k : Nat} {F G : FsS} {S R T : Nat → Prop}
/-- Both have gone on. -/
def MidPost (w0 w : World) (fb rb : Nat) (F : FsS) (k : Nat) (S R : Nat → Prop) (w' : World) : Prop :=
  ∃ S' R', Mid w0 w' fb rb F F k S' R' ∧ Keeps (fun i => S i ∨ R i) w w' ∧ (∀ i, S' i → S i ∨ w.heap.size ≤ i) ∧ (∀ i, R' i → R i ∨ w.heap.size ≤ i)
theorem EyeI.keeps {W W' : World} {bw bl bg bn : Nat} {m : Int} {i : Nat} {U : Nat → Prop} (h : EyeI W rb bw bl bg bn F R m i) (hk : Keeps U W W') (h1 : ¬ U bw) (h2 : ¬ U bl) (h3 : ¬ U bg) (h4 : ¬ U bn) (hR : ∀ i, U i → ¬ R i) : EyeI W' rb bw bl bg bn F R m i := by
  obtain ⟨last, hl, hc⟩ := h.last
  obtain ⟨lv, rs, hr⟩ := h.ref
  exact ⟨hk.obj h.w h1, ⟨last, hk.obj hl h2, hc⟩, hk.obj h.good h3, hk.obj h.n h4, ⟨lv, rs, hr.keeps hk hR⟩⟩
theorem EyeI.next {W : World} {bw bl bg bn : Nat} {m : Int} {i : Nat} (h : EyeI W rb bw bl bg bn F R m i) : EyeI W rb bw bl bg bn F R m (i + 1) := by
  obtain ⟨last, hl, hc⟩ := h.last
  refine ⟨h.w, ⟨last, hl, ?_⟩, h.good, h.n, h.ref⟩
  rcases hc with e | ⟨j, x, hj, hx⟩
  · exact .inl e
  · exact .inr ⟨j, x, by omega, hx⟩
set_option maxRecDepth 100000 in
/-- Below w, the closure's boxes: the call of Crash. -/
theorem x_crash_f {W : World} {lv : Value} {rs : List RF} (hb : Below w.heap.size w W) (hfs : FsIs w fb F S) (ho : FsOk F k) (hr : RefAt w rb F R lv rs) (hap : ∀ i, S i → ¬ R i) (m : Int)
    (b0 : IsBlk W w.heap.size #[.pointer (some ⟨rb, 0, none⟩)] 61) (b1 : IsBlk W (w.heap.size + 1) #[.int .i64 m] 3) (b2 : IsBlk W (w.heap.size + 1 + 1) #[.bool true] 4) (b3 : IsBlk W (w.heap.size + 1 + 1 + 1) #[.string ⟨#[]⟩] 9) :
    Calls Try.prog 14 #[.pointer (some ⟨fb, 0, none⟩), .func (.func 81) #[] #[.pointer (some ⟨w.heap.size, 0, none⟩), .pointer (some ⟨w.heap.size + 1 + 1 + 1, 0, none⟩), .pointer (some ⟨w.heap.size + 1 + 1, 0, none⟩), .pointer (some ⟨w.heap.size + 1, 0, none⟩)]] W
      fun e W' => e = .returned (.tuple #[]) ∧ EyeI W' rb w.heap.size (w.heap.size + 1 + 1 + 1) (w.heap.size + 1 + 1) (w.heap.size + 1) F R m F.files.length ∧ FsIs W' fb (F.crash fun n _ => keepN n m) (New W W' S) ∧ Keeps (fun i => S i ∨ w.heap.size ≤ i) w W' := by
  have hSlt := hfs.lt
  have hRlt := hr.lt
  have l3 := lt_of_block b3
  obtain ⟨mb, ps, h1⟩ := hfs.below hb
  refine (f_crash h1 ho 81 _ (fun _ _ => rfl) (fun n _ => keepN n m) (Only (w.heap.size + 1 + 1 + 1)) ?_ (fun i W' => EyeI W' rb w.heap.size (w.heap.size + 1 + 1 + 1) (w.heap.size + 1 + 1) (w.heap.size + 1) F R m i) ?_ ?_ ?_ ?_).mono ?_
  · rintro i rfl
    exact ⟨l3, fun e => by have := hSlt _ e; omega⟩
  · intro W' hW
    have hq : ∀ b o t, IsBlk W b o t → IsBlk W' b o t := fun b o t e => (hW.block b (lt_of_block e)).trans e
    exact ⟨hq _ _ _ b0, ⟨_, hq _ _ _ b3, .inl rfl⟩, hq _ _ _ b2, hq _ _ _ b1, ⟨lv, rs, hr.below (hb.trans (hW.mono hb.size))⟩⟩
  · intro j W1 W2 U hI hk hU
    have e : ∀ q, w.heap.size ≤ q → q < W.heap.size → ¬ U q := fun q h1 h2 hq => by
      rcases hU q hq with e | e
      · have := hSlt _ e; omega
      · omega
    have := lt_of_block b0
    have := lt_of_block b1
    have := lt_of_block b2
    refine hI.keeps hk (e _ (by omega) (by omega)) (e _ (by omega) (by omega)) (e _ (by omega) (by omega)) (e _ (by omega) (by omega)) (fun i hi hR => ?_)
    rcases hU i hi with e | e
    · exact hap _ e hR
    · have := hRlt _ hR; have := hb.size; omega
  · intro i n x W1 hx hu hI
    exact x_crash1 hI ho hx hu ⟨by omega, by omega, by omega, fun e => by have := hRlt _ e; omega⟩
  · intro i n x W1 hx hu hI
    exact hI.next
  · rintro e W' ⟨he, hI, hF, hK⟩
    refine ⟨he, hI, hF, ((Keeps.of_below hb).mono (fun _ _ e => e.elim)).trans hK (fun i hi e => ?_)⟩
    rcases e with e | e
    · exact .inl e
    · right; have : i = w.heap.size + 1 + 1 + 1 := e
      omega
set_option maxRecDepth 100000 in
set_option maxHeartbeats 4000000 in
theorem x_crash (h : Mid w0 w fb rb F F k S R) (m : Int) (hm0 : -9223372036854775808 ≤ m) (hm1 : m ≤ 9223372036854775807) :
    Calls Try.prog 69 #[.pointer (some ⟨fb, 0, none⟩), .pointer (some ⟨rb, 0, none⟩), .int .i64 m] w fun e w' => e = .returned (.bool true) ∧ MidPost w0 w fb rb (F.crash fun n _ => keepN n m) k S R w' := by
  obtain ⟨lv, rs, hr⟩ := h.ref
  have hal := alloc4 w (.cells #[.pointer (some ⟨rb, 0, none⟩)] 61) (.cells #[.int .i64 m] 3) (.cells #[.bool true] 4) (.cells #[.string ⟨#[]⟩] 9)
  have HC := Lib.hid (x_crash_f hal.1 h.fs.fs h.fs.ok hr h.apart m hal.2.1 hal.2.2.1 hal.2.2.2.1 hal.2.2.2.2.1)
  have HSZ := Lib.hid (And.intro hal.1 hal.2.2.2.2.2)
  have H := Lib.hid h
  clear h hr hal
  go_enter Try.func69, Try.ntmps69
  go_wp2_with (fail)
  refine HC.out.mono ?_
  rintro e w1 ⟨rfl, hI, hF, hK⟩
  obtain ⟨lv, rs, hr⟩ := hI.ref
  have HG := Lib.hid (g_crash hr H.out.fs.ok m hm0 hm1)
  have d0 : w1.cell? ⟨w.heap.size, 0, none⟩ = some (.pointer (some ⟨rb, 0, none⟩)) := blk_cell hI.w 0
  have d1 : w1.cell? ⟨w.heap.size + 1, 0, none⟩ = some (.int .i64 m) := blk_cell hI.n 0
  have HI := Lib.hid (And.intro hI (And.intro hF hK))
  clear hI hF hK hr
  go_wp2_with (fail)
  refine HG.out.mono ?_
  rintro e w2 ⟨rfl, hp⟩
  obtain ⟨lv2, rs2, p1, p2⟩ := hp
  have hgb : IsBlk w2 (w.heap.size + 1 + 1) #[.bool true] 4 := p2.obj HI.out.1.good (fun e => by
    have := H.out.rlt _ e; omega)
  have d2 : w2.cell? ⟨w.heap.size + 1 + 1, 0, none⟩ = some (.bool true) := blk_cell hgb 0
  have HP := Lib.hid (And.intro p1 p2)
  clear p1 p2 hgb
  go_wp2_with (fail)
  go_ret
  refine ⟨rfl, ?_⟩
  obtain ⟨hI, hF, hK⟩ := HI.out
  obtain ⟨p1, p2⟩ := HP.out
  have h := H.out
  have hs1 := HSZ.out.1.size
  have hs2 := hK.size
  have hs3 := p2.size
  have hs0 := h.fs.below.size
  have hRlt := h.rlt
  have hSlt := h.fs.fs.lt
  have hRI : ∀ i, R i → i < w1.heap.size := fun i e => by have := hRlt i e; omega
  have hk0 : Keeps (fun i => S i ∨ R i) w w1 := hK.mono fun i hi e => by
    rcases e with e | e
    · exact .inl e
    · omega
  have hk1 : Keeps (fun i => S i ∨ R i) w w2 := hk0.trans p2 (fun i _ e => .inr e)
  refine ⟨_, _, ⟨⟨hF.keeps p2 ?_, ?_, ?_, h.fs.ok.crash _⟩, ⟨_, _, p1⟩, ?_, ?_⟩, hk1, ?_, ?_⟩
  · intro i e1 e2
    rcases e2 with e2 | e2
    · exact h.apart i e2 e1
    · have := hRlt i e1; omega
  · intro i e
    rcases e with e | e
    · exact h.fs.low i e
    · omega
  · exact below_keeps h.fs.below hk1 (fun i e => by rcases e with e | e; exact h.fs.low i e; exact h.low i e) h.fs.below.size
  · intro i e1 e2
    rcases e1 with e1 | e1 <;> rcases e2 with e2 | e2
    · exact h.apart i e1 e2
    · have := hSlt i e1; omega
    · have := hRlt i e2; omega
    · omega
  · intro i e
    rcases e with e | e
    · exact h.low i e
    · omega
  · intro i e
    rcases e with e | e
    · exact .inl e
    · right; omega
  · intro i e
    rcases e with e | e
    · exact .inl e
    · right; omega
end
end Go.Proofs.Ytmfiibehclbnjaa
