/- Of the document's answer of chapter 13: Accounts, Totals. -/
import Derived.Test.YtkbdofbjfcajbaaGreatE29
import Derived.RegionTactic
import Derived.ChangeAlike
import Derived.BigRegion
namespace Go.Proofs.YtkbdofbjfcajbaaGreat
open Go.RowKit Go.Shelf Go.Sort

/-- A list of texts of the call's own. -/
structure TxI (w : World) (v : Value) (xs : List ByteArray) (wr : World) : Prop where
  sl : SlAt textKind 9 wr v xs
  new : ∀ g, v.ownBlock = some g → w.heap.size ≤ g
  below : Below w.heap.size w wr
theorem TxI.start (w : World) : TxI w (.slice none 0 0) [] w := ⟨SlAt.nil, fun g hg => (by cases hg), Below.refl _ _⟩
theorem TxI.push {w wr : World} {v : Value} {xs : List ByteArray} (h : TxI w v xs wr) (x : ByteArray) (hl : xs.length ≤ 100000) :
    ∃ v' w', (Builtin.append_ #[40, 40] 40 #[v, .slice (some ⟨wr.heap.size, 0, none⟩) 1 1]).run Tryz.prog (wr.alloc (.cells #[.string x] 9)) = .ok v' w' ∧ Hid (TxI w v' (xs ++ [x]) w') := by
  have hal : Below wr.heap.size wr (wr.alloc (.cells #[.string x] 9)) := (Below.refl _ _).alloc (Nat.le_refl _) _
  obtain ⟨v', w', hrun, hs, hk, ho⟩ := append_tx (h.sl.below hal) (one_tx wr x) (by simp only [List.length_cons, List.length_nil]; omega) 40
  refine ⟨v', w', hrun, Lib.hid ⟨hs, fun g hg => ?_, below_keeps (h.below.trans (hal.mono h.below.size)) hk (fun i e => h.new i e) (Nat.le_trans h.below.size hal.size)⟩⟩
  rcases ho g hg with e | e
  · exact h.new g e
  · have := hal.size; have := h.below.size; omega
theorem map_take {α β : Type} (f : α → β) {l : List α} {q : Nat} {x : α} (h : l[q]? = some x) : (l.take (q + 1)).map f = (l.take q).map f ++ [f x] := by rw [take_snoc h, List.map_append]; rfl
def AccPost (w : World) (l : List Ev) (e : Ending) (w' : World) : Prop := ∃ (oa : Option Addr) (oc : Nat) (R : List ByteArray), e = .returned (.slice oa R.length oc) ∧ RdAt textKind w' (.slice oa R.length oc) R ∧ Rising (l.map (·.acct)) R ∧ Below w.heap.size w w'
set_option maxRecDepth 100000 in
set_option maxHeartbeats 4000000 in
theorem hm_accounts (w : World) (hb : Nat) (v : Value) (l : List Ev) (h : DocIn w hb v l) (hl : l.length ≤ 1000) :
    Calls Tryz.prog 49 #[.pointer (some ⟨hb, 0, none⟩)] w (AccPost w l) := by
  obtain ⟨la, lc, rfl⟩ := h.sl.shape
  have HD := Lib.hid h
  have HN := Lib.hid hl
  have hli : (l.length : Int) ≤ 1000 := by omega
  clear h hl
  go_enter Tryz.func49, Tryz.ntmps49
  go_wp2_with (fail)
  go_loopw [3, 4] (fun ov iv wr => ∃ (q n : Nat) (oa : Option Addr) (oc : Nat), q ≤ l.length ∧ iv = .int .i64 q ∧ ov = .slice oa n oc ∧ Hid (n = ((l.take q).map (·.acct)).length) ∧ Hid (TxI w (.slice oa n oc) ((l.take q).map (·.acct)) wr)) (fun _ iv _ => l.length - (intOf iv).toNat)
  case atStart => exact ⟨0, 0, none, 0, Nat.zero_le _, rfl, rfl, Lib.hid rfl, Lib.hid (TxI.start w)⟩
  case round =>
    obtain ⟨q, m, oa, oc, hq, rfl, rfl, HM, HI⟩ := hrel
    have hcd : wr.cell? ⟨hb, 0, none⟩ = some (.slice la l.length lc) := blk_cell (HD.out.below HI.out.below).blk 0
    have q1 : (0 : Int) ≤ (q : Int) := by omega
    by_cases hql : q < l.length
    · have q2 : (q : Int) < (l.length : Int) := by omega
      obtain ⟨x, hx⟩ : ∃ x, l[q]? = some x := ⟨_, List.getElem?_eq_getElem hql⟩
      obtain ⟨g, off, rfl, d0, d1, d2, d3, d4⟩ := rd_cells (HD.out.sl.rd.below HI.out.below) hx
      obtain ⟨v', w', hrun, HF⟩ := HI.out.push x.acct (by rw [List.length_map, List.length_take]; have := HN.out; omega)
      rw [← map_take (·.acct) hx] at HF
      obtain ⟨a3, c3, rfl⟩ := HF.out.sl.shape
      obtain ⟨n2, hn2⟩ : ∃ n2, n2 = ((l.take (q + 1)).map (·.acct)).length := ⟨_, rfl⟩
      rw [← hn2] at HF hrun
      have HN2 := Lib.hid hn2
      clear hx hn2
      go_wp2_with (at_builtin; refine wpList_append_run rfl (.tmp 14) (.tmp 23) 40 rfl _ _ rfl rfl _ _ hrun ?_)
      go_roundw
      case rel => exact ⟨q + 1, n2, _, c3, by omega, by go_num, rfl, HN2, HF⟩
      case measure => simp [intOf]; omega
    · have q2 : ¬ (q : Int) < (l.length : Int) := by omega
      have hqe : q = l.length := by omega
      subst hqe
      rw [List.take_length] at HM HI
      obtain ⟨xs, hxs⟩ : ∃ xs, xs = l.map (·.acct) := ⟨_, rfl⟩
      rw [← hxs] at HM HI
      obtain rfl := HM.out
      have HXS := Lib.hid hxs
      have HRI := Lib.hid (r_rising wr oa oc xs HI.out.sl.rd (by rw [hxs, List.length_map]; exact HN.out))
      clear hxs
      go_wp2_with (fail)
      refine HRI.out.mono ?_
      rintro e w2 ⟨u, R, rfl, hR⟩
      have HR := Lib.hid hR
      obtain ⟨ua, uc, rfl⟩ := hR.sl.shape
      clear hR
      go_wp2_with (fail)
      go_ret
      exact ⟨ua, uc, R, rfl, HR.out.sl.rd, by rw [← HXS.out]; have := HR.out.ri; rwa [List.take_length] at this, HI.out.below.trans (HR.out.below.mono HI.out.below.size)⟩
end Go.Proofs.YtkbdofbjfcajbaaGreat
