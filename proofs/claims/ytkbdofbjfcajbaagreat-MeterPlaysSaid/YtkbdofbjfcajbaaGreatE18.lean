/- The meter's states, plain: what an Ingest keeps. No program. -/
import Derived.Test.YtkbdofbjfcajbaaGreatE17
namespace Go.Proofs.YtkbdofbjfcajbaaGreat
open Go.RowKit

theorem valid_size {n : ByteArray} (h : validName n = true) : n.size ≤ 30 := by
  unfold validName at h
  simp only [Bool.and_eq_true, decide_eq_true_eq] at h
  exact h.1.1.1.2
theorem check_ok {v : Ev} (h : checkE v = 0) : keyOk v.key = true ∧ namesOk v = true ∧ numsOk v = true := by
  unfold checkE at h
  split at h
  · omega
  · split at h
    · omega
    · split at h
      · omega
      · rename_i h1 h2 h3
        exact ⟨by simpa using h1, by simpa using h2, by simpa using h3⟩
structure GoodE (v : Ev) : Prop where
  acct : validName v.acct = true
  mtr : validName v.mtr = true
  q0 : 0 ≤ v.qty
  q1 : v.qty ≤ 1099511627776
  a0 : 0 ≤ v.at_
  a1 : v.at_ ≤ 1099511627776
theorem good_of {v : Ev} (h : checkE v = 0) : GoodE v := by
  obtain ⟨-, h2, h3⟩ := check_ok h
  unfold namesOk at h2
  unfold numsOk at h3
  simp only [Bool.and_eq_true, decide_eq_true_eq] at h2 h3
  exact ⟨h2.1, h2.2, h3.1.1.1, h3.1.1.2, h3.1.2, h3.2⟩
structure MOk (s : MSt) (k : Nat) : Prop where
  rise : Rise slt s.t.ino
  ok : ∀ x ∈ s.t.ino, x.1 = x.2.key ∧ checkE x.2 = 0
  n0 : 0 ≤ s.n
  n1 : s.n ≤ k
  v0 : 0 ≤ s.ver
  v1 : s.ver ≤ k
  size : s.t.size ≤ k
theorem mok0 : MOk ⟨.leaf, 0, 0⟩ 0 := ⟨by simp [Rise, Tr.ino], fun x hx => (by cases hx), by decide, by decide, by decide, by decide, by decide⟩
theorem mok_mono {s : MSt} {k k' : Nat} (h : MOk s k) (hk : k ≤ k') : MOk s k' := ⟨h.rise, h.ok, h.n0, by have := h.n1; omega, h.v0, by have := h.v1; omega, by have := h.size; omega⟩
/-- What an Ingest does: refused, known, or taken. -/
inductive IngT (s : MSt) (v : Ev) : Prop where
  | bad (c : Int) : c ≠ 0 → checkE v = c → ingR s v = (false, c) → ingS s v = s → IngT s v
  | known : checkE v = 0 → findL slt s.t.ino v.key = some v → ingR s v = (true, 0) → ingS s v = ⟨s.t, s.n + 1, s.ver⟩ → IngT s v
  | other (u : Ev) : checkE v = 0 → findL slt s.t.ino v.key = some u → u ≠ v → ingR s v = (false, 24) → ingS s v = s → IngT s v
  | full : checkE v = 0 → findL slt s.t.ino v.key = none → 5000 ≤ s.t.size → ingR s v = (false, 9) → ingS s v = s → IngT s v
  | taken : checkE v = 0 → findL slt s.t.ino v.key = none → s.t.size < 5000 → ingR s v = (false, 0) → ingS s v = ⟨s.t.put slt v.key v, s.n, s.ver + 1⟩ → IngT s v
theorem ing_cases (s : MSt) (v : Ev) (hr : Rise slt s.t.ino) : IngT s v := by
  have hg := get_ino slt_ord s.t hr v.key
  by_cases hc : checkE v = 0
  · cases hf : findL slt s.t.ino v.key with
    | some u =>
      rw [hf] at hg
      by_cases hu : u = v
      · subst hu
        exact .known hc hf (by unfold ingR; rw [if_pos hc, hg]; simp) (by unfold ingS; rw [if_pos hc, hg]; simp)
      · exact .other u hc hf hu (by unfold ingR; rw [if_pos hc, hg]; simp only [if_neg hu]) (by unfold ingS; rw [if_pos hc, hg]; simp only [if_neg hu])
    | none =>
      rw [hf] at hg
      by_cases hb : 5000 ≤ s.t.size
      · exact .full hc hf hb (by unfold ingR; rw [if_pos hc, hg]; simp only [if_pos hb]) (by unfold ingS; rw [if_pos hc, hg]; simp only [if_pos hb])
      · exact .taken hc hf (by omega) (by unfold ingR; rw [if_pos hc, hg]; simp only [if_neg hb]) (by unfold ingS; rw [if_pos hc, hg]; simp only [if_neg hb])
  · exact .bad (checkE v) hc rfl (by unfold ingR; rw [if_neg hc]) (by unfold ingS; rw [if_neg hc])
theorem findL_none {l : List (ByteArray × Ev)} {k : ByteArray} (hr : Rise slt l) (h : findL slt l k = none) : ∀ x ∈ l, x.1 ≠ k := by
  intro x hx e
  have := Kv.find_of_mem hr (show (x.1, x.2) ∈ l from hx)
  rw [e, h] at this
  cases this
theorem ing_ok {s : MSt} {v : Ev} {k : Nat} (h : MOk s k) : MOk (ingS s v) (k + 1) := by
  cases ing_cases s v h.rise with
  | bad c _ _ _ hs => rw [hs]; exact mok_mono h (by omega)
  | other u _ _ _ _ hs => rw [hs]; exact mok_mono h (by omega)
  | full _ _ _ _ hs => rw [hs]; exact mok_mono h (by omega)
  | known _ _ _ hs => rw [hs]; exact ⟨h.rise, h.ok, by have := h.n0; show 0 ≤ s.n + 1; omega, by have := h.n1; show s.n + 1 ≤ _; omega, h.v0, by have := h.v1; show s.ver ≤ _; omega, by have := h.size; show s.t.size ≤ _; omega⟩
  | taken hc hf _ _ hs =>
    rw [hs]
    refine ⟨rise_put slt_ord h.rise _ _, ?_, h.n0, by have := h.n1; show s.n ≤ _; omega, by have := h.v0; show 0 ≤ s.ver + 1; omega, by have := h.v1; show s.ver + 1 ≤ _; omega, ?_⟩
    · intro x hx
      show x.1 = x.2.key ∧ _
      have hx' : x ∈ putL slt s.t.ino v.key v := by rw [← ino_put slt_ord s.t h.rise]; exact hx
      rcases Kv.mem_put' hx' with rfl | hx'
      · exact ⟨rfl, hc⟩
      · exact h.ok x hx'
    · have := size_put (lt := slt) s.t v.key v
      have := h.size
      show (s.t.put slt v.key v).size ≤ _
      omega
/-- The events that are there. -/
abbrev MSt.vals (s : MSt) : List Ev := s.t.ino.map (·.2)
theorem taken_vals {s : MSt} {v : Ev} (hr : Rise slt s.t.ino) (hf : findL slt s.t.ino v.key = none) : (MSt.vals ⟨s.t.put slt v.key v, s.n, s.ver + 1⟩).Perm (v :: s.vals) := by
  show ((s.t.put slt v.key v).ino.map (·.2)).Perm _
  rw [ino_put slt_ord s.t hr]
  exact (putL_new slt_ord s.t.ino v.key v (findL_none hr hf)).map _
/-- How many were taken, and of how much, as events come in. -/
def takes (s : MSt) (v : Ev) : Bool := decide (ingR s v = (false, 0))
theorem ing_sums {s : MSt} {v : Ev} (hr : Rise slt s.t.ino) : ((ingS s v).t.size : Int) = s.t.size + (if takes s v then 1 else 0) ∧ qsum (ingS s v).vals = qsum s.vals + (if takes s v then v.qty else 0) := by
  have hl : ∀ s : MSt, (s.t.size : Int) = s.vals.length := fun s => by show _ = ((s.t.ino.map (·.2)).length : Int); rw [List.length_map, Tr.ino_length]
  cases ing_cases s v hr with
  | bad c hc _ hR hs =>
    have : takes s v = false := by unfold takes; rw [hR]; simpa using hc
    rw [hs, this]; simp
  | other u _ _ _ hR hs => have : takes s v = false := by { unfold takes; rw [hR]; decide }; rw [hs, this]; simp
  | full _ _ _ hR hs => have : takes s v = false := by { unfold takes; rw [hR]; decide }; rw [hs, this]; simp
  | known _ _ hR hs => have : takes s v = false := by { unfold takes; rw [hR]; decide }; rw [hs, this]; simp
  | taken hc hf _ hR hs =>
    have ht : takes s v = true := by unfold takes; rw [hR]; decide
    have hp := taken_vals hr hf
    rw [hs, ht, if_pos rfl, if_pos rfl]
    refine ⟨?_, ?_⟩
    · rw [hl, hl s, hp.length_eq]; simp
    · rw [qsum_zs, qsum_zs, zs_perm hp]; simp only [zs]; omega
end Go.Proofs.YtkbdofbjfcajbaaGreat
