/- The meter's states, plain: what is kept, sums by accounts and by meters. No program. -/
import Derived.Test.YtkbdofbjfcajbaaGreatE14
namespace Go.Proofs.YtkbdofbjfcajbaaGreat
open Go.RowKit

/-- A sum. -/
def zs {α : Type} (f : α → Int) : List α → Int
  | [] => 0
  | x :: l => f x + zs f l
section
variable {α β : Type} {f g : α → Int}
theorem zs_append : ∀ (l m : List α), zs f (l ++ m) = zs f l + zs f m
  | [], m => by simp [zs]
  | x :: l, m => by simp only [List.cons_append, zs, zs_append l m]; omega
theorem zs_perm {l m : List α} (h : l.Perm m) : zs f l = zs f m := by
  induction h with
  | nil => rfl
  | cons x _ ih => simp only [zs, ih]
  | swap x y l => simp only [zs]; omega
  | trans _ _ h1 h2 => exact h1.trans h2
theorem zs_congr {l : List α} (h : ∀ x ∈ l, f x = g x) : zs f l = zs g l := by
  induction l with
  | nil => rfl
  | cons x l ih => simp only [zs]; rw [h x (by simp), ih (fun y hy => h y (by simp [hy]))]
theorem zs_map (k : β → α) : ∀ (l : List β), zs f (l.map k) = zs (fun x => f (k x)) l
  | [] => rfl
  | x :: l => by simp only [List.map_cons, zs, zs_map k l]
theorem zs_one : ∀ (l : List α), zs (fun _ => 1) l = l.length
  | [] => rfl
  | x :: l => by simp only [zs, zs_one l, List.length_cons]; push_cast; omega
theorem zs_add (l : List α) : zs (fun x => f x + g x) l = zs f l + zs g l := by
  induction l with
  | nil => rfl
  | cons x l ih => simp only [zs, ih]; omega
theorem zs_zero (l : List α) (h : ∀ x ∈ l, f x = 0) : zs f l = 0 := by
  induction l with
  | nil => rfl
  | cons x l ih => simp only [zs]; rw [h x (by simp), ih (fun y hy => h y (by simp [hy]))]; rfl
end
theorem qsum_zs : ∀ l : List Ev, qsum l = zs (·.qty) l
  | [] => rfl
  | e :: l => by simp only [qsum, zs, qsum_zs l]
/-- By a key that has no two: the sums of the parts are the sum. -/
theorem zs_parts {E : Type} (key : E → ByteArray) (f : E → Int) {A : List ByteArray} (hA : A.Nodup) : ∀ (l : List E), (∀ e ∈ l, key e ∈ A) → zs (fun a => zs f (l.filter fun e => decide (key e = a))) A = zs f l
  | [], _ => zs_zero _ (fun _ _ => rfl)
  | e :: l, h => by
    have ih := zs_parts key f hA l (fun x hx => h x (by simp [hx]))
    have hone : ∀ (A : List ByteArray), A.Nodup → key e ∈ A → zs (fun a => if key e = a then f e else 0) A = f e := by
      intro A
      induction A with
      | nil => intro _ h; cases h
      | cons a A ihA =>
        intro hn hm
        simp only [zs]
        rw [List.nodup_cons] at hn
        by_cases hk : key e = a
        · rw [if_pos hk, zs_zero A (fun x hx => if_neg (fun e2 => hn.1 (by rw [← hk, e2]; exact hx)))]; omega
        · rw [if_neg hk, ihA hn.2 (by rcases List.mem_cons.1 hm with h | h; exact absurd h hk; exact h)]; omega
    have hstep : ∀ a, zs f ((e :: l).filter fun x => decide (key x = a)) = (if key e = a then f e else 0) + zs f (l.filter fun x => decide (key x = a)) := by
      intro a
      by_cases hk : key e = a
      · rw [List.filter_cons, if_pos (by simpa using hk), if_pos hk]; rfl
      · rw [List.filter_cons, if_neg (by simpa using hk), if_neg hk]; omega
    rw [zs_congr (fun a _ => hstep a), zs_add, hone A hA (h e (by simp)), ih]
    rfl
section
variable {E V : Type} (key : E → ByteArray) (up : Option V → E → V)
theorem rise_nodup {l : List (ByteArray × V)} (h : Rise slt l) : (l.map (·.1)).Nodup := by
  unfold List.Nodup
  rw [List.pairwise_map]
  refine h.imp ?_
  intro a b hab e
  rw [e, slt_ord.irr] at hab
  cases hab
theorem tallyF_has : ∀ (l : List E) (m : List (ByteArray × V)), Rise slt m → ∀ k, ((∃ e ∈ l, key e = k) ∨ ∃ v, (k, v) ∈ m) → ∃ v, (k, v) ∈ Kv.tallyF key up m l
  | [], m, _, k, h => by
    rcases h with ⟨_, h, _⟩ | h
    · cases h
    · exact h
  | e :: l, m, hr, k, h => by
    refine tallyF_has l (putL slt m (key e) (up (findL slt m (key e)) e)) (rise_putL slt_ord hr _ _) k ?_
    by_cases hk : key e = k
    · exact .inr ⟨_, Kv.find_mem (by rw [← hk]; exact Kv.find_put hr) (rise_putL slt_ord hr _ _)⟩
    · rcases h with ⟨x, hx, e2⟩ | ⟨v, hv⟩
      · rcases List.mem_cons.1 hx with rfl | hx
        · exact absurd e2 hk
        · exact .inl ⟨x, hx, e2⟩
      · exact .inr ⟨v, (Kv.mem_put (fun e2 => hk e2.symm)).2 hv⟩
theorem tally_has {l : List E} {e : E} (h : e ∈ l) : key e ∈ (Kv.tally key up l).map (·.1) := by
  obtain ⟨v, hv⟩ := tallyF_has key up l [] (by simp [Rise]) (key e) (.inl ⟨e, h, rfl⟩)
  exact List.mem_map.2 ⟨_, hv, rfl⟩
theorem tally_from {l : List E} {k : ByteArray} (h : k ∈ (Kv.tally key up l).map (·.1)) : ∃ e ∈ l, key e = k := by
  obtain ⟨x, hx, rfl⟩ := List.mem_map.1 h
  rcases Kv.tally_keys key up hx with h | ⟨y, hy, _⟩
  · exact h
  · cases hy
end
/-- The totals' entries. -/
theorem tot_entry {L : List Ev} {x : ByteArray × Tot} (h : x ∈ totM L) : x.2 = ⟨x.1, qsum (ofM x.1 L), ((ofM x.1 L).length : Int)⟩ := by
  have h1 := Kv.find_of_mem (Kv.tally_rise _ _ L) (show (x.1, x.2) ∈ totM L from h)
  rw [tot_find] at h1
  split at h1
  · cases h1
  · exact (Option.some.inj h1).symm
theorem tot_cnt (L : List Ev) : zs (fun t : Tot => t.cnt) ((totM L).map (·.2)) = L.length := by
  rw [zs_map, ← zs_one L, ← zs_parts (fun e : Ev => e.mtr) (fun _ => (1 : Int)) (rise_nodup (Kv.tally_rise (fun e : Ev => e.mtr) upT L)) L (fun e he => tally_has _ _ he), zs_map]
  refine zs_congr fun x hx => ?_
  rw [tot_entry hx, zs_one]
theorem tot_qty (L : List Ev) : zs (fun t : Tot => t.qty) ((totM L).map (·.2)) = qsum L := by
  rw [zs_map, qsum_zs L, ← zs_parts (fun e : Ev => e.mtr) (fun e => e.qty) (rise_nodup (Kv.tally_rise (fun e : Ev => e.mtr) upT L)) L (fun e he => tally_has _ _ he), zs_map]
  refine zs_congr fun x hx => ?_
  rw [tot_entry hx, qsum_zs]
end Go.Proofs.YtkbdofbjfcajbaaGreat
