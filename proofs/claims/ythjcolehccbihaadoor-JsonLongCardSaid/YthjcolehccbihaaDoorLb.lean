/- Plain laws: texts at the limits. No program in it. -/
import Derived.Test.YthjcolehccbihaaDoorLa
namespace Go.Proofs.YthjcolehccbihaaDoor

theorem blanks_all : ∀ k, blanks (List.replicate k 32) = []
  | 0 => rfl
  | k + 1 => by rw [List.replicate_succ]; show (if isBlank 32 then _ else _) = _; rw [if_pos (by decide)]; exact blanks_all k
theorem one_ok (k : Nat) : number (49 :: List.replicate k 32) = .ok (.mk 3 (str [49]) [] []) (List.replicate k 32) := by
  have hl : literal [49] = true := by decide +kernel
  have := number_read (s := [49]) (r := List.replicate k 32) hl (by
    cases k with
    | zero => exact NumEnd.nil
    | succ k => rw [List.replicate_succ]; exact NumEnd.sign _ (by decide))
  exact this
theorem long_ok (k : Nat) (hk : k ≤ 65535) : parse (49 :: List.replicate k 32) = (.mk 3 (str [49]) [] [], 0, 0) := by
  unfold parse
  rw [if_neg (by simp; omega)]
  unfold parseOut
  rw [blanks_sign (by decide)]
  have : value 32 (49 :: List.replicate k 32) = .ok (.mk 3 (str [49]) [] []) (List.replicate k 32) := by
    show value (31 + 1) _ = _
    unfold value
    dsimp only
    rw [if_neg (by decide), if_neg (by decide)]
    unfold scalar
    dsimp only
    rw [if_neg (by decide), if_pos (by decide), one_ok]
  rw [this, Out.andThen_ok, blanks_all, if_pos rfl]
theorem long_bad (l : List UInt8) (h : 65536 < l.length) : parse l = (JV.zero, 0, 8) := by unfold parse; rw [if_pos h]
/-- So many brackets opened and closed. -/
def deepT (k : Nat) : List UInt8 := List.replicate k 91 ++ List.replicate k 93
/-- So many ones between brackets. -/
def manyT (k : Nat) : List UInt8 := 91 :: 49 :: ((List.replicate k [44, 49]).flatten ++ [93])
theorem deep_31 : (parse (deepT 31)).2.2 = 0 := by decide +kernel
theorem deep_32 : (parse (deepT 32)).2.2 = 0 := by decide +kernel
theorem deep_33 : (parse (deepT 33)).2.2 = 20 ∧ (parse (deepT 33)).2.1 = 32 := by decide +kernel
theorem many_999 : (parse (manyT 998)).2.2 = 0 := by decide +kernel
theorem many_1000 : (parse (manyT 999)).2.2 = 0 := by decide +kernel
theorem many_1001 : (parse (manyT 1000)).2.2 = 9 ∧ (parse (manyT 1000)).2.1 = 2001 := by decide +kernel
end Go.Proofs.YthjcolehccbihaaDoor
