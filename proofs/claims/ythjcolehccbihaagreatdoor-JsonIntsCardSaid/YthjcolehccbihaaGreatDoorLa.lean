/- Plain laws: the chapter's example; texts quoted. No program in it. -/
import Derived.Test.YthjcolehccbihaaGreatDoorJa
namespace Go.Proofs.YthjcolehccbihaaGreatDoor

/-! The chapter's example -/
def exV : JV := .mk 6 ByteArray.empty [.mk 5 ByteArray.empty [.mk 3 (str [49]) [] [], .mk 3 (str [50, 46, 53, 48, 101, 49]) [] []] [], .mk 4 (str [65, 47]) [] []] [str [98], str [97]]
theorem ex_one : parse exOne = (exV, 0, 0) := by kernel_rfl
theorem ex_two : ∃ v, parse exTwo = (v, 7, 12) := ⟨JV.zero, by kernel_rfl⟩
theorem ex_print : print exV = (some exOut, 0) := by kernel_rfl

/-! Texts quoted -/
theorem quoted_len : ∀ s : List UInt8, (s.flatMap quoteByte).length ≤ 6 * s.length
  | [] => by simp
  | c :: s => by
    have := (sign_len c).2
    have := quoted_len s
    simp only [List.flatMap_cons, List.length_append, List.length_cons]
    omega
theorem quote_size (s : List UInt8) : (quote s).length ≤ 6 * s.length + 2 := by
  have := quoted_len s
  unfold quote
  simp only [List.length_cons, List.length_append, List.length_nil]
  omega
theorem value_quote (s : List UInt8) : value 32 (blanks (quote s)) = (text (s.flatMap quoteByte ++ 34 :: [])).andThen fun t r => .ok (.mk 4 (str t) [] []) r := by
  unfold quote
  rw [blanks_sign (by decide)]
  show value (31 + 1) _ = _
  unfold value
  dsimp only
  rw [if_neg (by decide), if_neg (by decide)]
  unfold scalar
  dsimp only
  rw [if_pos (by decide)]
theorem quote_valid {s : List UInt8} (hs : s.length ≤ 4000) (h : valid s = true) : parse (quote s) = (.mk 4 (str s) [] [], 0, 0) := by
  have := quote_size s
  unfold parse
  rw [if_neg (by omega)]
  unfold parseOut
  rw [value_quote, text_quoted h]
  rfl
theorem quote_spoilt {s : List UInt8} (hs : s.length ≤ 4000) (h : valid s = false) : ∃ p, parse (quote s) = (JV.zero, p, 11) := by
  have := quote_size s
  obtain ⟨p, hp⟩ := text_spoilt h []
  refine ⟨(quote s).length - p, ?_⟩
  unfold parse
  rw [if_neg (by omega)]
  unfold parseOut
  rw [value_quote, hp]
  rfl
theorem print_text {s : List UInt8} (hs : s.length ≤ 4000) : print (.mk 4 (str s) [] []) = if valid s = true then (some (quote s), 0) else (none, 10) := by
  have := quote_size s
  have hr : raw (str s) = s := str_toList s
  unfold print
  rw [lay_text, hr]
  cases hv : valid s with
  | true =>
    have : chk 0 (.mk 4 (str s) [] []) = 0 := by
      rw [chk_zero]
      refine ⟨(chkOwn_zero _ _ _ _ _).1 ?_, fun h => by omega⟩
      unfold chkOwn
      rw [if_neg (by omega), if_neg (by rintro ⟨h, _⟩; omega), if_neg (by rintro ⟨_, h⟩; rw [hr, hv] at h; cases h), if_neg (by rintro ⟨h, _⟩; omega), if_neg (by rintro ⟨h, _⟩; omega), if_pos (by omega)]
    rw [if_neg (by omega), if_neg (by omega), if_pos rfl]
  | false =>
    have : chk 0 (.mk 4 (str s) [] []) = 10 := by
      have : chkOwn 0 4 (str s) 0 [] = 10 := by
        unfold chkOwn
        rw [if_neg (by omega), if_neg (by rintro ⟨h, _⟩; omega), if_pos ⟨rfl, by rw [hr, hv]⟩]
      unfold chk
      rw [show ([] : List JV).length = 0 from rfl, this, if_pos (by decide)]
    rw [this, if_pos (by decide)]
    simp

end Go.Proofs.YthjcolehccbihaaGreatDoor
