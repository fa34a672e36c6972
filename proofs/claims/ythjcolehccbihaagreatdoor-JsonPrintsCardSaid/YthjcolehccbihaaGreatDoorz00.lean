/- JSON in plain data: values, how a text is read, how a value is checked and laid. Plain Lean; no program in it. -/
import Derived.Lib.RuneBytes
set_option linter.unusedSimpArgs false
set_option linter.unusedVariables false
namespace Go.Proofs.YthjcolehccbihaaGreatDoor
open Go.Lib (encodeRune)
/-- What a reading comes to: something, and what is left; or the bytes that were left where it was given up, and the error. -/
inductive Out (α : Type) where
  | ok (x : α) (rest : List UInt8)
  | bad (rem : Nat) (e : Nat)
def Out.andThen {α β : Type} (o : Out α) (f : α → List UInt8 → Out β) : Out β :=
  match o with
  | .ok x r => f x r
  | .bad p e => .bad p e
@[simp] theorem Out.andThen_ok {α β : Type} (x : α) (r : List UInt8) (f : α → List UInt8 → Out β) : (Out.ok x r).andThen f = f x r := rfl
@[simp] theorem Out.andThen_bad {α β : Type} (p e : Nat) (f : α → List UInt8 → Out β) : (Out.bad p e : Out α).andThen f = .bad p e := rfl
/-- A value. -/
inductive JV where
  | mk (kind : Int) (text : ByteArray) (list : List JV) (names : List ByteArray)
def JV.kind : JV → Int | .mk k _ _ _ => k
def JV.text : JV → ByteArray | .mk _ t _ _ => t
def JV.list : JV → List JV | .mk _ _ l _ => l
def JV.names : JV → List ByteArray | .mk _ _ _ n => n
def JV.zero : JV := .mk 0 ByteArray.empty [] []
def str (l : List UInt8) : ByteArray := ⟨l.toArray⟩
/-- A text's bytes. -/
def raw (s : ByteArray) : List UInt8 := s.data.toList
theorem str_toList (l : List UInt8) : (str l).data.toList = l := by simp [str]
theorem str_of (s : ByteArray) : str s.data.toList = s := by cases s; simp [str]
def isBlank (c : UInt8) : Bool := c == 32 || c == 9 || c == 10 || c == 13
def blanks : List UInt8 → List UInt8
  | [] => []
  | c :: l => if isBlank c then blanks l else c :: l
def isDigit (c : UInt8) : Bool := decide (48 ≤ c) && decide (c ≤ 57)
def digits : List UInt8 → List UInt8
  | [] => []
  | c :: l => if isDigit c then digits l else c :: l
def hexVal (c : UInt8) : Option Nat :=
  if 48 ≤ c ∧ c ≤ 57 then some (c.toNat - 48) else if 97 ≤ c ∧ c ≤ 102 then some (c.toNat - 87) else if 65 ≤ c ∧ c ≤ 70 then some (c.toNat - 55) else none
def fourN (place : Nat) : Nat → Nat → List UInt8 → Out Nat
  | 0, x, l => .ok x l
  | _ + 1, _, [] => .bad 0 11
  | n + 1, x, c :: l => match hexVal c with
    | none => .bad place 11
    | some v => fourN place n (16 * x + v) l
/-- What a mark behind a backslash stands for. -/
def markVal (c : UInt8) : Option Nat :=
  if c = 34 then some 34 else if c = 92 then some 92 else if c = 47 then some 47 else if c = 98 then some 8 else if c = 102 then some 12 else if c = 110 then some 10 else
    if c = 114 then some 13 else if c = 116 then some 9 else none
/-- One of some bytes, at the front. -/
def mustIs (c : UInt8) (place : Nat) : List UInt8 → Out Unit
  | [] => .bad 0 11
  | d :: l => if d = c then .ok () l else .bad place 11
/-- The second half of a pair, behind the first. -/
def second (place x : Nat) (l : List UInt8) : Out Nat :=
  (mustIs 92 place l).andThen fun _ l => (mustIs 117 place l).andThen fun _ l => (fourN place 4 0 l).andThen fun y l =>
    if y < 0xdc00 ∨ 0xe000 ≤ y then .bad place 11 else .ok (0x10000 + (x - 0xd800) * 1024 + (y - 0xdc00)) l
/-- An escape, behind its backslash. -/
def escaped (place : Nat) : List UInt8 → Out Nat
  | [] => .bad 0 11
  | c :: l => match markVal c with
    | some r => .ok r l
    | none => if c = 117 then (fourN place 4 0 l).andThen fun x l =>
        if x < 0xd800 ∨ 0xe000 ≤ x then .ok x l else if 0xdc00 ≤ x then .bad place 11 else second place x l
      else .bad place 11
def isCont (c : UInt8) : Bool := decide (128 ≤ c) && decide (c ≤ 191)
/-- What may stand behind a first byte. -/
def lowSecond (c : UInt8) : UInt8 := if c = 224 then 160 else if c = 240 then 144 else 128
def highSecond (c : UInt8) : UInt8 := if c = 237 then 159 else if c = 244 then 143 else 191
def okSecond (c d : UInt8) : Bool := decide (lowSecond c ≤ d) && decide (d ≤ highSecond c)
/-- How many bytes a first byte announces; 0: it is none. -/
def leadLen (c : UInt8) : Nat := if c < 128 then 1 else if c < 194 then 0 else if c < 224 then 2 else if c < 240 then 3 else if c < 245 then 4 else 0
/-- How many bytes the letter at the front has; 0: there is none. -/
def seqLen : List UInt8 → Nat
  | [] => 0
  | c :: l => if leadLen c = 1 then 1 else if leadLen c = 2 then (match l with | d :: _ => if okSecond c d then 2 else 0 | [] => 0)
    else if leadLen c = 3 then (match l with | d :: e :: _ => if okSecond c d && isCont e then 3 else 0 | _ => 0)
    else if leadLen c = 4 then (match l with | d :: e :: f :: _ => if okSecond c d && isCont e && isCont f then 4 else 0 | _ => 0) else 0
/-- Could it be a letter, were there more behind it, and is it not? (utf8.FullRune says the other thing.) -/
def cutOff : List UInt8 → Bool
  | [] => true
  | c :: l => decide (l.length + 1 < leadLen c) && (match l with | [] => true | [d] => okSecond c d | d :: e :: _ => okSecond c d && isCont e)
def textN : Nat → List UInt8 → List UInt8 → Out (List UInt8)
  | 0, _, _ => .bad 0 0
  | _ + 1, _, [] => .bad 0 11
  | n + 1, out, c :: l =>
    if c < 32 then .bad (l.length + 1) 11 else if c = 34 then .ok out l
    else if c = 92 then (escaped (l.length + 1) l).andThen fun r l => textN n (out ++ encodeRune r) l
    else if cutOff (c :: l) then .bad 0 11
    else if seqLen (c :: l) = 0 then .bad (l.length + 1) 11
    else textN n (out ++ (c :: l).take (seqLen (c :: l))) ((c :: l).drop (seqLen (c :: l)))
/-- A string, behind its first mark. -/
def text (l : List UInt8) : Out (List UInt8) := textN (l.length + 1) [] l
def some1 : List UInt8 → Out Unit
  | [] => .bad 0 11
  | c :: l => if isDigit c then .ok () (digits l) else .bad (l.length + 1) 11
def mayBe (p : UInt8 → Bool) : List UInt8 → Bool × List UInt8
  | [] => (false, [])
  | c :: l => if p c then (true, l) else (false, c :: l)
def isE (c : UInt8) : Bool := c == 101 || c == 69
def isSign (c : UInt8) : Bool := c == 43 || c == 45
def numWhole (l : List UInt8) : Out Unit := if (mayBe (· == 48) l).1 then .ok () (mayBe (· == 48) l).2 else some1 l
def numFrac (l : List UInt8) : Out Unit := if (mayBe (· == 46) l).1 then some1 (mayBe (· == 46) l).2 else .ok () l
def numExp (l : List UInt8) : Out Unit := if (mayBe isE l).1 then some1 (mayBe isSign (mayBe isE l).2).2 else .ok () l
def numRest (l : List UInt8) : Out Unit := (numWhole (mayBe (· == 45) l).2).andThen fun _ l => (numFrac l).andThen fun _ l => numExp l
def number (l : List UInt8) : Out JV := (numRest l).andThen fun _ r =>
  if 40 < l.length - r.length then .bad l.length 8 else .ok (.mk 3 (str (l.take (l.length - r.length))) [] []) r
def musts : List UInt8 → List UInt8 → Out Unit
  | [], l => .ok () l
  | _ :: _, [] => .bad 0 11
  | c :: w, d :: l => if d = c then musts w l else .bad (l.length + 1) 11
def begins : List UInt8 → Bool
  | [] => false
  | c :: _ => c == 123 || c == 91 || c == 34 || c == 45 || isDigit c || c == 110 || c == 102 || c == 116
def elemsN (val : List UInt8 → Out JV) : Nat → List JV → List UInt8 → Out (List JV)
  | 0, _, _ => .bad 0 0
  | n + 1, acc, l =>
    if acc.length = 1000 ∧ begins (blanks l) = true then .bad (blanks l).length 9
    else (val (blanks l)).andThen fun v l => match blanks l with
      | [] => .bad 0 11
      | c :: r => if c = 93 then .ok (acc ++ [v]) r else if c = 44 then elemsN val n (acc ++ [v]) r else .bad (r.length + 1) 11
def array (val : List UInt8 → Out JV) (l : List UInt8) : Out JV :=
  if (mayBe (· == 93) (blanks l)).1 then .ok (.mk 5 ByteArray.empty [] []) (mayBe (· == 93) (blanks l)).2
  else (elemsN val (l.length + 1) [] (blanks l)).andThen fun vs r => .ok (.mk 5 ByteArray.empty vs []) r
def membersN (val : List UInt8 → Out JV) : Nat → List JV → List ByteArray → List UInt8 → Out (List JV × List ByteArray)
  | 0, _, _, _ => .bad 0 0
  | n + 1, acc, names, l => match blanks l with
    | [] => .bad 0 11
    | c :: l1 => if c ≠ 34 then .bad (l1.length + 1) 11 else if acc.length = 1000 then .bad (l1.length + 1) 9
      else (text l1).andThen fun name l2 => if name ∈ names.map raw then .bad (l1.length + 1) 12
        else (musts [58] (blanks l2)).andThen fun _ l3 => (val (blanks l3)).andThen fun v l4 => match blanks l4 with
          | [] => .bad 0 11
          | c :: r => if c = 125 then .ok (acc ++ [v], names ++ [str name]) r else if c = 44 then membersN val n (acc ++ [v]) (names ++ [str name]) r else .bad (r.length + 1) 11
def object (val : List UInt8 → Out JV) (l : List UInt8) : Out JV :=
  if (mayBe (· == 125) (blanks l)).1 then .ok (.mk 6 ByteArray.empty [] []) (mayBe (· == 125) (blanks l)).2
  else (membersN val (l.length + 1) [] [] (blanks l)).andThen fun vs r => .ok (.mk 6 ByteArray.empty vs.1 vs.2) r
def wNull : List UInt8 := [110, 117, 108, 108]
def wFalse : List UInt8 := [102, 97, 108, 115, 101]
def wTrue : List UInt8 := [116, 114, 117, 101]
/-- A value that begins with no bracket. -/
def scalar : List UInt8 → Out JV
  | [] => .bad 0 11
  | c :: l =>
    if c = 34 then (text l).andThen fun t r => .ok (.mk 4 (str t) [] []) r
    else if c = 45 ∨ isDigit c = true then number (c :: l)
    else if c = 110 then (musts wNull (c :: l)).andThen fun _ r => .ok (.mk 0 ByteArray.empty [] []) r
    else if c = 102 then (musts wFalse (c :: l)).andThen fun _ r => .ok (.mk 1 ByteArray.empty [] []) r
    else if c = 116 then (musts wTrue (c :: l)).andThen fun _ r => .ok (.mk 2 ByteArray.empty [] []) r
    else .bad (l.length + 1) 11
/-- A value, that may have so many others round it yet. -/
def value : Nat → List UInt8 → Out JV
  | 0, l => (match l with
    | [] => scalar []
    | c :: r => if c = 123 ∨ c = 91 then .bad (r.length + 1) 20 else scalar (c :: r))
  | d + 1, l => match l with
    | [] => scalar []
    | c :: r => if c = 123 then object (value d) r else if c = 91 then array (value d) r else scalar (c :: r)
def parseOut (b : List UInt8) : Out JV := (value 32 (blanks b)).andThen fun v l => if blanks l = [] then .ok v [] else .bad (blanks l).length 11
/-- json.Parse. -/
def parse (b : List UInt8) : JV × Nat × Nat :=
  if 65536 < b.length then (JV.zero, 0, 8) else match parseOut b with
    | .ok v _ => (v, 0, 0)
    | .bad rem e => (JV.zero, b.length - rem, e)
def hexChar (n : Nat) : UInt8 := (if n < 10 then 48 + n else 87 + n).toUInt8
def quoteByte (c : UInt8) : List UInt8 :=
  if c = 34 ∨ c = 92 then [92, c] else if c < 32 ∨ c = 127 then [92, 117, 48, 48, hexChar (c.toNat / 16), hexChar (c.toNat % 16)] else [c]
def quote (s : List UInt8) : List UInt8 := 34 :: (s.flatMap quoteByte ++ [34])
def literal (s : List UInt8) : Bool := match number s with
  | .ok _ [] => true
  | _ => false
def validN : Nat → List UInt8 → Bool
  | 0, l => l.isEmpty
  | _ + 1, [] => true
  | n + 1, c :: l => if seqLen (c :: l) = 0 then false else validN n ((c :: l).drop (seqLen (c :: l)))
/-- Is it UTF-8? -/
def valid (l : List UInt8) : Bool := validN l.length l
def distinct : List (List UInt8) → Bool
  | [] => true
  | x :: l => !l.contains x && distinct l
/-- A value's own errors, so deep within others. -/
def chkOwn (d : Nat) (k : Int) (t : ByteArray) (n : Nat) (names : List ByteArray) : Nat :=
  if k < 0 ∨ 6 < k then 7
  else if k = 3 ∧ literal (raw t) = false then 10
  else if k = 4 ∧ valid (raw t) = false then 10
  else if k = 6 ∧ (names.all fun s => valid (raw s)) = false then 10
  else if k = 6 ∧ names.length ≠ n then 10
  else if k < 5 then 0
  else if 32 ≤ d then 20
  else if 1000 < n then 9
  else if k = 6 ∧ distinct (names.map raw) = false then 12
  else 0
mutual
def chk (d : Nat) : JV → Nat
  | .mk k t l names => if chkOwn d k t l.length names ≠ 0 then chkOwn d k t l.length names else if k < 5 then 0 else chkAll (d + 1) l
def chkAll (d : Nat) : List JV → Nat
  | [] => 0
  | v :: l => if chk d v ≠ 0 then chk d v else chkAll d l
end
/-- Texts with a comma between. -/
def commas : List (List UInt8) → List UInt8
  | [] => []
  | [x] => x
  | x :: y :: l => x ++ 44 :: commas (y :: l)
/-- a < b, byte for byte. -/
def ltB : List UInt8 → List UInt8 → Bool
  | _, [] => false
  | [], _ :: _ => true
  | a :: l, b :: m => decide (a < b) || (a == b && ltB l m)
/-- Pairs, by rising names: one more. -/
def putP {α : Type} (x : List UInt8 × α) : List (List UInt8 × α) → List (List UInt8 × α)
  | [] => [x]
  | y :: l => if ltB x.1 y.1 then x :: y :: l else y :: putP x l
def sortP {α : Type} : List (List UInt8 × α) → List (List UInt8 × α)
  | [] => []
  | x :: l => putP x (sortP l)
def layPair (p : List UInt8 × List UInt8) : List UInt8 := quote p.1 ++ 58 :: p.2
mutual
def lay : JV → List UInt8
  | .mk k t l names =>
    if k = 0 then wNull else if k = 1 then wFalse else if k = 2 then wTrue else if k = 3 then raw t else if k = 4 then quote (raw t)
    else if k = 5 then 91 :: (commas (layAll l) ++ [93])
    else 123 :: (commas ((sortP ((names.map raw).zip (layAll l))).map layPair) ++ [125])
def layAll : List JV → List (List UInt8)
  | [] => []
  | v :: l => lay v :: layAll l
end
/-- json.Print: the text, or the error. -/
def print (v : JV) : Option (List UInt8) × Nat :=
  if chk 0 v ≠ 0 then (none, chk 0 v) else if 65536 < (lay v).length then (none, 8) else (some (lay v), 0)
def exOne : List UInt8 := [32, 123, 34, 98, 34, 32, 58, 32, 91, 49, 44, 32, 50, 46, 53, 48, 101, 49, 93, 44, 32, 34, 97, 34, 58, 34, 92, 117, 48, 48, 52, 49, 92, 47, 34, 125, 32]
def exTwo : List UInt8 := [123, 34, 97, 34, 58, 49, 44, 34, 97, 34, 58, 50, 125]
def exOut : List UInt8 := [123, 34, 97, 34, 58, 34, 65, 47, 34, 44, 34, 98, 34, 58, 91, 49, 44, 50, 46, 53, 48, 101, 49, 93, 125]
end Go.Proofs.YthjcolehccbihaaGreatDoor
namespace Go.Proofs.YthjcolehccbihaaGreatDoor
/-- Where it comes to something, what is left is an end of l, so many bytes shorter at least. -/
def Out.Fits {α : Type} (k : Nat) (l : List UInt8) (o : Out α) : Prop := ∀ x r, o = .ok x r → r <:+ l ∧ r.length + k ≤ l.length
theorem Out.Fits.ok {α : Type} {k : Nat} {l r : List UInt8} {x : α} (h : r <:+ l) (hk : r.length + k ≤ l.length) : (Out.ok x r).Fits k l := by
  intro x' r' e; cases e; exact ⟨h, hk⟩
theorem Out.Fits.bad {α : Type} {k : Nat} {l : List UInt8} {p e : Nat} : (Out.bad p e : Out α).Fits k l := by intro x' r' h; cases h
theorem Out.Fits.bind {α β : Type} {k m : Nat} {l : List UInt8} {o : Out α} {f : α → List UInt8 → Out β} (h : o.Fits k l) (hf : ∀ x r, o = .ok x r → (f x r).Fits m r) : (o.andThen f).Fits (k + m) l := by
  cases o with
  | bad p e => exact .bad
  | ok x r =>
    intro y r' e
    obtain ⟨h1, h2⟩ := h x r rfl
    obtain ⟨h3, h4⟩ := hf x r rfl y r' e
    exact ⟨h3.trans h1, by omega⟩
theorem Out.Fits.le {α : Type} {k m : Nat} {l : List UInt8} {o : Out α} (h : o.Fits k l) (hm : m ≤ k) : o.Fits m l := fun x r e => ⟨(h x r e).1, by have := (h x r e).2; omega⟩
theorem Out.Fits.grow {α : Type} {k m : Nat} {l l' : List UInt8} {o : Out α} (h : o.Fits k l) (hs : l <:+ l') (hm : l.length + m ≤ l'.length) : o.Fits (k + m) l' :=
  fun x r e => ⟨(h x r e).1.trans hs, by have := (h x r e).2; omega⟩
theorem suf_cons (c : UInt8) (l : List UInt8) : l <:+ c :: l := ⟨[c], rfl⟩
theorem suf_len {a b : List UInt8} (h : a <:+ b) : a.length ≤ b.length := h.length_le
theorem blanks_suf : ∀ l, blanks l <:+ l
  | [] => List.suffix_refl _
  | c :: l => by
    unfold blanks
    split
    · exact (blanks_suf l).trans (suf_cons c l)
    · exact List.suffix_refl _
theorem digits_suf : ∀ l, digits l <:+ l
  | [] => List.suffix_refl _
  | c :: l => by
    unfold digits
    split
    · exact (digits_suf l).trans (suf_cons c l)
    · exact List.suffix_refl _
theorem mayBe_suf (p : UInt8 → Bool) : ∀ l, (mayBe p l).2 <:+ l
  | [] => List.suffix_refl _
  | c :: l => by
    unfold mayBe; dsimp only
    split
    · exact suf_cons c l
    · exact List.suffix_refl _
theorem fourN_fits (pl : Nat) : ∀ n x l, (fourN pl n x l).Fits n l
  | 0, x, l => .ok (List.suffix_refl _) (by omega)
  | n + 1, x, [] => .bad
  | n + 1, x, c :: l => by
    unfold fourN
    split
    · exact .bad
    · exact ((fourN_fits pl n _ l).grow (suf_cons c l) (m := 1) (by simp)).le (by omega)
theorem mustIs_fits (c : UInt8) (pl : Nat) : ∀ l, (mustIs c pl l).Fits 1 l
  | [] => .bad
  | d :: l => by
    unfold mustIs; dsimp only
    split
    · exact .ok (suf_cons _ _) (by simp)
    · exact .bad
theorem second_fits (pl x : Nat) (l : List UInt8) : (second pl x l).Fits 1 l := by
  unfold second
  refine ((mustIs_fits 92 pl l).bind (m := 0) fun _ r _ => ?_).le (by omega)
  refine ((mustIs_fits 117 pl r).bind (m := 0) fun _ r _ => ?_).le (by omega)
  refine ((fourN_fits pl 4 0 r).bind (m := 0) fun y r _ => ?_).le (by omega)
  split
  · exact .bad
  · exact .ok (List.suffix_refl _) (by omega)
theorem escaped_fits (pl : Nat) : ∀ l, (escaped pl l).Fits 1 l
  | [] => .bad
  | c :: l => by
    unfold escaped; dsimp only
    split
    · exact .ok (suf_cons _ _) (by simp)
    · split
      · refine ((((fourN_fits pl 4 0 l).bind (m := 0) fun x r _ => ?_).le (Nat.zero_le _)).grow (suf_cons c l) (m := 1) (by simp)).le (by omega)
        split
        · exact .ok (List.suffix_refl _) (by omega)
        · split
          · exact .bad
          · exact (second_fits pl x r).le (by omega)
      · exact .bad
theorem seqLen_le : ∀ l, seqLen l ≤ l.length
  | [] => Nat.zero_le _
  | c :: l => by
    unfold seqLen; dsimp only
    split
    · simp
    · split
      · split
        · split <;> simp
        · simp
      · split
        · split
          · split <;> simp
          · simp
        · split
          · split
            · split <;> simp
            · simp
          · simp
theorem seqLen_le4 : ∀ l, seqLen l ≤ 4
  | [] => Nat.zero_le _
  | c :: l => by
    unfold seqLen; dsimp only
    split
    · omega
    · split
      · split
        · split <;> omega
        · omega
      · split
        · split
          · split <;> omega
          · omega
        · split
          · split
            · split <;> omega
            · omega
          · omega
theorem textN_fits : ∀ n out l, (textN n out l).Fits 1 l
  | 0, _, _ => .bad
  | _ + 1, _, [] => .bad
  | n + 1, out, c :: l => by
    unfold textN
    split
    · exact .bad
    · split
      · exact .ok (suf_cons _ _) (by simp)
      · split
        · refine (((escaped_fits _ l).bind (m := 1) fun r l _ => textN_fits n _ l).grow (suf_cons c l) (m := 1) (by simp)).le (by omega)
        · split
          · exact .bad
          · split
            · exact .bad
            · rename_i h
              refine ((textN_fits n _ ((c :: l).drop (seqLen (c :: l)))).grow (List.drop_suffix _ _) (m := 0) ?_).le (by omega)
              simp
theorem text_fits (l : List UInt8) : (text l).Fits 1 l := textN_fits _ _ _
theorem some1_fits : ∀ l, (some1 l).Fits 1 l
  | [] => .bad
  | c :: l => by
    unfold some1; dsimp only
    split
    · exact .ok ((digits_suf l).trans (suf_cons c l)) (by have := suf_len (digits_suf l); simp; omega)
    · exact .bad
theorem numWhole_fits (l : List UInt8) : (numWhole l).Fits 1 l := by
  unfold numWhole
  split
  · rename_i h
    cases l with
    | nil => simp [mayBe] at h
    | cons c l =>
      have h2 : (c == 48) = true := by
        unfold mayBe at h; dsimp only at h
        split at h
        · assumption
        · simp at h
      have e : mayBe (· == 48) (c :: l) = (true, l) := by unfold mayBe; dsimp only; rw [if_pos h2]
      rw [e]; exact .ok (suf_cons _ _) (by simp)
  · exact some1_fits l
theorem numFrac_fits (l : List UInt8) : (numFrac l).Fits 0 l := by
  unfold numFrac
  split
  · exact ((some1_fits _).grow (mayBe_suf _ l) (m := 0) (by have := suf_len (mayBe_suf (· == 46) l); omega)).le (by omega)
  · exact .ok (List.suffix_refl _) (by omega)
theorem numExp_fits (l : List UInt8) : (numExp l).Fits 0 l := by
  unfold numExp
  split
  · have h := (mayBe_suf isSign (mayBe isE l).2).trans (mayBe_suf isE l)
    exact ((some1_fits _).grow h (m := 0) (by have := suf_len h; omega)).le (by omega)
  · exact .ok (List.suffix_refl _) (by omega)
theorem numRest_fits (l : List UInt8) : (numRest l).Fits 1 l := by
  unfold numRest
  have h := mayBe_suf (· == 45) l
  refine ((((numWhole_fits _).bind (m := 0) fun _ r _ => ?_)).grow h (m := 0) (by have := suf_len h; omega)).le (by omega)
  exact ((numFrac_fits r).bind (m := 0) fun _ r _ => numExp_fits r).le (by omega)
theorem number_fits (l : List UInt8) : (number l).Fits 1 l := by
  unfold number
  refine ((numRest_fits l).bind (m := 0) fun _ r _ => ?_).le (by omega)
  split
  · exact .bad
  · exact .ok (List.suffix_refl _) (by omega)
theorem musts_fits : ∀ w l, (musts w l).Fits w.length l
  | [], l => .ok (List.suffix_refl _) (by simp)
  | _ :: _, [] => .bad
  | c :: w, d :: l => by
    unfold musts
    split
    · exact ((musts_fits w l).grow (suf_cons d l) (m := 1) (by simp)).le (by simp)
    · exact .bad
theorem blanks_fits {α : Type} {k : Nat} {l : List UInt8} {o : Out α} (h : o.Fits k (blanks l)) : o.Fits k l :=
  (h.grow (blanks_suf l) (m := 0) (by have := suf_len (blanks_suf l); omega)).le (by omega)
section
variable {val : List UInt8 → Out JV} (hval : ∀ l, (val l).Fits 1 l)
include hval
theorem elemsN_fits : ∀ n acc l, (elemsN val n acc l).Fits 1 l
  | 0, _, _ => .bad
  | n + 1, acc, l => by
    unfold elemsN
    split
    · exact .bad
    · refine ((blanks_fits (hval _)).bind (m := 0) fun v r _ => ?_).le (by omega)
      refine blanks_fits ?_
      split
      · exact .bad
      · rename_i c r' e
        split
        · exact .ok (by rw [e]; exact suf_cons _ _) (by rw [e]; simp)
        · split
          · rw [e]; exact ((elemsN_fits n _ r').grow (suf_cons _ _) (m := 0) (by simp)).le (by omega)
          · exact .bad
theorem membersN_fits : ∀ n acc names l, (membersN val n acc names l).Fits 1 l
  | 0, _, _, _ => .bad
  | n + 1, acc, names, l => by
    unfold membersN
    refine blanks_fits ?_
    split
    · exact .bad
    · rename_i c l1 e
      split
      · exact .bad
      · split
        · exact .bad
        · rw [e]
          refine (((text_fits l1).bind (m := 0) fun name r _ => ?_).grow (suf_cons _ _) (m := 0) (by simp)).le (by omega)
          split
          · exact .bad
          · refine ((blanks_fits (musts_fits [58] _)).bind (m := 0) fun _ r _ => ?_).le (by omega)
            refine ((blanks_fits (hval _)).bind (m := 0) fun v r _ => ?_).le (by omega)
            refine blanks_fits ?_
            split
            · exact .bad
            · rename_i c r' e
              split
              · exact .ok (by rw [e]; exact suf_cons _ _) (by rw [e]; simp)
              · split
                · rw [e]; exact ((membersN_fits n _ _ r').grow (suf_cons _ _) (m := 0) (by simp)).le (by omega)
                · exact .bad
theorem array_fits (l : List UInt8) : (array val l).Fits 0 l := by
  unfold array
  split
  · exact .ok ((mayBe_suf _ _).trans (blanks_suf l)) (by have := suf_len ((mayBe_suf (· == 93) (blanks l)).trans (blanks_suf l)); omega)
  · exact ((blanks_fits (elemsN_fits hval _ _ _)).bind (m := 0) fun _ r _ => .ok (List.suffix_refl _) (by omega)).le (by omega)
theorem object_fits (l : List UInt8) : (object val l).Fits 0 l := by
  unfold object
  split
  · exact .ok ((mayBe_suf _ _).trans (blanks_suf l)) (by have := suf_len ((mayBe_suf (· == 125) (blanks l)).trans (blanks_suf l)); omega)
  · exact ((blanks_fits (membersN_fits hval _ _ _ _)).bind (m := 0) fun _ r _ => .ok (List.suffix_refl _) (by omega)).le (by omega)
end
theorem word_fits (w : List UInt8) (hw : 1 ≤ w.length) (v : JV) (l : List UInt8) : ((musts w l).andThen fun _ r => Out.ok v r).Fits 1 l :=
  ((musts_fits w l).bind (m := 0) fun _ r _ => .ok (List.suffix_refl _) (by omega)).le (by omega)
theorem scalar_fits : ∀ l, (scalar l).Fits 1 l
  | [] => .bad
  | c :: l => by
    unfold scalar; dsimp only
    split
    · exact (((text_fits l).bind (m := 0) fun t r _ => .ok (List.suffix_refl _) (by omega)).grow (suf_cons c l) (m := 0) (by simp)).le (by omega)
    · split
      · exact number_fits _
      · split
        · exact word_fits wNull (by decide) _ _
        · split
          · exact word_fits wFalse (by decide) _ _
          · split
            · exact word_fits wTrue (by decide) _ _
            · exact .bad
theorem value_fits : ∀ d l, (value d l).Fits 1 l
  | 0, [] => scalar_fits []
  | 0, c :: l => by
    unfold value
    split
    · rename_i h; cases h
    · rename_i c' r h; injection h with h1 h2; subst h1 h2
      split
      · exact .bad
      · exact scalar_fits _
  | d + 1, [] => scalar_fits []
  | d + 1, c :: l => by
    unfold value
    split
    · rename_i h; cases h
    · rename_i c' r h; injection h with h1 h2; subst h1 h2
      split
      · exact ((object_fits (value_fits d) _).grow (suf_cons _ _) (m := 1) (by simp)).le (by omega)
      · split
        · exact ((array_fits (value_fits d) _).grow (suf_cons _ _) (m := 1) (by simp)).le (by omega)
        · exact scalar_fits _
/-- An end of a text, by its place. -/
theorem suf_drop {l b : List UInt8} (h : l <:+ b) : l = b.drop (b.length - l.length) := by
  obtain ⟨p, rfl⟩ := h
  simp
end Go.Proofs.YthjcolehccbihaaGreatDoor
namespace Go.Proofs.YthjcolehccbihaaGreatDoor
open Go.Lib (encodeRune)
/-- What may stand behind a number. -/
def NumEnd (l : List UInt8) : Prop := ∀ c r, l = c :: r → isDigit c = false ∧ (c == 46) = false ∧ isE c = false
theorem NumEnd.nil : NumEnd [] := fun c r h => by cases h
theorem literal_rest {s : List UInt8} (h : literal s = true) : numRest s = .ok () [] ∧ s.length ≤ 40 := by
  unfold literal number at h
  cases hn : numRest s with
  | bad p e => rw [hn] at h; simp at h
  | ok x r =>
    rw [hn] at h
    simp only [Out.andThen_ok] at h
    split at h
    · rename_i heq
      split at heq
      · cases heq
      · rename_i hlen
        injection heq with _ h2
        subst h2
        exact ⟨rfl, by simpa using hlen⟩
    · cases h
/-- A number's text begins so. -/
theorem literal_head {s : List UInt8} (h : literal s = true) : ∃ c l, s = c :: l ∧ (c = 45 ∨ isDigit c = true) := by
  obtain ⟨h1, _⟩ := literal_rest h
  cases s with
  | nil => cases h1
  | cons c l =>
    refine ⟨c, l, rfl, ?_⟩
    by_cases hc : c = 45
    · exact .inl hc
    · refine .inr ?_
      have hm : mayBe (· == 45) (c :: l) = (false, c :: l) := by simp [mayBe, hc]
      unfold numRest at h1
      rw [hm] at h1
      dsimp only at h1
      by_cases h0 : c = 48
      · subst h0; decide
      · have hw : numWhole (c :: l) = some1 (c :: l) := by unfold numWhole; simp [mayBe, h0]
        rw [hw] at h1
        simp only [some1] at h1
        by_cases hd : isDigit c = true
        · exact hd
        · rw [if_neg hd] at h1; cases h1
theorem u8lt (a b : UInt8) : a < b ↔ a.toNat < b.toNat := Iff.rfl
theorem u8le (a b : UInt8) : a ≤ b ↔ a.toNat ≤ b.toNat := Iff.rfl
theorem u8eq (a b : UInt8) : a = b ↔ a.toNat = b.toNat := ⟨fun h => by rw [h], fun h => UInt8.toNat_inj.1 h⟩
theorem leadLen_one {c : UInt8} : leadLen c = 1 ↔ c < 128 := by
  unfold leadLen
  constructor
  · intro h
    split at h
    · assumption
    · split at h
      · cases h
      · split at h
        · cases h
        · split at h
          · cases h
          · split at h <;> cases h
  · intro h; rw [if_pos h]
theorem sign_len (c : UInt8) : 1 ≤ (quoteByte c).length ∧ (quoteByte c).length ≤ 6 := by
  unfold quoteByte
  split
  · simp
  · split <;> simp
end Go.Proofs.YthjcolehccbihaaGreatDoor
namespace Go.Proofs.YthjcolehccbihaaGreatDoor
theorem JV.ind {P : JV → Prop} (h : ∀ k t l names, (∀ v ∈ l, P v) → P (.mk k t l names)) : ∀ v, P v
  | .mk k t l names => h k t l names (all l)
where all : ∀ l : List JV, ∀ v ∈ l, P v
  | [], v, hv => by cases hv
  | x :: l, v, hv => by
    rcases List.mem_cons.1 hv with e | hv
    · rw [e]; exact JV.ind h x
    · exact all l v hv
theorem layAll_map : ∀ l, layAll l = l.map lay
  | [] => rfl
  | v :: l => by simp only [layAll, List.map_cons, layAll_map l]
theorem chkAll_zero (d : Nat) : ∀ l, chkAll d l = 0 ↔ ∀ v ∈ l, chk d v = 0
  | [] => by simp [chkAll]
  | v :: l => by
    simp only [chkAll, List.forall_mem_cons]
    by_cases h : chk d v = 0
    · simp [h, chkAll_zero d l]
    · simp [h]
/-- What a value has that may be laid. -/
structure Own (d : Nat) (k : Int) (t : ByteArray) (n : Nat) (names : List ByteArray) : Prop where
  k0 : 0 ≤ k
  k6 : k ≤ 6
  num : k = 3 → literal (raw t) = true
  txt : k = 4 → valid (raw t) = true
  deep : 5 ≤ k → d < 32
  many : 5 ≤ k → n ≤ 1000
  names : k = 6 → (∀ s ∈ names, valid (raw s) = true) ∧ names.length = n ∧ distinct (names.map raw) = true
theorem chkOwn_zero (d : Nat) (k : Int) (t : ByteArray) (n : Nat) (names : List ByteArray) : chkOwn d k t n names = 0 ↔ Own d k t n names := by
  constructor
  · intro h
    unfold chkOwn at h
    split at h
    · cases h
    split at h
    · cases h
    split at h
    · cases h
    split at h
    · cases h
    split at h
    · cases h
    rename_i h1 h2 h3 h4 h5
    have a : 0 ≤ k := by omega
    have b : k ≤ 6 := by omega
    have num : k = 3 → literal (raw t) = true := fun hk => by
      cases e : literal (raw t) with
      | true => rfl
      | false => exact absurd ⟨hk, e⟩ h2
    have txt : k = 4 → valid (raw t) = true := fun hk => by
      cases e : valid (raw t) with
      | true => rfl
      | false => exact absurd ⟨hk, e⟩ h3
    have vals : k = 6 → ∀ s ∈ names, valid (raw s) = true := fun hk => by
      cases e : (names.all fun s => valid (raw s)) with
      | true => exact List.all_eq_true.1 e
      | false => exact absurd ⟨hk, e⟩ h4
    have lens : k = 6 → names.length = n := fun hk => by
      refine Classical.byContradiction fun e => h5 ⟨hk, e⟩
    split at h
    · exact ⟨a, b, num, txt, fun _ => by omega, fun _ => by omega, fun hk => by omega⟩
    split at h
    · cases h
    split at h
    · cases h
    split at h
    · cases h
    rename_i h6 h7 h8 h9
    refine ⟨a, b, num, txt, fun _ => by omega, fun _ => by omega, fun hk => ⟨vals hk, lens hk, ?_⟩⟩
    cases e : distinct (names.map raw) with
    | true => rfl
    | false => exact absurd ⟨hk, e⟩ h9
  · intro h
    have h2 : ¬ (k = 3 ∧ literal (raw t) = false) := fun ⟨e, f⟩ => by rw [h.num e] at f; cases f
    have h3 : ¬ (k = 4 ∧ valid (raw t) = false) := fun ⟨e, f⟩ => by rw [h.txt e] at f; cases f
    have h4 : ¬ (k = 6 ∧ (names.all fun s => valid (raw s)) = false) := fun ⟨e, f⟩ => by rw [List.all_eq_true.2 (h.names e).1] at f; cases f
    have h5 : ¬ (k = 6 ∧ names.length ≠ n) := fun ⟨e, f⟩ => f (h.names e).2.1
    have h9 : ¬ (k = 6 ∧ distinct (names.map raw) = false) := fun ⟨e, f⟩ => by rw [(h.names e).2.2] at f; cases f
    have a := h.k0
    have b := h.k6
    unfold chkOwn
    rw [if_neg (by omega), if_neg h2, if_neg h3, if_neg h4, if_neg h5]
    split
    · rfl
    · have := h.deep (by omega)
      have := h.many (by omega)
      rw [if_neg (by omega), if_neg (by omega)]
theorem chk_zero {d : Nat} {k : Int} {t : ByteArray} {l : List JV} {names : List ByteArray} : chk d (.mk k t l names) = 0 ↔ Own d k t l.length names ∧ (5 ≤ k → ∀ v ∈ l, chk (d + 1) v = 0) := by
  rw [← chkOwn_zero, ← chkAll_zero]
  simp only [chk]
  by_cases h : chkOwn d k t l.length names = 0
  · simp only [h, ne_eq, not_true_eq_false, if_false, true_and]
    split
    · exact ⟨fun _ hk => by omega, fun _ => rfl⟩
    · exact ⟨fun h _ => h, fun h => h (by omega)⟩
  · simp only [ne_eq, h, not_false_eq_true, if_true, false_and]
theorem ltB_irrefl : ∀ l, ltB l l = false
  | [] => rfl
  | a :: l => by simp [ltB, ltB_irrefl l, u8lt]
theorem ltB_trans : ∀ {a b c : List UInt8}, ltB a b = true → ltB b c = true → ltB a c = true
  | _, _, [], _, h => by cases ‹List UInt8› <;> simp [ltB] at h
  | _, [], _ :: _, h, _ => by cases ‹List UInt8› <;> simp [ltB] at h
  | [], _ :: _, _ :: _, _, _ => rfl
  | x :: a, y :: b, z :: c, h, k => by
    simp only [ltB, Bool.or_eq_true, Bool.and_eq_true, decide_eq_true_eq, beq_iff_eq, u8lt] at h k ⊢
    rcases h with h | ⟨rfl, h⟩
    · rcases k with k | ⟨rfl, k⟩
      · exact .inl (by omega)
      · exact .inl h
    · rcases k with k | ⟨rfl, k⟩
      · exact .inl k
      · exact .inr ⟨rfl, ltB_trans h k⟩
theorem ltB_total : ∀ {a b : List UInt8}, ltB a b = false → ltB b a = false → a = b
  | [], [], _, _ => rfl
  | [], _ :: _, h, _ => by simp [ltB] at h
  | _ :: _, [], _, h => by simp [ltB] at h
  | x :: a, y :: b, h, k => by
    simp only [ltB, Bool.or_eq_false_iff, Bool.and_eq_false_iff, decide_eq_false_iff_not, beq_eq_false_iff_ne, u8lt] at h k
    have e : x = y := by rw [u8eq]; omega
    subst e
    have h1 : ltB a b = false := by rcases h.2 with h | h; exact absurd rfl h; exact h
    have k1 : ltB b a = false := by rcases k.2 with k | k; exact absurd rfl k; exact k
    rw [ltB_total h1 k1]
theorem ltB_asymm {a b : List UInt8} (h : ltB a b = true) : ltB b a = false := by
  cases e : ltB b a with
  | false => rfl
  | true => have := ltB_trans h e; rw [ltB_irrefl] at this; cases this
section
variable {α β : Type}
theorem putP_perm (x : List UInt8 × α) : ∀ l, (putP x l).Perm (x :: l)
  | [] => .refl _
  | y :: l => by
    unfold putP
    split
    · exact .refl _
    · exact ((putP_perm x l).cons y).trans (List.Perm.swap x y l)
theorem sortP_perm : ∀ l : List (List UInt8 × α), (sortP l).Perm l
  | [] => .refl _
  | x :: l => (putP_perm x (sortP l)).trans ((sortP_perm l).cons x)
theorem putP_map (f : α → β) (x : List UInt8 × α) : ∀ l, putP (x.1, f x.2) (l.map fun p => (p.1, f p.2)) = (putP x l).map fun p => (p.1, f p.2)
  | [] => rfl
  | y :: l => by
    simp only [putP, List.map_cons]
    split
    · rfl
    · simp only [List.map_cons, putP_map f x l]
theorem sortP_map (f : α → β) : ∀ l : List (List UInt8 × α), sortP (l.map fun p => (p.1, f p.2)) = (sortP l).map fun p => (p.1, f p.2)
  | [] => rfl
  | x :: l => by simp only [List.map_cons, sortP]; rw [sortP_map f l, putP_map]
/-- Names that rise. -/
def Rises (l : List (List UInt8 × α)) : Prop := l.Pairwise fun a b => ltB a.1 b.1 = true
theorem putP_rises (x : List UInt8 × α) : ∀ l, Rises l → (∀ y ∈ l, y.1 ≠ x.1) → Rises (putP x l)
  | [], _, _ => by simp [putP, Rises]
  | y :: l, h, hn => by
    unfold putP
    have h' := List.pairwise_cons.1 h
    split
    · rename_i hlt
      refine List.pairwise_cons.2 ⟨fun z hz => ?_, h⟩
      rcases List.mem_cons.1 hz with rfl | hz
      · exact hlt
      · exact ltB_trans hlt (h'.1 z hz)
    · rename_i hlt
      have hyx : ltB y.1 x.1 = true := by
        cases e : ltB y.1 x.1 with
        | true => rfl
        | false => exact absurd (ltB_total e (by simpa using hlt)) (hn y List.mem_cons_self)
      refine List.pairwise_cons.2 ⟨fun z hz => ?_, putP_rises x l h'.2 fun z hz => hn z (List.mem_cons_of_mem _ hz)⟩
      rcases List.mem_cons.1 ((putP_perm x l).mem_iff.1 hz) with rfl | hz
      · exact hyx
      · exact h'.1 z hz
theorem distinct_nodup : ∀ l : List (List UInt8), distinct l = true ↔ l.Nodup
  | [] => by simp [distinct]
  | x :: l => by simp [distinct, distinct_nodup l]
theorem sortP_rises : ∀ l : List (List UInt8 × α), (l.map (·.1)).Nodup → Rises (sortP l)
  | [], _ => by simp [sortP, Rises]
  | x :: l, h => by
    simp only [List.map_cons, List.nodup_cons] at h
    refine putP_rises x _ (sortP_rises l h.2) fun y hy e => h.1 ?_
    rw [← e]
    exact List.mem_map_of_mem ((sortP_perm l).mem_iff.1 hy)
/-- Two rising lists of the same pairs are one. -/
theorem rises_unique : ∀ (a b : List (List UInt8 × α)), Rises a → Rises b → a.Perm b → a = b
  | [], b, _, _, h => (List.nil_perm.1 h).symm
  | x :: a, [], _, _, h => by have := h.length_eq; simp at this
  | x :: a, y :: b, ha, hb, h => by
    have ha' := List.pairwise_cons.1 ha
    have hb' := List.pairwise_cons.1 hb
    have e : x = y := by
      rcases List.mem_cons.1 (h.mem_iff.1 List.mem_cons_self) with e | hx
      · exact e
      · rcases List.mem_cons.1 (h.mem_iff.2 List.mem_cons_self) with e | hy
        · exact e.symm
        · have h1 := hb'.1 x hx
          have h2 := ha'.1 y hy
          rw [ltB_asymm h1] at h2; cases h2
    subst e
    rw [rises_unique a b ha'.2 hb'.2 ((List.perm_cons x).1 h)]
end
/-- An object's members, by rising names. -/
def pairsOf (names : List ByteArray) (l : List JV) : List (List UInt8 × JV) := sortP ((names.map raw).zip l)
mutual
/-- A value as it is read back. -/
def norm : JV → JV
  | .mk k t l names =>
    if k = 3 ∨ k = 4 then .mk k t [] []
    else if k = 5 then .mk 5 ByteArray.empty (normAll l) []
    else if k = 6 then .mk 6 ByteArray.empty ((sortP ((names.map raw).zip (normAll l))).map (·.2)) ((sortP ((names.map raw).zip (normAll l))).map fun p => str p.1)
    else .mk k ByteArray.empty [] []
def normAll : List JV → List JV
  | [] => []
  | v :: l => norm v :: normAll l
end
theorem zip_map_snd {α β γ : Type} (f : β → γ) : ∀ (a : List α) (b : List β), a.zip (b.map f) = (a.zip b).map fun p => (p.1, f p.2)
  | [], _ => by simp
  | _ :: _, [] => by simp
  | x :: a, y :: b => by simp [zip_map_snd f a b]
theorem lay_object (t : ByteArray) (l : List JV) (names : List ByteArray) :
    lay (.mk 6 t l names) = 123 :: (commas ((pairsOf names l).map fun p => layPair (p.1, lay p.2)) ++ [125]) := by
  simp only [lay, layAll_map, pairsOf]
  rw [if_neg (by decide), if_neg (by decide), if_neg (by decide), if_neg (by decide), if_neg (by decide), if_neg (by decide), zip_map_snd, sortP_map, List.map_map]
  rfl
theorem lay_array (t : ByteArray) (l : List JV) (names : List ByteArray) : lay (.mk 5 t l names) = 91 :: (commas (l.map lay) ++ [93]) := by
  simp only [lay, layAll_map]
  rw [if_neg (by decide), if_neg (by decide), if_neg (by decide), if_neg (by decide), if_neg (by decide), if_pos trivial]
theorem lay_text (t : ByteArray) (l : List JV) (names : List ByteArray) : lay (.mk 4 t l names) = quote (raw t) := by
  simp only [lay]
  rw [if_neg (by decide), if_neg (by decide), if_neg (by decide), if_neg (by decide), if_pos trivial]
theorem lay_number (t : ByteArray) (l : List JV) (names : List ByteArray) : lay (.mk 3 t l names) = raw t := by
  simp only [lay]
  rw [if_neg (by decide), if_neg (by decide), if_neg (by decide), if_pos trivial]
theorem lay_word (k : Int) (h0 : 0 ≤ k) (h2 : k ≤ 2) (t : ByteArray) (l : List JV) (names : List ByteArray) :
    lay (.mk k t l names) = (if k = 0 then wNull else if k = 1 then wFalse else wTrue) ∧ norm (.mk k t l names) = .mk k ByteArray.empty [] [] := by
  have hk : k = 0 ∨ k = 1 ∨ k = 2 := by omega
  rcases hk with rfl | rfl | rfl
  · simp only [lay, norm]; exact ⟨rfl, rfl⟩
  · simp only [lay, norm]; exact ⟨rfl, rfl⟩
  · simp only [lay, norm]; exact ⟨rfl, rfl⟩
/-- How a text that is laid begins. -/
def HeadOk (l : List UInt8) : Prop := ∃ c r, l = c :: r ∧ isBlank c = false ∧ c ≠ 93 ∧ c ≠ 125
theorem HeadOk.blanks {l : List UInt8} (h : HeadOk l) (r : List UInt8) : blanks (l ++ r) = l ++ r := by
  obtain ⟨c, l', rfl, h1, _⟩ := h
  simp [YthjcolehccbihaaGreatDoor.blanks, h1]
theorem digit_head {c : UInt8} (h : c = 45 ∨ isDigit c = true) : isBlank c = false ∧ c ≠ 93 ∧ c ≠ 125 ∧ c ≠ 34 ∧ c ≠ 123 ∧ c ≠ 91 := by
  rcases h with rfl | h
  · decide
  · unfold isDigit at h
    simp only [Bool.and_eq_true, decide_eq_true_eq, u8le] at h
    have a : (48 : UInt8).toNat = 48 := rfl
    have b : (57 : UInt8).toNat = 57 := rfl
    rw [a, b] at h
    unfold isBlank
    simp only [Bool.or_eq_false_iff, beq_eq_false_iff_ne, ne_eq, u8eq]
    have c1 : (32 : UInt8).toNat = 32 := rfl
    have c2 : (9 : UInt8).toNat = 9 := rfl
    have c3 : (10 : UInt8).toNat = 10 := rfl
    have c4 : (13 : UInt8).toNat = 13 := rfl
    have c5 : (93 : UInt8).toNat = 93 := rfl
    have c6 : (125 : UInt8).toNat = 125 := rfl
    have c7 : (34 : UInt8).toNat = 34 := rfl
    have c8 : (123 : UInt8).toNat = 123 := rfl
    have c9 : (91 : UInt8).toNat = 91 := rfl
    rw [c1, c2, c3, c4, c5, c6, c7, c8, c9]
    omega
theorem lay_head {d : Nat} {v : JV} (h : chk d v = 0) : HeadOk (lay v) := by
  cases v with
  | mk k t l names =>
    obtain ⟨o, _⟩ := chk_zero.1 h
    have a := o.k0
    have b := o.k6
    by_cases h2 : k ≤ 2
    · rw [(lay_word k a h2 t l names).1]
      split
      · exact ⟨110, _, rfl, by decide, by decide, by decide⟩
      · split
        · exact ⟨102, _, rfl, by decide, by decide, by decide⟩
        · exact ⟨116, _, rfl, by decide, by decide, by decide⟩
    · have hk : k = 3 ∨ k = 4 ∨ k = 5 ∨ k = 6 := by omega
      rcases hk with rfl | rfl | rfl | rfl
      · rw [lay_number]
        obtain ⟨c, r, e, hc⟩ := literal_head (o.num rfl)
        have := digit_head hc
        exact ⟨c, r, e, this.1, this.2.1, this.2.2.1⟩
      · rw [lay_text]; exact ⟨34, _, rfl, by decide, by decide, by decide⟩
      · rw [lay_array]; exact ⟨91, _, rfl, by decide, by decide, by decide⟩
      · rw [lay_object]; exact ⟨123, _, rfl, by decide, by decide, by decide⟩
theorem NumEnd.sign {c : UInt8} (r : List UInt8) (h : isDigit c = false ∧ (c == 46) = false ∧ isE c = false) : NumEnd (c :: r) := by
  intro c' r' e; injection e with e1 e2; subst e1; exact h
theorem zip_fst {α β : Type} : ∀ (a : List α) (b : List β), a.length = b.length → (a.zip b).map (·.1) = a
  | [], _, _ => by simp
  | _ :: _, [], h => by simp at h
  | x :: a, y :: b, h => by simp only [List.zip_cons_cons, List.map_cons]; rw [zip_fst a b (by simpa using h)]
end Go.Proofs.YthjcolehccbihaaGreatDoor
