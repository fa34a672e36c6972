/- JSON in plain data: values, how a text is read, how a value is checked and laid. Plain Lean; no program in it. -/
import Derived.Lib.RuneBytes
namespace Go.Proofs.YthjcolehccbihaaDoor
open Go.Lib (encodeRune)

/-- What a reading comes to: something, and what is left; or the bytes that were left where it was given up, and the error. -/
inductive Out (α : Type) where
  | ok (x : α) (rest : List UInt8)
  | bad (rem : Nat) (e : Nat)
def Out.andThen {α β : Type} (o : Out α) (f : α → List UInt8 → Out β) : Out β :=
  match o with
  | .ok x r => f x r
  | .bad p e => .bad p e
@[simp] theorem Out.andThen_ok {α β : Type} (x : α) (r : List UInt8) (f : α → List UInt8 → Out β) : (Out.ok x r).andThen f = f x r := rfl
@[simp] theorem Out.andThen_bad {α β : Type} (p e : Nat) (f : α → List UInt8 → Out β) : (Out.bad p e : Out α).andThen f = .bad p e := rfl

/-- A value. -/
inductive JV where
  | mk (kind : Int) (text : ByteArray) (list : List JV) (names : List ByteArray)
def JV.kind : JV → Int | .mk k _ _ _ => k
def JV.text : JV → ByteArray | .mk _ t _ _ => t
def JV.list : JV → List JV | .mk _ _ l _ => l
def JV.names : JV → List ByteArray | .mk _ _ _ n => n
def JV.zero : JV := .mk 0 ByteArray.empty [] []
def str (l : List UInt8) : ByteArray := ⟨l.toArray⟩
/-- A text's bytes. -/
def raw (s : ByteArray) : List UInt8 := s.data.toList
theorem str_toList (l : List UInt8) : (str l).data.toList = l := by simp [str]
theorem str_of (s : ByteArray) : str s.data.toList = s := by cases s; simp [str]
theorem strL_inj {a b : List UInt8} (h : str a = str b) : a = b := by have := congrArg (fun s : ByteArray => s.data.toList) h; simpa [str_toList] using this

def isBlank (c : UInt8) : Bool := c == 32 || c == 9 || c == 10 || c == 13
def blanks : List UInt8 → List UInt8
  | [] => []
  | c :: l => if isBlank c then blanks l else c :: l
def isDigit (c : UInt8) : Bool := decide (48 ≤ c) && decide (c ≤ 57)
def digits : List UInt8 → List UInt8
  | [] => []
  | c :: l => if isDigit c then digits l else c :: l
def hexVal (c : UInt8) : Option Nat :=
  if 48 ≤ c ∧ c ≤ 57 then some (c.toNat - 48) else if 97 ≤ c ∧ c ≤ 102 then some (c.toNat - 87) else if 65 ≤ c ∧ c ≤ 70 then some (c.toNat - 55) else none
def fourN (place : Nat) : Nat → Nat → List UInt8 → Out Nat
  | 0, x, l => .ok x l
  | _ + 1, _, [] => .bad 0 11
  | n + 1, x, c :: l => match hexVal c with
    | none => .bad place 11
    | some v => fourN place n (16 * x + v) l
/-- What a mark behind a backslash stands for. -/
def markVal (c : UInt8) : Option Nat :=
  if c = 34 then some 34 else if c = 92 then some 92 else if c = 47 then some 47 else if c = 98 then some 8 else if c = 102 then some 12 else if c = 110 then some 10 else
    if c = 114 then some 13 else if c = 116 then some 9 else none
/-- One of some bytes, at the front. -/
def mustIs (c : UInt8) (place : Nat) : List UInt8 → Out Unit
  | [] => .bad 0 11
  | d :: l => if d = c then .ok () l else .bad place 11
/-- The second half of a pair, behind the first. -/
def second (place x : Nat) (l : List UInt8) : Out Nat :=
  (mustIs 92 place l).andThen fun _ l => (mustIs 117 place l).andThen fun _ l => (fourN place 4 0 l).andThen fun y l =>
    if y < 0xdc00 ∨ 0xe000 ≤ y then .bad place 11 else .ok (0x10000 + (x - 0xd800) * 1024 + (y - 0xdc00)) l
/-- An escape, behind its backslash. -/
def escaped (place : Nat) : List UInt8 → Out Nat
  | [] => .bad 0 11
  | c :: l => match markVal c with
    | some r => .ok r l
    | none => if c = 117 then (fourN place 4 0 l).andThen fun x l =>
        if x < 0xd800 ∨ 0xe000 ≤ x then .ok x l else if 0xdc00 ≤ x then .bad place 11 else second place x l
      else .bad place 11
def isCont (c : UInt8) : Bool := decide (128 ≤ c) && decide (c ≤ 191)
/-- What may stand behind a first byte. -/
def lowSecond (c : UInt8) : UInt8 := if c = 224 then 160 else if c = 240 then 144 else 128
def highSecond (c : UInt8) : UInt8 := if c = 237 then 159 else if c = 244 then 143 else 191
def okSecond (c d : UInt8) : Bool := decide (lowSecond c ≤ d) && decide (d ≤ highSecond c)
/-- How many bytes a first byte announces; 0: it is none. -/
def leadLen (c : UInt8) : Nat := if c < 128 then 1 else if c < 194 then 0 else if c < 224 then 2 else if c < 240 then 3 else if c < 245 then 4 else 0
/-- How many bytes the letter at the front has; 0: there is none. -/
def seqLen : List UInt8 → Nat
  | [] => 0
  | c :: l => if leadLen c = 1 then 1 else if leadLen c = 2 then (match l with | d :: _ => if okSecond c d then 2 else 0 | [] => 0)
    else if leadLen c = 3 then (match l with | d :: e :: _ => if okSecond c d && isCont e then 3 else 0 | _ => 0)
    else if leadLen c = 4 then (match l with | d :: e :: f :: _ => if okSecond c d && isCont e && isCont f then 4 else 0 | _ => 0) else 0
/-- Could it be a letter, were there more behind it, and is it not? (utf8.FullRune says the other thing.) -/
def cutOff : List UInt8 → Bool
  | [] => true
  | c :: l => decide (l.length + 1 < leadLen c) && (match l with | [] => true | [d] => okSecond c d | d :: e :: _ => okSecond c d && isCont e)
def textN : Nat → List UInt8 → List UInt8 → Out (List UInt8)
  | 0, _, _ => .bad 0 0
  | _ + 1, _, [] => .bad 0 11
  | n + 1, out, c :: l =>
    if c < 32 then .bad (l.length + 1) 11 else if c = 34 then .ok out l
    else if c = 92 then (escaped (l.length + 1) l).andThen fun r l => textN n (out ++ encodeRune r) l
    else if cutOff (c :: l) then .bad 0 11
    else if seqLen (c :: l) = 0 then .bad (l.length + 1) 11
    else textN n (out ++ (c :: l).take (seqLen (c :: l))) ((c :: l).drop (seqLen (c :: l)))
/-- A string, behind its first mark. -/
def text (l : List UInt8) : Out (List UInt8) := textN (l.length + 1) [] l
def some1 : List UInt8 → Out Unit
  | [] => .bad 0 11
  | c :: l => if isDigit c then .ok () (digits l) else .bad (l.length + 1) 11
def mayBe (p : UInt8 → Bool) : List UInt8 → Bool × List UInt8
  | [] => (false, [])
  | c :: l => if p c then (true, l) else (false, c :: l)
def isE (c : UInt8) : Bool := c == 101 || c == 69
def isSign (c : UInt8) : Bool := c == 43 || c == 45
def numWhole (l : List UInt8) : Out Unit := if (mayBe (· == 48) l).1 then .ok () (mayBe (· == 48) l).2 else some1 l
def numFrac (l : List UInt8) : Out Unit := if (mayBe (· == 46) l).1 then some1 (mayBe (· == 46) l).2 else .ok () l
def numExp (l : List UInt8) : Out Unit := if (mayBe isE l).1 then some1 (mayBe isSign (mayBe isE l).2).2 else .ok () l
def numRest (l : List UInt8) : Out Unit := (numWhole (mayBe (· == 45) l).2).andThen fun _ l => (numFrac l).andThen fun _ l => numExp l
def number (l : List UInt8) : Out JV := (numRest l).andThen fun _ r =>
  if 40 < l.length - r.length then .bad l.length 8 else .ok (.mk 3 (str (l.take (l.length - r.length))) [] []) r
def musts : List UInt8 → List UInt8 → Out Unit
  | [], l => .ok () l
  | _ :: _, [] => .bad 0 11
  | c :: w, d :: l => if d = c then musts w l else .bad (l.length + 1) 11
def begins : List UInt8 → Bool
  | [] => false
  | c :: _ => c == 123 || c == 91 || c == 34 || c == 45 || isDigit c || c == 110 || c == 102 || c == 116
def elemsN (val : List UInt8 → Out JV) : Nat → List JV → List UInt8 → Out (List JV)
  | 0, _, _ => .bad 0 0
  | n + 1, acc, l =>
    if acc.length = 1000 ∧ begins (blanks l) = true then .bad (blanks l).length 9
    else (val (blanks l)).andThen fun v l => match blanks l with
      | [] => .bad 0 11
      | c :: r => if c = 93 then .ok (acc ++ [v]) r else if c = 44 then elemsN val n (acc ++ [v]) r else .bad (r.length + 1) 11
def array (val : List UInt8 → Out JV) (l : List UInt8) : Out JV :=
  if (mayBe (· == 93) (blanks l)).1 then .ok (.mk 5 ByteArray.empty [] []) (mayBe (· == 93) (blanks l)).2
  else (elemsN val (l.length + 1) [] (blanks l)).andThen fun vs r => .ok (.mk 5 ByteArray.empty vs []) r
def membersN (val : List UInt8 → Out JV) : Nat → List JV → List ByteArray → List UInt8 → Out (List JV × List ByteArray)
  | 0, _, _, _ => .bad 0 0
  | n + 1, acc, names, l => match blanks l with
    | [] => .bad 0 11
    | c :: l1 => if c ≠ 34 then .bad (l1.length + 1) 11 else if acc.length = 1000 then .bad (l1.length + 1) 9
      else (text l1).andThen fun name l2 => if name ∈ names.map raw then .bad (l1.length + 1) 12
        else (musts [58] (blanks l2)).andThen fun _ l3 => (val (blanks l3)).andThen fun v l4 => match blanks l4 with
          | [] => .bad 0 11
          | c :: r => if c = 125 then .ok (acc ++ [v], names ++ [str name]) r else if c = 44 then membersN val n (acc ++ [v]) (names ++ [str name]) r else .bad (r.length + 1) 11
def object (val : List UInt8 → Out JV) (l : List UInt8) : Out JV :=
  if (mayBe (· == 125) (blanks l)).1 then .ok (.mk 6 ByteArray.empty [] []) (mayBe (· == 125) (blanks l)).2
  else (membersN val (l.length + 1) [] [] (blanks l)).andThen fun vs r => .ok (.mk 6 ByteArray.empty vs.1 vs.2) r
def wNull : List UInt8 := [110, 117, 108, 108]
def wFalse : List UInt8 := [102, 97, 108, 115, 101]
def wTrue : List UInt8 := [116, 114, 117, 101]
/-- A value that begins with no bracket. -/
def scalar : List UInt8 → Out JV
  | [] => .bad 0 11
  | c :: l =>
    if c = 34 then (text l).andThen fun t r => .ok (.mk 4 (str t) [] []) r
    else if c = 45 ∨ isDigit c = true then number (c :: l)
    else if c = 110 then (musts wNull (c :: l)).andThen fun _ r => .ok (.mk 0 ByteArray.empty [] []) r
    else if c = 102 then (musts wFalse (c :: l)).andThen fun _ r => .ok (.mk 1 ByteArray.empty [] []) r
    else if c = 116 then (musts wTrue (c :: l)).andThen fun _ r => .ok (.mk 2 ByteArray.empty [] []) r
    else .bad (l.length + 1) 11
/-- A value, that may have so many others round it yet. -/
def value : Nat → List UInt8 → Out JV
  | 0, l => (match l with
    | [] => scalar []
    | c :: r => if c = 123 ∨ c = 91 then .bad (r.length + 1) 20 else scalar (c :: r))
  | d + 1, l => match l with
    | [] => scalar []
    | c :: r => if c = 123 then object (value d) r else if c = 91 then array (value d) r else scalar (c :: r)
def parseOut (b : List UInt8) : Out JV := (value 32 (blanks b)).andThen fun v l => if blanks l = [] then .ok v [] else .bad (blanks l).length 11
/-- json.Parse. -/
def parse (b : List UInt8) : JV × Nat × Nat :=
  if 65536 < b.length then (JV.zero, 0, 8) else match parseOut b with
    | .ok v _ => (v, 0, 0)
    | .bad rem e => (JV.zero, b.length - rem, e)

/-! Laying -/
def hexChar (n : Nat) : UInt8 := (if n < 10 then 48 + n else 87 + n).toUInt8
def quoteByte (c : UInt8) : List UInt8 :=
  if c = 34 ∨ c = 92 then [92, c] else if c < 32 ∨ c = 127 then [92, 117, 48, 48, hexChar (c.toNat / 16), hexChar (c.toNat % 16)] else [c]
def quote (s : List UInt8) : List UInt8 := 34 :: (s.flatMap quoteByte ++ [34])
def literal (s : List UInt8) : Bool := match number s with
  | .ok _ [] => true
  | _ => false
def validN : Nat → List UInt8 → Bool
  | 0, l => l.isEmpty
  | _ + 1, [] => true
  | n + 1, c :: l => if seqLen (c :: l) = 0 then false else validN n ((c :: l).drop (seqLen (c :: l)))
/-- Is it UTF-8? -/
def valid (l : List UInt8) : Bool := validN l.length l
def distinct : List (List UInt8) → Bool
  | [] => true
  | x :: l => !l.contains x && distinct l
/-- A value's own errors, so deep within others. -/
def chkOwn (d : Nat) (k : Int) (t : ByteArray) (n : Nat) (names : List ByteArray) : Nat :=
  if k < 0 ∨ 6 < k then 7
  else if k = 3 ∧ literal (raw t) = false then 10
  else if k = 4 ∧ valid (raw t) = false then 10
  else if k = 6 ∧ (names.all fun s => valid (raw s)) = false then 10
  else if k = 6 ∧ names.length ≠ n then 10
  else if k < 5 then 0
  else if 32 ≤ d then 20
  else if 1000 < n then 9
  else if k = 6 ∧ distinct (names.map raw) = false then 12
  else 0
mutual
def chk (d : Nat) : JV → Nat
  | .mk k t l names => if chkOwn d k t l.length names ≠ 0 then chkOwn d k t l.length names else if k < 5 then 0 else chkAll (d + 1) l
def chkAll (d : Nat) : List JV → Nat
  | [] => 0
  | v :: l => if chk d v ≠ 0 then chk d v else chkAll d l
end
/-- Texts with a comma between. -/
def commas : List (List UInt8) → List UInt8
  | [] => []
  | [x] => x
  | x :: y :: l => x ++ 44 :: commas (y :: l)
/-- a < b, byte for byte. -/
def ltB : List UInt8 → List UInt8 → Bool
  | _, [] => false
  | [], _ :: _ => true
  | a :: l, b :: m => decide (a < b) || (a == b && ltB l m)
/-- Pairs, by rising names: one more. -/
def putP {α : Type} (x : List UInt8 × α) : List (List UInt8 × α) → List (List UInt8 × α)
  | [] => [x]
  | y :: l => if ltB x.1 y.1 then x :: y :: l else y :: putP x l
def sortP {α : Type} : List (List UInt8 × α) → List (List UInt8 × α)
  | [] => []
  | x :: l => putP x (sortP l)
def layPair (p : List UInt8 × List UInt8) : List UInt8 := quote p.1 ++ 58 :: p.2
mutual
def lay : JV → List UInt8
  | .mk k t l names =>
    if k = 0 then wNull else if k = 1 then wFalse else if k = 2 then wTrue else if k = 3 then raw t else if k = 4 then quote (raw t)
    else if k = 5 then 91 :: (commas (layAll l) ++ [93])
    else 123 :: (commas ((sortP ((names.map raw).zip (layAll l))).map layPair) ++ [125])
def layAll : List JV → List (List UInt8)
  | [] => []
  | v :: l => lay v :: layAll l
end
/-- json.Print: the text, or the error. -/
def print (v : JV) : Option (List UInt8) × Nat :=
  if chk 0 v ≠ 0 then (none, chk 0 v) else if 65536 < (lay v).length then (none, 8) else (some (lay v), 0)
/-! The chapter's example -/
def exOne : List UInt8 := [32, 123, 34, 98, 34, 32, 58, 32, 91, 49, 44, 32, 50, 46, 53, 48, 101, 49, 93, 44, 32, 34, 97, 34, 58, 34, 92, 117, 48, 48, 52, 49, 92, 47, 34, 125, 32]
def exTwo : List UInt8 := [123, 34, 97, 34, 58, 49, 44, 34, 97, 34, 58, 50, 125]
def exOut : List UInt8 := [123, 34, 97, 34, 58, 34, 65, 47, 34, 44, 34, 98, 34, 58, 91, 49, 44, 50, 46, 53, 48, 101, 49, 93, 125]
end Go.Proofs.YthjcolehccbihaaDoor
