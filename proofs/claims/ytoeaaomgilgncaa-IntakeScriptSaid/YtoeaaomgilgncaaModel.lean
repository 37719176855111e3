/-
  The plain answer of an intake: its state and its steps, without memory.
-/
import Derived.Test.YtoeaaomgilgncaaBase
namespace Go.Intake

/-- How an intake stands. -/
structure St where
  most : Int
  stands : Int
  held : List UInt8
  size : Int
  left : Int
  half : Bool
  ended : Bool

/-- Bytes of a long line are let go. -/
def skipLine : Bool → List UInt8 → Bool × Bool × List UInt8
  | h, [] => (h, false, [])
  | h, c :: r => if h && c == 10 then (h, true, r) else skipLine (c == 13) r

/-- Where the first CR LF stands. -/
def find : List UInt8 → Option Nat
  | [] => none
  | [_] => none
  | a :: b :: r => if a = 13 ∧ b = 10 then some 0 else (find (b :: r)).map (· + 1)

def feed (s : St) (b : List UInt8) : St :=
  if s.stands = 1 ∧ s.ended = false then
    let r := skipLine s.half b
    { s with half := r.1, ended := r.2.1, held := s.held ++ r.2.2 }
  else if s.stands = 3 then
    { s with left := s.left - min s.left b.length, held := s.held ++ b.drop (min s.left b.length).toNat }
  else { s with held := s.held ++ b }

/-- What is told. -/
structure It where
  kind : Int
  text : List UInt8
  body : List UInt8
deriving DecidableEq

def zeroItem : It := ⟨0, [], []⟩

def item (k : Int) (t b : List UInt8) : It := ⟨k, t, b⟩

/-- What stands behind a line that is too long. -/
def long (s : St) : St := feed { s with stands := 1, half := false, ended := false, held := [] } s.held

/-- The rest of Next, where it does not stand at a line. -/
def next1 (s : St) : St × Option It :=
  if s.stands = 1 then
    if s.ended then ({ s with stands := 0 }, some (item 2 [] [])) else (s, none)
  else if s.stands = 2 then
    if (s.held.length : Int) < s.size + 2 then (s, none)
    else
      let n := s.size.toNat
      let it := if s.held[n]? = some 13 ∧ s.held[n + 1]? = some 10 then item 3 [] (s.held.take n) else item 5 [] []
      ({ s with stands := 0, held := s.held.drop (n + 2) }, some it)
  else
    if s.left > 0 then (s, none) else ({ s with stands := 0 }, some (item 4 [] []))

def next (s : St) : St × Option It :=
  if s.stands = 0 then
    match find (s.held.take 224) with
    | some k => ({ s with held := s.held.drop (k + 2) }, some (item 1 (s.held.take k) []))
    | none => if s.held.length < 224 then (s, none) else next1 (long s)
  else next1 s

/-- Body: the state, and the error's number. -/
def body (s : St) (n : Int) : St × Int :=
  if n < 0 ∨ n > 4294967295 ∨ s.stands ≠ 0 then (s, 61)
  else if n ≤ s.most then ({ s with stands := 2, size := n }, 0)
  else
    let l := n + 2
    ({ s with stands := 3, left := l - min l s.held.length, held := s.held.drop (min l s.held.length).toNat }, 0)

def new (most : Int) : St := ⟨most, 0, [], 0, 0, false, false⟩
/-- What holds of every state. -/
structure St.Ok (s : St) : Prop where
  most : 1 ≤ s.most ∧ s.most ≤ 65535
  stands : s.stands = 0 ∨ s.stands = 1 ∨ s.stands = 2 ∨ s.stands = 3
  size : 0 ≤ s.size ∧ s.size ≤ 65535
  left : 0 ≤ s.left ∧ s.left ≤ 4294967297
end Go.Intake
