import Derived.Lib.DecodeN
import Derived.Lib.RuneBytes
namespace Go.Proofs.YtafmnkngjjnpiaaGreatDoor
set_option maxRecDepth 100000
set_option linter.unusedVariables false
/-! ### characters -/
def byN (l : List Int) (i : Nat) : Nat := (l.getD i 0).toNat
def decU (l : List Int) : Nat × Nat := if l.length = 0 then (65533, 0) else Lib.decodeN l.length (byN l 0) (byN l 1) (byN l 2) (byN l 3)
def fullU (l : List Int) : Bool :=
  if l.length = 0 then false
  else if Lib.firstT (byN l 0) % 8 ≤ l.length then true
  else if 1 < l.length ∧ (byN l 1 < Lib.accLo (Lib.firstT (byN l 0) / 16) ∨ Lib.accHi (Lib.firstT (byN l 0) / 16) < byN l 1) then true
  else decide (2 < l.length ∧ (byN l 2 < 128 ∨ 191 < byN l 2))
def begU (l : List Int) : Bool := decide (0 < l.length) && decide (l.length < 4) && !fullU l
def growU (l : List Int) : Nat → Nat → Nat
  | 0, n => n
  | f + 1, n => if n < l.length ∧ begU (l.take (n + 1)) = true then growU l f (n + 1) else n
def nextU (l : List Int) : Int × Nat × Int :=
  if l.length = 0 then (0, 0, 6)
  else if (decU l).1 ≠ 65533 ∨ 1 < (decU l).2 then (((decU l).1 : Nat), (decU l).2, 0)
  else if begU l = true then (0, l.length, 7)
  else (0, growU l l.length 1, 8)
def okU (c : Int) : Bool := decide ((0 ≤ c ∧ c < 55296) ∨ (57343 < c ∧ c ≤ 1114111))
def shownU (c : Int) : Bool := okU c && decide (32 ≤ c) && (decide (c < 127) || decide (159 < c))
def putU (c : Int) : List Int := if okU c = true then Lib.encodeRuneZ c else []
/-! ### keys -/
structure Ky where
  kind : Int
  c : Int
  deriving DecidableEq, Inhabited
def charK (c : Int) : Option Int :=
  if c = 13 then some 1 else if c = 10 then some 1 else if c = 8 then some 2 else if c = 127 then some 2 else if c = 2 then some 4 else if c = 6 then some 5
  else if c = 1 then some 6 else if c = 5 then some 7 else if c = 21 then some 8 else if c = 11 then some 9 else if c = 12 then some 10 else if c = 3 then some 11 else if c = 4 then some 12 else none
def keyOf (c : Int) : Ky := if shownU c = true then ⟨0, c⟩ else match charK c with | some k => ⟨k, 0⟩ | none => ⟨15, 0⟩
/-! ### escape sequences -/
def knownS : List (List Int × Int) :=
  [([27, 91, 67], 5), ([27, 79, 67], 5), ([27, 91, 68], 4), ([27, 79, 68], 4), ([27, 91, 72], 6), ([27, 79, 72], 6), ([27, 91, 49, 126], 6), ([27, 91, 55, 126], 6),
   ([27, 91, 70], 7), ([27, 79, 70], 7), ([27, 91, 52, 126], 7), ([27, 91, 56, 126], 7), ([27, 91, 51, 126], 3), ([27, 91, 50, 48, 48, 126], 13), ([27, 91, 50, 48, 49, 126], 14)]
def knownK (s : List Int) : Int := match knownS.find? (fun x => decide (x.1 = s)) with | some x => x.2 | none => 15
def escLoop (b : List Int) : Nat → Nat → Bool → Ky × Nat × Int
  | 0, i, o => (⟨0, 0⟩, b.length, 7)
  | f + 1, i, o =>
    if b.length ≤ i then (⟨0, 0⟩, b.length, 7)
    else if 64 ≤ b.getD i 0 ∧ b.getD i 0 ≤ 126 then (⟨knownK (b.take (i + 1)), 0⟩, i + 1, 0)
    else if b.getD 1 0 = 79 ∨ 34 ≤ i then (⟨15, 0⟩, i, 0)
    else if 48 ≤ b.getD i 0 ∧ b.getD i 0 ≤ 63 ∧ o = false then escLoop b f (i + 1) o
    else if 32 ≤ b.getD i 0 ∧ b.getD i 0 ≤ 47 then escLoop b f (i + 1) true
    else (⟨15, 0⟩, i, 0)
def nextE (b : List Int) : Ky × Nat × Int :=
  if b.length = 0 then (⟨0, 0⟩, 0, 6)
  else if b.getD 0 0 ≠ 27 then (⟨0, 0⟩, 0, 8)
  else if 1 < b.length ∧ b.getD 1 0 ≠ 91 ∧ b.getD 1 0 ≠ 79 then (⟨15, 0⟩, 1, 0)
  else escLoop b b.length 2 false
/-! ### the decoder: what is held, and whether a paste is begun -/
structure Dc where
  h : List Int
  p : Bool
  deriving DecidableEq, Inhabited
def seqD (p : Bool) (k : Ky) : Ky × Bool :=
  if (p != decide (k.kind = 14)) = true then (⟨15, 0⟩, p)
  else if k.kind = 13 ∨ k.kind = 14 then (k, !p)
  else (k, p)
def charD (p : Bool) (c : Int) : Ky := if p = true ∧ (keyOf c).kind ≠ 0 then ⟨15, 0⟩ else keyOf c
def nextD (d : Dc) : Option (Ky × Dc) :=
  if d.h.length = 0 then none
  else if (d.h.take 36).getD 0 0 = 27 then
    if (nextE (d.h.take 36)).2.2 ≠ 0 then none
    else some ((seqD d.p (nextE (d.h.take 36)).1).1, ⟨d.h.drop (nextE (d.h.take 36)).2.1, (seqD d.p (nextE (d.h.take 36)).1).2⟩)
  else if (nextU (d.h.take 36)).2.2 = 7 then none
  else some (charD d.p (if (nextU (d.h.take 36)).2.2 = 8 then 65533 else (nextU (d.h.take 36)).1), ⟨d.h.drop (nextU (d.h.take 36)).2.1, d.p⟩)
def drainD : Nat → Dc → List Ky × Dc
  | 0, d => ([], d)
  | f + 1, d => match nextD d with
    | none => ([], d)
    | some (k, d') => (k :: (drainD f d').1, (drainD f d').2)
def feedD (N : Nat) (d : Dc) (c : Int) : List Ky × Dc := if N ≤ d.h.length then ([], d) else drainD (d.h.length + 1) ⟨d.h ++ [c], d.p⟩
def lastD (d : Dc) : List Ky := if d.h.length = 0 then [] else if d.h.getD 0 0 = 27 then [⟨15, 0⟩] else [⟨0, 65533⟩]
/-! ### the buffer: bytes and a place -/
structure Bf where
  l : List Int
  at' : Nat
  deriving DecidableEq, Inhabited
def firstB (l : List Int) (i : Nat) : Bool := if i < l.length then decide (l.getD i 0 / 64 ≠ 2) else true
def downB (l : List Int) : Nat → Nat
  | 0 => 0
  | i + 1 => if firstB l (i + 1) = true then i + 1 else downB l i
def upB (l : List Int) : Nat → Nat → Nat
  | 0, i => i
  | f + 1, i => if firstB l i = true then i else upB l f (i + 1)
def aheadB (b : Bf) : Nat := downB b.l (b.at' - 1)
def behindB (b : Bf) : Nat := upB b.l b.l.length (min b.l.length (b.at' + 1))
def layB (N : Nat) (b : Bf) (t : List Int) : Int × Bf :=
  if N - b.l.length < t.length then (4, b) else (0, ⟨b.l.take b.at' ++ t ++ b.l.drop b.at', b.at' + t.length⟩)
def putB (N : Nat) (b : Bf) (c : Int) : Int × Bf := if shownU c = true then layB N b (putU c) else (2, b)
def fineU : Nat → List Int → Bool
  | 0, t => true
  | f + 1, t => if t.length = 0 then true else if (nextU t).2.2 = 0 ∧ shownU (nextU t).1 = true then fineU f (t.drop (nextU t).2.1) else false
def insertB (N : Nat) (b : Bf) (t : List Int) : Int × Bf := if fineU t.length t = true then layB N b t else (8, b)
def takeB (b : Bf) (i j : Nat) : Bf := ⟨b.l.take i ++ b.l.drop j, i⟩
def moveB (b : Bf) (kind : Int) : Option Bf :=
  if kind = 2 then some (takeB b (aheadB b) b.at')
  else if kind = 3 then some (takeB b b.at' (behindB b))
  else if kind = 4 then some ⟨b.l, aheadB b⟩
  else if kind = 5 then some ⟨b.l, behindB b⟩
  else if kind = 6 then some ⟨b.l, 0⟩
  else if kind = 7 then some ⟨b.l, b.l.length⟩
  else if kind = 8 then some (takeB b 0 b.at')
  else if kind = 9 then some (takeB b b.at' b.l.length)
  else none
def doB (N : Nat) (b : Bf) (k : Ky) : Bool × Int × Bf :=
  if k.kind = 0 then (decide ((putB N b k.c).1 = 0), (putB N b k.c).1, (putB N b k.c).2)
  else match moveB b k.kind with
    | none => (false, 0, b)
    | some b' => (decide (b'.at' ≠ b.at') || decide (b'.l.length ≠ b.l.length), 0, b')
def charsB (l : List Int) : Nat → Nat
  | 0 => 0
  | i + 1 => charsB l i + (if firstB l i = true then 1 else 0)
/-! ### the stage -/
structure Stg where
  l : List Int
  begun : Bool
  over : Bool
  deriving DecidableEq, Inhabited
def addS (N : Nat) (s : Stg) (c : Int) : Int × Stg :=
  if s.begun = false then (11, s) else if shownU c = false then (2, s) else if s.over = true then (4, s)
  else if N - s.l.length < (putU c).length then (4, ⟨s.l, s.begun, true⟩) else (0, ⟨s.l ++ putU c, s.begun, false⟩)
def endS (N : Nat) (s : Stg) (b : Bf) : Int × Stg × Bf :=
  if s.begun = false then (11, s, b) else if s.over = true then (4, ⟨[], false, false⟩, b)
  else ((insertB N b s.l).1, ⟨[], false, false⟩, (insertB N b s.l).2)
/-! ### the line -/
def starsV (mode : Int) (count : Nat) : Nat := if mode = 1 then count else if mode = 2 then min count 1 * 8 else 0
def placeV (mode : Int) (count at' : Nat) : Nat := if mode = 1 then at' else if mode = 2 then min count 1 * 8 else 0
def lineV (prompt : List Int) (mode : Int) (count at' : Nat) (dec : Nat → List Int) : List Int :=
  [13] ++ prompt ++ List.replicate (starsV mode count) 42 ++ [27, 91, 75] ++
    (if placeV mode count at' < starsV mode count then [27, 91] ++ dec (starsV mode count - placeV mode count at') ++ [68] else [])
end Go.Proofs.YtafmnkngjjnpiaaGreatDoor
