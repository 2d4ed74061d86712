/-
  Plain facts about layer 17: what its functions return, as functions of lists of bytes. No program in it.
-/
import Derived.Test.YtdcknfdileomoaaDoorUs
import Derived.Lib.TrimByte
namespace Go.Proofs.YtdcknfdileomoaaDoor
namespace Cs

/-- A d-character. -/
def dch (b : Nat) : Bool := (decide (65 ≤ b) && decide (b ≤ 90)) || ((decide (48 ≤ b) && decide (b ≤ 57)) || decide (b = 95))

/-- The a-characters that are no d-characters. -/
def others : List UInt8 := [32, 33, 34, 37, 38, 39, 40, 41, 42, 43, 44, 45, 46, 47, 58, 59, 60, 61, 62, 63]
def och (b : UInt8) : Bool := others.any fun x => x == b
def ach (b : UInt8) : Bool := dch b.toNat || och b

def dchR (l : List UInt8) : Bool := decide (l.length ≤ 65536) && l.all fun b => dch b.toNat
def achR (l : List UInt8) : Bool := decide (l.length ≤ 65536) && l.all ach

/-- A byte, capital instead of small. -/
def up (b : UInt8) : UInt8 := if 97 ≤ b.toNat ∧ b.toNat ≤ 122 then UInt8.ofNat (b.toNat - 32) else b
def upperR (l : List UInt8) : List UInt8 := if 65536 < l.length then [] else l.map up

/-- What Field returns. -/
def fieldR (l : List UInt8) (n : Int) : List UInt8 × Int :=
  if 65536 < l.length then ([], 7) else if n < 0 ∨ 65536 < n then ([], 2) else if n < l.length then ([], 12) else (l ++ List.replicate (n.toNat - l.length) 32, 0)

def trimR (l : List UInt8) : List UInt8 := if 65536 < l.length then [] else Lib.trimRightB l 32

/-- What Ucs2 returns. -/
def ucs2R (l : List UInt8) : List UInt8 × Int := if (charsR l).2 = 0 then ((charsR l).1.flatMap (cu 2), 0) else ([], (charsR l).2)

/-- What FromUcs2 returns. -/
def fromR (l : List UInt8) : List UInt8 × Int :=
  if 65536 < l.length then ([], 7) else if l.length % 2 = 1 then ([], 3) else if allChars (units 2 l) then (text (units 2 l), 0) else ([], 2)

/-- Blanks in UCS-2. -/
def blanks2 : Nat → List UInt8
  | 0 => []
  | n + 1 => 0 :: 32 :: blanks2 n

/-- What WideField returns. -/
def wideFieldR (l : List UInt8) (n : Int) : List UInt8 × Int :=
  if ¬ (ucs2R l).2 = 0 then ([], (ucs2R l).2) else if n < 0 ∨ 65536 < n then ([], 2) else if n < (ucs2R l).1.length then ([], 12)
  else ((ucs2R l).1 ++ blanks2 ((n.toNat - (ucs2R l).1.length) / 2) ++ List.replicate ((n.toNat - (ucs2R l).1.length) % 2) 0, 0)

/-- The length of a wide field without the blanks at its end, from a length on. -/
def wtLen (l : List UInt8) : Nat → Nat
  | 0 => 0
  | 1 => 1
  | n + 2 => if n % 2 = 0 ∧ byt l n = 0 ∧ byt l (n + 1) = 32 then wtLen l n else n + 2

/-- What WideTrim leaves to be read. -/
def wtRest (l : List UInt8) : List UInt8 := l.take (wtLen l (if l.length % 2 = 1 ∧ byt l (l.length - 1) = 0 then l.length - 1 else l.length))
def wideTrimR (l : List UInt8) : List UInt8 × Int := if 65536 < l.length then ([], 7) else fromR (wtRest l)

theorem wtLen_le (l : List UInt8) (n : Nat) : wtLen l n ≤ n := by
  induction n using wtLen.induct (l := l) with
  | case1 => exact Nat.le_refl _
  | case2 => exact Nat.le_refl _
  | case3 n h ih => rw [wtLen, if_pos h]; omega
  | case4 n h => rw [wtLen, if_neg h]; omega
end Cs
end Go.Proofs.YtdcknfdileomoaaDoor
