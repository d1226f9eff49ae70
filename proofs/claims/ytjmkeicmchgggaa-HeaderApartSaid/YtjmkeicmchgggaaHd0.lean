/- Headers, plainly: numbers as bytes, bytes as numbers. No program in sight. -/
import Derived.Test.YtjmkeicmchgggaaHead
import Derived.KernelRfl
namespace Go.Proofs.Ytjmkeicmchgggaa
open Go Go.RowKit
set_option linter.unusedVariables false
set_option linter.unusedSimpArgs false
/-- the low n bytes of a number, the highest first -/
def uB (v : Int) : Nat → List Int
  | 0 => []
  | k + 1 => (v / 256 ^ k % 256) :: uB v k
/-- how many bytes a number takes -/
def nB (x : Int) : Nat :=
  if x < 256 then 1 else if x < 65536 then 2 else if x < 16777216 then 3 else if x < 4294967296 then 4 else if x < 1099511627776 then 5 else if x < 281474976710656 then 6 else if x < 72057594037927936 then 7 else 8
def fieldF (x : Int) : Int × List Int := if x < 8 then (x, []) else (7 + (nB x : Int), uB x (nB x))
def bytesF (kid ctr : Int) : List Int := ((fieldF kid).1 * 16 + (fieldF ctr).1) :: ((fieldF kid).2 ++ (fieldF ctr).2)
def sizeF (x : Int) : Int := if x < 8 then 0 else x - 7
/-- bytes as a number -/
def beN : Int → List Int → Int
  | n, [] => n
  | n, c :: cs => beN (n * 256 + c) cs
def numF (x : Int) (L : List Int) : Int × Bool := if x < 8 then (x, true) else (beN 0 L, !decide (L.getD 0 0 = 0) && decide (8 ≤ beN 0 L))
/-- what is read of bytes: both numbers, how many bytes, what is wrong -/
def parseF (b : List Int) : Int × Int × Int × Int :=
  if b.length = 0 then (0, 0, 0, 3)
  else if (b.length : Int) < 1 + sizeF (b.getD 0 0 / 16) + sizeF (b.getD 0 0 % 16) then (0, 0, 0, 3)
  else if (numF (b.getD 0 0 / 16) ((b.drop 1).take (sizeF (b.getD 0 0 / 16)).toNat)).2 && (numF (b.getD 0 0 % 16) ((b.drop (1 + (sizeF (b.getD 0 0 / 16)).toNat)).take (sizeF (b.getD 0 0 % 16)).toNat)).2 then
    ((numF (b.getD 0 0 / 16) ((b.drop 1).take (sizeF (b.getD 0 0 / 16)).toNat)).1, (numF (b.getD 0 0 % 16) ((b.drop (1 + (sizeF (b.getD 0 0 / 16)).toNat)).take (sizeF (b.getD 0 0 % 16)).toNat)).1, 1 + sizeF (b.getD 0 0 / 16) + sizeF (b.getD 0 0 % 16), 0)
  else (0, 0, 0, 2)
def lowF (k : Nat) (x : Int) : Prop := k = 0 ∨ 256 ^ (k - 1) ≤ x
def lowR (k : Nat) (x : Int) : Prop := k = 0 ∨ 256 ^ k ≤ x
def Byt (L : List Int) : Prop := ∀ x ∈ L, 0 ≤ x ∧ x < 256
end Go.Proofs.Ytjmkeicmchgggaa
