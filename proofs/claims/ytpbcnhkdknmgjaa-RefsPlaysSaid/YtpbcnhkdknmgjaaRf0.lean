/- Numbers that were had, plainly. No program in sight. -/
import Derived.Test.YtpbcnhkdknmgjaaHead
import Derived.KernelRfl
namespace Go.Proofs.Ytpbcnhkdknmgjaa
open Go Go.RowKit
set_option linter.unusedVariables false
set_option linter.unusedSimpArgs false
def hasF (L : List Int) (n : Int) : Bool := decide (n ∈ L)
def idxL (v : Int) : Int → List Int → Int
  | k, x :: xs => if v = x then k else idxL v (k + 1) xs
  | _, [] => -1
/-- from the last one on, each once, the most recent 256 -/
def addGo : List Int → List Int → List Int
  | x :: xs, acc => if acc.length < 256 then addGo xs (if hasF acc x = true then acc else acc ++ [x]) else acc
  | [], acc => acc
def refGo : List Int → List Int → List Int
  | x :: xs, acc => if acc.length < 256 then refGo xs (if hasF acc x = true then acc else x :: acc) else acc
  | [], acc => acc
def addF (L : List Int) (n : Int) : List Int := (addGo (L ++ [n]).reverse []).reverse
def fitF (L : List Int) (n : Int) (D : List Int) : Bool := D.all fun d => (decide (1 ≤ d) && decide (d ≤ 4096)) && hasF L (IntKind.u16.wrap (n - IntKind.u16.wrap d))
def betF (L : List Int) (a b : Int) (S : List Int) : Bool := ((L.take b.toNat).drop a.toNat).any fun x => !hasF S x
theorem hasF_cons (x n : Int) (L : List Int) : hasF (x :: L) n = (decide (n = x) || hasF L n) := by simp [hasF]
theorem hasF_nil (n : Int) : hasF [] n = false := by simp [hasF]
theorem idxL_has (v : Int) : ∀ (L : List Int) (k : Int), 0 ≤ k → (0 ≤ idxL v k L ↔ hasF L v = true)
  | [], k, _ => by simp [idxL, hasF]
  | x :: L, k, hk => by
    by_cases e : v = x
    · simp [idxL, e, hasF, hk]
    · have ih := idxL_has v L (k + 1) (by omega)
      simp only [idxL, e, if_false, ih, hasF_cons, decide_false, Bool.false_or]
theorem ref_rev : ∀ (xs acc : List Int), refGo xs acc.reverse = (addGo xs acc).reverse
  | [], acc => by simp [refGo, addGo]
  | x :: xs, acc => by
    have hh : hasF acc.reverse x = hasF acc x := by simp [hasF]
    simp only [refGo, addGo, List.length_reverse, hh]
    split
    · by_cases e : hasF acc x = true
      · simp only [e, if_true]; exact ref_rev xs acc
      · have := ref_rev xs (acc ++ [x])
        rw [List.reverse_append] at this
        simpa [e] using this
    · rfl
theorem ref_add (L : List Int) (n : Int) : refGo L.reverse [n] = addF L n := by
  have := ref_rev L.reverse [n]
  simp only [List.reverse_singleton] at this
  rw [this]
  simp [addF, List.reverse_append, addGo, hasF_nil]
theorem addGo_len : ∀ (xs acc : List Int), acc.length ≤ 256 → (addGo xs acc).length ≤ 256
  | [], acc, h => by simpa [addGo] using h
  | x :: xs, acc, h => by
    simp only [addGo]
    split
    · refine addGo_len xs _ ?_
      split
      · exact h
      · simp; omega
    · exact h
theorem addF_len (L : List Int) (n : Int) : (addF L n).length ≤ 256 := by simp only [addF, List.length_reverse]; exact addGo_len _ _ (by simp)
theorem drop_cons {L : List Int} {i : Nat} (h : i < L.length) : L.drop i = L.getD i 0 :: L.drop (i + 1) := by
  rw [List.drop_eq_getElem_cons h, List.getD_eq_getElem?_getD]
  simp [h]
theorem take_snoc {L : List Int} {i : Nat} (h : i < L.length) : L.take (i + 1) = L.take i ++ [L.getD i 0] := by
  rw [List.take_add_one, List.getD_eq_getElem?_getD]
  simp [h]
end Go.Proofs.Ytpbcnhkdknmgjaa
