/- Slots, plainly: tables as eight marks and eight addresses. No program in sight. Slots, plainly: what the calls answer. No program in sight. Slots, plainly: the reference's own good table. No program in sight. Slots, plainly: the reference's good table is the program's. No program in sight. -/
import Derived.Test.YtcaipfdnadlkdaaSxRk
namespace Go.Proofs.Ytcaipfdnadlkdaa
open Go.RowKit
set_option linter.unusedVariables false
structure Tab where
  u : List Bool
  a : List Int
def addrB (a : Int) : Bool := decide (0 ≤ a) && decide (a ≤ 63)
def slot8 (a : Int) : Bool := decide (0 ≤ a) && decide (a < 8)
def findGo : Int → List Bool → List Int → Int → Int × Bool
  | k, u :: us, a :: az, x => if u = true ∧ a = x then (k, true) else findGo (k + 1) us az x
  | _, _, _, _ => (0, false)
def findT (t : Tab) (x : Int) : Int × Bool := findGo 0 t.u t.a x
def goodGo (U : List Bool) (A : List Int) : Int → List Bool → List Int → Bool
  | k, u :: us, a :: az => (if u = true then decide ((findGo 0 U A a).1 = k) && addrB a else decide (a = 0)) && goodGo U A (k + 1) us az
  | _, _, _ => true
def goodT (t : Tab) : Bool := goodGo t.u t.a 0 t.u t.a
def idxGo (v : Bool) : Int → List Bool → Int
  | k, b :: bs => if v = b then k else idxGo v (k + 1) bs
  | _, [] => -1
def maskGo : Nat → List Bool → Int → Int
  | k, u :: us, m => maskGo (k + 1) us (if u = true then bits .or .i64 m (2 ^ k) else m)
  | _, [], m => m
end Go.Proofs.Ytcaipfdnadlkdaa

namespace Go.Proofs.Ytcaipfdnadlkdaa
open Go Go.RowKit
set_option linter.unusedVariables false
def gdG (U : List Bool) (A : List Int) : Bool := goodGo U A 0 U A
def takeG (U : List Bool) (A : List Int) (a : Int) : (List Bool × List Int) × Int × Int :=
  if (goodGo U A 0 U A && addrB a) = true then
    if (findGo 0 U A a).2 = true then ((U, A), 0, 7)
    else if idxGo false 0 U < 0 then ((U, A), 0, 5)
    else ((U.set (idxGo false 0 U).toNat true, A.set (idxGo false 0 U).toNat a), idxGo false 0 U, 0)
  else ((U, A), 0, 1)
def freeG (U : List Bool) (A : List Int) (i : Int) : (List Bool × List Int) × Int :=
  if (goodGo U A 0 U A && slot8 i) = true then
    if U.getD i.toNat false = true then ((U.set i.toNat false, A.set i.toNat 0), 0) else ((U, A), 6)
  else ((U, A), 1)
def findG (U : List Bool) (A : List Int) (a : Int) : Int × Bool := if goodGo U A 0 U A = true then findGo 0 U A a else (0, false)
def firstG (U : List Bool) (A : List Int) : Int × Bool := if idxGo true 0 U < 0 ∨ goodGo U A 0 U A = false then (0, false) else (idxGo true 0 U, true)
def maskG (U : List Bool) (A : List Int) : Int := if goodGo U A 0 U A = true then maskGo 0 U 0 else 0
end Go.Proofs.Ytcaipfdnadlkdaa

namespace Go.Proofs.Ytcaipfdnadlkdaa
open Go Go.RowKit
set_option linter.unusedVariables false
def inB (n lo hi : Int) : Bool := decide (lo ≤ n) && decide (n ≤ hi)
/-- a used slot whose address was met before -/
def clG (u : Bool) (a : Int) : List Bool → List Int → Bool
  | v :: vs, b :: bs => (u && v && decide (a = b)) || clG u a vs bs
  | _, _ => false
def goodR : List Bool → List Int → List Bool → List Int → Bool
  | PU, PA, u :: us, a :: az => (if u = true then inB a 0 63 else decide (a = 0)) && !clG u a PU PA && goodR (PU ++ [u]) (PA ++ [a]) us az
  | _, _, _, _ => true
end Go.Proofs.Ytcaipfdnadlkdaa

namespace Go.Proofs.Ytcaipfdnadlkdaa
open Go Go.RowKit
set_option linter.unusedVariables false
theorem inB_addr (a : Int) : inB a 0 63 = addrB a := rfl
theorem inB_slot (a : Int) : inB a 0 7 = slot8 a := by
  have e : (a ≤ 7) = (a < 8) := by apply propext; omega
  simp [inB, slot8, e]
theorem clG_false (a : Int) : ∀ (U : List Bool) (A : List Int), clG false a U A = false
  | [], _ => by simp [clG]
  | _ :: _, [] => by simp [clG]
  | u :: us, b :: bs => by simp [clG, clG_false a us bs]
theorem findGo_pre (a : Int) (us : List Bool) (az : List Int) : ∀ (PU : List Bool) (PA : List Int) (k : Int), PU.length = PA.length →
    ((clG true a PU PA = true → (findGo k (PU ++ true :: us) (PA ++ a :: az) a).1 < k + PU.length) ∧
     (clG true a PU PA = false → (findGo k (PU ++ true :: us) (PA ++ a :: az) a).1 = k + PU.length))
  | [], [], k, _ => by simp [clG, findGo]
  | [], _ :: _, k, h => by simp at h
  | _ :: _, [], k, h => by simp at h
  | v :: vs, b :: bs, k, h => by
    have ih := findGo_pre a us az vs bs (k + 1) (by simpa using h)
    by_cases hv : v = true ∧ b = a
    · obtain ⟨h1, h2⟩ := hv
      subst h1; subst h2
      constructor
      · intro _; simp [findGo]; omega
      · intro h; simp [clG] at h
    · have e : (true && v && decide (a = b)) = false := by
        cases v
        · simp
        · have : ¬a = b := fun x => hv ⟨rfl, x.symm⟩
          simp [this]
      simp only [clG, e, Bool.false_or]
      simp only [List.cons_append, findGo, hv, if_false, List.length_cons]
      constructor
      · intro h; have := ih.1 h; push_cast at *; omega
      · intro h; have := ih.2 h; push_cast at *; omega
theorem goodR_go : ∀ (us : List Bool) (az : List Int) (PU : List Bool) (PA : List Int), PU.length = PA.length → us.length = az.length →
    goodR PU PA us az = goodGo (PU ++ us) (PA ++ az) (Int.ofNat PU.length) us az
  | [], _, PU, PA, _, _ => by simp [goodR, goodGo]
  | _ :: _, [], PU, PA, _, h => by simp at h
  | u :: us, a :: az, PU, PA, h1, h2 => by
    have ih := goodR_go us az (PU ++ [u]) (PA ++ [a]) (by simp [h1]) (by simpa using h2)
    simp only [List.append_assoc, List.singleton_append, List.length_append, List.length_singleton] at ih
    have e : (Int.ofNat (PU.length + 1)) = Int.ofNat PU.length + 1 := by simp
    rw [e] at ih
    simp only [goodR, goodGo, ih]
    cases u
    · simp [clG_false]
    · have f := findGo_pre a us az PU PA 0 h1
      simp only [if_true, inB_addr]
      cases hc : clG true a PU PA
      · have g := f.2 hc
        have g2 : (findGo 0 (PU ++ true :: us) (PA ++ a :: az) a).1 = Int.ofNat PU.length := by simp [g]
        simp [g2]
      · have g := f.1 hc
        have g2 : ¬ (findGo 0 (PU ++ true :: us) (PA ++ a :: az) a).1 = Int.ofNat PU.length := by
          intro x; rw [x] at g; simp at g
        simp only [g2, decide_false, Bool.false_and, Bool.not_true, Bool.and_false]
theorem goodR_eq (U : List Bool) (A : List Int) (h : U.length = A.length) : goodR [] [] U A = goodGo U A 0 U A := by
  have := goodR_go U A [] [] rfl h
  simpa using this
end Go.Proofs.Ytcaipfdnadlkdaa
