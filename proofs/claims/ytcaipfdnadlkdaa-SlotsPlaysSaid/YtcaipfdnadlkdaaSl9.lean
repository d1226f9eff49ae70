/- Slots, plainly: the reference's good table is the program's. No program in sight. -/
import Derived.Test.YtcaipfdnadlkdaaSl7
namespace Go.Proofs.Ytcaipfdnadlkdaa
open Go Go.RowKit
set_option linter.unusedVariables false
theorem inB_addr (a : Int) : inB a 0 63 = addrB a := rfl
theorem inB_slot (a : Int) : inB a 0 7 = slot8 a := by
  have e : (a ≤ 7) = (a < 8) := by apply propext; omega
  simp [inB, slot8, e]
theorem clG_false (a : Int) : ∀ (U : List Bool) (A : List Int), clG false a U A = false
  | [], _ => by simp [clG]
  | _ :: _, [] => by simp [clG]
  | u :: us, b :: bs => by simp [clG, clG_false a us bs]
theorem findGo_pre (a : Int) (us : List Bool) (az : List Int) : ∀ (PU : List Bool) (PA : List Int) (k : Int), PU.length = PA.length →
    ((clG true a PU PA = true → (findGo k (PU ++ true :: us) (PA ++ a :: az) a).1 < k + PU.length) ∧
     (clG true a PU PA = false → (findGo k (PU ++ true :: us) (PA ++ a :: az) a).1 = k + PU.length))
  | [], [], k, _ => by simp [clG, findGo]
  | [], _ :: _, k, h => by simp at h
  | _ :: _, [], k, h => by simp at h
  | v :: vs, b :: bs, k, h => by
    have ih := findGo_pre a us az vs bs (k + 1) (by simpa using h)
    by_cases hv : v = true ∧ b = a
    · obtain ⟨h1, h2⟩ := hv
      subst h1; subst h2
      constructor
      · intro _; simp [findGo]; omega
      · intro h; simp [clG] at h
    · have e : (true && v && decide (a = b)) = false := by
        cases v
        · simp
        · have : ¬a = b := fun x => hv ⟨rfl, x.symm⟩
          simp [this]
      simp only [clG, e, Bool.false_or]
      simp only [List.cons_append, findGo, hv, if_false, List.length_cons]
      constructor
      · intro h; have := ih.1 h; push_cast at *; omega
      · intro h; have := ih.2 h; push_cast at *; omega
theorem goodR_go : ∀ (us : List Bool) (az : List Int) (PU : List Bool) (PA : List Int), PU.length = PA.length → us.length = az.length →
    goodR PU PA us az = goodGo (PU ++ us) (PA ++ az) (Int.ofNat PU.length) us az
  | [], _, PU, PA, _, _ => by simp [goodR, goodGo]
  | _ :: _, [], PU, PA, _, h => by simp at h
  | u :: us, a :: az, PU, PA, h1, h2 => by
    have ih := goodR_go us az (PU ++ [u]) (PA ++ [a]) (by simp [h1]) (by simpa using h2)
    simp only [List.append_assoc, List.singleton_append, List.length_append, List.length_singleton] at ih
    have e : (Int.ofNat (PU.length + 1)) = Int.ofNat PU.length + 1 := by simp
    rw [e] at ih
    simp only [goodR, goodGo, ih]
    cases u
    · simp [clG_false]
    · have f := findGo_pre a us az PU PA 0 h1
      simp only [if_true, inB_addr]
      cases hc : clG true a PU PA
      · have g := f.2 hc
        have g2 : (findGo 0 (PU ++ true :: us) (PA ++ a :: az) a).1 = Int.ofNat PU.length := by simp [g]
        simp [g2]
      · have g := f.1 hc
        have g2 : ¬ (findGo 0 (PU ++ true :: us) (PA ++ a :: az) a).1 = Int.ofNat PU.length := by
          intro x; rw [x] at g; simp at g
        simp only [g2, decide_false, Bool.false_and, Bool.not_true, Bool.and_false]
theorem goodR_eq (U : List Bool) (A : List Int) (h : U.length = A.length) : goodR [] [] U A = goodGo U A 0 U A := by
  have := goodR_go U A [] [] rfl h
  simpa using this
end Go.Proofs.Ytcaipfdnadlkdaa
