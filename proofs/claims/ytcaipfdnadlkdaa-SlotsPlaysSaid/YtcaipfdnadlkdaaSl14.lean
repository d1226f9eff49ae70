/- Slots, plainly: what the law of taking and giving back says. No program in sight. -/
import Derived.Test.YtcaipfdnadlkdaaSl13
namespace Go.Proofs.Ytcaipfdnadlkdaa
open Go Go.RowKit
set_option linter.unusedVariables false
set_option linter.unusedSimpArgs false
def MaskOk (U : List Bool) (i : Nat) : Prop :=
  maskGo 0 (U.set i true) 0 = bits .or .i64 (maskGo 0 U 0) (IntKind.i64.wrap (1 * 2 ^ min (IntKind.u64.wrap (i : Int)).toNat 64)) ∧ bits .and .i64 (maskGo 0 U 0 / 2 ^ min (IntKind.u64.wrap (i : Int)).toNat 64) 1 = 0
instance (U : List Bool) (i : Nat) : Decidable (MaskOk U i) := by unfold MaskOk; infer_instance
set_option maxRecDepth 100000 in
theorem mask_law : ∀ (b0 b1 b2 b3 b4 b5 b6 b7 : Bool) (i : Fin 8), [b0, b1, b2, b3, b4, b5, b6, b7].getD i.val false = false → MaskOk [b0, b1, b2, b3, b4, b5, b6, b7] i.val := by decide +kernel
theorem back_law {U : List Bool} {A : List Int} {x : Int} {i : Nat} (hl : U.length = A.length) (h8 : U.length = 8) (hi : i < U.length) (u0 : U.getD i false = false) (hb : ∀ j, j < i → U.getD j false = true) (hg : Gd U A) (hx : addrB x = true) (hn : ∀ j, j < U.length → U.getD j false = true → A.getD j 0 ≠ x) :
    findG (U.set i true) (A.set i x) x = ((i : Int), true) ∧ freeG (U.set i true) (A.set i x) (i : Int) = ((U, A), 0) ∧ ((firstG (U.set i true) (A.set i x)).2 = true ∧ (firstG (U.set i true) (A.set i x)).1 ≤ (i : Int)) ∧ maskG (U.set i true) (A.set i x) = maskGo 0 (U.set i true) 0 ∧ maskG U A = maskGo 0 U 0 := by
  have hl' : (U.set i true).length = (A.set i x).length := by simp [hl]
  have hi' : i < (U.set i true).length := by simpa using hi
  have g := (good_iff hl').2 (gd_set hl hg hi hx hn)
  have g0 := (good_iff hl).2 hg
  have ui : (U.set i true).getD i false = true := by rw [getD_set _ _ _ _ _ hi, if_pos rfl]
  have ai : (A.set i x).getD i 0 = x := by rw [getD_set _ _ _ _ _ (hl ▸ hi), if_pos rfl]
  refine ⟨?_, ?_, ?_, ?_, ?_⟩
  · unfold findG
    rw [if_pos g]
    rcases findGo_spec x (U.set i true) (A.set i x) 0 hl' with ⟨m, h1, h2, h3, h4, h5⟩ | ⟨h1, h2⟩
    · rw [h5]
      have : m = i := gd_distinct (gd_set hl hg hi hx hn) h1 hi' h2 ui (h3.trans ai.symm)
      subst this
      simp
    · exact absurd ai (h1 i hi' ui)
  · have hs : (goodGo (U.set i true) (A.set i x) 0 (U.set i true) (A.set i x) && slot8 (i : Int)) = true := by
      rw [g]; simp [slot8]; omega
    unfold freeG
    rw [if_pos hs]
    have : ((i : Int)).toNat = i := by simp
    rw [this, if_pos ui, set_back hi u0, set_back (d := 0) (hl ▸ hi) ((hg i hi).2 u0)]
  · unfold firstG
    rcases idxGo_spec true false (U.set i true) 0 with ⟨m, h1, h2, h4, h5⟩ | ⟨h1, h2⟩
    · have hlt : ¬(idxGo true 0 (U.set i true) < 0 ∨ goodGo (U.set i true) (A.set i x) 0 (U.set i true) (A.set i x) = false) := by
        rw [h5, g]; simp
      rw [if_neg hlt, h5]
      refine ⟨rfl, ?_⟩
      have : ¬ i < m := fun h => by have := h4 i h; rw [ui] at this; cases this
      simp; omega
    · have := h1 i hi'
      rw [ui] at this
      cases this
  · unfold maskG; rw [if_pos g]
  · unfold maskG; rw [if_pos g0]
end Go.Proofs.Ytcaipfdnadlkdaa
