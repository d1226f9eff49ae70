/- What the document tells of slots, reckoned; the closed statement. No condition. -/
import Derived.Test.YtcaipfdnadlkdaaSxSl10
import Derived.Test.YtcaipfdnadlkdaaSxM
namespace Go.Proofs.Ytcaipfdnadlkdaa.Sx
open Go Go.RowKit
set_option linter.unusedVariables false
set_option linter.unusedSimpArgs false
def awakeC : Con0 := { pat := [], out := fun _ => .ret (one (.tru true)) }
def envK : List (FuncId × Spec) := [(29, freeC.lit.spec), (30, takeC.lit.spec), (31, goodTC.lit.spec), (32, findGC.lit.spec), (33, firstGC.lit.spec), (34, maskGC.lit.spec)]
def envK2 : List (FuncId × Spec) := (28, awakeC.spec) :: envK
def knownC : Con0 := { pat := [], out := fun _ => .ret (one (.tru true)) }

set_option maxRecDepth 100000 in
theorem envK_ok : EnvOk Try.prog (envL envK) := envL_cons ⟨_, Try.func29, rfl, by kernel_rfl⟩ (Con0.lit_ok freeG_ok) (envL_cons ⟨_, Try.func30, rfl, by kernel_rfl⟩ (Con0.lit_ok takeG_ok) (envL_cons ⟨_, Try.func31, rfl, by kernel_rfl⟩ (Con0.lit_ok goodT_ok) (envL_cons ⟨_, Try.func32, rfl, by kernel_rfl⟩ (Con0.lit_ok findG_ok) (envL_cons ⟨_, Try.func33, rfl, by kernel_rfl⟩ (Con0.lit_ok firstG_ok) (envL_cons ⟨_, Try.func34, rfl, by kernel_rfl⟩ (Con0.lit_ok maskG_ok) (envL_nil _))))))
set_option maxRecDepth 100000 in
set_option maxHeartbeats 8000000 in
theorem awakeS_vc : awakeC.vc Try.prog (envL envK) noCtl Try.f28 [] := of_eq (b := true = true) (by kernel_rfl) rfl
set_option maxRecDepth 100000 in
theorem awakeS_ok : SpecOk Try.prog 28 awakeC.spec := awakeC.ok envK_ok mixed (C := noCtl) Try.func28 rfl fun L h _ => by
  obtain rfl := fit_nil h
  exact awakeS_vc
set_option maxRecDepth 100000 in
theorem envK2_ok : EnvOk Try.prog (envL envK2) := envL_cons ⟨_, Try.func28, rfl, by kernel_rfl⟩ awakeS_ok envK_ok
set_option maxRecDepth 100000 in
set_option maxHeartbeats 8000000 in
theorem knownS_vc : knownC.vc Try.prog (envL envK2) ctlU Try.f8 [] := of_eq (b := (true = true ∧ true = true ∧ true = true ∧ true = true ∧ true = true ∧ true = true ∧ true = true ∧ true = true ∧ (10 : Int) = (10 : Int) ∧ (11 : Int) = (11 : Int) ∧ (12 : Int) = (12 : Int) ∧ (13 : Int) = (13 : Int) ∧ (14 : Int) = (14 : Int) ∧ (15 : Int) = (15 : Int) ∧ (16 : Int) = (16 : Int) ∧ (17 : Int) = (17 : Int) → (true = true ∧ true = true ∧ true = true ∧ true = true ∧ true = true ∧ true = true ∧ true = true ∧ true = true ∧ (10 : Int) = (10 : Int) ∧ (11 : Int) = (11 : Int) ∧ (12 : Int) = (12 : Int) ∧ (13 : Int) = (13 : Int) ∧ (14 : Int) = (14 : Int) ∧ (15 : Int) = (15 : Int) ∧ (16 : Int) = (16 : Int) ∧ (17 : Int) = (17 : Int) → (false = false ∧ false = false ∧ false = false ∧ false = false ∧ false = false ∧ false = false ∧ false = false ∧ false = false ∧ (1 : Int) = (1 : Int) ∧ (0 : Int) = (0 : Int) ∧ (0 : Int) = (0 : Int) ∧ (0 : Int) = (0 : Int) ∧ (0 : Int) = (0 : Int) ∧ (0 : Int) = (0 : Int) ∧ (0 : Int) = (0 : Int) ∧ (0 : Int) = (0 : Int) → true = true) ∧ (¬(false = false ∧ false = false ∧ false = false ∧ false = false ∧ false = false ∧ false = false ∧ false = false ∧ false = false ∧ (1 : Int) = (1 : Int) ∧ (0 : Int) = (0 : Int) ∧ (0 : Int) = (0 : Int) ∧ (0 : Int) = (0 : Int) ∧ (0 : Int) = (0 : Int) ∧ (0 : Int) = (0 : Int) ∧ (0 : Int) = (0 : Int) ∧ (0 : Int) = (0 : Int)) → false = true)) ∧ (¬(true = true ∧ true = true ∧ true = true ∧ true = true ∧ true = true ∧ true = true ∧ true = true ∧ true = true ∧ (10 : Int) = (10 : Int) ∧ (11 : Int) = (11 : Int) ∧ (12 : Int) = (12 : Int) ∧ (13 : Int) = (13 : Int) ∧ (14 : Int) = (14 : Int) ∧ (15 : Int) = (15 : Int) ∧ (16 : Int) = (16 : Int) ∧ (17 : Int) = (17 : Int)) → false = true)) ∧ (¬(true = true ∧ true = true ∧ true = true ∧ true = true ∧ true = true ∧ true = true ∧ true = true ∧ true = true ∧ (10 : Int) = (10 : Int) ∧ (11 : Int) = (11 : Int) ∧ (12 : Int) = (12 : Int) ∧ (13 : Int) = (13 : Int) ∧ (14 : Int) = (14 : Int) ∧ (15 : Int) = (15 : Int) ∧ (16 : Int) = (16 : Int) ∧ (17 : Int) = (17 : Int)) → false = true)) (by kernel_rfl) (by simp)
set_option maxRecDepth 100000 in
theorem knownS_calls (w : World) : Calls Try.prog 8 #[] w fun x w' => x = .returned (.bool true) ∧ Below w.heap.size w w' :=
  (Con0.calls envK2_ok mixed Try.func8 rfl knownC (L := []) knownS_vc (vals := []) (w := w) trivial).mono fun e w' he => by
    obtain ⟨v, r, rfl, g1, g2, g3⟩ := he
    cases g1
    exact ⟨by rw [show v = Value.bool true from g2], g3⟩
end Go.Proofs.Ytcaipfdnadlkdaa.Sx
