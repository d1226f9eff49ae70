/- A part of the proof: lemmas. No condition of its own. -/
import Derived.Test.YtglcgbhhkjebbaaGreatK32
import Derived.Test.YtglcgbhhkjebbaaGreatK33
set_option linter.unusedVariables false
set_option linter.unusedSimpArgs false
namespace VtTop
open Go Zx Vx
noncomputable section
set_option maxRecDepth 1000000
theorem ok6 : TCok P 6 tc6:=tcT_pcs (envL_cons ok8 (envL_cons ok9 (envL_cons ok10 (envL_cons ok12q (envL_cons ok14_0 (envL_cons ok14_1 (envL_cons ok14_2 (envL_cons ok14_3 (envL_nil _))))))))) mixed (C:=cl6) (fun e he=>by
 simp only [cl6,List.mem_cons,List.not_mem_nil,or_false] at he
 rcases he with rfl | rfl | rfl | rfl | rfl | rfl | rfl | rfl | rfl | rfl | rfl | rfl | rfl | rfl | rfl
 ·exact okD6_1_0
 ·exact okD6_1_1
 ·exact okD6_1_2
 ·exact okD6_1_3
 ·exact okD6_1_4
 ·exact okD6_2_0
 ·exact okD6_2_1
 ·exact okD6_2_2
 ·exact okD6_2_3
 ·exact okD6_2_4
 ·exact okD6_3
 ·exact okD6_4
 ·exact okD6_5
 ·exact okD6_0
 ·exact okD6_6) (by kernel_rfl)
end
end VtTop
