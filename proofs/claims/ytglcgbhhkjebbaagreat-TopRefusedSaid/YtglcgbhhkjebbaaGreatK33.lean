/- A part of the proof: lemmas. No condition of its own. -/
import Derived.Test.YtglcgbhhkjebbaaGreatK31
set_option linter.unusedVariables false
set_option linter.unusedSimpArgs false
namespace VtTop
open Go Zx Vx
noncomputable section
set_option maxRecDepth 1000000
theorem okD6_2_0 : ∃ c,bodyAt P 6 p15_6 = some c /\ PCok P c pcD6_2_0:=pcT_ok eD6 mixed (C:=clD6) pcs6 (by kernel_rfl)
theorem okD6_2_1 : ∃ c,bodyAt P 6 p15_6 = some c /\ PCok P c pcD6_2_1:=pcT_ok eD6 mixed (C:=clD6) pcs6 (by kernel_rfl)
theorem okD6_2_2 : ∃ c,bodyAt P 6 p15_6 = some c /\ PCok P c pcD6_2_2:=pcT_ok eD6 mixed (C:=clD6) pcs6 (by kernel_rfl)
theorem okD6_2_3 : ∃ c,bodyAt P 6 p15_6 = some c /\ PCok P c pcD6_2_3:=pcT_ok eD6 mixed (C:=clD6) pcs6 (by kernel_rfl)
theorem okD6_2_4 : ∃ c,bodyAt P 6 p15_6 = some c /\ PCok P c pcD6_2_4:=pcT_ok eD6 mixed (C:=clD6) pcs6 (by kernel_rfl)
end
end VtTop
