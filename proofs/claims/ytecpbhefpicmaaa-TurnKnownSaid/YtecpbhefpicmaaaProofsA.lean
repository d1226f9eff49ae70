/- TurnKnown and TurnSays, proved. No condition. -/
import Derived.Test.YtecpbhefpicmaaaHead
import Derived.Test.YtecpbhefpicmaaaWalks5
namespace Go.Proofs.Ytecpbhefpicmaaa
open Go.ChangeShapes Go.WideShapes Go.ChangeAt Go.RowKit
set_option linter.unusedVariables false
set_option linter.unusedSimpArgs false

set_option maxRecDepth 100000 in
theorem turnKnown_lifted (os : Os) (started : os.Started) (H : Type) (enc : TypeId × Value → H) :
    ReturnsInHanded {} Try.checked os 3 .any (Rows.turnKnownSpec.pre6 enc Try.prog Try.f3 Rows.turnKnownRow.domain false) (Rows.turnKnownSpec.post enc Try.prog Try.f3 false true false false) := by
  refine returnsInHanded_of_change (C := Try.checked) Try.own started (by kernel_rfl) Try.func3
    (ChangeSpec.witness6 (enc := enc) (C := Try.checked) false ⟨#[], #[], []⟩ 8 (by kernel_rfl) (by kernel_rfl) (by kernel_rfl) (by kernel_rfl)) ?_
  intro W base args ds gs before hval0 hW _ _
  have hval : ∀ (j : Nat) t v, Try.f3.params[j]? = some t → args[j]? = some v → Value.okWide Try.prog W .any base t v := hval0
  clear hval0
  obtain ⟨p, q, hA0, hV, _, hfz, _⟩ := id hW
  have hA : DataW.TrodAll enc Try.prog W 0 (fun _ => true) true Try.f3.params.toList args.toList ds p := hA0
  rw [Try.params3] at hA hval
  obtain ⟨rfl, rfl, rfl⟩ := trodAll_none hA
  obtain ⟨rfl, rfl⟩ := trodVars_none hV
  clear hA hA0
  refine (known_any W).mono fun e W' ⟨he, hw⟩ => ?_
  subst he
  exact ⟨_, rfl, Frame.law_post hW rfl Try.laidOut (by kernel_rfl) rfl Try.underlying4 rfl rfl rfl hw⟩

theorem turnKnown_holds : Rows.TurnKnownSaid :=
  OpenClaim.holds_of_wide 3 Try.f3 rfl rfl rfl rfl rfl rfl rfl ⟨rfl, rfl, rfl, rfl, rfl⟩ rfl rfl rfl rfl rfl (by kernel_rfl) Try.func3 (by kernel_rfl)
    (of_decide_eq_true (by kernel_rfl)) (by unfold Func.isWrapper; first | (rw [if_pos (by decide +kernel)]; kernel_rfl) | (rw [if_neg (by decide +kernel)]; exact ⟨rfl, rfl⟩))
    (fun os started H enc _ => turnKnown_lifted os started H enc)

set_option maxRecDepth 100000 in
theorem turnSays_lifted (os : Os) (started : os.Started) (H : Type) (enc : TypeId × Value → H) :
    ReturnsInHanded {} Try.checked os 4 .any (Rows.turnSaysSpec.pre6 enc Try.prog Try.f4 Rows.turnSaysRow.domain false) (Rows.turnSaysSpec.post enc Try.prog Try.f4 false true false false) := by
  refine returnsInHanded_of_change (C := Try.checked) Try.own started (by kernel_rfl) Try.func4
    (ChangeSpec.witness6 (enc := enc) (C := Try.checked) false ⟨#[], #[Value.agg #[.bool false, .int .u16 0, .int .u32 0, .int .u32 0, .int .u16 0, .int .u16 0, .int .i64 0], Value.int .u32 0, Value.int .u16 0, Value.int .i64 0], []⟩ 8 (by kernel_rfl) (by kernel_rfl) (by kernel_rfl) (by kernel_rfl)) ?_
  intro W base args ds gs before hval0 hW _ _
  have hval : ∀ (j : Nat) t v, Try.f4.params[j]? = some t → args[j]? = some v → Value.okWide Try.prog W .any base t v := hval0
  clear hval0
  obtain ⟨p, q, hA0, hV, _, hfz, _⟩ := id hW
  have hA : DataW.TrodAll enc Try.prog W 0 (fun _ => true) true Try.f4.params.toList args.toList ds p := hA0
  rw [Try.params4] at hA hval
  obtain ⟨v0, vs0, d0, ds0, p0, q0, hargs, rfl, rfl, h0, r0⟩ := trodAll_cons hA
  obtain ⟨v1, vs1, d1, ds1, p1, q1, rfl, rfl, rfl, h1, r1⟩ := trodAll_cons r0
  obtain ⟨v2, vs2, d2, ds2, p2, q2, rfl, rfl, rfl, h2, r2⟩ := trodAll_cons r1
  obtain ⟨v3, vs3, d3, ds3, p3, q3, rfl, rfl, rfl, h3, r3⟩ := trodAll_cons r2
  obtain ⟨rfl, rfl, rfl⟩ := trodAll_nil r3
  obtain rfl : args = #[v0, v1, v2, v3] := by cases args; simp_all
  obtain ⟨rfl, rfl⟩ := trodVars_none hV
  obtain ⟨cs0_0, rfl, k0_0⟩ := Args.open_value (ts := [4, 23, 24, 24, 23, 23, 2]) (by kernel_rfl) (by kernel_rfl) (.inl ⟨_, Try.underlying26⟩) (hval 0 26 v0 rfl rfl)
  obtain ⟨c0_0, cs0_1, rfl, m0_0, k0_1⟩ := Args.ok_cons k0_0
  obtain ⟨x0_0, rfl⟩ := Args.cell_bool Try.underlying4 m0_0
  obtain ⟨c0_1, cs0_2, rfl, m0_1, k0_2⟩ := Args.ok_cons k0_1
  obtain ⟨x0_1, rfl, b0_1⟩ := Args.cell_int Try.underlying23 m0_1
  obtain ⟨c0_2, cs0_3, rfl, m0_2, k0_3⟩ := Args.ok_cons k0_2
  obtain ⟨x0_2, rfl, b0_2⟩ := Args.cell_int Try.underlying24 m0_2
  obtain ⟨c0_3, cs0_4, rfl, m0_3, k0_4⟩ := Args.ok_cons k0_3
  obtain ⟨x0_3, rfl, b0_3⟩ := Args.cell_int Try.underlying24 m0_3
  obtain ⟨c0_4, cs0_5, rfl, m0_4, k0_5⟩ := Args.ok_cons k0_4
  obtain ⟨x0_4, rfl, b0_4⟩ := Args.cell_int Try.underlying23 m0_4
  obtain ⟨c0_5, cs0_6, rfl, m0_5, k0_6⟩ := Args.ok_cons k0_5
  obtain ⟨x0_5, rfl, b0_5⟩ := Args.cell_int Try.underlying23 m0_5
  obtain ⟨c0_6, cs0_7, rfl, m0_6, k0_7⟩ := Args.ok_cons k0_6
  obtain ⟨x0_6, rfl, b0_6⟩ := Args.cell_int Try.underlying2 m0_6
  obtain rfl := Args.ok_nil k0_7
  obtain ⟨a1, rfl, rfl, rfl, w1⟩ := open_int Try.underlying24 (hval 1 24 v1 rfl rfl) h1
  obtain ⟨a2, rfl, rfl, rfl, w2⟩ := open_int Try.underlying23 (hval 2 23 v2 rfl rfl) h2
  obtain ⟨a3, rfl, rfl, rfl, w3⟩ := open_int Try.underlying2 (hval 3 2 v3 rfl rfl) h3
  clear hA hA0
  refine (says_any x0_0 x0_1 x0_2 x0_3 x0_4 x0_5 x0_6 a1 a2 a3 W (has_u16 b0_1).1 (has_u16 b0_1).2 (has_u32 b0_2).1 (has_u32 b0_2).2 (has_u32 b0_3).1 (has_u32 b0_3).2 (has_u16 b0_4).1 (has_u16 b0_4).2 (has_u16 b0_5).1 (has_u16 b0_5).2 (bounds_u32 w1).1 (bounds_u32 w1).2 (bounds_u16 w2).1 (bounds_u16 w2).2).mono fun e W' ⟨he, hw⟩ => ?_
  subst he
  exact ⟨_, rfl, Frame.law_post hW rfl Try.laidOut (by kernel_rfl) rfl Try.underlying4 rfl rfl rfl hw⟩

theorem turnSays_holds : Rows.TurnSaysSaid :=
  OpenClaim.holds_of_wide 4 Try.f4 rfl rfl rfl rfl rfl rfl rfl ⟨rfl, rfl, rfl, rfl, rfl⟩ rfl rfl rfl rfl rfl (by kernel_rfl) Try.func4 (by kernel_rfl)
    (of_decide_eq_true (by kernel_rfl)) (by unfold Func.isWrapper; first | (rw [if_pos (by decide +kernel)]; kernel_rfl) | (rw [if_neg (by decide +kernel)]; exact ⟨rfl, rfl⟩))
    (fun os started H enc _ => turnSays_lifted os started H enc)

end Go.Proofs.Ytecpbhefpicmaaa
