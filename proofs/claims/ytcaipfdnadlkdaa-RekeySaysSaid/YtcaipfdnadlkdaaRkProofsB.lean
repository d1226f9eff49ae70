/- RekeySays, proved. No condition. -/
import Derived.Test.YtcaipfdnadlkdaaHead
import Derived.Test.YtcaipfdnadlkdaaRk11
namespace Go.Proofs.Ytcaipfdnadlkdaa
open Go.ChangeShapes Go.WideShapes Go.ChangeAt Go.RowKit
set_option linter.unusedVariables false
set_option linter.unusedSimpArgs false

set_option maxRecDepth 100000 in
theorem rekeySays_lifted (os : Os) (started : os.Started) (H : Type) (enc : TypeId × Value → H) :
    ReturnsInHanded {} Try.checked os 6 .any (Rows.rekeySaysSpec.pre6 enc Try.prog Try.f6 Rows.rekeySaysRow.domain false) (Rows.rekeySaysSpec.post enc Try.prog Try.f6 false true false false) := by
  refine returnsInHanded_of_change (C := Try.checked) Try.own started (by kernel_rfl) Try.func6
    (ChangeSpec.witness6 (enc := enc) (C := Try.checked) false ⟨#[], #[Value.agg #[.int .i64 0, .bool false, .int .i64 0, .int .i64 0, .int .i64 0, .int .i64 0], Value.int .i64 0, Value.int .i64 0, Value.int .i64 0, Value.int .i64 0], []⟩ 8 (by kernel_rfl) (by kernel_rfl) (by kernel_rfl) (by kernel_rfl)) ?_
  intro W base args ds gs before hval0 hW _ _
  have hval : ∀ (j : Nat) t v, Try.f6.params[j]? = some t → args[j]? = some v → Value.okWide Try.prog W .any base t v := hval0
  clear hval0
  obtain ⟨p, q, hA0, hV, _, hfz, _⟩ := id hW
  have hA : DataW.TrodAll enc Try.prog W 0 (fun _ => true) true Try.f6.params.toList args.toList ds p := hA0
  rw [Try.params6] at hA hval
  obtain ⟨v0, vs0, d0, ds0, p0, q0, hargs, rfl, rfl, h0, r0⟩ := trodAll_cons hA
  obtain ⟨v1, vs1, d1, ds1, p1, q1, rfl, rfl, rfl, h1, r1⟩ := trodAll_cons r0
  obtain ⟨v2, vs2, d2, ds2, p2, q2, rfl, rfl, rfl, h2, r2⟩ := trodAll_cons r1
  obtain ⟨v3, vs3, d3, ds3, p3, q3, rfl, rfl, rfl, h3, r3⟩ := trodAll_cons r2
  obtain ⟨v4, vs4, d4, ds4, p4, q4, rfl, rfl, rfl, h4, r4⟩ := trodAll_cons r3
  obtain ⟨rfl, rfl, rfl⟩ := trodAll_nil r4
  obtain rfl : args = #[v0, v1, v2, v3, v4] := by cases args; simp_all
  obtain ⟨rfl, rfl⟩ := trodVars_none hV
  obtain ⟨cs0_0, rfl, k0_0⟩ := Args.open_value (ts := [3, 4, 3, 3, 3, 2]) (by kernel_rfl) (by kernel_rfl) (.inl ⟨_, Try.underlying25⟩) (hval 0 25 v0 rfl rfl)
  obtain ⟨c0_0, cs0_1, rfl, m0_0, k0_1⟩ := Args.ok_cons k0_0
  obtain ⟨x0_0, rfl, b0_0⟩ := Args.cell_int Try.underlying3 m0_0
  obtain ⟨c0_1, cs0_2, rfl, m0_1, k0_2⟩ := Args.ok_cons k0_1
  obtain ⟨x0_1, rfl⟩ := Args.cell_bool Try.underlying4 m0_1
  obtain ⟨c0_2, cs0_3, rfl, m0_2, k0_3⟩ := Args.ok_cons k0_2
  obtain ⟨x0_2, rfl, b0_2⟩ := Args.cell_int Try.underlying3 m0_2
  obtain ⟨c0_3, cs0_4, rfl, m0_3, k0_4⟩ := Args.ok_cons k0_3
  obtain ⟨x0_3, rfl, b0_3⟩ := Args.cell_int Try.underlying3 m0_3
  obtain ⟨c0_4, cs0_5, rfl, m0_4, k0_5⟩ := Args.ok_cons k0_4
  obtain ⟨x0_4, rfl, b0_4⟩ := Args.cell_int Try.underlying3 m0_4
  obtain ⟨c0_5, cs0_6, rfl, m0_5, k0_6⟩ := Args.ok_cons k0_5
  obtain ⟨x0_5, rfl, b0_5⟩ := Args.cell_int Try.underlying2 m0_5
  obtain rfl := Args.ok_nil k0_6
  obtain ⟨a1, rfl, rfl, rfl, w1⟩ := open_int Try.underlying3 (hval 1 3 v1 rfl rfl) h1
  obtain ⟨a2, rfl, rfl, rfl, w2⟩ := open_int Try.underlying2 (hval 2 2 v2 rfl rfl) h2
  obtain ⟨a3, rfl, rfl, rfl, w3⟩ := open_int Try.underlying3 (hval 3 3 v3 rfl rfl) h3
  obtain ⟨a4, rfl, rfl, rfl, w4⟩ := open_int Try.underlying3 (hval 4 3 v4 rfl rfl) h4
  clear hA hA0
  refine (says_any x0_0 x0_1 x0_2 x0_3 x0_4 x0_5 a1 a2 a3 a4 W (has_i64 b0_4).1 (has_i64 b0_4).2).mono fun e W' ⟨he, hw⟩ => ?_
  subst he
  exact ⟨_, rfl, Frame.law_post hW rfl Try.laidOut (by kernel_rfl) rfl Try.underlying4 rfl rfl rfl hw⟩

theorem rekeySays_holds : Rows.RekeySaysSaid :=
  OpenClaim.holds_of_wide 6 Try.f6 rfl rfl rfl rfl rfl rfl rfl ⟨rfl, rfl, rfl, rfl, rfl⟩ rfl rfl rfl rfl rfl (by kernel_rfl) Try.func6 (by kernel_rfl)
    (of_decide_eq_true (by kernel_rfl)) (by unfold Func.isWrapper; first | (rw [if_pos (by decide +kernel)]; kernel_rfl) | (rw [if_neg (by decide +kernel)]; exact ⟨rfl, rfl⟩))
    (fun os started H enc _ => rekeySays_lifted os started H enc)

end Go.Proofs.Ytcaipfdnadlkdaa
