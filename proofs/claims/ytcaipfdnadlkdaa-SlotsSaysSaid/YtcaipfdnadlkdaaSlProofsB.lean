/- SlotsSays and SlotsBack, proved. No condition. -/
import Derived.Test.YtcaipfdnadlkdaaHead
import Derived.Test.YtcaipfdnadlkdaaSxSl12
namespace Go.Proofs.Ytcaipfdnadlkdaa
open Go.ChangeShapes Go.WideShapes Go.ChangeAt Go.RowKit
set_option linter.unusedVariables false
set_option linter.unusedSimpArgs false

set_option maxRecDepth 100000 in
theorem saysS_calls (b0 b1 b2 b3 b4 b5 b6 b7 : Bool) (a0 a1 a2 a3 a4 a5 a6 a7 x y : Int) (w : World) : Calls Try.prog 9 #[.agg #[.bool b0, .bool b1, .bool b2, .bool b3, .bool b4, .bool b5, .bool b6, .bool b7, .int .i64 a0, .int .i64 a1, .int .i64 a2, .int .i64 a3, .int .i64 a4, .int .i64 a5, .int .i64 a6, .int .i64 a7], .int .i64 x, .int .i64 y] w fun x w' => x = .returned (.bool true) ∧ Below w.heap.size w w' :=
  (Sx.Con0.calls Sx.envS_ok Sx.mixed Try.func9 rfl Sx.lawC (L := [.B b0, .B b1, .B b2, .B b3, .B b4, .B b5, .B b6, .B b7, .I a0, .I a1, .I a2, .I a3, .I a4, .I a5, .I a6, .I a7, .I x, .I y]) (Sx.saysS_vc b0 b1 b2 b3 b4 b5 b6 b7 a0 a1 a2 a3 a4 a5 a6 a7 x y) (vals := [.agg #[.bool b0, .bool b1, .bool b2, .bool b3, .bool b4, .bool b5, .bool b6, .bool b7, .int .i64 a0, .int .i64 a1, .int .i64 a2, .int .i64 a3, .int .i64 a4, .int .i64 a5, .int .i64 a6, .int .i64 a7], .int .i64 x, .int .i64 y]) (w := w) ⟨⟨[.bool b0, .bool b1, .bool b2, .bool b3, .bool b4, .bool b5, .bool b6, .bool b7, .int .i64 a0, .int .i64 a1, .int .i64 a2, .int .i64 a3, .int .i64 a4, .int .i64 a5, .int .i64 a6, .int .i64 a7], rfl, rfl, rfl, rfl, rfl, rfl, rfl, rfl, rfl, rfl, rfl, rfl, rfl, rfl, rfl, rfl, rfl, trivial⟩, rfl, rfl, trivial⟩).mono fun e w' he => by
    obtain ⟨v, r, rfl, g1, g2, g3⟩ := he
    cases g1
    exact ⟨by rw [show v = Value.bool true from g2], g3⟩
set_option maxRecDepth 100000 in
theorem slotsSays_lifted (os : Os) (started : os.Started) (H : Type) (enc : TypeId × Value → H) :
    ReturnsInHanded {} Try.checked os 9 .any (Rows.slotsSaysSpec.pre6 enc Try.prog Try.f9 Rows.slotsSaysRow.domain false) (Rows.slotsSaysSpec.post enc Try.prog Try.f9 false true false false) := by
  refine returnsInHanded_of_change (C := Try.checked) Try.own started (by kernel_rfl) Try.func9
    (ChangeSpec.witness6 (enc := enc) (C := Try.checked) false ⟨#[], #[Value.agg #[.bool false, .bool false, .bool false, .bool false, .bool false, .bool false, .bool false, .bool false, .int .i64 0, .int .i64 0, .int .i64 0, .int .i64 0, .int .i64 0, .int .i64 0, .int .i64 0, .int .i64 0], Value.int .i64 0, Value.int .i64 0], []⟩ 8 (by kernel_rfl) (by kernel_rfl) (by kernel_rfl) (by kernel_rfl)) ?_
  intro W base args ds gs before hval0 hW _ _
  have hval : ∀ (j : Nat) t v, Try.f9.params[j]? = some t → args[j]? = some v → Value.okWide Try.prog W .any base t v := hval0
  clear hval0
  obtain ⟨p, q, hA0, hV, _, hfz, _⟩ := id hW
  have hA : DataW.TrodAll enc Try.prog W 0 (fun _ => true) true Try.f9.params.toList args.toList ds p := hA0
  rw [Try.params9] at hA hval
  obtain ⟨v0, vs0, d0, ds0, p0, q0, hargs, rfl, rfl, h0, r0⟩ := trodAll_cons hA
  obtain ⟨v1, vs1, d1, ds1, p1, q1, rfl, rfl, rfl, h1, r1⟩ := trodAll_cons r0
  obtain ⟨v2, vs2, d2, ds2, p2, q2, rfl, rfl, rfl, h2, r2⟩ := trodAll_cons r1
  obtain ⟨rfl, rfl, rfl⟩ := trodAll_nil r2
  obtain rfl : args = #[v0, v1, v2] := by cases args; simp_all
  obtain ⟨rfl, rfl⟩ := trodVars_none hV
  obtain ⟨cs0_0, rfl, k0_0⟩ := Args.open_value (ts := [4, 4, 4, 4, 4, 4, 4, 4, 3, 3, 3, 3, 3, 3, 3, 3]) (by kernel_rfl) (by kernel_rfl) (.inl ⟨_, Try.underlying56⟩) (hval 0 56 v0 rfl rfl)
  obtain ⟨c0_0, cs0_1, rfl, m0_0, k0_1⟩ := Args.ok_cons k0_0
  obtain ⟨x0_0, rfl⟩ := Args.cell_bool Try.underlying4 m0_0
  obtain ⟨c0_1, cs0_2, rfl, m0_1, k0_2⟩ := Args.ok_cons k0_1
  obtain ⟨x0_1, rfl⟩ := Args.cell_bool Try.underlying4 m0_1
  obtain ⟨c0_2, cs0_3, rfl, m0_2, k0_3⟩ := Args.ok_cons k0_2
  obtain ⟨x0_2, rfl⟩ := Args.cell_bool Try.underlying4 m0_2
  obtain ⟨c0_3, cs0_4, rfl, m0_3, k0_4⟩ := Args.ok_cons k0_3
  obtain ⟨x0_3, rfl⟩ := Args.cell_bool Try.underlying4 m0_3
  obtain ⟨c0_4, cs0_5, rfl, m0_4, k0_5⟩ := Args.ok_cons k0_4
  obtain ⟨x0_4, rfl⟩ := Args.cell_bool Try.underlying4 m0_4
  obtain ⟨c0_5, cs0_6, rfl, m0_5, k0_6⟩ := Args.ok_cons k0_5
  obtain ⟨x0_5, rfl⟩ := Args.cell_bool Try.underlying4 m0_5
  obtain ⟨c0_6, cs0_7, rfl, m0_6, k0_7⟩ := Args.ok_cons k0_6
  obtain ⟨x0_6, rfl⟩ := Args.cell_bool Try.underlying4 m0_6
  obtain ⟨c0_7, cs0_8, rfl, m0_7, k0_8⟩ := Args.ok_cons k0_7
  obtain ⟨x0_7, rfl⟩ := Args.cell_bool Try.underlying4 m0_7
  obtain ⟨c0_8, cs0_9, rfl, m0_8, k0_9⟩ := Args.ok_cons k0_8
  obtain ⟨x0_8, rfl, b0_8⟩ := Args.cell_int Try.underlying3 m0_8
  obtain ⟨c0_9, cs0_10, rfl, m0_9, k0_10⟩ := Args.ok_cons k0_9
  obtain ⟨x0_9, rfl, b0_9⟩ := Args.cell_int Try.underlying3 m0_9
  obtain ⟨c0_10, cs0_11, rfl, m0_10, k0_11⟩ := Args.ok_cons k0_10
  obtain ⟨x0_10, rfl, b0_10⟩ := Args.cell_int Try.underlying3 m0_10
  obtain ⟨c0_11, cs0_12, rfl, m0_11, k0_12⟩ := Args.ok_cons k0_11
  obtain ⟨x0_11, rfl, b0_11⟩ := Args.cell_int Try.underlying3 m0_11
  obtain ⟨c0_12, cs0_13, rfl, m0_12, k0_13⟩ := Args.ok_cons k0_12
  obtain ⟨x0_12, rfl, b0_12⟩ := Args.cell_int Try.underlying3 m0_12
  obtain ⟨c0_13, cs0_14, rfl, m0_13, k0_14⟩ := Args.ok_cons k0_13
  obtain ⟨x0_13, rfl, b0_13⟩ := Args.cell_int Try.underlying3 m0_13
  obtain ⟨c0_14, cs0_15, rfl, m0_14, k0_15⟩ := Args.ok_cons k0_14
  obtain ⟨x0_14, rfl, b0_14⟩ := Args.cell_int Try.underlying3 m0_14
  obtain ⟨c0_15, cs0_16, rfl, m0_15, k0_16⟩ := Args.ok_cons k0_15
  obtain ⟨x0_15, rfl, b0_15⟩ := Args.cell_int Try.underlying3 m0_15
  obtain rfl := Args.ok_nil k0_16
  obtain ⟨a1, rfl, rfl, rfl, w1⟩ := open_int Try.underlying3 (hval 1 3 v1 rfl rfl) h1
  obtain ⟨a2, rfl, rfl, rfl, w2⟩ := open_int Try.underlying3 (hval 2 3 v2 rfl rfl) h2
  clear hA hA0
  refine (saysS_calls x0_0 x0_1 x0_2 x0_3 x0_4 x0_5 x0_6 x0_7 x0_8 x0_9 x0_10 x0_11 x0_12 x0_13 x0_14 x0_15 a1 a2 W).mono fun e W' ⟨he, hw⟩ => ?_
  subst he
  exact ⟨_, rfl, Frame.law_post hW rfl Try.laidOut (by kernel_rfl) rfl Try.underlying4 rfl rfl rfl hw⟩

theorem slotsSays_holds : Rows.SlotsSaysSaid :=
  OpenClaim.holds_of_wide 9 Try.f9 rfl rfl rfl rfl rfl rfl rfl ⟨rfl, rfl, rfl, rfl, rfl⟩ rfl rfl rfl rfl rfl (by kernel_rfl) Try.func9 (by kernel_rfl)
    (of_decide_eq_true (by kernel_rfl)) (by unfold Func.isWrapper; first | (rw [if_pos (by decide +kernel)]; kernel_rfl) | (rw [if_neg (by decide +kernel)]; exact ⟨rfl, rfl⟩))
    (fun os started H enc _ => slotsSays_lifted os started H enc)
set_option maxRecDepth 100000 in
theorem backS_calls (b0 b1 b2 b3 b4 b5 b6 b7 : Bool) (a0 a1 a2 a3 a4 a5 a6 a7 x : Int) (w : World) : Calls Try.prog 10 #[.agg #[.bool b0, .bool b1, .bool b2, .bool b3, .bool b4, .bool b5, .bool b6, .bool b7, .int .i64 a0, .int .i64 a1, .int .i64 a2, .int .i64 a3, .int .i64 a4, .int .i64 a5, .int .i64 a6, .int .i64 a7], .int .i64 x] w fun x w' => x = .returned (.bool true) ∧ Below w.heap.size w w' :=
  (Sx.Con0.calls Sx.envS_ok Sx.mixed Try.func10 rfl Sx.lawC2 (L := [.B b0, .B b1, .B b2, .B b3, .B b4, .B b5, .B b6, .B b7, .I a0, .I a1, .I a2, .I a3, .I a4, .I a5, .I a6, .I a7, .I x]) (Sx.backS_vc b0 b1 b2 b3 b4 b5 b6 b7 a0 a1 a2 a3 a4 a5 a6 a7 x) (vals := [.agg #[.bool b0, .bool b1, .bool b2, .bool b3, .bool b4, .bool b5, .bool b6, .bool b7, .int .i64 a0, .int .i64 a1, .int .i64 a2, .int .i64 a3, .int .i64 a4, .int .i64 a5, .int .i64 a6, .int .i64 a7], .int .i64 x]) (w := w) ⟨⟨[.bool b0, .bool b1, .bool b2, .bool b3, .bool b4, .bool b5, .bool b6, .bool b7, .int .i64 a0, .int .i64 a1, .int .i64 a2, .int .i64 a3, .int .i64 a4, .int .i64 a5, .int .i64 a6, .int .i64 a7], rfl, rfl, rfl, rfl, rfl, rfl, rfl, rfl, rfl, rfl, rfl, rfl, rfl, rfl, rfl, rfl, rfl, trivial⟩, rfl, trivial⟩).mono fun e w' he => by
    obtain ⟨v, r, rfl, g1, g2, g3⟩ := he
    cases g1
    exact ⟨by rw [show v = Value.bool true from g2], g3⟩
set_option maxRecDepth 100000 in
theorem slotsBack_lifted (os : Os) (started : os.Started) (H : Type) (enc : TypeId × Value → H) :
    ReturnsInHanded {} Try.checked os 10 .any (Rows.slotsBackSpec.pre6 enc Try.prog Try.f10 Rows.slotsBackRow.domain false) (Rows.slotsBackSpec.post enc Try.prog Try.f10 false true false false) := by
  refine returnsInHanded_of_change (C := Try.checked) Try.own started (by kernel_rfl) Try.func10
    (ChangeSpec.witness6 (enc := enc) (C := Try.checked) false ⟨#[], #[Value.agg #[.bool false, .bool false, .bool false, .bool false, .bool false, .bool false, .bool false, .bool false, .int .i64 0, .int .i64 0, .int .i64 0, .int .i64 0, .int .i64 0, .int .i64 0, .int .i64 0, .int .i64 0], Value.int .i64 0], []⟩ 8 (by kernel_rfl) (by kernel_rfl) (by kernel_rfl) (by kernel_rfl)) ?_
  intro W base args ds gs before hval0 hW _ _
  have hval : ∀ (j : Nat) t v, Try.f10.params[j]? = some t → args[j]? = some v → Value.okWide Try.prog W .any base t v := hval0
  clear hval0
  obtain ⟨p, q, hA0, hV, _, hfz, _⟩ := id hW
  have hA : DataW.TrodAll enc Try.prog W 0 (fun _ => true) true Try.f10.params.toList args.toList ds p := hA0
  rw [Try.params10] at hA hval
  obtain ⟨v0, vs0, d0, ds0, p0, q0, hargs, rfl, rfl, h0, r0⟩ := trodAll_cons hA
  obtain ⟨v1, vs1, d1, ds1, p1, q1, rfl, rfl, rfl, h1, r1⟩ := trodAll_cons r0
  obtain ⟨rfl, rfl, rfl⟩ := trodAll_nil r1
  obtain rfl : args = #[v0, v1] := by cases args; simp_all
  obtain ⟨rfl, rfl⟩ := trodVars_none hV
  obtain ⟨cs0_0, rfl, k0_0⟩ := Args.open_value (ts := [4, 4, 4, 4, 4, 4, 4, 4, 3, 3, 3, 3, 3, 3, 3, 3]) (by kernel_rfl) (by kernel_rfl) (.inl ⟨_, Try.underlying56⟩) (hval 0 56 v0 rfl rfl)
  obtain ⟨c0_0, cs0_1, rfl, m0_0, k0_1⟩ := Args.ok_cons k0_0
  obtain ⟨x0_0, rfl⟩ := Args.cell_bool Try.underlying4 m0_0
  obtain ⟨c0_1, cs0_2, rfl, m0_1, k0_2⟩ := Args.ok_cons k0_1
  obtain ⟨x0_1, rfl⟩ := Args.cell_bool Try.underlying4 m0_1
  obtain ⟨c0_2, cs0_3, rfl, m0_2, k0_3⟩ := Args.ok_cons k0_2
  obtain ⟨x0_2, rfl⟩ := Args.cell_bool Try.underlying4 m0_2
  obtain ⟨c0_3, cs0_4, rfl, m0_3, k0_4⟩ := Args.ok_cons k0_3
  obtain ⟨x0_3, rfl⟩ := Args.cell_bool Try.underlying4 m0_3
  obtain ⟨c0_4, cs0_5, rfl, m0_4, k0_5⟩ := Args.ok_cons k0_4
  obtain ⟨x0_4, rfl⟩ := Args.cell_bool Try.underlying4 m0_4
  obtain ⟨c0_5, cs0_6, rfl, m0_5, k0_6⟩ := Args.ok_cons k0_5
  obtain ⟨x0_5, rfl⟩ := Args.cell_bool Try.underlying4 m0_5
  obtain ⟨c0_6, cs0_7, rfl, m0_6, k0_7⟩ := Args.ok_cons k0_6
  obtain ⟨x0_6, rfl⟩ := Args.cell_bool Try.underlying4 m0_6
  obtain ⟨c0_7, cs0_8, rfl, m0_7, k0_8⟩ := Args.ok_cons k0_7
  obtain ⟨x0_7, rfl⟩ := Args.cell_bool Try.underlying4 m0_7
  obtain ⟨c0_8, cs0_9, rfl, m0_8, k0_9⟩ := Args.ok_cons k0_8
  obtain ⟨x0_8, rfl, b0_8⟩ := Args.cell_int Try.underlying3 m0_8
  obtain ⟨c0_9, cs0_10, rfl, m0_9, k0_10⟩ := Args.ok_cons k0_9
  obtain ⟨x0_9, rfl, b0_9⟩ := Args.cell_int Try.underlying3 m0_9
  obtain ⟨c0_10, cs0_11, rfl, m0_10, k0_11⟩ := Args.ok_cons k0_10
  obtain ⟨x0_10, rfl, b0_10⟩ := Args.cell_int Try.underlying3 m0_10
  obtain ⟨c0_11, cs0_12, rfl, m0_11, k0_12⟩ := Args.ok_cons k0_11
  obtain ⟨x0_11, rfl, b0_11⟩ := Args.cell_int Try.underlying3 m0_11
  obtain ⟨c0_12, cs0_13, rfl, m0_12, k0_13⟩ := Args.ok_cons k0_12
  obtain ⟨x0_12, rfl, b0_12⟩ := Args.cell_int Try.underlying3 m0_12
  obtain ⟨c0_13, cs0_14, rfl, m0_13, k0_14⟩ := Args.ok_cons k0_13
  obtain ⟨x0_13, rfl, b0_13⟩ := Args.cell_int Try.underlying3 m0_13
  obtain ⟨c0_14, cs0_15, rfl, m0_14, k0_15⟩ := Args.ok_cons k0_14
  obtain ⟨x0_14, rfl, b0_14⟩ := Args.cell_int Try.underlying3 m0_14
  obtain ⟨c0_15, cs0_16, rfl, m0_15, k0_16⟩ := Args.ok_cons k0_15
  obtain ⟨x0_15, rfl, b0_15⟩ := Args.cell_int Try.underlying3 m0_15
  obtain rfl := Args.ok_nil k0_16
  obtain ⟨a1, rfl, rfl, rfl, w1⟩ := open_int Try.underlying3 (hval 1 3 v1 rfl rfl) h1
  clear hA hA0
  refine (backS_calls x0_0 x0_1 x0_2 x0_3 x0_4 x0_5 x0_6 x0_7 x0_8 x0_9 x0_10 x0_11 x0_12 x0_13 x0_14 x0_15 a1 W).mono fun e W' ⟨he, hw⟩ => ?_
  subst he
  exact ⟨_, rfl, Frame.law_post hW rfl Try.laidOut (by kernel_rfl) rfl Try.underlying4 rfl rfl rfl hw⟩

theorem slotsBack_holds : Rows.SlotsBackSaid :=
  OpenClaim.holds_of_wide 10 Try.f10 rfl rfl rfl rfl rfl rfl rfl ⟨rfl, rfl, rfl, rfl, rfl⟩ rfl rfl rfl rfl rfl (by kernel_rfl) Try.func10 (by kernel_rfl)
    (of_decide_eq_true (by kernel_rfl)) (by unfold Func.isWrapper; first | (rw [if_pos (by decide +kernel)]; kernel_rfl) | (rw [if_neg (by decide +kernel)]; exact ⟨rfl, rfl⟩))
    (fun os started H enc _ => slotsBack_lifted os started H enc)

end Go.Proofs.Ytcaipfdnadlkdaa
