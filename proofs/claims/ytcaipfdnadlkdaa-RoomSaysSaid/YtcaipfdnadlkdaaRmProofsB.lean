/- RoomSays, proved. No condition. -/
import Derived.Test.YtcaipfdnadlkdaaHead
import Derived.Test.YtcaipfdnadlkdaaRm16
namespace Go.Proofs.Ytcaipfdnadlkdaa
open Go.ChangeShapes Go.WideShapes Go.ChangeAt Go.RowKit
set_option linter.unusedVariables false
set_option linter.unusedSimpArgs false

theorem Sx.instC_self {μ : Sx.Mu} {k : Sx.LK} {l : Sx.Leaf} (h : Sx.fitC k l = true) : (Sx.instC k l).ok μ (Sx.instC k l).val := by
  cases k <;> cases l <;> first | (simp [Sx.fitC] at h; done) | exact rfl
theorem Sx.instL_self {μ : Sx.Mu} : ∀ {ks rest : List Sx.LK} {L : List Sx.Leaf}, Sx.fits (ks ++ rest) L = true → Sx.All2 (Sx.SC.ok μ) (Sx.instL ks L) ((Sx.instL ks L).map Sx.SC.val) ∧ Sx.fits rest (L.drop ks.length) = true
  | [], rest, L, h => ⟨by cases L <;> trivial, h⟩
  | k :: ks, rest, [], h => by simp [Sx.fits] at h
  | k :: ks, rest, l :: L, h => by
    simp only [List.cons_append, Sx.fits, Bool.and_eq_true] at h
    obtain ⟨h1, h2⟩ := Sx.instL_self (ks := ks) (rest := rest) h.2
    exact ⟨⟨Sx.instC_self h.1, h1⟩, by simpa using h2⟩
theorem Sx.instVs_self {μ : Sx.Mu} : ∀ {ps : List Sx.PV} {L : List Sx.Leaf}, Sx.fits (Sx.kinds ps) L = true → Sx.AllV μ (Sx.instVs ps L) ((Sx.instVs ps L).map Sx.SV.val)
  | [], L, h => by cases L <;> trivial
  | .c k :: ps, [], h => by simp [Sx.kinds, Sx.fits] at h
  | .c k :: ps, l :: L, h => by
    simp only [Sx.kinds, Sx.fits, Bool.and_eq_true] at h
    exact ⟨Sx.instC_self (μ := μ) h.1, Sx.instVs_self h.2⟩
  | .a ks :: ps, L, h => by
    obtain ⟨h1, h2⟩ := Sx.instL_self (μ := μ) (ks := ks) (rest := Sx.kinds ps) h
    exact ⟨⟨_, rfl, h1⟩, Sx.instVs_self h2⟩
set_option maxHeartbeats 4000000 in
set_option maxRecDepth 100000 in
theorem saysR_calls (b0 b1 b2 b3 b4 b5 b6 b7 : Bool) (a0 a1 a2 a3 a4 a5 a6 a7 : Int) (ep : Int) (op : Bool) (nx nd hv bn : Int) (s0 s1 s2 s3 s4 s5 s6 s7 c0 c1 c2 c3 c4 c5 c6 c7 : Int) (o : Bool) (x y z t : Int) (hh : -9223372036854775808 ≤ hv ∧ hv ≤ 9223372036854775807) (w : World) : Calls Try.prog 13 #[.agg #[.bool b0, .bool b1, .bool b2, .bool b3, .bool b4, .bool b5, .bool b6, .bool b7, .int .i64 a0, .int .i64 a1, .int .i64 a2, .int .i64 a3, .int .i64 a4, .int .i64 a5, .int .i64 a6, .int .i64 a7, .int .i64 ep, .bool op, .int .i64 nx, .int .i64 nd, .int .i64 hv, .int .i64 bn, .int .i64 s0, .int .i64 s1, .int .i64 s2, .int .i64 s3, .int .i64 s4, .int .i64 s5, .int .i64 s6, .int .i64 s7, .int .i64 c0, .int .i64 c1, .int .i64 c2, .int .i64 c3, .int .i64 c4, .int .i64 c5, .int .i64 c6, .int .i64 c7, .bool o], .int .i64 x, .int .i64 y, .int .i64 z, .int .i64 t] w fun x w' => x = .returned (.bool true) ∧ Below w.heap.size w w' := by
  have e0 : #[.agg #[.bool b0, .bool b1, .bool b2, .bool b3, .bool b4, .bool b5, .bool b6, .bool b7, .int .i64 a0, .int .i64 a1, .int .i64 a2, .int .i64 a3, .int .i64 a4, .int .i64 a5, .int .i64 a6, .int .i64 a7, .int .i64 ep, .bool op, .int .i64 nx, .int .i64 nd, .int .i64 hv, .int .i64 bn, .int .i64 s0, .int .i64 s1, .int .i64 s2, .int .i64 s3, .int .i64 s4, .int .i64 s5, .int .i64 s6, .int .i64 s7, .int .i64 c0, .int .i64 c1, .int .i64 c2, .int .i64 c3, .int .i64 c4, .int .i64 c5, .int .i64 c6, .int .i64 c7, .bool o], .int .i64 x, .int .i64 y, .int .i64 z, .int .i64 t] = ((Sx.instVs Sx.saysRC.pat [.B b0, .B b1, .B b2, .B b3, .B b4, .B b5, .B b6, .B b7, .I a0, .I a1, .I a2, .I a3, .I a4, .I a5, .I a6, .I a7, .I ep, .B op, .I nx, .I nd, .I hv, .I bn, .I s0, .I s1, .I s2, .I s3, .I s4, .I s5, .I s6, .I s7, .I c0, .I c1, .I c2, .I c3, .I c4, .I c5, .I c6, .I c7, .B o, .I x, .I y, .I z, .I t]).map Sx.SV.val).toArray := by kernel_rfl
  rw [e0]
  refine (Sx.Con0.calls Sx.envSay_ok Sx.mixed Try.func13 rfl Sx.saysRC (Sx.saysR_vc b0 b1 b2 b3 b4 b5 b6 b7 a0 a1 a2 a3 a4 a5 a6 a7 ep op nx nd hv bn s0 s1 s2 s3 s4 s5 s6 s7 c0 c1 c2 c3 c4 c5 c6 c7 o x y z t hh) (w := w) (Sx.instVs_self (by kernel_rfl))).mono fun e w' he => ?_
  obtain ⟨v, r, rfl, g1, g2, g3⟩ := he
  cases g1
  exact ⟨by rw [show v = Value.bool true from g2], g3⟩
set_option maxRecDepth 100000 in
theorem roomSays_lifted (os : Os) (started : os.Started) (H : Type) (enc : TypeId × Value → H) :
    ReturnsInHanded {} Try.checked os 13 .any (Rows.roomSaysSpec.pre6 enc Try.prog Try.f13 Rows.roomSaysRow.domain false) (Rows.roomSaysSpec.post enc Try.prog Try.f13 false true false false) := by
  refine returnsInHanded_of_change (C := Try.checked) Try.own started (by kernel_rfl) Try.func13
    (ChangeSpec.witness6 (enc := enc) (C := Try.checked) false ⟨#[], #[Value.agg #[.bool false, .bool false, .bool false, .bool false, .bool false, .bool false, .bool false, .bool false, .int .i64 0, .int .i64 0, .int .i64 0, .int .i64 0, .int .i64 0, .int .i64 0, .int .i64 0, .int .i64 0, .int .i64 0, .bool false, .int .i64 0, .int .i64 0, .int .i64 0, .int .i64 0, .int .i64 0, .int .i64 0, .int .i64 0, .int .i64 0, .int .i64 0, .int .i64 0, .int .i64 0, .int .i64 0, .int .i64 0, .int .i64 0, .int .i64 0, .int .i64 0, .int .i64 0, .int .i64 0, .int .i64 0, .int .i64 0, .bool false], Value.int .i64 0, Value.int .i64 0, Value.int .i64 0, Value.int .i64 0], []⟩ 8 (by kernel_rfl) (by kernel_rfl) (by kernel_rfl) (by kernel_rfl)) ?_
  intro W base args ds gs before hval0 hW _ _
  have hval : ∀ (j : Nat) t v, Try.f13.params[j]? = some t → args[j]? = some v → Value.okWide Try.prog W .any base t v := hval0
  clear hval0
  obtain ⟨p, q, hA0, hV, _, hfz, _⟩ := id hW
  have hA : DataW.TrodAll enc Try.prog W 0 (fun _ => true) true Try.f13.params.toList args.toList ds p := hA0
  rw [Try.params13] at hA hval
  obtain ⟨v0, vs0, d0, ds0, p0, q0, hargs, rfl, rfl, h0, r0⟩ := trodAll_cons hA
  obtain ⟨v1, vs1, d1, ds1, p1, q1, rfl, rfl, rfl, h1, r1⟩ := trodAll_cons r0
  obtain ⟨v2, vs2, d2, ds2, p2, q2, rfl, rfl, rfl, h2, r2⟩ := trodAll_cons r1
  obtain ⟨v3, vs3, d3, ds3, p3, q3, rfl, rfl, rfl, h3, r3⟩ := trodAll_cons r2
  obtain ⟨v4, vs4, d4, ds4, p4, q4, rfl, rfl, rfl, h4, r4⟩ := trodAll_cons r3
  obtain ⟨rfl, rfl, rfl⟩ := trodAll_nil r4
  obtain rfl : args = #[v0, v1, v2, v3, v4] := by cases args; simp_all
  obtain ⟨rfl, rfl⟩ := trodVars_none hV
  obtain ⟨cs0_0, rfl, k0_0⟩ := Args.open_value (ts := [4, 4, 4, 4, 4, 4, 4, 4, 3, 3, 3, 3, 3, 3, 3, 3, 3, 4, 3, 3, 3, 2, 2, 2, 2, 2, 2, 2, 2, 2, 3, 3, 3, 3, 3, 3, 3, 3, 4]) (by kernel_rfl) (by kernel_rfl) (.inl ⟨_, Try.underlying83⟩) (hval 0 83 v0 rfl rfl)
  obtain ⟨c0_0, cs0_1, rfl, m0_0, k0_1⟩ := Args.ok_cons k0_0
  obtain ⟨x0_0, rfl⟩ := Args.cell_bool Try.underlying4 m0_0
  obtain ⟨c0_1, cs0_2, rfl, m0_1, k0_2⟩ := Args.ok_cons k0_1
  obtain ⟨x0_1, rfl⟩ := Args.cell_bool Try.underlying4 m0_1
  obtain ⟨c0_2, cs0_3, rfl, m0_2, k0_3⟩ := Args.ok_cons k0_2
  obtain ⟨x0_2, rfl⟩ := Args.cell_bool Try.underlying4 m0_2
  obtain ⟨c0_3, cs0_4, rfl, m0_3, k0_4⟩ := Args.ok_cons k0_3
  obtain ⟨x0_3, rfl⟩ := Args.cell_bool Try.underlying4 m0_3
  obtain ⟨c0_4, cs0_5, rfl, m0_4, k0_5⟩ := Args.ok_cons k0_4
  obtain ⟨x0_4, rfl⟩ := Args.cell_bool Try.underlying4 m0_4
  obtain ⟨c0_5, cs0_6, rfl, m0_5, k0_6⟩ := Args.ok_cons k0_5
  obtain ⟨x0_5, rfl⟩ := Args.cell_bool Try.underlying4 m0_5
  obtain ⟨c0_6, cs0_7, rfl, m0_6, k0_7⟩ := Args.ok_cons k0_6
  obtain ⟨x0_6, rfl⟩ := Args.cell_bool Try.underlying4 m0_6
  obtain ⟨c0_7, cs0_8, rfl, m0_7, k0_8⟩ := Args.ok_cons k0_7
  obtain ⟨x0_7, rfl⟩ := Args.cell_bool Try.underlying4 m0_7
  obtain ⟨c0_8, cs0_9, rfl, m0_8, k0_9⟩ := Args.ok_cons k0_8
  obtain ⟨x0_8, rfl, b0_8⟩ := Args.cell_int Try.underlying3 m0_8
  obtain ⟨c0_9, cs0_10, rfl, m0_9, k0_10⟩ := Args.ok_cons k0_9
  obtain ⟨x0_9, rfl, b0_9⟩ := Args.cell_int Try.underlying3 m0_9
  obtain ⟨c0_10, cs0_11, rfl, m0_10, k0_11⟩ := Args.ok_cons k0_10
  obtain ⟨x0_10, rfl, b0_10⟩ := Args.cell_int Try.underlying3 m0_10
  obtain ⟨c0_11, cs0_12, rfl, m0_11, k0_12⟩ := Args.ok_cons k0_11
  obtain ⟨x0_11, rfl, b0_11⟩ := Args.cell_int Try.underlying3 m0_11
  obtain ⟨c0_12, cs0_13, rfl, m0_12, k0_13⟩ := Args.ok_cons k0_12
  obtain ⟨x0_12, rfl, b0_12⟩ := Args.cell_int Try.underlying3 m0_12
  obtain ⟨c0_13, cs0_14, rfl, m0_13, k0_14⟩ := Args.ok_cons k0_13
  obtain ⟨x0_13, rfl, b0_13⟩ := Args.cell_int Try.underlying3 m0_13
  obtain ⟨c0_14, cs0_15, rfl, m0_14, k0_15⟩ := Args.ok_cons k0_14
  obtain ⟨x0_14, rfl, b0_14⟩ := Args.cell_int Try.underlying3 m0_14
  obtain ⟨c0_15, cs0_16, rfl, m0_15, k0_16⟩ := Args.ok_cons k0_15
  obtain ⟨x0_15, rfl, b0_15⟩ := Args.cell_int Try.underlying3 m0_15
  obtain ⟨c0_16, cs0_17, rfl, m0_16, k0_17⟩ := Args.ok_cons k0_16
  obtain ⟨x0_16, rfl, b0_16⟩ := Args.cell_int Try.underlying3 m0_16
  obtain ⟨c0_17, cs0_18, rfl, m0_17, k0_18⟩ := Args.ok_cons k0_17
  obtain ⟨x0_17, rfl⟩ := Args.cell_bool Try.underlying4 m0_17
  obtain ⟨c0_18, cs0_19, rfl, m0_18, k0_19⟩ := Args.ok_cons k0_18
  obtain ⟨x0_18, rfl, b0_18⟩ := Args.cell_int Try.underlying3 m0_18
  obtain ⟨c0_19, cs0_20, rfl, m0_19, k0_20⟩ := Args.ok_cons k0_19
  obtain ⟨x0_19, rfl, b0_19⟩ := Args.cell_int Try.underlying3 m0_19
  obtain ⟨c0_20, cs0_21, rfl, m0_20, k0_21⟩ := Args.ok_cons k0_20
  obtain ⟨x0_20, rfl, b0_20⟩ := Args.cell_int Try.underlying3 m0_20
  obtain ⟨c0_21, cs0_22, rfl, m0_21, k0_22⟩ := Args.ok_cons k0_21
  obtain ⟨x0_21, rfl, b0_21⟩ := Args.cell_int Try.underlying2 m0_21
  obtain ⟨c0_22, cs0_23, rfl, m0_22, k0_23⟩ := Args.ok_cons k0_22
  obtain ⟨x0_22, rfl, b0_22⟩ := Args.cell_int Try.underlying2 m0_22
  obtain ⟨c0_23, cs0_24, rfl, m0_23, k0_24⟩ := Args.ok_cons k0_23
  obtain ⟨x0_23, rfl, b0_23⟩ := Args.cell_int Try.underlying2 m0_23
  obtain ⟨c0_24, cs0_25, rfl, m0_24, k0_25⟩ := Args.ok_cons k0_24
  obtain ⟨x0_24, rfl, b0_24⟩ := Args.cell_int Try.underlying2 m0_24
  obtain ⟨c0_25, cs0_26, rfl, m0_25, k0_26⟩ := Args.ok_cons k0_25
  obtain ⟨x0_25, rfl, b0_25⟩ := Args.cell_int Try.underlying2 m0_25
  obtain ⟨c0_26, cs0_27, rfl, m0_26, k0_27⟩ := Args.ok_cons k0_26
  obtain ⟨x0_26, rfl, b0_26⟩ := Args.cell_int Try.underlying2 m0_26
  obtain ⟨c0_27, cs0_28, rfl, m0_27, k0_28⟩ := Args.ok_cons k0_27
  obtain ⟨x0_27, rfl, b0_27⟩ := Args.cell_int Try.underlying2 m0_27
  obtain ⟨c0_28, cs0_29, rfl, m0_28, k0_29⟩ := Args.ok_cons k0_28
  obtain ⟨x0_28, rfl, b0_28⟩ := Args.cell_int Try.underlying2 m0_28
  obtain ⟨c0_29, cs0_30, rfl, m0_29, k0_30⟩ := Args.ok_cons k0_29
  obtain ⟨x0_29, rfl, b0_29⟩ := Args.cell_int Try.underlying2 m0_29
  obtain ⟨c0_30, cs0_31, rfl, m0_30, k0_31⟩ := Args.ok_cons k0_30
  obtain ⟨x0_30, rfl, b0_30⟩ := Args.cell_int Try.underlying3 m0_30
  obtain ⟨c0_31, cs0_32, rfl, m0_31, k0_32⟩ := Args.ok_cons k0_31
  obtain ⟨x0_31, rfl, b0_31⟩ := Args.cell_int Try.underlying3 m0_31
  obtain ⟨c0_32, cs0_33, rfl, m0_32, k0_33⟩ := Args.ok_cons k0_32
  obtain ⟨x0_32, rfl, b0_32⟩ := Args.cell_int Try.underlying3 m0_32
  obtain ⟨c0_33, cs0_34, rfl, m0_33, k0_34⟩ := Args.ok_cons k0_33
  obtain ⟨x0_33, rfl, b0_33⟩ := Args.cell_int Try.underlying3 m0_33
  obtain ⟨c0_34, cs0_35, rfl, m0_34, k0_35⟩ := Args.ok_cons k0_34
  obtain ⟨x0_34, rfl, b0_34⟩ := Args.cell_int Try.underlying3 m0_34
  obtain ⟨c0_35, cs0_36, rfl, m0_35, k0_36⟩ := Args.ok_cons k0_35
  obtain ⟨x0_35, rfl, b0_35⟩ := Args.cell_int Try.underlying3 m0_35
  obtain ⟨c0_36, cs0_37, rfl, m0_36, k0_37⟩ := Args.ok_cons k0_36
  obtain ⟨x0_36, rfl, b0_36⟩ := Args.cell_int Try.underlying3 m0_36
  obtain ⟨c0_37, cs0_38, rfl, m0_37, k0_38⟩ := Args.ok_cons k0_37
  obtain ⟨x0_37, rfl, b0_37⟩ := Args.cell_int Try.underlying3 m0_37
  obtain ⟨c0_38, cs0_39, rfl, m0_38, k0_39⟩ := Args.ok_cons k0_38
  obtain ⟨x0_38, rfl⟩ := Args.cell_bool Try.underlying4 m0_38
  obtain rfl := Args.ok_nil k0_39
  obtain ⟨a1, rfl, rfl, rfl, w1⟩ := open_int Try.underlying3 (hval 1 3 v1 rfl rfl) h1
  obtain ⟨a2, rfl, rfl, rfl, w2⟩ := open_int Try.underlying3 (hval 2 3 v2 rfl rfl) h2
  obtain ⟨a3, rfl, rfl, rfl, w3⟩ := open_int Try.underlying3 (hval 3 3 v3 rfl rfl) h3
  obtain ⟨a4, rfl, rfl, rfl, w4⟩ := open_int Try.underlying2 (hval 4 2 v4 rfl rfl) h4
  clear hA hA0
  refine (saysR_calls x0_0 x0_1 x0_2 x0_3 x0_4 x0_5 x0_6 x0_7 x0_8 x0_9 x0_10 x0_11 x0_12 x0_13 x0_14 x0_15 x0_16 x0_17 x0_18 x0_19 x0_20 x0_21 x0_22 x0_23 x0_24 x0_25 x0_26 x0_27 x0_28 x0_29 x0_30 x0_31 x0_32 x0_33 x0_34 x0_35 x0_36 x0_37 x0_38 a1 a2 a3 a4 (has_i64 b0_20) W).mono fun e W' ⟨he, hw⟩ => ?_
  subst he
  exact ⟨_, rfl, Frame.law_post hW rfl Try.laidOut (by kernel_rfl) rfl Try.underlying4 rfl rfl rfl hw⟩

theorem roomSays_holds : Rows.RoomSaysSaid :=
  OpenClaim.holds_of_wide 13 Try.f13 rfl rfl rfl rfl rfl rfl rfl ⟨rfl, rfl, rfl, rfl, rfl⟩ rfl rfl rfl rfl rfl (by kernel_rfl) Try.func13 (by kernel_rfl)
    (of_decide_eq_true (by kernel_rfl)) (by unfold Func.isWrapper; first | (rw [if_pos (by decide +kernel)]; kernel_rfl) | (rw [if_neg (by decide +kernel)]; exact ⟨rfl, rfl⟩))
    (fun os started H enc _ => roomSays_lifted os started H enc)

end Go.Proofs.Ytcaipfdnadlkdaa
