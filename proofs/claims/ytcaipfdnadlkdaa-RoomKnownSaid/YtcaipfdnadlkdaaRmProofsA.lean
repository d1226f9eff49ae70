/- RoomKnown, proved. No condition. -/
import Derived.Test.YtcaipfdnadlkdaaHead
import Derived.Test.YtcaipfdnadlkdaaRm14
namespace Go.Proofs.Ytcaipfdnadlkdaa
open Go.ChangeShapes Go.WideShapes Go.ChangeAt Go.RowKit
set_option linter.unusedVariables false
set_option linter.unusedSimpArgs false

set_option maxRecDepth 100000 in
theorem Sx.knownRm_calls (w : World) : Calls Try.prog 12 #[] w fun x w' => x = .returned (.bool true) ∧ Below w.heap.size w w' :=
  (Sx.Con0.calls Sx.envK3_ok Sx.mixed Try.func12 rfl Sx.okRC (L := []) Sx.known_vc (vals := []) (w := w) trivial).mono fun e w' he => by
    obtain ⟨v, r, rfl, g1, g2, g3⟩ := he
    cases g1
    exact ⟨by rw [show v = Value.bool true from g2], g3⟩

set_option maxRecDepth 100000 in
theorem roomKnown_lifted (os : Os) (started : os.Started) (H : Type) (enc : TypeId × Value → H) :
    ReturnsInHanded {} Try.checked os 12 .any (Rows.roomKnownSpec.pre6 enc Try.prog Try.f12 Rows.roomKnownRow.domain false) (Rows.roomKnownSpec.post enc Try.prog Try.f12 false true false false) := by
  refine returnsInHanded_of_change (C := Try.checked) Try.own started (by kernel_rfl) Try.func12
    (ChangeSpec.witness6 (enc := enc) (C := Try.checked) false ⟨#[], #[], []⟩ 8 (by kernel_rfl) (by kernel_rfl) (by kernel_rfl) (by kernel_rfl)) ?_
  intro W base args ds gs before hval0 hW _ _
  have hval : ∀ (j : Nat) t v, Try.f12.params[j]? = some t → args[j]? = some v → Value.okWide Try.prog W .any base t v := hval0
  clear hval0
  obtain ⟨p, q, hA0, hV, _, hfz, _⟩ := id hW
  have hA : DataW.TrodAll enc Try.prog W 0 (fun _ => true) true Try.f12.params.toList args.toList ds p := hA0
  rw [Try.params12] at hA hval
  obtain ⟨rfl, rfl, rfl⟩ := trodAll_none hA
  obtain ⟨rfl, rfl⟩ := trodVars_none hV
  clear hA hA0
  refine (Sx.knownRm_calls W).mono fun e W' ⟨he, hw⟩ => ?_
  subst he
  exact ⟨_, rfl, Frame.law_post hW rfl Try.laidOut (by kernel_rfl) rfl Try.underlying4 rfl rfl rfl hw⟩

theorem roomKnown_holds : Rows.RoomKnownSaid :=
  OpenClaim.holds_of_wide 12 Try.f12 rfl rfl rfl rfl rfl rfl rfl ⟨rfl, rfl, rfl, rfl, rfl⟩ rfl rfl rfl rfl rfl (by kernel_rfl) Try.func12 (by kernel_rfl)
    (of_decide_eq_true (by kernel_rfl)) (by unfold Func.isWrapper; first | (rw [if_pos (by decide +kernel)]; kernel_rfl) | (rw [if_neg (by decide +kernel)]; exact ⟨rfl, rfl⟩))
    (fun os started H enc _ => roomKnown_lifted os started H enc)

end Go.Proofs.Ytcaipfdnadlkdaa
