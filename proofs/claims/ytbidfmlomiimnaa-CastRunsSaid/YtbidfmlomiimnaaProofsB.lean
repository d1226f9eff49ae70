/- CastRuns, proved: any calls. No condition. -/
import Derived.Test.YtbidfmlomiimnaaHead
import Derived.Test.YtbidfmlomiimnaaWalks8
namespace Go.Proofs.Ytbidfmlomiimnaa
open Go.ChangeShapes Go.WideShapes Go.ChangeAt Go.RowKit
set_option linter.unusedVariables false
set_option linter.unusedSimpArgs false

theorem open_moves {H : Type} {enc : TypeId × Value → H} {w : World} {b0 : Nat} {v : Value} {d : DataW H} {p : List MemPlace} (hv : Value.okWide Try.prog w .any b0 22 v) (h : DataW.Trod enc Try.prog w 0 (fun _ => true) true 22 v d p) :
    v = .slice none 0 0 ∨ ∃ (b off len cap : Nat) (A : Nat → Bool) (Sr : Nat → Int) (Ky : Nat → Bool), v = .slice (some ⟨b, off, none⟩) len cap ∧ len ≤ 9223372036854775807 ∧ (∀ i, i < len → w.cell? ⟨b, off + i * 3, none⟩ = some (.bool (A i))) ∧
      (∀ i, i < len → w.cell? ⟨b, off + i * 3 + 1, none⟩ = some (.int .i64 (Sr i))) ∧ (∀ i, i < len → w.cell? ⟨b, off + i * 3 + 2, none⟩ = some (.bool (Ky i))) := by
  rcases Args.open_structs Try.underlying22 Try.underlying27 (by kernel_rfl) (by kernel_rfl) hv h with rfl | ⟨b, off, len, cap, rfl, hl, hm, hc⟩
  · exact .inl rfl
  · obtain ⟨A, hA⟩ := Go.Deep.choose_lt (n := len) (p := fun i x => w.cell? ⟨b, off + i * 3, none⟩ = some (.bool x)) (fun i hi => by
      obtain ⟨c, y, n, h1, h2⟩ := hc i hi 0 _ rfl
      obtain ⟨x, hx, _⟩ := DataW.trod_bool Try.underlying4 h2
      simp at hx
      subst hx
      exact ⟨x, h1⟩)
    obtain ⟨S, hS⟩ := Go.Deep.choose_lt (n := len) (p := fun i x => w.cell? ⟨b, off + i * 3 + 1, none⟩ = some (.int .i64 x)) (fun i hi => by
      obtain ⟨c, y, n, h1, h2⟩ := hc i hi 1 _ rfl
      obtain ⟨x, hx, _⟩ := DataW.trod_int Try.underlying3 h2
      simp at hx
      subst hx
      exact ⟨x, h1⟩)
    obtain ⟨K, hK⟩ := Go.Deep.choose_lt (n := len) (p := fun i x => w.cell? ⟨b, off + i * 3 + 2, none⟩ = some (.bool x)) (fun i hi => by
      obtain ⟨c, y, n, h1, h2⟩ := hc i hi 2 _ rfl
      obtain ⟨x, hx, _⟩ := DataW.trod_bool Try.underlying4 h2
      simp at hx
      subst hx
      exact ⟨x, h1⟩)
    exact .inr ⟨b, off, len, cap, A, S, K, rfl, by unfold maxLen at hm; omega, hA, hS, hK⟩

theorem runs_any' (W : World) (v0 : Value) (h : v0 = .slice none 0 0 ∨ ∃ (b off len cap : Nat) (A : Nat → Bool) (Sr : Nat → Int) (Ky : Nat → Bool), v0 = .slice (some ⟨b, off, none⟩) len cap ∧ len ≤ 9223372036854775807 ∧ (∀ i, i < len → W.cell? ⟨b, off + i * 3, none⟩ = some (.bool (A i))) ∧
      (∀ i, i < len → W.cell? ⟨b, off + i * 3 + 1, none⟩ = some (.int .i64 (Sr i))) ∧ (∀ i, i < len → W.cell? ⟨b, off + i * 3 + 2, none⟩ = some (.bool (Ky i)))) :
    Calls Try.prog 6 #[v0] W fun x w' => x = .returned (.bool true) ∧ Below W.heap.size W w' := by
  rcases h with rfl | ⟨b, off, len, cap, A, S, K, rfl, hm, h1, h2, h3⟩
  · exact runs_nil none 0 W
  · cases len with
    | zero => exact runs_nil _ cap W
    | succ n => exact runs_law b off (n + 1) cap A S K W hm h1 h2 h3 (World.block_lt_of_cell? W _ (h1 0 (by omega)))

set_option maxRecDepth 100000 in
theorem castRuns_lifted (os : Os) (started : os.Started) (H : Type) (enc : TypeId × Value → H) :
    ReturnsInHanded {} Try.checked os 6 .any (Rows.castRunsSpec.pre6 enc Try.prog Try.f6 Rows.castRunsRow.domain false) (Rows.castRunsSpec.post enc Try.prog Try.f6 false true false false) := by
  refine returnsInHanded_of_change (C := Try.checked) Try.own started (by kernel_rfl) Try.func6
    (ChangeSpec.witness6 (enc := enc) (C := Try.checked) false ⟨#[], #[Value.slice none 0 0], []⟩ 8 (by kernel_rfl) (by kernel_rfl) (by kernel_rfl) (by kernel_rfl)) ?_
  intro W base args ds gs before hval0 hW _ _
  have hval : ∀ (j : Nat) t v, Try.f6.params[j]? = some t → args[j]? = some v → Value.okWide Try.prog W .any base t v := hval0
  clear hval0
  obtain ⟨p, q, hA0, hV, _, hfz, _⟩ := id hW
  have hA : DataW.TrodAll enc Try.prog W 0 (fun _ => true) true Try.f6.params.toList args.toList ds p := hA0
  rw [Try.params6] at hA hval
  obtain ⟨v0, vs0, d0, ds0, p0, q0, hargs, rfl, rfl, h0, r0⟩ := trodAll_cons hA
  obtain ⟨rfl, rfl, rfl⟩ := trodAll_nil r0
  obtain rfl : args = #[v0] := by cases args; simp_all
  obtain ⟨rfl, rfl⟩ := trodVars_none hV
  clear hA hA0
  refine (runs_any' W v0 (open_moves (hval 0 22 v0 rfl rfl) h0)).mono fun e W' ⟨he, hw⟩ => ?_
  subst he
  exact ⟨_, rfl, Frame.law_post hW rfl Try.laidOut (by kernel_rfl) rfl Try.underlying4 rfl rfl rfl hw⟩

theorem castRuns_holds : Rows.CastRunsSaid :=
  OpenClaim.holds_of_wide 6 Try.f6 rfl rfl rfl rfl rfl rfl rfl ⟨rfl, rfl, rfl, rfl, rfl⟩ rfl rfl rfl rfl rfl (by kernel_rfl) Try.func6 (by kernel_rfl)
    (of_decide_eq_true (by kernel_rfl)) (by unfold Func.isWrapper; first | (rw [if_pos (by decide +kernel)]; kernel_rfl) | (rw [if_neg (by decide +kernel)]; exact ⟨rfl, rfl⟩))
    (fun os started H enc _ => castRuns_lifted os started H enc)

end Go.Proofs.Ytbidfmlomiimnaa
