/- TurnRuns, proved: any calls. No condition. -/
import Derived.Test.YtecpbhefpicmaaaHead
import Derived.Test.YtecpbhefpicmaaaWalks6
namespace Go.Proofs.Ytecpbhefpicmaaa
open Go.ChangeShapes Go.WideShapes Go.ChangeAt Go.RowKit
set_option linter.unusedVariables false
set_option linter.unusedSimpArgs false

theorem wf_u16 {n : Int} (h : (Lit.int .u16 n).wf = true) : 0 ≤ n ∧ n ≤ 65535 := bounds_u16 h
theorem open_moves {H : Type} {enc : TypeId × Value → H} {w : World} {b0 : Nat} {v : Value} {d : DataW H} {p : List MemPlace} (hv : Value.okWide Try.prog w .any b0 35 v) (h : DataW.Trod enc Try.prog w 0 (fun _ => true) true 35 v d p) :
    v = .slice none 0 0 ∨ ∃ (b off len cap : Nat) (Nw : Nat → Bool) (Ts Fr Tk : Nat → Int), v = .slice (some ⟨b, off, none⟩) len cap ∧ len ≤ 9223372036854775807 ∧ (∀ i, i < len → w.cell? ⟨b, off + i * 4, none⟩ = some (.bool (Nw i))) ∧
      (∀ i, i < len → w.cell? ⟨b, off + i * 4 + 1, none⟩ = some (.int .u32 (Ts i)) ∧ 0 ≤ Ts i ∧ Ts i ≤ 4294967295) ∧ (∀ i, i < len → w.cell? ⟨b, off + i * 4 + 2, none⟩ = some (.int .u16 (Fr i)) ∧ 0 ≤ Fr i ∧ Fr i ≤ 65535) ∧ (∀ i, i < len → w.cell? ⟨b, off + i * 4 + 3, none⟩ = some (.int .u16 (Tk i)) ∧ 0 ≤ Tk i ∧ Tk i ≤ 65535) := by
  rcases Args.open_structs Try.underlying35 Try.underlying37 (by kernel_rfl) (by kernel_rfl) hv h with rfl | ⟨b, off, len, cap, rfl, hl, hm, hc⟩
  · exact .inl rfl
  · obtain ⟨A, hA⟩ := Go.Deep.choose_lt (n := len) (p := fun i x => w.cell? ⟨b, off + i * 4, none⟩ = some (.bool x)) (fun i hi => by
      obtain ⟨c, y, n, h1, h2⟩ := hc i hi 0 _ rfl
      obtain ⟨x, hx, _⟩ := DataW.trod_bool Try.underlying4 h2
      simp at hx
      subst hx
      exact ⟨x, h1⟩)
    obtain ⟨S, hS⟩ := Go.Deep.choose_lt (n := len) (p := fun i x => w.cell? ⟨b, off + i * 4 + 1, none⟩ = some (.int .u32 x) ∧ 0 ≤ x ∧ x ≤ 4294967295) (fun i hi => by
      obtain ⟨c, y, n, h1, h2⟩ := hc i hi 1 _ rfl
      obtain ⟨x, hx, _, hw⟩ := DataW.trod_int Try.underlying24 h2
      simp at hx
      subst hx
      exact ⟨x, h1, bounds_u32 hw⟩)
    obtain ⟨F, hF⟩ := Go.Deep.choose_lt (n := len) (p := fun i x => w.cell? ⟨b, off + i * 4 + 2, none⟩ = some (.int .u16 x) ∧ 0 ≤ x ∧ x ≤ 65535) (fun i hi => by
      obtain ⟨c, y, n, h1, h2⟩ := hc i hi 2 _ rfl
      obtain ⟨x, hx, _, hw⟩ := DataW.trod_int Try.underlying23 h2
      simp at hx
      subst hx
      exact ⟨x, h1, bounds_u16 hw⟩)
    obtain ⟨K, hK⟩ := Go.Deep.choose_lt (n := len) (p := fun i x => w.cell? ⟨b, off + i * 4 + 3, none⟩ = some (.int .u16 x) ∧ 0 ≤ x ∧ x ≤ 65535) (fun i hi => by
      obtain ⟨c, y, n, h1, h2⟩ := hc i hi 3 _ rfl
      obtain ⟨x, hx, _, hw⟩ := DataW.trod_int Try.underlying23 h2
      simp at hx
      subst hx
      exact ⟨x, h1, bounds_u16 hw⟩)
    exact .inr ⟨b, off, len, cap, A, S, F, K, rfl, by unfold maxLen at hm; omega, hA, hS, hF, hK⟩

set_option maxRecDepth 100000 in
theorem runs_nil (ao : Option Addr) (cap : Nat) (w : World) : Calls Try.prog 5 #[.slice ao 0 cap] w fun x w' => x = .returned (.bool true) ∧ Below w.heap.size w w' := by
  go_enter Try.func5, Try.ntmps5
  go_wp2_with (go_at_call 7; refine (awake_any _).mono ?_; rintro e w1 ⟨rfl, hb1⟩)
  refine wp_loop_rounds 1 ?_
  rw [rounds_succ]
  go_wp2
  go_ret
  exact ⟨rfl, bal hb1 _⟩

theorem runs_any' {H : Type} {enc : TypeId × Value → H} {d : DataW H} {p : List MemPlace} {b0 : Nat} (W : World) (v0 : Value) (hv : Value.okWide Try.prog W .any b0 35 v0) (h : DataW.Trod enc Try.prog W 0 (fun _ => true) true 35 v0 d p) :
    Calls Try.prog 5 #[v0] W fun x w' => x = .returned (.bool true) ∧ Below W.heap.size W w' := by
  rcases open_moves hv h with rfl | ⟨b, off, len, cap, A, S, F, K, rfl, hm, h1, h2, h3, h4⟩
  · exact runs_nil none 0 W
  · cases len with
    | zero => exact runs_nil _ cap W
    | succ n => exact runs_law b off (n + 1) cap A S F K W hm h1 h2 h3 h4 (World.block_lt_of_cell? W _ (h1 0 (by omega)))

set_option maxRecDepth 100000 in
theorem turnRuns_lifted (os : Os) (started : os.Started) (H : Type) (enc : TypeId × Value → H) :
    ReturnsInHanded {} Try.checked os 5 .any (Rows.turnRunsSpec.pre6 enc Try.prog Try.f5 Rows.turnRunsRow.domain false) (Rows.turnRunsSpec.post enc Try.prog Try.f5 false true false false) := by
  refine returnsInHanded_of_change (C := Try.checked) Try.own started (by kernel_rfl) Try.func5
    (ChangeSpec.witness6 (enc := enc) (C := Try.checked) false ⟨#[], #[Value.slice none 0 0], []⟩ 8 (by kernel_rfl) (by kernel_rfl) (by kernel_rfl) (by kernel_rfl)) ?_
  intro W base args ds gs before hval0 hW _ _
  have hval : ∀ (j : Nat) t v, Try.f5.params[j]? = some t → args[j]? = some v → Value.okWide Try.prog W .any base t v := hval0
  clear hval0
  obtain ⟨p, q, hA0, hV, _, hfz, _⟩ := id hW
  have hA : DataW.TrodAll enc Try.prog W 0 (fun _ => true) true Try.f5.params.toList args.toList ds p := hA0
  rw [Try.params5] at hA hval
  obtain ⟨v0, vs0, d0, ds0, p0, q0, hargs, rfl, rfl, h0, r0⟩ := trodAll_cons hA
  obtain ⟨rfl, rfl, rfl⟩ := trodAll_nil r0
  obtain rfl : args = #[v0] := by cases args; simp_all
  obtain ⟨rfl, rfl⟩ := trodVars_none hV
  clear hA hA0
  refine (runs_any' W v0 (hval 0 35 v0 rfl rfl) h0).mono fun e W' ⟨he, hw⟩ => ?_
  subst he
  exact ⟨_, rfl, Frame.law_post hW rfl Try.laidOut (by kernel_rfl) rfl Try.underlying4 rfl rfl rfl hw⟩

theorem turnRuns_holds : Rows.TurnRunsSaid :=
  OpenClaim.holds_of_wide 5 Try.f5 rfl rfl rfl rfl rfl rfl rfl ⟨rfl, rfl, rfl, rfl, rfl⟩ rfl rfl rfl rfl rfl (by kernel_rfl) Try.func5 (by kernel_rfl)
    (of_decide_eq_true (by kernel_rfl)) (by unfold Func.isWrapper; first | (rw [if_pos (by decide +kernel)]; kernel_rfl) | (rw [if_neg (by decide +kernel)]; exact ⟨rfl, rfl⟩))
    (fun os started H enc _ => turnRuns_lifted os started H enc)

end Go.Proofs.Ytecpbhefpicmaaa
