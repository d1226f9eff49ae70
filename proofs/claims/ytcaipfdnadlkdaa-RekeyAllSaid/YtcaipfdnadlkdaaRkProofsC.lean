/- RekeyAll, proved. No condition. -/
import Derived.Test.YtcaipfdnadlkdaaHead
import Derived.Test.YtcaipfdnadlkdaaRk13
namespace Go.Proofs.Ytcaipfdnadlkdaa
open Go.ChangeShapes Go.WideShapes Go.ChangeAt Go.RowKit
set_option linter.unusedVariables false
set_option linter.unusedSimpArgs false

set_option maxRecDepth 100000 in
set_option maxHeartbeats 1000000 in
theorem all_zero (v : Value) (w : World) : Calls Try.prog 3 #[.int .u8 0, v] w fun x w' => x = .returned (.bool true) ∧ Below w.heap.size w w' := by
  go_enter Try.func3, Try.ntmps3
  go_wp2_with (first | (go_at_call 15; refine (awake_any _).mono ?_; rintro e w1 ⟨rfl, hb1⟩; have hz_w1 : w.heap.size ≤ w1.heap.size := (by have h_ := hb1.size; first | omega | (simp at h_; omega))))
  go_ret
  exact ⟨rfl, (by repeat (first | with_reducible exact Below.refl _ _ | (with_reducible refine Below.setCell ?_ (by first | omega | (simp; done) | (simp; omega)) _) | with_reducible refine bal ?_ _ | with_reducible refine Below.drew ?_ | with_reducible refine bdn ?_ _ | with_reducible refine via ?_ (by with_reducible assumption)))⟩

set_option maxRecDepth 100000 in
set_option maxHeartbeats 1000000 in
theorem all_nil (ao : Option Addr) (cap n : Nat) (w : World) (n0 : 1 ≤ n) (n1 : n ≤ 255) : Calls Try.prog 3 #[.int .u8 n, .slice ao 0 cap] w fun x w' => x = .returned (.bool true) ∧ Below w.heap.size w w' := by
  have hn0 : ((n : Int) == 0) = false := by simp; omega
  have hgz : goodS ⟨4, false, 0, 0, 0, 0⟩ = true := by kernel_rfl
  have hnb : needB n = true := by simp [needB]; omega
  have hr : raiseF ⟨4, false, 0, 0, 0, 0⟩ n 7 = (⟨4, true, 5, n, 0, 7⟩, 0) := by
    simp only [raiseF, hgz, hnb, Bool.and_self, if_true, comS]
    rw [if_neg (by decide), if_neg (by omega)]
    rfl
  clear hgz hnb
  go_enter Try.func3, Try.ntmps3
  go_wp2_with (first | (go_at_call 15; refine (awake_any _).mono ?_; rintro e w1 ⟨rfl, hb1⟩; have hz_w1 : w.heap.size ≤ w1.heap.size := (by have h_ := hb1.size; first | omega | (simp at h_; omega))) | (go_at_call 16; refine (raise_any _ _ _ _ _ _ _ _ _ ).mono ?_; rintro e w2 ⟨rfl, hb2⟩; have hz_w2 : w1.heap.size ≤ w2.heap.size := (by have h_ := hb2.size; first | omega | (simp at h_; omega))))
  refine wp_loop_rounds 1 ?_
  rw [rounds_succ]
  go_wp2
  go_ret
  exact ⟨rfl, (by repeat (first | with_reducible exact Below.refl _ _ | (with_reducible refine Below.setCell ?_ (by first | omega | (simp; done) | (simp; omega)) _) | with_reducible refine bal ?_ _ | with_reducible refine Below.drew ?_ | with_reducible refine bdn ?_ _ | with_reducible refine via ?_ (by with_reducible assumption)))⟩

set_option maxRecDepth 100000 in
theorem all_any {H : Type} {enc : TypeId × Value → H} {d : DataW H} {p : List MemPlace} {b0 : Nat} (W : World) (n : Int) (v1 : Value) (h0 : 0 ≤ n) (h1 : n ≤ 255) (hv : Value.okWide Try.prog W .any b0 22 v1) (h : DataW.Trod enc Try.prog W 0 (fun _ => true) true 22 v1 d p) :
    Calls Try.prog 3 #[.int .u8 n, v1] W fun x w' => x = .returned (.bool true) ∧ Below W.heap.size W w' := by
  obtain ⟨m, rfl⟩ := Int.eq_ofNat_of_zero_le h0
  by_cases hm : m = 0
  · subst hm
    rw [show ((0 : Nat) : Int) = 0 from rfl]
    exact all_zero v1 W
  rcases Args.open_ints1 Try.underlying22 Try.underlying5 (by kernel_rfl) hv h with rfl | ⟨b, off, len, cap, X, rfl, hl, hc, hx⟩
  · exact all_nil none 0 m W (by omega) (by omega)
  · cases len with
    | zero => exact all_nil _ cap m W (by omega) (by omega)
    | succ k => exact all_law b off (k + 1) cap m X W (by unfold maxLen at hc; omega) (by omega) (by omega) (fun i hi => ⟨(hx i hi).1, bounds_u8 (hx i hi).2⟩) (World.block_lt_of_cell? W _ (hx 0 (by omega)).1)

set_option maxRecDepth 100000 in
theorem rekeyAll_lifted (os : Os) (started : os.Started) (H : Type) (enc : TypeId × Value → H) :
    ReturnsInHanded {} Try.checked os 3 .any (Rows.rekeyAllSpec.pre6 enc Try.prog Try.f3 Rows.rekeyAllRow.domain false) (Rows.rekeyAllSpec.post enc Try.prog Try.f3 false true false false) := by
  refine returnsInHanded_of_change (C := Try.checked) Try.own started (by kernel_rfl) Try.func3
    (ChangeSpec.witness6 (enc := enc) (C := Try.checked) false ⟨#[], #[Value.int .u8 0, Value.slice none 0 0], []⟩ 8 (by kernel_rfl) (by kernel_rfl) (by kernel_rfl) (by kernel_rfl)) ?_
  intro W base args ds gs before hval0 hW _ _
  have hval : ∀ (j : Nat) t v, Try.f3.params[j]? = some t → args[j]? = some v → Value.okWide Try.prog W .any base t v := hval0
  clear hval0
  obtain ⟨p, q, hA0, hV, _, hfz, _⟩ := id hW
  have hA : DataW.TrodAll enc Try.prog W 0 (fun _ => true) true Try.f3.params.toList args.toList ds p := hA0
  rw [Try.params3] at hA hval
  obtain ⟨v0, vs0, d0, ds0, p0, q0, hargs, rfl, rfl, h0, r0⟩ := trodAll_cons hA
  obtain ⟨v1, vs1, d1, ds1, p1, q1, rfl, rfl, rfl, h1, r1⟩ := trodAll_cons r0
  obtain ⟨rfl, rfl, rfl⟩ := trodAll_nil r1
  obtain rfl : args = #[v0, v1] := by cases args; simp_all
  obtain ⟨rfl, rfl⟩ := trodVars_none hV
  obtain ⟨a0, rfl, rfl, rfl, w0⟩ := open_int Try.underlying5 (hval 0 5 v0 rfl rfl) h0
  clear hA hA0
  refine (all_any W a0 v1 (bounds_u8 w0).1 (bounds_u8 w0).2 (hval 1 22 v1 rfl rfl) h1).mono fun e W' ⟨he, hw⟩ => ?_
  subst he
  exact ⟨_, rfl, Frame.law_post hW rfl Try.laidOut (by kernel_rfl) rfl Try.underlying4 rfl rfl rfl hw⟩

theorem rekeyAll_holds : Rows.RekeyAllSaid :=
  OpenClaim.holds_of_wide 3 Try.f3 rfl rfl rfl rfl rfl rfl rfl ⟨rfl, rfl, rfl, rfl, rfl⟩ rfl rfl rfl rfl rfl (by kernel_rfl) Try.func3 (by kernel_rfl)
    (of_decide_eq_true (by kernel_rfl)) (by unfold Func.isWrapper; first | (rw [if_pos (by decide +kernel)]; kernel_rfl) | (rw [if_neg (by decide +kernel)]; exact ⟨rfl, rfl⟩))
    (fun os started H enc _ => rekeyAll_lifted os started H enc)

end Go.Proofs.Ytcaipfdnadlkdaa
