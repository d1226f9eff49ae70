/- The walks over the reference's GoodState, Raise. -/
import Derived.Test.YtcaipfdnadlkdaaRk6
namespace Go.Proofs.Ytcaipfdnadlkdaa
open Go.RowKit
set_option linter.unusedSimpArgs false
set_option linter.unusedVariables false

theorem good_alt (ep nx nd hv bn : Int) (b0 : -9223372036854775808 ≤ hv) (b1 : hv ≤ 9223372036854775807) : goodS ⟨ep, true, nx, nd, hv, bn⟩ = (decide (0 ≤ ep ∧ ep ≤ 65535) && (decide (ep < nx ∧ nx ≤ 65535 ∧ 1 ≤ nd ∧ nd ≤ 255) && ((decide (0 ≤ hv ∧ hv ≤ 255) && (bits .and .i64 hv nd == hv)) && hv != nd))) := by
  by_cases c : 1 ≤ nd ∧ nd ≤ 255
  · simp only [goodS, if_true]
    rw [andNot_and hv nd b0 b1 c.1 c.2]
  · have e : decide (ep < nx ∧ nx ≤ 65535 ∧ 1 ≤ nd ∧ nd ≤ 255) = false := by simp; omega
    simp only [goodS, if_true, e, Bool.false_and]

theorem in_yes (n lo hi : Int) (w : World) (h : lo ≤ n ∧ n ≤ hi) : Calls Try.prog 58 #[.int .i64 n, .int .i64 lo, .int .i64 hi] w fun x w' => x = .returned (.bool true) ∧ w = w' := by
  have e : decide (lo ≤ n ∧ n ≤ hi) = true := by simpa using h
  rw [← e]
  exact in_any n lo hi w
theorem in_not (n lo hi : Int) (w : World) (h : decide (lo ≤ n ∧ n ≤ hi) = false) : Calls Try.prog 58 #[.int .i64 n, .int .i64 lo, .int .i64 hi] w fun x w' => x = .returned (.bool false) ∧ w = w' := by
  rw [← h]
  exact in_any n lo hi w

set_option maxHeartbeats 2000000 in
theorem rgood_any (ep : Int) (op : Bool) (nx nd hv bn : Int) (w : World) (b0 : -9223372036854775808 ≤ hv) (b1 : hv ≤ 9223372036854775807) : Calls Try.prog 25 #[.agg #[.int .i64 ep, .bool op, .int .i64 nx, .int .i64 nd, .int .i64 hv, .int .i64 bn]] w fun x w' => x = .returned (.bool (goodS ⟨ep, op, nx, nd, hv, bn⟩)) ∧ Below w.heap.size w w' := by
  cases hd : decide (0 ≤ ep ∧ ep ≤ 65535)
  · have e : goodS ⟨ep, op, nx, nd, hv, bn⟩ = false := by simp only [goodS, hd, Bool.false_and]
    rw [e]
    clear e
    go_enter Try.func25, Try.ntmps25
    go_wp2_with (go_at_call 58; refine (in_not _ _ _ _ hd).mono ?_; rintro e w' ⟨rfl, rfl⟩)
    go_ret
    exact ⟨rfl, (by repeat (first | with_reducible exact Below.refl _ _ | (with_reducible refine Below.setCell ?_ (by first | omega | (simp; done) | (simp; omega)) _) | with_reducible refine bal ?_ _ | with_reducible refine Below.drew ?_ | with_reducible refine bdn ?_ _ | with_reducible refine via ?_ (by with_reducible assumption)))⟩
  cases op
  · have e : goodS ⟨ep, false, nx, nd, hv, bn⟩ = (nx == 0 && nd == 0 && hv == 0 && bn == 0) := by simp [goodS, hd]
    rw [e]
    clear e
    have hd' : 0 ≤ ep ∧ ep ≤ 65535 := by simpa using hd
    go_enter Try.func25, Try.ntmps25
    go_wp2_with (go_at_call 58; refine (in_yes _ _ _ _ hd').mono ?_; rintro e w' ⟨rfl, rfl⟩)
    all_goals go_ret
    all_goals refine ⟨?_, (by repeat (first | with_reducible exact Below.refl _ _ | (with_reducible refine Below.setCell ?_ (by first | omega | (simp; done) | (simp; omega)) _) | with_reducible refine bal ?_ _ | with_reducible refine Below.drew ?_ | with_reducible refine bdn ?_ _ | with_reducible refine via ?_ (by with_reducible assumption)))⟩
    all_goals simp [*]
  · have hal := good_alt ep nx nd hv bn b0 b1
    rw [hd, Bool.true_and] at hal
    have HAL := Lib.hid hal
    clear hal
    have hd' : 0 ≤ ep ∧ ep ≤ 65535 := by simpa using hd
    go_enter Try.func25, Try.ntmps25
    go_wp2_with (first | (go_at_call 58; refine (in_any _ _ _ _).mono ?_; rintro e w' ⟨rfl, rfl⟩))
    all_goals go_ret
    all_goals refine ⟨?_, (by repeat (first | with_reducible exact Below.refl _ _ | (with_reducible refine Below.setCell ?_ (by first | omega | (simp; done) | (simp; omega)) _) | with_reducible refine bal ?_ _ | with_reducible refine Below.drew ?_ | with_reducible refine bdn ?_ _ | with_reducible refine via ?_ (by with_reducible assumption)))⟩
    all_goals rw [HAL.out]
    all_goals simp [*]
    all_goals omega
end Go.Proofs.Ytcaipfdnadlkdaa
