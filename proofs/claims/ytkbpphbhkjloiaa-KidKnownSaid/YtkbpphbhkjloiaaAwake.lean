/- What the document tells, and the laws' own walks. -/
import Derived.Test.YtkbpphbhkjloiaaRefWalks
namespace Go.Proofs.Ytkbpphbhkjloiaa
open Go.RowKit

theorem awake_any (w : World) : Calls Try.prog 7 #[] w fun x w' => x = .returned (.bool true) ∧ w = w' := by
  go_enter Try.func7, Try.ntmps7
  go_wp2_with (first | (go_at_call 8; refine (of_ok _ _ _ _ (by omega) (by omega) (by omega) (by omega) (by omega) (by omega)).mono ?_; rintro e w' ⟨rfl, rfl⟩) | (go_at_call 9; refine (parts_ok _ _ (by omega) (by omega)).mono ?_; rintro e w' ⟨rfl, rfl⟩))
  go_ret
  exact ⟨rfl, rfl⟩

theorem known_any (w : World) : Calls Try.prog 4 #[] w fun x w' => x = .returned (.bool true) ∧ w = w' := by
  go_enter Try.func4, Try.ntmps4
  go_wp2_with (first | (go_at_call 7; refine (awake_any _).mono ?_; rintro e w' ⟨rfl, rfl⟩) | (go_at_call 8; refine (of_no _ _ _ _ (by omega)).mono ?_; rintro e w' ⟨rfl, rfl⟩) | (go_at_call 8; refine (of_ok _ _ _ _ (by omega) (by omega) (by omega) (by omega) (by omega) (by omega)).mono ?_; rintro e w' ⟨rfl, rfl⟩) | (go_at_call 9; refine (parts_no _ _ (by omega)).mono ?_; rintro e w' ⟨rfl, rfl⟩) | (go_at_call 10; refine (less_any _ _ _ (by omega) (by omega)).mono ?_; rintro e w' ⟨rfl, rfl⟩))
  go_ret
  exact ⟨rfl, rfl⟩

theorem back_any (a b c d e f : Int) (w : World) (a0 : 0 ≤ a) (a1 : a ≤ 65535) (b0 : 0 ≤ b) (b1 : b ≤ 65535) (c0 : 0 ≤ c) (c1 : c ≤ 255) (d0 : 0 ≤ d) (d1 : d ≤ 255) (e0 : 0 ≤ e) (e1 : e ≤ 255) (f0 : 0 ≤ f) (f1 : f ≤ 255) :
    Calls Try.prog 3 #[.int .u16 a, .int .u16 b, .int .u8 c, .int .u8 d, .int .u8 e, .int .u8 f] w fun x w' => x = .returned (.bool true) ∧ w = w' := by
  go_enter Try.func3, Try.ntmps3
  go_wp2_with (first | (go_at_call 7; refine (awake_any _).mono ?_; rintro e w' ⟨rfl, rfl⟩) | (go_at_call 8; refine (of_ok _ _ _ _ (by omega) (by omega) (by omega) (by omega) (by omega) (by omega)).mono ?_; rintro e w' ⟨rfl, rfl⟩) | (go_at_call 9; refine (parts_ok _ _ (by omega) (by omega)).mono ?_; rintro e w' ⟨rfl, rfl⟩))
  all_goals go_ret
  all_goals refine ⟨?_, rfl⟩
  all_goals simp
  all_goals first | omega | (rw [Bool.eq_iff_iff]; simp)

theorem less_laws (k l m : Int) (w : World) (k0 : 0 ≤ k) (k1 : k ≤ 18446744073709551615) (l0 : 0 ≤ l) (l1 : l ≤ 18446744073709551615) (m0 : 0 ≤ m) (m1 : m ≤ 18446744073709551615) :
    Calls Try.prog 6 #[.int .u64 k, .int .u64 l, .int .u64 m] w fun x w' => x = .returned (.bool true) ∧ w = w' := by
  go_enter Try.func6, Try.ntmps6
  go_wp2_with (first | (go_at_call 7; refine (awake_any _).mono ?_; rintro e w' ⟨rfl, rfl⟩) | (go_at_call 9; refine (parts_ok _ _ (by omega) (by omega)).mono ?_; rintro e w' ⟨rfl, rfl⟩) | (go_at_call 10; refine (less_any _ _ _ (by omega) (by omega)).mono ?_; rintro e w' ⟨rfl, rfl⟩))
  all_goals go_ret
  all_goals refine ⟨?_, rfl⟩
  all_goals simp [lessB] at *
  all_goals first | omega | (rename_i h; exact h (by rw [Bool.eq_iff_iff]; simp; omega))
end Go.Proofs.Ytkbpphbhkjloiaa
