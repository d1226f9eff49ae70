/- The walk of the law that holds the program's answers against the reference's: any numbers. -/
import Derived.Test.YtkbpphbhkjloiaaAwake
import Derived.Lib.Hide
namespace Go.Proofs.Ytkbpphbhkjloiaa
open Go.RowKit

theorem of_any (e s i : Int) : ∃ r f : Int, (∀ w, Calls Try.prog 8 #[.int .i64 e, .int .i64 s, .int .i64 i] w fun x w' => x = .returned (.tuple #[.int .u64 r, .int .i64 f]) ∧ w = w') ∧ (∀ w, Calls Try.prog 11 #[.int .i64 e, .int .i64 s, .int .i64 i] w fun x w' => x = .returned (.tuple #[.int .u64 r, .int .i64 f]) ∧ w = w') := by
  by_cases h : e < 0 ∨ 65535 < e ∨ s < 0 ∨ 31 < s ∨ i < 0 ∨ 7 < i
  · exact ⟨0, 1, fun w => of_no e s i w h, fun w => rof_no e s i w h⟩
  · exact ⟨_, _, fun w => of_ok e s i w (by omega) (by omega) (by omega) (by omega) (by omega) (by omega), fun w => rof_ok e s i w (by omega) (by omega) (by omega) (by omega) (by omega) (by omega)⟩

theorem parts_any (k : Int) (h0 : 0 ≤ k) : ∃ (a b c : Int) (ok : Bool), (∀ w, Calls Try.prog 9 #[.int .u64 k] w fun x w' => x = .returned (.tuple #[.int .i64 a, .int .i64 b, .int .i64 c, .bool ok]) ∧ w = w') ∧ (∀ w, Calls Try.prog 12 #[.int .u64 k] w fun x w' => x = .returned (.tuple #[.int .i64 a, .int .i64 b, .int .i64 c, .bool ok]) ∧ w = w') := by
  by_cases h : k < 16777216
  · exact ⟨_, _, _, _, fun w => parts_ok k w h0 h, fun w => rparts_ok k w h0 h⟩
  · exact ⟨_, _, _, _, fun w => parts_no k w (by omega), fun w => rparts_no k w (by omega)⟩

theorem says_any (e s i k l : Int) (w : World) (k0 : 0 ≤ k) (l0 : 0 ≤ l) :
    Calls Try.prog 5 #[.int .i64 e, .int .i64 s, .int .i64 i, .int .u64 k, .int .u64 l] w fun x w' => x = .returned (.bool true) ∧ w = w' := by
  obtain ⟨r, f, c1, c2⟩ := of_any e s i
  obtain ⟨a, b, c, ok, c3, c4⟩ := parts_any k k0
  have C1 := Lib.hid c1
  have C2 := Lib.hid c2
  have C3 := Lib.hid c3
  have C4 := Lib.hid c4
  clear c1 c2 c3 c4
  go_enter Try.func5, Try.ntmps5
  go_wp2_with (first | (go_at_call 7; refine (awake_any _).mono ?_; rintro e w' ⟨rfl, rfl⟩) | (go_at_call 8; refine (C1.out _).mono ?_; rintro e w' ⟨rfl, rfl⟩) | (go_at_call 11; refine (C2.out _).mono ?_; rintro e w' ⟨rfl, rfl⟩) | (go_at_call 9; refine (C3.out _).mono ?_; rintro e w' ⟨rfl, rfl⟩) | (go_at_call 12; refine (C4.out _).mono ?_; rintro e w' ⟨rfl, rfl⟩) | (go_at_call 10; refine (less_any _ _ _ (by omega) (by omega)).mono ?_; rintro e w' ⟨rfl, rfl⟩) | (go_at_call 13; refine (rless_any _ _ _).mono ?_; rintro e w' ⟨rfl, rfl⟩))
  go_ret
  exact ⟨rfl, rfl⟩
end Go.Proofs.Ytkbpphbhkjloiaa
