/- The walks over the reference's functions. -/
import Derived.Test.YtkbpphbhkjloiaaWalks
import Derived.Test.YtkbpphbhkjloiaaPlain
namespace Go.Proofs.Ytkbpphbhkjloiaa
open Go.RowKit

set_option maxHeartbeats 400000 in
theorem rof_ok (e s i : Int) (w : World) (h1 : 0 ≤ e) (h2 : e ≤ 65535) (h3 : 0 ≤ s) (h4 : s ≤ 31) (h5 : 0 ≤ i) (h6 : i ≤ 7) :
    Calls Try.prog 11 #[.int .i64 e, .int .i64 s, .int .i64 i] w fun x w' => x = .returned (.tuple #[.int .u64 (256 * e + 8 * s + i), .int .i64 0]) ∧ w = w' := by
  go_enter Try.func11, Try.ntmps11
  go_wp2
  go_ret2
  exact ⟨by simp only [← Plain.name_or e s i h1 h2 h3 h4 h5 h6]; rfl, rfl⟩
set_option maxHeartbeats 400000 in
theorem rof_no (e s i : Int) (w : World) (h : e < 0 ∨ 65535 < e ∨ s < 0 ∨ 31 < s ∨ i < 0 ∨ 7 < i) :
    Calls Try.prog 11 #[.int .i64 e, .int .i64 s, .int .i64 i] w fun x w' => x = .returned (.tuple #[.int .u64 0, .int .i64 1]) ∧ w = w' := by
  by_cases c1 : e < 0
  · go_enter Try.func11, Try.ntmps11
    go_wp2
    go_ret2
    exact ⟨rfl, rfl⟩
  by_cases c2 : 65535 < e
  · go_enter Try.func11, Try.ntmps11
    go_wp2
    go_ret2
    exact ⟨rfl, rfl⟩
  by_cases c3 : s < 0
  · go_enter Try.func11, Try.ntmps11
    go_wp2
    go_ret2
    exact ⟨rfl, rfl⟩
  by_cases c4 : 31 < s
  · go_enter Try.func11, Try.ntmps11
    go_wp2
    go_ret2
    exact ⟨rfl, rfl⟩
  by_cases c5 : i < 0
  · go_enter Try.func11, Try.ntmps11
    go_wp2
    go_ret2
    exact ⟨rfl, rfl⟩
  · have c6 : 7 < i := by omega
    clear h
    go_enter Try.func11, Try.ntmps11
    go_wp2
    go_ret2
    exact ⟨rfl, rfl⟩

theorem rparts_ok (k : Int) (w : World) (h0 : 0 ≤ k) (h1 : k < 16777216) :
    Calls Try.prog 12 #[.int .u64 k] w fun x w' => x = .returned (.tuple #[.int .i64 (k / 256), .int .i64 (k % 256 / 8), .int .i64 (k % 8), .bool true]) ∧ w = w' := by
  go_enter Try.func12, Try.ntmps12
  go_wp2
  refine bodyPost_ret (results_tmp4 rfl _ _ _) rfl ?_
  have e1 : wrap64 (bits .and .u64 (k / 8) 31) = k % 256 / 8 := by rw [Plain.and31 _ (by omega) (by omega)]; unfold wrap64; omega
  have e2 : wrap64 (bits .and .u64 k 7) = k % 8 := by rw [Plain.and7 _ (by omega) (by omega)]; unfold wrap64; omega
  exact ⟨by rw [← e1, ← e2]; rfl, rfl⟩
theorem rparts_no (k : Int) (w : World) (h1 : 16777216 ≤ k) :
    Calls Try.prog 12 #[.int .u64 k] w fun x w' => x = .returned (.tuple #[.int .i64 0, .int .i64 0, .int .i64 0, .bool false]) ∧ w = w' := by
  go_enter Try.func12, Try.ntmps12
  go_wp2
  refine bodyPost_ret (results_tmp4 rfl _ _ _) rfl ?_
  exact ⟨rfl, rfl⟩
theorem rless_any (a b : Int) (w : World) :
    Calls Try.prog 13 #[.int .u64 a, .int .u64 b] w fun x w' => x = .returned (.bool (lessB a b)) ∧ w = w' := by
  by_cases c1 : a < 16777216
  · by_cases c2 : b < 16777216
    · have e : lessB a b = decide (a / 8 < b / 8) := by simp [lessB, c1, c2]
      rw [e]
      clear e
      go_enter Try.func13, Try.ntmps13
      go_wp2
      go_ret
      exact ⟨rfl, rfl⟩
    · have e : lessB a b = false := by simp [lessB]; omega
      rw [e]
      clear e
      go_enter Try.func13, Try.ntmps13
      go_wp2
      go_ret
      exact ⟨rfl, rfl⟩
  · have e : lessB a b = false := by simp [lessB]; omega
    rw [e]
    clear e
    go_enter Try.func13, Try.ntmps13
    go_wp2
    go_ret
    exact ⟨rfl, rfl⟩
end Go.Proofs.Ytkbpphbhkjloiaa
