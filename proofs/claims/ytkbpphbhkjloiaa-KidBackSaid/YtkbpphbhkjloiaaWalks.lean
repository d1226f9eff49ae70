/- The walks over kid's functions and the reference's: each function's answer, for all arguments of its types. -/
import Derived.Test.YtkbpphbhkjloiaaRows
import Derived.WalkKit
import Derived.WalkSpells
import Derived.WalkLawsBesides
namespace Go.Proofs.Ytkbpphbhkjloiaa
open Go.RowKit

set_option maxHeartbeats 400000 in
theorem of_ok (e s i : Int) (w : World) (h1 : 0 ≤ e) (h2 : e ≤ 65535) (h3 : 0 ≤ s) (h4 : s ≤ 31) (h5 : 0 ≤ i) (h6 : i ≤ 7) :
    Calls Try.prog 8 #[.int .i64 e, .int .i64 s, .int .i64 i] w fun x w' => x = .returned (.tuple #[.int .u64 (256 * e + 8 * s + i), .int .i64 0]) ∧ w = w' := by
  go_enter Try.func8, Try.ntmps8
  go_wp2
  go_ret2
  exact ⟨rfl, rfl⟩

set_option maxHeartbeats 400000 in
theorem of_no (e s i : Int) (w : World) (h : e < 0 ∨ 65535 < e ∨ s < 0 ∨ 31 < s ∨ i < 0 ∨ 7 < i) :
    Calls Try.prog 8 #[.int .i64 e, .int .i64 s, .int .i64 i] w fun x w' => x = .returned (.tuple #[.int .u64 0, .int .i64 1]) ∧ w = w' := by
  by_cases c1 : e < 0
  · go_enter Try.func8, Try.ntmps8
    go_wp2
    go_ret2
    exact ⟨rfl, rfl⟩
  by_cases c2 : 65535 < e
  · go_enter Try.func8, Try.ntmps8
    go_wp2
    go_ret2
    exact ⟨rfl, rfl⟩
  by_cases c3 : s < 0
  · go_enter Try.func8, Try.ntmps8
    go_wp2
    go_ret2
    exact ⟨rfl, rfl⟩
  by_cases c4 : 31 < s
  · go_enter Try.func8, Try.ntmps8
    go_wp2
    go_ret2
    exact ⟨rfl, rfl⟩
  by_cases c5 : i < 0
  · go_enter Try.func8, Try.ntmps8
    go_wp2
    go_ret2
    exact ⟨rfl, rfl⟩
  · have c6 : 8 ≤ i := by omega
    clear h
    go_enter Try.func8, Try.ntmps8
    go_wp2
    go_ret2
    exact ⟨rfl, rfl⟩

theorem results_tmp4 {fn : Func} {t u v x : Tmp} (h : fn.results = #[.tmp t, .tmp u, .tmp v, .tmp x]) (tmps : Array Value) (P : Program) (w : World) :
    (results fn tmps).run P w = .ok (.tuple #[tmps.getD t undef, tmps.getD u undef, tmps.getD v undef, tmps.getD x undef]) w := by simp [results, h]

theorem parts_ok (k : Int) (w : World) (h0 : 0 ≤ k) (h1 : k < 16777216) :
    Calls Try.prog 9 #[.int .u64 k] w fun x w' => x = .returned (.tuple #[.int .i64 (k / 256), .int .i64 (k % 256 / 8), .int .i64 (k % 8), .bool true]) ∧ w = w' := by
  go_enter Try.func9, Try.ntmps9
  go_wp2
  refine bodyPost_ret (results_tmp4 rfl _ _ _) rfl ?_
  exact ⟨rfl, rfl⟩
theorem parts_no (k : Int) (w : World) (h1 : 16777216 ≤ k) :
    Calls Try.prog 9 #[.int .u64 k] w fun x w' => x = .returned (.tuple #[.int .i64 0, .int .i64 0, .int .i64 0, .bool false]) ∧ w = w' := by
  go_enter Try.func9, Try.ntmps9
  go_wp2
  refine bodyPost_ret (results_tmp4 rfl _ _ _) rfl ?_
  exact ⟨rfl, rfl⟩

def lessB (a b : Int) : Bool := decide (a < 16777216 ∧ b < 16777216 ∧ a / 8 < b / 8)
theorem less_any (a b : Int) (w : World) (ha : 0 ≤ a) (hb : 0 ≤ b) :
    Calls Try.prog 10 #[.int .u64 a, .int .u64 b] w fun x w' => x = .returned (.bool (lessB a b)) ∧ w = w' := by
  by_cases c1 : a < 16777216
  · by_cases c2 : b < 16777216
    · have e : lessB a b = decide (a / 8 < b / 8) := by simp [lessB, c1, c2]
      rw [e]
      clear e
      go_enter Try.func10, Try.ntmps10
      go_wp2
      go_ret
      exact ⟨rfl, rfl⟩
    · have e : lessB a b = false := by simp [lessB]; omega
      rw [e]
      clear e
      go_enter Try.func10, Try.ntmps10
      go_wp2
      go_ret
      exact ⟨rfl, rfl⟩
  · have e : lessB a b = false := by simp [lessB]; omega
    rw [e]
    clear e
    go_enter Try.func10, Try.ntmps10
    go_wp2
    go_ret
    exact ⟨rfl, rfl⟩
end Go.Proofs.Ytkbpphbhkjloiaa
