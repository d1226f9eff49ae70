/- The walks over cast's functions: each function's answer, for all arguments of its types. -/
import Derived.Test.YtbidfmlomiimnaaFrame
import Derived.WalkSpells
import Derived.WalkLawsBesides
import Derived.Outline
import Derived.Deep.RegionHeld3
namespace Go.Proofs.Ytbidfmlomiimnaa
open Go.RowKit

theorem bcell {W w1 : World} (hb : Below W.heap.size W w1) : (∀ b o, b < W.heap.size → w1.cell? ⟨b, o, none⟩ = W.cell? ⟨b, o, none⟩) ∧ (∀ b o, b < W.heap.size → w1.frozen? ⟨b, o, none⟩ = W.frozen? ⟨b, o, none⟩) :=
  ⟨fun b o h => hb.cell (p := ⟨b, o, none⟩) h, fun b o h => hb.frozen (p := ⟨b, o, none⟩) h⟩

def srcB (i : Int) : Bool := decide (0 ≤ i ∧ i < 3)
theorem srcB_t {i : Int} (h : srcB i = true) : 0 ≤ i ∧ i < 3 := by simpa [srcB] using h
theorem srcB_f {i : Int} (h : srcB i = false) : i < 0 ∨ 3 ≤ i := by simp [srcB] at h; omega
theorem source_any (i : Int) (w : World) : Calls Try.prog 16 #[.int .i64 i] w fun x w' => x = .returned (.bool (srcB i)) ∧ w = w' := by
  by_cases c1 : 0 ≤ i
  · have e : srcB i = decide (i < 3) := by simp [srcB, c1]
    rw [e]
    clear e
    go_enter Try.func16, Try.ntmps16
    go_wp2
    go_ret
    exact ⟨rfl, rfl⟩
  · have e : srcB i = false := by simp [srcB]; omega
    rw [e]
    clear e
    go_enter Try.func16, Try.ntmps16
    go_wp2
    go_ret
    exact ⟨rfl, rfl⟩

theorem runs_any (a : Bool) (n k i : Int) (w : World) : Calls Try.prog 17 #[.agg #[.bool a, .int .i64 n, .int .i64 k], .int .i64 i] w fun x w' => x = .returned (.bool (a && n == i)) ∧ Below w.heap.size w w' := by
  cases a
  · go_enter Try.func17, Try.ntmps17
    go_wp2
    go_ret
    exact ⟨rfl, (Below.refl _ _).alloc (Nat.le_refl _) _⟩
  · go_enter Try.func17, Try.ntmps17
    go_wp2
    go_ret
    exact ⟨rfl, (Below.refl _ _).alloc (Nat.le_refl _) _⟩

def goodB (a : Bool) (n k : Int) : Bool := srcB n && srcB k && (a || n == 0)
theorem good_any (a : Bool) (n k : Int) (w : World) : Calls Try.prog 11 #[.agg #[.bool a, .int .i64 n, .int .i64 k]] w fun x w' => x = .returned (.bool (goodB a n k)) ∧ Below w.heap.size w w' := by
  go_enter Try.func11, Try.ntmps11
  go_wp2_with (go_at_call 16; refine (source_any _ _).mono ?_; rintro e w' ⟨rfl, rfl⟩)
  all_goals go_ret
  all_goals refine ⟨?_, (Below.refl _ _).alloc (Nat.le_refl _) _⟩
  all_goals simp [goodB, *]
end Go.Proofs.Ytbidfmlomiimnaa
