/- Rooms, plainly: ticks as the reference has them; who comes. No condition. -/
import Derived.Test.YtcaipfdnadlkdaaRm3
import Derived.Test.YtcaipfdnadlkdaaRm4
namespace Go.Proofs.Ytcaipfdnadlkdaa
open Go Go.RowKit
set_option linter.unusedVariables false
set_option linter.unusedSimpArgs false

structure tkIR (r0 : RV) (late now : Int) (n : Nat) (x : RV) : Prop where
  i : tkI r0 late now n x
  h0 : -9223372036854775808 ≤ x.k.hv
  h1 : x.k.hv ≤ 9223372036854775807
theorem gone_hv (x : RV) (i now : Int) (h0 : -9223372036854775808 ≤ x.k.hv) (h1 : x.k.hv ≤ 9223372036854775807) : -9223372036854775808 ≤ (goneG x i now).k.hv ∧ (goneG x i now).k.hv ≤ 9223372036854775807 := by
  unfold goneG
  split
  · dsimp only
    unfold raiseF
    split
    · split
      · exact ⟨h0, h1⟩
      · split <;> simp
    · exact ⟨h0, h1⟩
  · simp [overG]
theorem tkR_gone {R0 x y : RV} {l now i : Int} {k : Nat} (h : tkIR R0 l now k x) (hy : y = goneG (exRm x) i now) (hi : i = (k : Int)) (hb : R0.u.getD k false = true) (ho : (!x.o) = true) (hs : silB (R0.s.getD k 0) now = true ∨ bitO l k = true) : tkIR R0 l now (k + 1) (exRm y) := by
  refine ⟨tk_gone h.i hy hi hb ho hs, ?_, ?_⟩ <;> (rw [exRm_eq h.i.u h.i.a h.i.s h.i.c] at hy; subst hy)
  · exact (gone_hv x i now h.h0 h.h1).1
  · exact (gone_hv x i now h.h0 h.h1).2
theorem tkR_stay {R0 x : RV} {l now : Int} {k : Nat} (h : tkIR R0 l now k x) (h' : tkI R0 l now (k + 1) (exRm x)) : tkIR R0 l now (k + 1) (exRm x) := ⟨h', h.h0, h.h1⟩
theorem tk_over1 {R0 x : RV} {l now : Int} {k : Nat} (h : tkI R0 l now k x) (ho : x.o = true) : tkI R0 l now (k + 1) x := by
  have := tk_stay_o h (by rw [ho]; rfl)
  rwa [exRm_eq h.u h.a h.s h.c] at this
theorem tk_over {R0 x : RV} {l now : Int} : ∀ {n k : Nat}, tkI R0 l now k x → x.o = true → tkI R0 l now (k + n) x
  | 0, k, h, _ => h
  | n + 1, k, h, ho => by
    have := tk_over (n := n) (tk_over1 h ho) ho
    rwa [show k + 1 + n = k + (n + 1) by omega] at this
theorem tkR_end {R0 x : RV} {l now : Int} {k : Nat} (n : Nat) (h : tkIR R0 l now k x) (ho : (!x.o) = false) (hn : k + n = 8) : tkI R0 l now 8 (exRm x) := by
  have hx : x.o = true := by simpa using ho
  have := tk_over (n := n) h.i hx
  rw [hn] at this
  rwa [exRm_eq h.i.u h.i.a h.i.s h.i.c]
theorem tkR_end8 {R0 x : RV} {l now : Int} (h : tkIR R0 l now 8 x) : tkI R0 l now 8 (exRm x) := by
  rw [exRm_eq h.i.u h.i.a h.i.s h.i.c]; exact h.i
theorem abv_y {s now : Int} {z : Bool} (hz : z = abvB now s 500) (h : z = true) : silB s now = true := by rw [← abv_sil, ← hz, h]
theorem abv_n {s now : Int} {z : Bool} (hz : z = abvB now s 500) (h : z = false) : silB s now = false := by rw [← abv_sil, ← hz, h]
end Go.Proofs.Ytcaipfdnadlkdaa
