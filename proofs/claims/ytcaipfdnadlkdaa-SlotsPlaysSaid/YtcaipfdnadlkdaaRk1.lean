/- Epochs, plainly: what the document's chapter 18 computes; the walks over rekey's small functions. -/
import Derived.Test.YtcaipfdnadlkdaaHead
import Derived.WalkSpells
import Derived.WalkLawsBesides
import Derived.Outline
import Derived.Deep.RegionHeld3
import Derived.Deep.QuietTactic
import Derived.BigQuiet
import Derived.RegionTactic
import Derived.Lib.Hide
namespace Go.Proofs.Ytcaipfdnadlkdaa
open Go.RowKit
set_option linter.unusedSimpArgs false
set_option linter.unusedVariables false

theorem bk {W w1 : World} (hb : Below W.heap.size W w1) (b : Nat) (h : b < W.heap.size) : (∀ o, w1.cell? ⟨b, o, none⟩ = W.cell? ⟨b, o, none⟩) ∧ (∀ o, w1.frozen? ⟨b, o, none⟩ = W.frozen? ⟨b, o, none⟩) :=
  ⟨fun o => hb.cell (p := ⟨b, o, none⟩) h, fun o => hb.frozen (p := ⟨b, o, none⟩) h⟩
theorem via {w W w1 : World} (h : Below w.heap.size w W) (hb : Below W.heap.size W w1) : Below w.heap.size w w1 := h.trans (hb.mono h.size)
theorem bal {w W : World} (h : Below w.heap.size w W) (o : Obj) : Below w.heap.size w (W.alloc o) := h.alloc h.size o
theorem bdn {B : Nat} {a w : World} (h : Below B a w) (n : Nat) : Below B a (w.drewN n) := ⟨h.os, h.tape, h.output, h.size, h.block⟩

structure St where
  ep : Int
  op : Bool
  nx : Int
  nd : Int
  hv : Int
  bn : Int

def goodS (s : St) : Bool :=
  decide (0 ≤ s.ep ∧ s.ep ≤ 65535) && (if s.op then decide (s.ep < s.nx ∧ s.nx ≤ 65535 ∧ 1 ≤ s.nd ∧ s.nd ≤ 255) && (bits .andNot .i64 s.hv s.nd == 0 && s.hv != s.nd) else (s.nx == 0 && s.nd == 0 && s.hv == 0 && s.bn == 0))
def slB (i : Int) : Bool := decide (0 ≤ i ∧ i < 8)
def comS (s : St) : Int := if s.op then s.nx else s.ep
def needB (n : Int) : Bool := decide (0 ≤ n ∧ n ≤ 255)
def raiseF (s : St) (need now : Int) : St × Int :=
  if goodS s && needB need then (if 65535 < comS s + 1 then (s, 11) else if need = 0 then (⟨comS s + 1, false, 0, 0, 0, 0⟩, 0) else (⟨s.ep, true, comS s + 1, need, 0, now⟩, 0)) else (s, 1)
def bitZ (x i : Int) : Bool := bits .and .i64 (x / 2 ^ i.toNat) 1 == 0
def bitO (x i : Int) : Bool := bits .and .i64 (x / 2 ^ i.toNat) 1 == 1

theorem slot_any (i : Int) (w : World) : Calls Try.prog 57 #[.int .i64 i] w fun x w' => x = .returned (.bool (slB i)) ∧ w = w' := by
  by_cases c1 : 0 ≤ i
  · have e : slB i = decide (i < 8) := by simp [slB, c1]
    rw [e]
    clear e
    go_enter Try.func57, Try.ntmps57
    go_wp2
    go_ret
    exact ⟨rfl, rfl⟩
  · have e : slB i = false := by simp [slB]; omega
    rw [e]
    clear e
    go_enter Try.func57, Try.ntmps57
    go_wp2
    go_ret
    exact ⟨rfl, rfl⟩

theorem coming_any (ep : Int) (op : Bool) (nx nd hv bn : Int) (w : World) : Calls Try.prog 19 #[.agg #[.int .i64 ep, .bool op, .int .i64 nx, .int .i64 nd, .int .i64 hv, .int .i64 bn]] w fun x w' => x = .returned (.int .i64 (comS ⟨ep, op, nx, nd, hv, bn⟩)) ∧ Below w.heap.size w w' := by
  cases op
  · go_enter Try.func19, Try.ntmps19
    go_wp2
    go_ret
    exact ⟨rfl, (by repeat (first | with_reducible exact Below.refl _ _ | (with_reducible refine Below.setCell ?_ (by first | omega | (simp; done) | (simp; omega)) _) | with_reducible refine bal ?_ _ | with_reducible refine Below.drew ?_ | with_reducible refine bdn ?_ _ | with_reducible refine via ?_ (by with_reducible assumption)))⟩
  · go_enter Try.func19, Try.ntmps19
    go_wp2
    go_ret
    exact ⟨rfl, (by repeat (first | with_reducible exact Below.refl _ _ | (with_reducible refine Below.setCell ?_ (by first | omega | (simp; done) | (simp; omega)) _) | with_reducible refine bal ?_ _ | with_reducible refine Below.drew ?_ | with_reducible refine bdn ?_ _ | with_reducible refine via ?_ (by with_reducible assumption)))⟩

set_option maxHeartbeats 1000000 in
theorem good_any (ep : Int) (op : Bool) (nx nd hv bn : Int) (w : World) : Calls Try.prog 20 #[.agg #[.int .i64 ep, .bool op, .int .i64 nx, .int .i64 nd, .int .i64 hv, .int .i64 bn]] w fun x w' => x = .returned (.bool (goodS ⟨ep, op, nx, nd, hv, bn⟩)) ∧ Below w.heap.size w w' := by
  cases op
  · go_enter Try.func20, Try.ntmps20
    go_wp2
    all_goals go_ret
    all_goals refine ⟨?_, (by repeat (first | with_reducible exact Below.refl _ _ | (with_reducible refine Below.setCell ?_ (by first | omega | (simp; done) | (simp; omega)) _) | with_reducible refine bal ?_ _ | with_reducible refine Below.drew ?_ | with_reducible refine bdn ?_ _ | with_reducible refine via ?_ (by with_reducible assumption)))⟩
    all_goals simp [goodS, *]
    all_goals omega
  · go_enter Try.func20, Try.ntmps20
    go_wp2
    all_goals go_ret
    all_goals refine ⟨?_, (by repeat (first | with_reducible exact Below.refl _ _ | (with_reducible refine Below.setCell ?_ (by first | omega | (simp; done) | (simp; omega)) _) | with_reducible refine bal ?_ _ | with_reducible refine Below.drew ?_ | with_reducible refine bdn ?_ _ | with_reducible refine via ?_ (by with_reducible assumption)))⟩
    all_goals simp [goodS, *]
    all_goals omega
end Go.Proofs.Ytcaipfdnadlkdaa
