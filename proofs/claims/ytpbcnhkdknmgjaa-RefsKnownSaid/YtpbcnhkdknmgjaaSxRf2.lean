/- Numbers that were had: the small calls as contracts. No condition. -/
import Derived.Test.YtpbcnhkdknmgjaaSxRf1
namespace Go.Proofs.Ytpbcnhkdknmgjaa.Sx
open Go Go.RowKit
set_option linter.unusedVariables false
set_option linter.unusedSimpArgs false
def cloneC : Con1 := { pat := [.r .u16], pre := some fun _ R => (gR R 0).length ≤ 1000, out := fun _ R => .ret [.r .u16 (gR R 0)] }
def idxC : Con1 := { pat := [.r .u16, .v (.i .u16)], out := fun L R => .eqn (idxL (gI L 0) 0 (gR R 0)) fun r => .ret [c1I .i64 r] }
def hasC : Con1 := { pat := [.r .u16, .v (.i .u16)], out := fun L R => .eqn (hasF (gR R 0) (gI L 0)) fun r => .ret [c1B r] }
def addC : Con1 := { pat := [.r .u16, .v (.i .u16)], pre := some fun _ R => (gR R 0).length ≤ 900, out := fun L R => .ret [.r .u16 (addF (gR R 0) (gI L 0))] }
def fitsC : Con1 := { pat := [.r .u16, .v (.i .u16), .r .i64], out := fun L R => .eqn (fitF (gR R 0) (gI L 0) (gR R 1)) fun r => .ret [c1B r] }
def sameC : Con1 := { pat := [.r .u16, .r .u16], out := fun L R => .eqn (decide (gR R 0 = gR R 1)) fun r => .ret [c1B r] }
def betC : Con1 := { pat := [.r .u16, .v (.i .i64), .v (.i .i64), .r .u16], pre := some fun L R => 0 ≤ gI L 0 ∧ gI L 1 ≤ ((gR R 0).length : Int), out := fun L R => .eqn (betF (gR R 0) (gI L 0) (gI L 1) (gR R 1)) fun r => .ret [c1B r] }
def idxAnn : Ann where
  A := Int
  names := fun _ => [0]
  st := fun _ a s => { s with slots := (keepS [0, 1, 6, 7] 0 s.slots).set 8 (one (.int .i64 a)) }
  inv := fun s _ a => 0 ≤ a ∧ a ≤ ((rowN (s.heap 0)).length : Int) ∧ idxL (intN (s.slots.getD 1 .u)) 0 (rowN (s.heap 0)) = idxL (intN (s.slots.getD 1 .u)) a ((rowN (s.heap 0)).drop a.toNat)
  dec := fun s a => (((rowN (s.heap 0)).length : Int) - a).toNat
  wit := fun s => intN (s.slots.getD 8 .u)
def hasAnn : Ann where
  A := Int
  names := fun _ => [0]
  st := fun _ a s => { s with slots := (keepS [0, 1] 0 s.slots).set 5 (one (.int .i64 a)) }
  inv := fun s _ a => 0 ≤ a ∧ a ≤ ((rowN (s.heap 0)).length : Int) ∧ hasF (rowN (s.heap 0)) (intN (s.slots.getD 1 .u)) = hasF ((rowN (s.heap 0)).drop a.toNat) (intN (s.slots.getD 1 .u))
  dec := fun s a => (((rowN (s.heap 0)).length : Int) - a).toNat
  wit := fun s => intN (s.slots.getD 5 .u)
def fitAnn (i : Nat) (kp : List Nat) : Ann where
  A := Int
  names := fun _ => [0, 1]
  st := fun _ a s => { s with slots := (keepS kp 0 s.slots).set i (one (.int .i64 a)) }
  inv := fun s _ a => 0 ≤ a ∧ a ≤ ((rowN (s.heap 1)).length : Int) ∧ fitF (rowN (s.heap 0)) (intN (s.slots.getD 1 .u)) (rowN (s.heap 1)) = fitF (rowN (s.heap 0)) (intN (s.slots.getD 1 .u)) ((rowN (s.heap 1)).drop a.toNat)
  dec := fun s a => (((rowN (s.heap 1)).length : Int) - a).toNat
  wit := fun s => intN (s.slots.getD i .u)
def sameAnn : Ann where
  A := Int
  names := fun _ => [0, 1]
  st := fun _ a s => { s with slots := (keepS [0, 1] 0 s.slots).set 5 (one (.int .i64 a)) }
  inv := fun s _ a => 0 ≤ a ∧ a ≤ ((rowN (s.heap 0)).length : Int) ∧ ((rowN (s.heap 0)).take a.toNat = (rowN (s.heap 1)).take a.toNat)
  dec := fun s a => (((rowN (s.heap 0)).length : Int) - a).toNat
  wit := fun s => intN (s.slots.getD 5 .u)
def betAnn : Ann where
  A := Int
  names := fun _ => [0, 1]
  st := fun _ a s => { s with slots := (keepS [0, 1, 2, 3] 0 s.slots).set 9 (one (.int .i64 a)) }
  inv := fun s _ a => intN (s.slots.getD 1 .u) ≤ a ∧ betF (rowN (s.heap 0)) (intN (s.slots.getD 1 .u)) (intN (s.slots.getD 2 .u)) (rowN (s.heap 1)) = betF (rowN (s.heap 0)) a (intN (s.slots.getD 2 .u)) (rowN (s.heap 1))
  dec := fun s a => (intN (s.slots.getD 2 .u) - a).toNat
  wit := fun s => intN (s.slots.getD 9 .u)
def addAnn : Ann where
  A := Int × List Int × Nat
  names := fun s => [ownN (s.slots.getD 5 .u), ownN (s.slots.getD 6 .u)]
  r1 := fun s t => [(ownN (s.slots.getD 5 .u), ownN (t.slots.getD 5 .u)), (ownN (s.slots.getD 6 .u), ownN (t.slots.getD 6 .u))]
  st := fun _ a s => { s with slots := ((keepS [5] 0 s.slots).set 7 (one (.int .i64 a.1))).set 6 (one (.own (ownN (s.slots.getD 6 .u)) a.2.1.length a.2.2 false)), heap := upd s.heap (ownN (s.slots.getD 6 .u)) (some (.oints .u16 a.2.1)) }
  inv := fun s _ a => -1 ≤ a.1 ∧ a.1 < ((rowN (s.heap (ownN (s.slots.getD 5 .u)))).length : Int) ∧ a.2.1.length ≤ 256 ∧ addGo ((rowN (s.heap (ownN (s.slots.getD 5 .u)))).take (a.1 + 1).toNat).reverse a.2.1 = addGo (rowN (s.heap (ownN (s.slots.getD 5 .u)))).reverse []
  dec := fun _ a => (a.1 + 1).toNat
  wit := fun s => (intN (s.slots.getD 7 .u), rowN (s.heap (ownN (s.slots.getD 6 .u))), capN (s.slots.getD 6 .u))
def addCtl : Ctl := { lp := fun j => if j = 4 then some addAnn else none, cut := fun _ => none, fuel := 0, owns := fun j => if j = 4 then some (6, .u16) else none }
def addRAnn : Ann where
  A := Int × List Int × Nat
  names := fun s => [0, ownN (s.slots.getD 5 .u)]
  r1 := fun s t => [(0, 0), (ownN (s.slots.getD 5 .u), ownN (t.slots.getD 5 .u))]
  st := fun _ a s => { s with slots := ((keepS [0, 1] 0 s.slots).set 6 (one (.int .i64 a.1))).set 5 (one (.own (ownN (s.slots.getD 5 .u)) a.2.1.length a.2.2 false)), heap := upd s.heap (ownN (s.slots.getD 5 .u)) (some (.oints .u16 a.2.1)) }
  inv := fun s _ a => -1 ≤ a.1 ∧ a.1 < ((rowN (s.heap 0)).length : Int) ∧ a.2.1.length ≤ 256 ∧ refGo ((rowN (s.heap 0)).take (a.1 + 1).toNat).reverse a.2.1 = refGo (rowN (s.heap 0)).reverse [intN (s.slots.getD 1 .u)]
  dec := fun _ a => (a.1 + 1).toNat
  wit := fun s => (intN (s.slots.getD 6 .u), rowN (s.heap (ownN (s.slots.getD 5 .u))), capN (s.slots.getD 5 .u))
def addRCtl : Ctl := { lp := fun j => if j = 3 then some addRAnn else none, cut := fun _ => none, fuel := 0, owns := fun j => if j = 3 then some (5, .u16) else none }
def envA0 : List (FuncId × Spec) := [(20, idxC.spec)]
def envA1 : List (FuncId × Spec) := [(18, hasC.spec)]
def envA2 : List (FuncId × Spec) := [(10, hasC.spec), (13, hasC.spec), (15, hasC.spec)]
def envA3 : List (FuncId × Spec) := [(17, cloneC.spec), (18, hasC.spec), (19, revSpec), (13, hasC.spec)]

set_option maxRecDepth 100000 in
set_option maxHeartbeats 8000000 in
theorem clone_vc (L : List Int) (c : Nat) (hc : L.length ≤ c) (h : L.length ≤ 1000) : cloneC.vc Try.prog (envL []) noCtl Try.f17 [] [⟨L, c⟩] := of_eq (b := ∀ (x : Bool), (x = true → c = (0 : Nat)) → (x = true → [] = L ∧ True) ∧ (x = false → Lf ((0 : Nat) + L.length ≤ L.length) ∧ Lf ((([] : List Int) ++ List.take L.length (List.drop (0 : Nat) L)).length * (2 : Nat) ≤ (140737488355328 : Nat)) ∧ ∀ (x : Nat), (([] : List Int) ++ List.take L.length (List.drop (0 : Nat) L)).length ≤ x → [] ++ List.take L.length (List.drop (0 : Nat) L) = L ∧ True)) (by kernel_rfl) (by
  simp only [List.drop_zero, List.take_length, List.nil_append]
  refine fun b hb => ⟨fun e => ⟨?_, trivial⟩, fun e => ⟨⟨by omega⟩, ⟨by omega⟩, fun c' _ => ⟨trivial, trivial⟩⟩⟩
  have := hb e
  exact (List.eq_nil_of_length_eq_zero (by omega)).symm)
set_option maxRecDepth 100000 in
set_option maxHeartbeats 8000000 in
theorem idx_vc (v : Int) (L : List Int) (c : Nat) (hm : L.length ≤ maxLen) : idxC.vc Try.prog (envL []) (lpCtl 2 idxAnn) Try.f20 [.I v] [⟨L, c⟩] := of_eq (b := ((((((0 : Nat) = (0 : Nat) ∧ (0 : Nat) = (0 : Nat)) ∧ L.length = L.length ∧ c = c) ∧ v = v ∧ (((0 : Nat) = (0 : Nat) ∧ (0 : Nat) = (0 : Nat)) ∧ L.length = L.length ∧ c = c) ∧ (↑L.length : Int) = (↑L.length : Int) ∧ (0 : Int) = (0 : Int) ∧ True) ∧ L = L ∧ True) ∧ Lf ((0 : Int) ≤ (0 : Int) ∧ (0 : Int) ≤ (↑L.length : Int) ∧ idxL v (0 : Int) L = idxL v (0 : Int) (List.drop (Int.toNat (0 : Int)) L))) ∧ ∀ (x : Int), (0 : Int) ≤ x ∧ x ≤ (↑L.length : Int) ∧ idxL v (0 : Int) L = idxL v x (List.drop x.toNat L) → (x < (↑L.length : Int) → Lf ((0 : Int) ≤ x ∧ x < (↑L.length : Int)) ∧ Lf ((0 : Nat) + x.toNat < L.length) ∧ (v = L.getD ((0 : Nat) + x.toNat) (0 : Int) → ∀ (y : Int), y = idxL v (0 : Int) L → x = y ∧ True) ∧ (¬v = L.getD ((0 : Nat) + x.toNat) (0 : Int) → ∀ (x_1 : Int), x_1 = IntKind.i64.wrap (x + (1 : Int)) → ((((((0 : Nat) = (0 : Nat) ∧ (0 : Nat) = (0 : Nat)) ∧ L.length = L.length ∧ c = c) ∧ v = v ∧ (((0 : Nat) = (0 : Nat) ∧ (0 : Nat) = (0 : Nat)) ∧ L.length = L.length ∧ c = c) ∧ (↑L.length : Int) = (↑L.length : Int) ∧ x_1 = x_1 ∧ True) ∧ L = L ∧ True) ∧ Lf ((0 : Int) ≤ x_1 ∧ x_1 ≤ (↑L.length : Int) ∧ idxL v (0 : Int) L = idxL v x_1 (List.drop x_1.toNat L))) ∧ Lf (((↑L.length : Int) - x_1).toNat < ((↑L.length : Int) - x).toNat))) ∧ (¬x < (↑L.length : Int) → ∀ (y : Int), y = idxL v (0 : Int) L → (-1 : Int) = y ∧ True)) (by kernel_rfl) (by
  simp only [maxLen] at hm
  refine ⟨⟨by simp, ⟨by omega, by omega, by simp⟩⟩, ?_⟩
  rintro i ⟨i0, i1, hi⟩
  refine ⟨fun hlt => ⟨⟨by omega⟩, ⟨by omega⟩, fun e => ?_, fun e => ?_⟩, fun hge => ?_⟩
  · intro y hy
    rw [Nat.zero_add] at e
    rw [drop_cons (by omega)] at hi
    simp only [idxL, e, if_true] at hi
    rw [hy, e, hi]
    exact ⟨by first | rfl | trivial, trivial⟩
  · intro j hj
    have hj2 : j = i + 1 := by subst hj; simp only [IntKind.wrap_i64]; omega
    subst hj2
    rw [Nat.zero_add] at e
    have hs : (i + 1).toNat = i.toNat + 1 := by omega
    refine ⟨⟨by simp, ⟨by omega, by omega, ?_⟩⟩, ⟨by omega⟩⟩
    rw [hs, hi, drop_cons (by omega)]
    simp only [idxL, e, if_false]
  · intro y hy
    have : i.toNat = L.length := by omega
    rw [this, List.drop_length] at hi
    rw [hy, hi]
    exact ⟨by simp [idxL], trivial⟩)
set_option maxRecDepth 100000 in
set_option maxHeartbeats 8000000 in
theorem cont_vc (v : Int) (L : List Int) (c : Nat) : hasC.vc Try.prog (envL envA0) noCtl Try.f18 [.I v] [⟨L, c⟩] := of_eq (b := Lf ((0 : Nat) + L.length ≤ L.length) ∧ ∀ (x : Int), x = idxL v (0 : Int) (List.take L.length (List.drop (0 : Nat) L)) → ((0 : Int) ≤ x → ∀ (y : Bool), y = hasF L v → true = y ∧ True) ∧ (¬(0 : Int) ≤ x → ∀ (y : Bool), y = hasF L v → false = y ∧ True)) (by kernel_rfl) (by
  simp only [List.drop_zero, List.take_length]
  refine ⟨⟨by omega⟩, fun x hx => ?_⟩
  have := idxL_has v L 0 (by omega)
  rw [← hx] at this
  refine ⟨fun h => ?_, fun h => ?_⟩
  · intro y hy; rw [hy, this.1 h]; exact ⟨by first | rfl | trivial, trivial⟩
  · intro y hy
    have : hasF L v = false := by
      cases e : hasF L v
      · rfl
      · exact absurd (this.2 e) h
    rw [hy, this]; exact ⟨by first | rfl | trivial, trivial⟩)
set_option maxRecDepth 100000 in
set_option maxHeartbeats 8000000 in
theorem hasP_vc (v : Int) (L : List Int) (c : Nat) : hasC.vc Try.prog (envL envA1) noCtl Try.f10 [.I v] [⟨L, c⟩] := of_eq (b := Lf ((0 : Nat) + L.length ≤ L.length) ∧ ∀ (x : Bool), x = hasF (List.take L.length (List.drop (0 : Nat) L)) v → ∀ (y : Bool), y = hasF L v → x = y ∧ True) (by kernel_rfl) (by
  simp only [List.drop_zero, List.take_length]
  refine ⟨⟨by omega⟩, fun x hx y hy => ?_⟩
  rw [hx, hy]; exact ⟨by first | rfl | trivial, trivial⟩)
set_option maxRecDepth 100000 in
set_option maxHeartbeats 8000000 in
theorem has13_vc (v : Int) (L : List Int) (c : Nat) (hm : L.length ≤ maxLen) : hasC.vc Try.prog (envL []) (lpCtl 2 hasAnn) Try.f13 [.I v] [⟨L, c⟩] := of_eq (b := ((((((0 : Nat) = (0 : Nat) ∧ (0 : Nat) = (0 : Nat)) ∧ L.length = L.length ∧ c = c) ∧ v = v ∧ (0 : Int) = (0 : Int) ∧ True) ∧ L = L ∧ True) ∧ Lf ((0 : Int) ≤ (0 : Int) ∧ (0 : Int) ≤ (↑L.length : Int) ∧ hasF L v = hasF (List.drop (Int.toNat (0 : Int)) L) v)) ∧ ∀ (x : Int), (0 : Int) ≤ x ∧ x ≤ (↑L.length : Int) ∧ hasF L v = hasF (List.drop x.toNat L) v → (x < (↑L.length : Int) → Lf ((0 : Int) ≤ x ∧ x < (↑L.length : Int)) ∧ Lf ((0 : Nat) + x.toNat < L.length) ∧ (L.getD ((0 : Nat) + x.toNat) (0 : Int) = v → ∀ (y : Bool), y = hasF L v → true = y ∧ True) ∧ (¬L.getD ((0 : Nat) + x.toNat) (0 : Int) = v → ∀ (x_1 : Int), x_1 = IntKind.i64.wrap (x + (1 : Int)) → ((((((0 : Nat) = (0 : Nat) ∧ (0 : Nat) = (0 : Nat)) ∧ L.length = L.length ∧ c = c) ∧ v = v ∧ x_1 = x_1 ∧ True) ∧ L = L ∧ True) ∧ Lf ((0 : Int) ≤ x_1 ∧ x_1 ≤ (↑L.length : Int) ∧ hasF L v = hasF (List.drop x_1.toNat L) v)) ∧ Lf (((↑L.length : Int) - x_1).toNat < ((↑L.length : Int) - x).toNat))) ∧ (¬x < (↑L.length : Int) → ∀ (y : Bool), y = hasF L v → false = y ∧ True)) (by kernel_rfl) (by
  simp only [maxLen] at hm
  refine ⟨⟨by simp, ⟨by omega, by omega, by simp⟩⟩, ?_⟩
  rintro i ⟨i0, i1, hi⟩
  refine ⟨fun hlt => ⟨⟨by omega⟩, ⟨by omega⟩, fun e => ?_, fun e => ?_⟩, fun hge => ?_⟩
  · intro y hy
    rw [Nat.zero_add] at e
    rw [drop_cons (by omega), hasF_cons, e] at hi
    rw [hy, hi]; simp
  · intro j hj
    have hj2 : j = i + 1 := by subst hj; simp only [IntKind.wrap_i64]; omega
    subst hj2
    rw [Nat.zero_add] at e
    have hs : (i + 1).toNat = i.toNat + 1 := by omega
    have e' : ¬v = L.getD i.toNat 0 := fun h => e h.symm
    refine ⟨⟨by simp, ⟨by omega, by omega, ?_⟩⟩, ⟨by omega⟩⟩
    rw [hs, hi, drop_cons (by omega), hasF_cons]
    simp only [e', decide_false, Bool.false_or]
  · intro y hy
    have : i.toNat = L.length := by omega
    rw [this, List.drop_length, hasF_nil] at hi
    rw [hy, hi]
    exact ⟨by first | rfl | trivial, trivial⟩)
set_option maxRecDepth 100000 in
set_option maxHeartbeats 8000000 in
theorem has15_vc (v : Int) (L : List Int) (c : Nat) (hm : L.length ≤ maxLen) : hasC.vc Try.prog (envL []) (lpCtl 2 hasAnn) Try.f15 [.I v] [⟨L, c⟩] := of_eq (b := ((((((0 : Nat) = (0 : Nat) ∧ (0 : Nat) = (0 : Nat)) ∧ L.length = L.length ∧ c = c) ∧ v = v ∧ (0 : Int) = (0 : Int) ∧ True) ∧ L = L ∧ True) ∧ Lf ((0 : Int) ≤ (0 : Int) ∧ (0 : Int) ≤ (↑L.length : Int) ∧ hasF L v = hasF (List.drop (Int.toNat (0 : Int)) L) v)) ∧ ∀ (x : Int), (0 : Int) ≤ x ∧ x ≤ (↑L.length : Int) ∧ hasF L v = hasF (List.drop x.toNat L) v → (x < (↑L.length : Int) → Lf ((0 : Int) ≤ x ∧ x < (↑L.length : Int)) ∧ Lf ((0 : Nat) + x.toNat < L.length) ∧ (L.getD ((0 : Nat) + x.toNat) (0 : Int) = v → ∀ (y : Bool), y = hasF L v → true = y ∧ True) ∧ (¬L.getD ((0 : Nat) + x.toNat) (0 : Int) = v → ∀ (x_1 : Int), x_1 = IntKind.i64.wrap (x + (1 : Int)) → ((((((0 : Nat) = (0 : Nat) ∧ (0 : Nat) = (0 : Nat)) ∧ L.length = L.length ∧ c = c) ∧ v = v ∧ x_1 = x_1 ∧ True) ∧ L = L ∧ True) ∧ Lf ((0 : Int) ≤ x_1 ∧ x_1 ≤ (↑L.length : Int) ∧ hasF L v = hasF (List.drop x_1.toNat L) v)) ∧ Lf (((↑L.length : Int) - x_1).toNat < ((↑L.length : Int) - x).toNat))) ∧ (¬x < (↑L.length : Int) → ∀ (y : Bool), y = hasF L v → false = y ∧ True)) (by kernel_rfl) (by
  simp only [maxLen] at hm
  refine ⟨⟨by simp, ⟨by omega, by omega, by simp⟩⟩, ?_⟩
  rintro i ⟨i0, i1, hi⟩
  refine ⟨fun hlt => ⟨⟨by omega⟩, ⟨by omega⟩, fun e => ?_, fun e => ?_⟩, fun hge => ?_⟩
  · intro y hy
    rw [Nat.zero_add] at e
    rw [drop_cons (by omega), hasF_cons, e] at hi
    rw [hy, hi]; simp
  · intro j hj
    have hj2 : j = i + 1 := by subst hj; simp only [IntKind.wrap_i64]; omega
    subst hj2
    rw [Nat.zero_add] at e
    have hs : (i + 1).toNat = i.toNat + 1 := by omega
    have e' : ¬v = L.getD i.toNat 0 := fun h => e h.symm
    refine ⟨⟨by simp, ⟨by omega, by omega, ?_⟩⟩, ⟨by omega⟩⟩
    rw [hs, hi, drop_cons (by omega), hasF_cons]
    simp only [e', decide_false, Bool.false_or]
  · intro y hy
    have : i.toNat = L.length := by omega
    rw [this, List.drop_length, hasF_nil] at hi
    rw [hy, hi]
    exact ⟨by first | rfl | trivial, trivial⟩)
theorem fitF_cons (L : List Int) (v x : Int) (D : List Int) : fitF L v (x :: D) = (((decide (1 ≤ x) && decide (x ≤ 4096)) && hasF L (IntKind.u16.wrap (v - IntKind.u16.wrap x))) && fitF L v D) := by simp [fitF]
set_option maxRecDepth 100000 in
set_option maxHeartbeats 8000000 in
theorem fit9_vc (v : Int) (L : List Int) (c : Nat) (D : List Int) (d : Nat) (hm : D.length ≤ maxLen) : fitsC.vc Try.prog (envL envA2) (lpCtl 2 (fitAnn 11 [0, 1, 2, 9, 10])) Try.f9 [.I v] [⟨L, c⟩, ⟨D, d⟩] := of_eq (b := ((((((0 : Nat) = (0 : Nat) ∧ (0 : Nat) = (0 : Nat)) ∧ L.length = L.length ∧ c = c) ∧ v = v ∧ (((0 : Nat) = (0 : Nat) ∧ (0 : Nat) = (0 : Nat)) ∧ D.length = D.length ∧ d = d) ∧ (((0 : Nat) = (0 : Nat) ∧ (0 : Nat) = (0 : Nat)) ∧ D.length = D.length ∧ d = d) ∧ (↑D.length : Int) = (↑D.length : Int) ∧ (0 : Int) = (0 : Int) ∧ True) ∧ L = L ∧ D = D ∧ True) ∧ Lf ((0 : Int) ≤ (0 : Int) ∧ (0 : Int) ≤ (↑D.length : Int) ∧ fitF L v D = fitF L v (List.drop (Int.toNat (0 : Int)) D))) ∧ ∀ (x : Int), (0 : Int) ≤ x ∧ x ≤ (↑D.length : Int) ∧ fitF L v D = fitF L v (List.drop x.toNat D) → (x < (↑D.length : Int) → Lf ((0 : Int) ≤ x ∧ x < (↑D.length : Int)) ∧ Lf ((0 : Nat) + x.toNat < D.length) ∧ (D.getD ((0 : Nat) + x.toNat) (0 : Int) < (1 : Int) → ∀ (y : Bool), y = fitF L v D → false = y ∧ True) ∧ (¬D.getD ((0 : Nat) + x.toNat) (0 : Int) < (1 : Int) → ((4096 : Int) < D.getD ((0 : Nat) + x.toNat) (0 : Int) → ∀ (y : Bool), y = fitF L v D → false = y ∧ True) ∧ (¬(4096 : Int) < D.getD ((0 : Nat) + x.toNat) (0 : Int) → ∀ (x_1 : Int), x_1 = IntKind.u16.wrap (D.getD ((0 : Nat) + x.toNat) (0 : Int)) → ∀ (x_2 : Int), x_2 = IntKind.u16.wrap (v - x_1) → Lf ((0 : Nat) + L.length ≤ L.length) ∧ ∀ (x_3 : Bool), x_3 = hasF (List.take L.length (List.drop (0 : Nat) L)) x_2 → ((!x_3) = true → ∀ (y : Bool), y = fitF L v D → false = y ∧ True) ∧ ((!x_3) = false → ∀ (x_4 : Int), x_4 = IntKind.i64.wrap (x + (1 : Int)) → ((((((0 : Nat) = (0 : Nat) ∧ (0 : Nat) = (0 : Nat)) ∧ L.length = L.length ∧ c = c) ∧ v = v ∧ (((0 : Nat) = (0 : Nat) ∧ (0 : Nat) = (0 : Nat)) ∧ D.length = D.length ∧ d = d) ∧ (((0 : Nat) = (0 : Nat) ∧ (0 : Nat) = (0 : Nat)) ∧ D.length = D.length ∧ d = d) ∧ (↑D.length : Int) = (↑D.length : Int) ∧ x_4 = x_4 ∧ True) ∧ L = L ∧ D = D ∧ True) ∧ Lf ((0 : Int) ≤ x_4 ∧ x_4 ≤ (↑D.length : Int) ∧ fitF L v D = fitF L v (List.drop x_4.toNat D))) ∧ Lf (((↑D.length : Int) - x_4).toNat < ((↑D.length : Int) - x).toNat))))) ∧ (¬x < (↑D.length : Int) → ∀ (y : Bool), y = fitF L v D → true = y ∧ True)) (by kernel_rfl) (by
  simp only [maxLen] at hm
  simp only [List.drop_zero, List.take_length]
  refine ⟨⟨by simp, ⟨by omega, by omega, by simp⟩⟩, ?_⟩
  rintro i ⟨i0, i1, hi⟩
  rw [Nat.zero_add]
  refine ⟨fun hlt => ⟨⟨by omega⟩, ⟨by omega⟩, ?_⟩, fun hge => ?_⟩
  · rw [drop_cons (by omega), fitF_cons] at hi
    refine ⟨fun h1 => ?_, fun h1 => ⟨fun h2 => ?_, fun h2 => ?_⟩⟩
    · intro y hy
      have : ¬(1 ≤ D.getD i.toNat 0) := by omega
      rw [hy, hi]; simp only [this, decide_false, Bool.false_and]
      exact ⟨by first | rfl | trivial, trivial⟩
    · intro y hy
      have : ¬(D.getD i.toNat 0 ≤ 4096) := by omega
      rw [hy, hi]; simp only [this, decide_false, Bool.and_false, Bool.false_and]
      exact ⟨by first | rfl | trivial, trivial⟩
    · have t1 : 1 ≤ D.getD i.toNat 0 := by omega
      have t2 : D.getD i.toNat 0 ≤ 4096 := by omega
      simp only [t1, t2, decide_true, Bool.true_and] at hi
      intro a ha b hb
      subst ha
      refine ⟨⟨by omega⟩, fun x hx => ⟨fun hn => ?_, fun hn => ?_⟩⟩
      · intro y hy
        rw [← hb, ← hx] at hi
        simp at hn
        rw [hy, hi, hn]; simp
      · intro j hj
        have hj2 : j = i + 1 := by subst hj; simp only [IntKind.wrap_i64]; omega
        subst hj2
        have hs : (i + 1).toNat = i.toNat + 1 := by omega
        rw [← hb, ← hx] at hi
        simp at hn
        refine ⟨⟨by simp, ⟨by omega, by omega, ?_⟩⟩, ⟨by omega⟩⟩
        rw [hs, hi, hn]; simp
  · intro y hy
    have : i.toNat = D.length := by omega
    rw [this, List.drop_length] at hi
    rw [hy, hi]
    exact ⟨by simp [fitF], trivial⟩)
set_option maxRecDepth 100000 in
set_option maxHeartbeats 8000000 in
theorem fit14_vc (v : Int) (L : List Int) (c : Nat) (D : List Int) (d : Nat) (hm : D.length ≤ maxLen) : fitsC.vc Try.prog (envL envA2) (lpCtl 2 (fitAnn 7 [0, 1, 2])) Try.f14 [.I v] [⟨L, c⟩, ⟨D, d⟩] := of_eq (b := ((((((0 : Nat) = (0 : Nat) ∧ (0 : Nat) = (0 : Nat)) ∧ L.length = L.length ∧ c = c) ∧ v = v ∧ (((0 : Nat) = (0 : Nat) ∧ (0 : Nat) = (0 : Nat)) ∧ D.length = D.length ∧ d = d) ∧ (0 : Int) = (0 : Int) ∧ True) ∧ L = L ∧ D = D ∧ True) ∧ Lf ((0 : Int) ≤ (0 : Int) ∧ (0 : Int) ≤ (↑D.length : Int) ∧ fitF L v D = fitF L v (List.drop (Int.toNat (0 : Int)) D))) ∧ ∀ (x : Int), (0 : Int) ≤ x ∧ x ≤ (↑D.length : Int) ∧ fitF L v D = fitF L v (List.drop x.toNat D) → (x < (↑D.length : Int) → Lf ((0 : Int) ≤ x ∧ x < (↑D.length : Int)) ∧ Lf ((0 : Nat) + x.toNat < D.length) ∧ (D.getD ((0 : Nat) + x.toNat) (0 : Int) < (1 : Int) → ∀ (y : Bool), y = fitF L v D → false = y ∧ True) ∧ (¬D.getD ((0 : Nat) + x.toNat) (0 : Int) < (1 : Int) → Lf ((0 : Int) ≤ x ∧ x < (↑D.length : Int)) ∧ Lf ((0 : Nat) + x.toNat < D.length) ∧ ((4096 : Int) < D.getD ((0 : Nat) + x.toNat) (0 : Int) → ∀ (y : Bool), y = fitF L v D → false = y ∧ True) ∧ (¬(4096 : Int) < D.getD ((0 : Nat) + x.toNat) (0 : Int) → Lf ((0 : Int) ≤ x ∧ x < (↑D.length : Int)) ∧ Lf ((0 : Nat) + x.toNat < D.length) ∧ ∀ (x_1 : Int), x_1 = IntKind.u16.wrap (D.getD ((0 : Nat) + x.toNat) (0 : Int)) → ∀ (x_2 : Int), x_2 = IntKind.u16.wrap (v - x_1) → Lf ((0 : Nat) + L.length ≤ L.length) ∧ ∀ (x_3 : Bool), x_3 = hasF (List.take L.length (List.drop (0 : Nat) L)) x_2 → ((!x_3) = true → ∀ (y : Bool), y = fitF L v D → false = y ∧ True) ∧ ((!x_3) = false → ∀ (x_4 : Int), x_4 = IntKind.i64.wrap (x + (1 : Int)) → ((((((0 : Nat) = (0 : Nat) ∧ (0 : Nat) = (0 : Nat)) ∧ L.length = L.length ∧ c = c) ∧ v = v ∧ (((0 : Nat) = (0 : Nat) ∧ (0 : Nat) = (0 : Nat)) ∧ D.length = D.length ∧ d = d) ∧ x_4 = x_4 ∧ True) ∧ L = L ∧ D = D ∧ True) ∧ Lf ((0 : Int) ≤ x_4 ∧ x_4 ≤ (↑D.length : Int) ∧ fitF L v D = fitF L v (List.drop x_4.toNat D))) ∧ Lf (((↑D.length : Int) - x_4).toNat < ((↑D.length : Int) - x).toNat))))) ∧ (¬x < (↑D.length : Int) → ∀ (y : Bool), y = fitF L v D → true = y ∧ True)) (by kernel_rfl) (by
  simp only [maxLen] at hm
  simp only [List.drop_zero, List.take_length]
  refine ⟨⟨by simp, ⟨by omega, by omega, by simp⟩⟩, ?_⟩
  rintro i ⟨i0, i1, hi⟩
  rw [Nat.zero_add]
  refine ⟨fun hlt => ⟨⟨by omega⟩, ⟨by omega⟩, ?_⟩, fun hge => ?_⟩
  · rw [drop_cons (by omega), fitF_cons] at hi
    refine ⟨fun h1 => ?_, fun h1 => ⟨⟨by omega⟩, ⟨by omega⟩, fun h2 => ?_, fun h2 => ⟨⟨by omega⟩, ⟨by omega⟩, ?_⟩⟩⟩
    · intro y hy
      have : ¬(1 ≤ D.getD i.toNat 0) := by omega
      rw [hy, hi]; simp only [this, decide_false, Bool.false_and]
      exact ⟨by first | rfl | trivial, trivial⟩
    · intro y hy
      have : ¬(D.getD i.toNat 0 ≤ 4096) := by omega
      rw [hy, hi]; simp only [this, decide_false, Bool.and_false, Bool.false_and]
      exact ⟨by first | rfl | trivial, trivial⟩
    · have t1 : 1 ≤ D.getD i.toNat 0 := by omega
      have t2 : D.getD i.toNat 0 ≤ 4096 := by omega
      simp only [t1, t2, decide_true, Bool.true_and] at hi
      intro a ha b hb
      subst ha
      refine ⟨⟨by omega⟩, fun x hx => ⟨fun hn => ?_, fun hn => ?_⟩⟩
      · intro y hy
        rw [← hb, ← hx] at hi
        simp at hn
        rw [hy, hi, hn]; simp
      · intro j hj
        have hj2 : j = i + 1 := by subst hj; simp only [IntKind.wrap_i64]; omega
        subst hj2
        have hs : (i + 1).toNat = i.toNat + 1 := by omega
        rw [← hb, ← hx] at hi
        simp at hn
        refine ⟨⟨by simp, ⟨by omega, by omega, ?_⟩⟩, ⟨by omega⟩⟩
        rw [hs, hi, hn]; simp
  · intro y hy
    have : i.toNat = D.length := by omega
    rw [this, List.drop_length] at hi
    rw [hy, hi]
    exact ⟨by simp [fitF], trivial⟩)
set_option maxRecDepth 100000 in
set_option maxHeartbeats 8000000 in
theorem same_vc (L : List Int) (c : Nat) (D : List Int) (d : Nat) (hm : L.length ≤ maxLen) : sameC.vc Try.prog (envL []) (lpCtl 4 sameAnn) Try.f11 [] [⟨L, c⟩, ⟨D, d⟩] := of_eq (b := ((↑L.length : Int) = (↑D.length : Int) → ((((((0 : Nat) = (0 : Nat) ∧ (0 : Nat) = (0 : Nat)) ∧ L.length = L.length ∧ c = c) ∧ (((0 : Nat) = (0 : Nat) ∧ (0 : Nat) = (0 : Nat)) ∧ D.length = D.length ∧ d = d) ∧ (0 : Int) = (0 : Int) ∧ True) ∧ L = L ∧ D = D ∧ True) ∧ Lf ((0 : Int) ≤ (0 : Int) ∧ (0 : Int) ≤ (↑L.length : Int) ∧ List.take (Int.toNat (0 : Int)) L = List.take (Int.toNat (0 : Int)) D)) ∧ ∀ (x : Int), (0 : Int) ≤ x ∧ x ≤ (↑L.length : Int) ∧ List.take x.toNat L = List.take x.toNat D → (x < (↑L.length : Int) → Lf ((0 : Int) ≤ x ∧ x < (↑L.length : Int)) ∧ Lf ((0 : Nat) + x.toNat < L.length) ∧ Lf ((0 : Int) ≤ x ∧ x < (↑D.length : Int)) ∧ Lf ((0 : Nat) + x.toNat < D.length) ∧ (L.getD ((0 : Nat) + x.toNat) (0 : Int) = D.getD ((0 : Nat) + x.toNat) (0 : Int) → ∀ (x_1 : Int), x_1 = IntKind.i64.wrap (x + (1 : Int)) → ((((((0 : Nat) = (0 : Nat) ∧ (0 : Nat) = (0 : Nat)) ∧ L.length = L.length ∧ c = c) ∧ (((0 : Nat) = (0 : Nat) ∧ (0 : Nat) = (0 : Nat)) ∧ D.length = D.length ∧ d = d) ∧ x_1 = x_1 ∧ True) ∧ L = L ∧ D = D ∧ True) ∧ Lf ((0 : Int) ≤ x_1 ∧ x_1 ≤ (↑L.length : Int) ∧ List.take x_1.toNat L = List.take x_1.toNat D)) ∧ Lf (((↑L.length : Int) - x_1).toNat < ((↑L.length : Int) - x).toNat)) ∧ (¬L.getD ((0 : Nat) + x.toNat) (0 : Int) = D.getD ((0 : Nat) + x.toNat) (0 : Int) → ∀ (y : Bool), y = decide (L = D) → false = y ∧ True)) ∧ (¬x < (↑L.length : Int) → ∀ (y : Bool), y = decide (L = D) → true = y ∧ True)) ∧ (¬(↑L.length : Int) = (↑D.length : Int) → ∀ (y : Bool), y = decide (L = D) → false = y ∧ True)) (by kernel_rfl) (by
  simp only [maxLen] at hm
  refine ⟨fun hl => ⟨⟨by simp, ⟨by omega, by omega, by simp⟩⟩, ?_⟩, fun hl => ?_⟩
  · rintro i ⟨i0, i1, hi⟩
    rw [Nat.zero_add]
    refine ⟨fun hlt => ⟨⟨by omega⟩, ⟨by omega⟩, ⟨by omega⟩, ⟨by omega⟩, fun e => ?_, fun e => ?_⟩, fun hge => ?_⟩
    · intro j hj
      have hj2 : j = i + 1 := by subst hj; simp only [IntKind.wrap_i64]; omega
      subst hj2
      have hs : (i + 1).toNat = i.toNat + 1 := by omega
      refine ⟨⟨by simp, ⟨by omega, by omega, ?_⟩⟩, ⟨by omega⟩⟩
      rw [hs, take_snoc (by omega), take_snoc (by omega), hi, e]
    · intro y hy
      have : ¬L = D := fun h => e (by rw [h])
      rw [hy, decide_eq_false this]; exact ⟨by first | rfl | trivial, trivial⟩
    · intro y hy
      have h1 : i.toNat = L.length := by omega
      have h2 : i.toNat = D.length := by omega
      have : L = D := by
        have := hi
        rw [h1, List.take_length, ← h1, h2, List.take_length] at this
        exact this
      rw [hy, decide_eq_true this]; exact ⟨by first | rfl | trivial, trivial⟩
  · intro y hy
    have : ¬L = D := fun h => hl (by rw [h])
    rw [hy, decide_eq_false this]; exact ⟨by first | rfl | trivial, trivial⟩)
theorem bet_step {L S : List Int} {i y : Int} (h0 : 0 ≤ i) (h1 : i < y) (hy : y ≤ (L.length : Int)) : betF L i y S = (!hasF S (L.getD i.toNat 0) || betF L (i + 1) y S) := by
  unfold betF
  have hl : i.toNat < (L.take y.toNat).length := by rw [List.length_take]; omega
  rw [drop_cons hl]
  have hs : (i + 1).toNat = i.toNat + 1 := by omega
  have e : (L.take y.toNat).getD i.toNat 0 = L.getD i.toNat 0 := by
    simp only [List.getD_eq_getElem?_getD]
    rw [List.getElem?_take_of_lt (by omega)]
  rw [hs, List.any_cons, e]
theorem bet_end {L S : List Int} {i y : Int} (h1 : y ≤ i) : betF L i y S = false := by
  unfold betF
  rw [List.drop_eq_nil_of_le (by rw [List.length_take]; omega)]
  rfl
set_option maxRecDepth 100000 in
set_option maxHeartbeats 8000000 in
theorem bet_vc (x y : Int) (L : List Int) (c : Nat) (D : List Int) (d : Nat) (hx : 0 ≤ x) (hy : y ≤ (L.length : Int)) (hm : L.length ≤ maxLen) : betC.vc Try.prog (envL envA2) (lpCtl 2 betAnn) Try.f16 [.I x, .I y] [⟨L, c⟩, ⟨D, d⟩] := of_eq (b := ((((((0 : Nat) = (0 : Nat) ∧ (0 : Nat) = (0 : Nat)) ∧ L.length = L.length ∧ c = c) ∧ x = x ∧ y = y ∧ (((0 : Nat) = (0 : Nat) ∧ (0 : Nat) = (0 : Nat)) ∧ D.length = D.length ∧ d = d) ∧ x = x ∧ True) ∧ L = L ∧ D = D ∧ True) ∧ Lf (x ≤ x ∧ betF L x y D = betF L x y D)) ∧ ∀ (x_1 : Int), x ≤ x_1 ∧ betF L x y D = betF L x_1 y D → (x_1 < y → Lf ((0 : Int) ≤ x_1 ∧ x_1 < (↑L.length : Int)) ∧ Lf ((0 : Nat) + x_1.toNat < L.length) ∧ Lf ((0 : Nat) + D.length ≤ D.length) ∧ ∀ (x_2 : Bool), x_2 = hasF (List.take D.length (List.drop (0 : Nat) D)) (L.getD ((0 : Nat) + x_1.toNat) (0 : Int)) → ((!x_2) = true → ∀ (y_1 : Bool), y_1 = betF L x y D → true = y_1 ∧ True) ∧ ((!x_2) = false → ∀ (x_3 : Int), x_3 = IntKind.i64.wrap (x_1 + (1 : Int)) → ((((((0 : Nat) = (0 : Nat) ∧ (0 : Nat) = (0 : Nat)) ∧ L.length = L.length ∧ c = c) ∧ x = x ∧ y = y ∧ (((0 : Nat) = (0 : Nat) ∧ (0 : Nat) = (0 : Nat)) ∧ D.length = D.length ∧ d = d) ∧ x_3 = x_3 ∧ True) ∧ L = L ∧ D = D ∧ True) ∧ Lf (x ≤ x_3 ∧ betF L x y D = betF L x_3 y D)) ∧ Lf ((y - x_3).toNat < (y - x_1).toNat))) ∧ (¬x_1 < y → ∀ (y_1 : Bool), y_1 = betF L x y D → false = y_1 ∧ True)) (by kernel_rfl) (by
  simp only [maxLen] at hm
  simp only [List.drop_zero, List.take_length]
  refine ⟨⟨by simp, ⟨by omega, by first | rfl | trivial⟩⟩, ?_⟩
  rintro i ⟨i0, hi⟩
  rw [Nat.zero_add]
  refine ⟨fun hlt => ⟨⟨by omega⟩, ⟨by omega⟩, ⟨by omega⟩, fun z hz => ?_⟩, fun hge => ?_⟩
  · rw [bet_step (by omega) hlt hy, ← hz] at hi
    refine ⟨fun hn => ?_, fun hn => ?_⟩
    · intro b hb; rw [hb, hi, hn]; exact ⟨by simp, trivial⟩
    · intro j hj
      have hj2 : j = i + 1 := by subst hj; simp only [IntKind.wrap_i64]; omega
      subst hj2
      refine ⟨⟨by simp, ⟨by omega, ?_⟩⟩, ⟨by omega⟩⟩
      rw [hi, hn]; simp
  · intro b hb
    rw [hb, hi, bet_end (by omega)]; exact ⟨by first | rfl | trivial, trivial⟩)
end Go.Proofs.Ytpbcnhkdknmgjaa.Sx
