/- Rooms: who was heard in time stays, reckoned. No condition. -/
import Derived.Test.YtcaipfdnadlkdaaRm18
import Derived.Test.YtcaipfdnadlkdaaRm12
namespace Go.Proofs.Ytcaipfdnadlkdaa.Sx
open Go Go.RowKit
set_option linter.unusedVariables false
set_option linter.unusedSimpArgs false

def siA : Ann where
  A := Nat × RV
  names := fun s => [0, ptrN (s.slots.getD 8 .u)]
  st := fun _ a s => { s with slots := (keepS [1, 2, 7, 8] 0 s.slots).set 9 (one (.int .i64 (Int.ofNat a.1))), heap := upd s.heap (ptrN (s.slots.getD 8 .u)) (some (.cells 83 (roomL a.2))) }
  inv := fun s _ a => Sil a.2 a.1 (fun _ => 0) ∧ (Int.ofNat a.1) ≤ intN (s.slots.getD 7 .u)
  dec := fun s a => (intN (s.slots.getD 7 .u)).toNat - a.1
  wit := fun s => ((intN (s.slots.getD 9 .u)).toNat, cRm (cellsN (s.heap (ptrN (s.slots.getD 8 .u)))))
def siB : Ann where
  A := Nat × RV × List Int
  names := fun s => [0, ptrN (s.slots.getD 8 .u), ownN (s.slots.getD 13 .u)]
  st := fun _ a s => { s with slots := (keepS [1, 2, 7, 8, 13] 0 s.slots).set 14 (one (.int .i64 (Int.ofNat a.1))), heap := upd (upd s.heap (ptrN (s.slots.getD 8 .u)) (some (.cells 83 (roomL a.2.1)))) (ownN (s.slots.getD 13 .u)) (some (.oints .i64 a.2.2)) }
  inv := fun s _ a => Sil a.2.1 (intN (s.slots.getD 7 .u)).toNat (fun j => a.2.2.getD j 0) ∧ a.2.2.length = (intN (s.slots.getD 7 .u)).toNat ∧ (∀ j, j < (intN (s.slots.getD 7 .u)).toNat → 0 ≤ a.2.2.getD j 0 ∧ a.2.2.getD j 0 < 1000) ∧ (Int.ofNat a.1) ≤ intN (s.slots.getD 7 .u)
  dec := fun s a => (intN (s.slots.getD 7 .u)).toNat - a.1
  wit := fun s => ((intN (s.slots.getD 14 .u)).toNat, cRm (cellsN (s.heap (ptrN (s.slots.getD 8 .u)))), rowN (s.heap (ownN (s.slots.getD 13 .u))))
def siC : Ann where
  A := Nat
  names := fun s => [ptrN (s.slots.getD 19 .u), ownN (s.slots.getD 13 .u), ownN (s.slots.getD 20 .u)]
  st := fun _ n s => { s with slots := ((keepS [7, 13, 18, 19, 20] 0 s.slots).set 22 (one (.int .i64 (Int.ofNat n)))).set 21 (one (.int .i64 (Int.ofNat (useN (cBs (cellsN (s.heap (ptrN (s.slots.getD 19 .u)))) 0 8) n)))) }
  inv := fun s _ n => (Int.ofNat n) ≤ intN (s.slots.getD 7 .u)
  dec := fun s n => (intN (s.slots.getD 7 .u)).toNat - n
  wit := fun s => (intN (s.slots.getD 22 .u)).toNat
def siCtl : Ctl := { lp := fun j => if j = 6 then some siA else if j = 14 then some siB else if j = 25 then some siC else none, cut := fun _ => none, fuel := 0 }
def envS11 : List (FuncId × Spec) := [(41, okRC.spec), (42, joinRmC.spec), (43, aliveRmC.spec), (44, tickRmC.spec), (19, comC.spec)]
def h11 (len : Nat) (X0 : Nat → Int) : Nat → Option Blk := fun n => if n = 0 then some (.view 1 len fun i => [.int .u16 (X0 i)]) else none
def silent11 (n late : Int) (len cap : Nat) (X0 : Nat → Int) : Prop :=
  entryK Try.f11 [one (.int .u8 n), one (.sli 0 0 1 0 len cap false), one (.int .u16 late)] (h11 len X0) 1 fun s => cwp Try.prog (envL envS11) siCtl (Try.f11.body.getD .skip) s (retK Try.prog Try.f11 fun sv _ => leV [] [] sv (one (.tru true)))

def sN : Prop := (0 : Nat) = 0 ∧ (0 : Nat) = 0
def sL (len cap : Nat) : Prop := sN ∧ len = len ∧ cap = cap
def sV1 (len : Nat) (X0 : Nat → Int) : Prop := len = len ∧ ∀ (i : Nat), i.succ ≤ len → X0 i = X0 i
def lB (b : List Bool) : List Bool := [b.getD 0 false, b.getD 1 false, b.getD 2 false, b.getD 3 false, b.getD 4 false, b.getD 5 false, b.getD 6 false, b.getD 7 false]
def lfY (x x5 : Int) (x6 : RV × List Int) (x7 : Nat) (g : List Int) (u i : Int) (x8 : Nat) : Prop :=
  (((x = x ∧ (x.toNat = x.toNat ∧ x.toNat = x.toNat) ∧ x5 = x5 ∧ sN ∧ (x6.snd.length = x6.snd.length ∧ x7 = x7) ∧ u = Int.ofNat (useN (lB x6.fst.1) i.toNat) ∧ i = Int.ofNat i.toNat ∧ True) ∧ (eqRm x6.fst x6.fst) ∧ g = g ∧ x6.snd = x6.snd ∧ True) ∧ Lf (Int.ofNat i.toNat ≤ x)) ∧ Lf ((x.toNat - i.toNat).succ ≤ x.toNat - x8)
def restC (x x5 : Int) (x6 : RV × List Int) (x7 : Nat) (g : List Int) (x8 : Nat) : Prop := Lf ((0 : Int) ≤ Int.ofNat x8 ∧ Int.ofNat x8 + (1 : Int) ≤ (8 : Int)) ∧ (Int.ofNat x8 = (0 : Int) → (x6.fst.1.getD (0 : Nat) false = true → ∀ (x_10 : Int), x_10 = IntKind.i64.wrap (Int.ofNat (useN (lB x6.fst.1) x8) + (1 : Int)) → ∀ (x_11 : Int), x_11 = IntKind.i64.wrap (Int.ofNat x8 + (1 : Int)) → lfY x x5 x6 x7 g x_10 x_11 x8) ∧ (x6.fst.1.getD (0 : Nat) false = false → ∀ (x_10 : Int), x_10 = IntKind.i64.wrap (Int.ofNat x8 + (1 : Int)) → lfY x x5 x6 x7 g (Int.ofNat (useN (lB x6.fst.1) x8)) x_10 x8)) ∧ (¬Int.ofNat x8 = (0 : Int) → (Int.ofNat x8 = (1 : Int) → (x6.fst.1.getD (1 : Nat) false = true → ∀ (x_10 : Int), x_10 = IntKind.i64.wrap (Int.ofNat (useN (lB x6.fst.1) x8) + (1 : Int)) → ∀ (x_11 : Int), x_11 = IntKind.i64.wrap (Int.ofNat x8 + (1 : Int)) → lfY x x5 x6 x7 g x_10 x_11 x8) ∧ (x6.fst.1.getD (1 : Nat) false = false → ∀ (x_10 : Int), x_10 = IntKind.i64.wrap (Int.ofNat x8 + (1 : Int)) → lfY x x5 x6 x7 g (Int.ofNat (useN (lB x6.fst.1) x8)) x_10 x8)) ∧ (¬Int.ofNat x8 = (1 : Int) → (Int.ofNat x8 = (2 : Int) → (x6.fst.1.getD (2 : Nat) false = true → ∀ (x_10 : Int), x_10 = IntKind.i64.wrap (Int.ofNat (useN (lB x6.fst.1) x8) + (1 : Int)) → ∀ (x_11 : Int), x_11 = IntKind.i64.wrap (Int.ofNat x8 + (1 : Int)) → lfY x x5 x6 x7 g x_10 x_11 x8) ∧ (x6.fst.1.getD (2 : Nat) false = false → ∀ (x_10 : Int), x_10 = IntKind.i64.wrap (Int.ofNat x8 + (1 : Int)) → lfY x x5 x6 x7 g (Int.ofNat (useN (lB x6.fst.1) x8)) x_10 x8)) ∧ (¬Int.ofNat x8 = (2 : Int) → (Int.ofNat x8 = (3 : Int) → (x6.fst.1.getD (3 : Nat) false = true → ∀ (x_10 : Int), x_10 = IntKind.i64.wrap (Int.ofNat (useN (lB x6.fst.1) x8) + (1 : Int)) → ∀ (x_11 : Int), x_11 = IntKind.i64.wrap (Int.ofNat x8 + (1 : Int)) → lfY x x5 x6 x7 g x_10 x_11 x8) ∧ (x6.fst.1.getD (3 : Nat) false = false → ∀ (x_10 : Int), x_10 = IntKind.i64.wrap (Int.ofNat x8 + (1 : Int)) → lfY x x5 x6 x7 g (Int.ofNat (useN (lB x6.fst.1) x8)) x_10 x8)) ∧ (¬Int.ofNat x8 = (3 : Int) → (Int.ofNat x8 = (4 : Int) → (x6.fst.1.getD (4 : Nat) false = true → ∀ (x_10 : Int), x_10 = IntKind.i64.wrap (Int.ofNat (useN (lB x6.fst.1) x8) + (1 : Int)) → ∀ (x_11 : Int), x_11 = IntKind.i64.wrap (Int.ofNat x8 + (1 : Int)) → lfY x x5 x6 x7 g x_10 x_11 x8) ∧ (x6.fst.1.getD (4 : Nat) false = false → ∀ (x_10 : Int), x_10 = IntKind.i64.wrap (Int.ofNat x8 + (1 : Int)) → lfY x x5 x6 x7 g (Int.ofNat (useN (lB x6.fst.1) x8)) x_10 x8)) ∧ (¬Int.ofNat x8 = (4 : Int) → (Int.ofNat x8 = (5 : Int) → (x6.fst.1.getD (5 : Nat) false = true → ∀ (x_10 : Int), x_10 = IntKind.i64.wrap (Int.ofNat (useN (lB x6.fst.1) x8) + (1 : Int)) → ∀ (x_11 : Int), x_11 = IntKind.i64.wrap (Int.ofNat x8 + (1 : Int)) → lfY x x5 x6 x7 g x_10 x_11 x8) ∧ (x6.fst.1.getD (5 : Nat) false = false → ∀ (x_10 : Int), x_10 = IntKind.i64.wrap (Int.ofNat x8 + (1 : Int)) → lfY x x5 x6 x7 g (Int.ofNat (useN (lB x6.fst.1) x8)) x_10 x8)) ∧ (¬Int.ofNat x8 = (5 : Int) → (Int.ofNat x8 = (6 : Int) → (x6.fst.1.getD (6 : Nat) false = true → ∀ (x_10 : Int), x_10 = IntKind.i64.wrap (Int.ofNat (useN (lB x6.fst.1) x8) + (1 : Int)) → ∀ (x_11 : Int), x_11 = IntKind.i64.wrap (Int.ofNat x8 + (1 : Int)) → lfY x x5 x6 x7 g x_10 x_11 x8) ∧ (x6.fst.1.getD (6 : Nat) false = false → ∀ (x_10 : Int), x_10 = IntKind.i64.wrap (Int.ofNat x8 + (1 : Int)) → lfY x x5 x6 x7 g (Int.ofNat (useN (lB x6.fst.1) x8)) x_10 x8)) ∧ (¬Int.ofNat x8 = (6 : Int) → (x6.fst.1.getD (7 : Nat) false = true → ∀ (x_10 : Int), x_10 = IntKind.i64.wrap (Int.ofNat (useN (lB x6.fst.1) x8) + (1 : Int)) → ∀ (x_11 : Int), x_11 = IntKind.i64.wrap (Int.ofNat x8 + (1 : Int)) → lfY x x5 x6 x7 g x_10 x_11 x8) ∧ (x6.fst.1.getD (7 : Nat) false = false → ∀ (x_10 : Int), x_10 = IntKind.i64.wrap (Int.ofNat x8 + (1 : Int)) → lfY x x5 x6 x7 g (Int.ofNat (useN (lB x6.fst.1) x8)) x_10 x8))))))))
def loopC (x x5 : Int) (x6 : RV × List Int) (x7 : Nat) (g : List Int) : Prop := (((x = x ∧ (x.toNat = x.toNat ∧ x.toNat = x.toNat) ∧ x5 = x5 ∧ sN ∧ (x6.snd.length = x6.snd.length ∧ x7 = x7) ∧ (0 : Int) = Int.ofNat (useN (lB x6.fst.1) (0 : Nat)) ∧ (0 : Int) = Int.ofNat (0 : Nat) ∧ True) ∧ (eqRm x6.fst x6.fst) ∧ g = g ∧ x6.snd = x6.snd ∧ True) ∧ Lf (Int.ofNat (0 : Nat) ≤ x)) ∧ ∀ (x8 : Nat), Int.ofNat x8 ≤ x → (Int.ofNat x8 + (1 : Int) ≤ x → Lf ((0 : Int) ≤ Int.ofNat x8 ∧ Int.ofNat x8 + (1 : Int) ≤ (8 : Int)) ∧ (Int.ofNat x8 = (0 : Int) → Lf ((0 : Int) ≤ Int.ofNat x8 ∧ Int.ofNat x8 + (1 : Int) ≤ (↑x.toNat : Int)) ∧ Lf ((Int.ofNat x8).toNat.succ ≤ g.length) ∧ ∀ (x_9 : Int), x_9 = IntKind.i64.wrap (x5 - g.getD (Int.ofNat x8).toNat (0 : Int)) → (x_9 + (1 : Int) ≤ (500 : Int) → (x6.fst.1.getD (0 : Nat) false = true → restC x x5 x6 x7 g x8) ∧ (¬x6.fst.1.getD (0 : Nat) false = true → false = true)) ∧ (¬x_9 + (1 : Int) ≤ (500 : Int) → (x6.fst.1.getD (0 : Nat) false = false → restC x x5 x6 x7 g x8) ∧ (¬x6.fst.1.getD (0 : Nat) false = false → false = true))) ∧ (¬Int.ofNat x8 = (0 : Int) → (Int.ofNat x8 = (1 : Int) → Lf ((0 : Int) ≤ Int.ofNat x8 ∧ Int.ofNat x8 + (1 : Int) ≤ (↑x.toNat : Int)) ∧ Lf ((Int.ofNat x8).toNat.succ ≤ g.length) ∧ ∀ (x_9 : Int), x_9 = IntKind.i64.wrap (x5 - g.getD (Int.ofNat x8).toNat (0 : Int)) → (x_9 + (1 : Int) ≤ (500 : Int) → (x6.fst.1.getD (1 : Nat) false = true → restC x x5 x6 x7 g x8) ∧ (¬x6.fst.1.getD (1 : Nat) false = true → false = true)) ∧ (¬x_9 + (1 : Int) ≤ (500 : Int) → (x6.fst.1.getD (1 : Nat) false = false → restC x x5 x6 x7 g x8) ∧ (¬x6.fst.1.getD (1 : Nat) false = false → false = true))) ∧ (¬Int.ofNat x8 = (1 : Int) → (Int.ofNat x8 = (2 : Int) → Lf ((0 : Int) ≤ Int.ofNat x8 ∧ Int.ofNat x8 + (1 : Int) ≤ (↑x.toNat : Int)) ∧ Lf ((Int.ofNat x8).toNat.succ ≤ g.length) ∧ ∀ (x_9 : Int), x_9 = IntKind.i64.wrap (x5 - g.getD (Int.ofNat x8).toNat (0 : Int)) → (x_9 + (1 : Int) ≤ (500 : Int) → (x6.fst.1.getD (2 : Nat) false = true → restC x x5 x6 x7 g x8) ∧ (¬x6.fst.1.getD (2 : Nat) false = true → false = true)) ∧ (¬x_9 + (1 : Int) ≤ (500 : Int) → (x6.fst.1.getD (2 : Nat) false = false → restC x x5 x6 x7 g x8) ∧ (¬x6.fst.1.getD (2 : Nat) false = false → false = true))) ∧ (¬Int.ofNat x8 = (2 : Int) → (Int.ofNat x8 = (3 : Int) → Lf ((0 : Int) ≤ Int.ofNat x8 ∧ Int.ofNat x8 + (1 : Int) ≤ (↑x.toNat : Int)) ∧ Lf ((Int.ofNat x8).toNat.succ ≤ g.length) ∧ ∀ (x_9 : Int), x_9 = IntKind.i64.wrap (x5 - g.getD (Int.ofNat x8).toNat (0 : Int)) → (x_9 + (1 : Int) ≤ (500 : Int) → (x6.fst.1.getD (3 : Nat) false = true → restC x x5 x6 x7 g x8) ∧ (¬x6.fst.1.getD (3 : Nat) false = true → false = true)) ∧ (¬x_9 + (1 : Int) ≤ (500 : Int) → (x6.fst.1.getD (3 : Nat) false = false → restC x x5 x6 x7 g x8) ∧ (¬x6.fst.1.getD (3 : Nat) false = false → false = true))) ∧ (¬Int.ofNat x8 = (3 : Int) → (Int.ofNat x8 = (4 : Int) → Lf ((0 : Int) ≤ Int.ofNat x8 ∧ Int.ofNat x8 + (1 : Int) ≤ (↑x.toNat : Int)) ∧ Lf ((Int.ofNat x8).toNat.succ ≤ g.length) ∧ ∀ (x_9 : Int), x_9 = IntKind.i64.wrap (x5 - g.getD (Int.ofNat x8).toNat (0 : Int)) → (x_9 + (1 : Int) ≤ (500 : Int) → (x6.fst.1.getD (4 : Nat) false = true → restC x x5 x6 x7 g x8) ∧ (¬x6.fst.1.getD (4 : Nat) false = true → false = true)) ∧ (¬x_9 + (1 : Int) ≤ (500 : Int) → (x6.fst.1.getD (4 : Nat) false = false → restC x x5 x6 x7 g x8) ∧ (¬x6.fst.1.getD (4 : Nat) false = false → false = true))) ∧ (¬Int.ofNat x8 = (4 : Int) → (Int.ofNat x8 = (5 : Int) → Lf ((0 : Int) ≤ Int.ofNat x8 ∧ Int.ofNat x8 + (1 : Int) ≤ (↑x.toNat : Int)) ∧ Lf ((Int.ofNat x8).toNat.succ ≤ g.length) ∧ ∀ (x_9 : Int), x_9 = IntKind.i64.wrap (x5 - g.getD (Int.ofNat x8).toNat (0 : Int)) → (x_9 + (1 : Int) ≤ (500 : Int) → (x6.fst.1.getD (5 : Nat) false = true → restC x x5 x6 x7 g x8) ∧ (¬x6.fst.1.getD (5 : Nat) false = true → false = true)) ∧ (¬x_9 + (1 : Int) ≤ (500 : Int) → (x6.fst.1.getD (5 : Nat) false = false → restC x x5 x6 x7 g x8) ∧ (¬x6.fst.1.getD (5 : Nat) false = false → false = true))) ∧ (¬Int.ofNat x8 = (5 : Int) → (Int.ofNat x8 = (6 : Int) → Lf ((0 : Int) ≤ Int.ofNat x8 ∧ Int.ofNat x8 + (1 : Int) ≤ (↑x.toNat : Int)) ∧ Lf ((Int.ofNat x8).toNat.succ ≤ g.length) ∧ ∀ (x_9 : Int), x_9 = IntKind.i64.wrap (x5 - g.getD (Int.ofNat x8).toNat (0 : Int)) → (x_9 + (1 : Int) ≤ (500 : Int) → (x6.fst.1.getD (6 : Nat) false = true → restC x x5 x6 x7 g x8) ∧ (¬x6.fst.1.getD (6 : Nat) false = true → false = true)) ∧ (¬x_9 + (1 : Int) ≤ (500 : Int) → (x6.fst.1.getD (6 : Nat) false = false → restC x x5 x6 x7 g x8) ∧ (¬x6.fst.1.getD (6 : Nat) false = false → false = true))) ∧ (¬Int.ofNat x8 = (6 : Int) → Lf ((0 : Int) ≤ Int.ofNat x8 ∧ Int.ofNat x8 + (1 : Int) ≤ (↑x.toNat : Int)) ∧ Lf ((Int.ofNat x8).toNat.succ ≤ g.length) ∧ ∀ (x_9 : Int), x_9 = IntKind.i64.wrap (x5 - g.getD (Int.ofNat x8).toNat (0 : Int)) → (x_9 + (1 : Int) ≤ (500 : Int) → (x6.fst.1.getD (7 : Nat) false = true → restC x x5 x6 x7 g x8) ∧ (¬x6.fst.1.getD (7 : Nat) false = true → false = true)) ∧ (¬x_9 + (1 : Int) ≤ (500 : Int) → (x6.fst.1.getD (7 : Nat) false = false → restC x x5 x6 x7 g x8) ∧ (¬x6.fst.1.getD (7 : Nat) false = false → false = true)))))))))) ∧ (¬Int.ofNat x8 + (1 : Int) ≤ x → ∀ (x_9 : Int), x_9 = IntKind.i64.wrap (x - Int.ofNat (useN (lB x6.fst.1) x8)) → ((↑x6.snd.length : Int) = x_9 → ((↑x6.snd.length : Int) = (0 : Int) → ∀ (x : Int), x = comS x6.fst.k → (x = (0 : Int) → true = true) ∧ (¬x = (0 : Int) → false = true)) ∧ (¬(↑x6.snd.length : Int) = (0 : Int) → ∀ (x : Int), x = comS x6.fst.k → (x = (0 : Int) → false = true) ∧ (¬x = (0 : Int) → true = true))) ∧ (¬(↑x6.snd.length : Int) = x_9 → false = true))
theorem sN_ok : sN := ⟨rfl, rfl⟩
theorem sL_ok (len cap : Nat) : sL len cap := ⟨sN_ok, rfl, rfl⟩
theorem sV1_ok (len : Nat) (X0 : Nat → Int) : sV1 len X0 := ⟨rfl, fun i _ => rfl⟩
theorem use_le (v : List Bool) : ∀ n, useN v n ≤ n
  | 0 => Nat.le_refl _
  | n + 1 => by
    have := use_le v n
    simp only [useN]
    split <;> omega
theorem lB_get (u : List Bool) : ∀ k, k < 8 → (lB u).getD k false = u.getD k false
  | 0, _ => rfl
  | 1, _ => rfl
  | 2, _ => rfl
  | 3, _ => rfl
  | 4, _ => rfl
  | 5, _ => rfl
  | 6, _ => rfl
  | 7, _ => rfl
  | k + 8, h => by omega
theorem lf_mk {x x5 : Int} {x6 : RV × List Int} {x7 : Nat} {g : List Int} {u i : Int} {x8 : Nat} (h8 : Int.ofNat x8 + 1 ≤ x) (hi : i = Int.ofNat (x8 + 1)) (hu : u = Int.ofNat (useN (lB x6.fst.1) (x8 + 1))) : lfY x x5 x6 x7 g u i x8 := by
  subst hi; subst hu
  have e : (Int.ofNat (x8 + 1)).toNat = x8 + 1 := rfl
  simp only [Int.ofNat_eq_natCast] at h8
  refine ⟨⟨⟨⟨rfl, ⟨rfl, rfl⟩, rfl, sN_ok, ⟨rfl, rfl⟩, rfl, rfl, trivial⟩, eqRm_self _, rfl, rfl, trivial⟩, ⟨?_⟩⟩, ⟨?_⟩⟩
  · rw [e]; simp only [Int.ofNat_eq_natCast]; push_cast; omega
  · rw [e]; omega
theorem wr1 {x8 : Nat} {x y : Int} (hx : x ≤ 8) (h8 : Int.ofNat x8 + 1 ≤ x) (h : y = IntKind.i64.wrap (Int.ofNat x8 + 1)) : y = Int.ofNat (x8 + 1) := by
  simp only [Int.ofNat_eq_natCast] at *
  rw [h, IntKind.wrap_i64]
  push_cast
  omega
theorem lf_yes {x x5 : Int} {x6 : RV × List Int} {x7 : Nat} {g : List Int} {x10 x11 : Int} {x8 : Nat} (hx : x ≤ 8) (h8 : Int.ofNat x8 + 1 ≤ x) (hu : x6.fst.1.getD x8 false = true)
    (h10 : x10 = IntKind.i64.wrap (Int.ofNat (useN (lB x6.fst.1) x8) + 1)) (h11 : x11 = IntKind.i64.wrap (Int.ofNat x8 + 1)) : lfY x x5 x6 x7 g x10 x11 x8 := by
  refine lf_mk h8 (wr1 hx h8 h11) ?_
  have hb := use_le (lB x6.fst.1) x8
  simp only [Int.ofNat_eq_natCast] at *
  simp only [useN]
  rw [lB_get _ _ (by omega), hu, h10, IntKind.wrap_i64, if_pos rfl]
  push_cast
  omega
theorem lf_no {x x5 : Int} {x6 : RV × List Int} {x7 : Nat} {g : List Int} {x11 : Int} {x8 : Nat} (hx : x ≤ 8) (h8 : Int.ofNat x8 + 1 ≤ x) (hu : x6.fst.1.getD x8 false = false)
    (h11 : x11 = IntKind.i64.wrap (Int.ofNat x8 + 1)) : lfY x x5 x6 x7 g (Int.ofNat (useN (lB x6.fst.1) x8)) x11 x8 := by
  refine lf_mk h8 (wr1 hx h8 h11) ?_
  have h9 : x8 < 8 := by simp only [Int.ofNat_eq_natCast] at h8; omega
  simp only [useN]
  rw [lB_get _ _ h9, hu]
  simp
theorem ix8 {x : Int} {x8 : Nat} (hx : x ≤ 8) (h8 : Int.ofNat x8 + 1 ≤ x) : (0 : Int) ≤ Int.ofNat x8 ∧ Int.ofNat x8 + (1 : Int) ≤ (8 : Int) := by
  simp only [Int.ofNat_eq_natCast] at *; omega
theorem ixx {x : Int} {x8 : Nat} (h8 : Int.ofNat x8 + 1 ≤ x) : (0 : Int) ≤ Int.ofNat x8 ∧ Int.ofNat x8 + (1 : Int) ≤ (↑x.toNat : Int) := by
  simp only [Int.ofNat_eq_natCast] at *; omega
theorem ixg {x : Int} {x8 : Nat} {g : List Int} (h8 : Int.ofNat x8 + 1 ≤ x) (hg : g.length = x.toNat) : (Int.ofNat x8).toNat.succ ≤ g.length := by
  simp only [Int.ofNat_eq_natCast] at *; simp; omega
theorem lt8 {x : Int} {x8 : Nat} (hx : x ≤ 8) (h8 : Int.ofNat x8 + 1 ≤ x) : x8 = 0 ∨ x8 = 1 ∨ x8 = 2 ∨ x8 = 3 ∨ x8 = 4 ∨ x8 = 5 ∨ x8 = 6 ∨ x8 = 7 := by
  simp only [Int.ofNat_eq_natCast] at h8; omega
attribute [local irreducible] joinRm aliveRm tickRm goodRm useN eqRm exRm comS lB lfY
theorem restC_ok {x x5 : Int} {x6 : RV × List Int} {x7 : Nat} {g : List Int} {x8 : Nat} (hx : x ≤ 8) (h8 : Int.ofNat x8 + 1 ≤ x) : restC x x5 x6 x7 g x8 := by
  unfold restC
  have hi := ix8 hx h8
  rcases lt8 hx h8 with rfl | rfl | rfl | rfl | rfl | rfl | rfl | rfl
  all_goals
    refine ⟨⟨hi⟩, ?_⟩
    repeat' (first | with_reducible apply And.intro | intro _)
    all_goals first
      | contradiction
      | exact lf_yes hx h8 (by assumption) (by assumption) (by assumption)
      | exact lf_no hx h8 (by assumption) (by assumption)
/-- what a tick told -/
structure Tk (x x5 : Int) (x6 : RV × List Int) (g : List Int) : Prop where
  x1 : 1 ≤ x
  x8 : x ≤ 8
  gl : g.length = x.toNat
  us : ∀ j, j < x.toNat → x6.1.u.getD j false = decide (x5 - g.getD j 0 < 500)
  ln : x6.2.length + useN x6.1.u x.toNat = x.toNat
  cm : comS x6.1.k = (x6.2.length : Nat)
  u8 : x6.1.u.length = 8
  b0 : 0 ≤ x5
  b1 : x5 < 2000
  gb : ∀ j, j < x.toNat → 0 ≤ g.getD j 0 ∧ g.getD j 0 < 1000
theorem used {x x5 x9 : Int} {x6 : RV × List Int} {g : List Int} {x8 : Nat} (T : Tk x x5 x6 g) (h8 : Int.ofNat x8 + 1 ≤ x) (h9 : x9 = IntKind.i64.wrap (x5 - g.getD (Int.ofNat x8).toNat 0)) : x6.1.u.getD x8 false = decide (x9 < 500) := by
  have hj : x8 < x.toNat := by simp only [Int.ofNat_eq_natCast] at h8; omega
  have h1 := T.us x8 hj
  obtain ⟨h2, h3⟩ := T.gb x8 hj
  have b0 := T.b0
  have b1 := T.b1
  rw [show (Int.ofNat x8).toNat = x8 from rfl, IntKind.wrap_i64] at h9
  rw [h1, show x9 = x5 - g.getD x8 0 by omega]
theorem cf_t {x x5 x9 : Int} {x6 : RV × List Int} {g : List Int} {x8 : Nat} (T : Tk x x5 x6 g) (h8 : Int.ofNat x8 + 1 ≤ x) (h9 : x9 = IntKind.i64.wrap (x5 - g.getD (Int.ofNat x8).toNat 0)) (hl : x9 + (1 : Int) ≤ 500) (hn : ¬x6.1.1.getD x8 false = true) : false = true := by
  rw [show x6.1.1.getD x8 false = _ from used T h8 h9] at hn
  exact absurd (decide_eq_true (by omega)) hn
theorem cf_f {x x5 x9 : Int} {x6 : RV × List Int} {g : List Int} {x8 : Nat} (T : Tk x x5 x6 g) (h8 : Int.ofNat x8 + 1 ≤ x) (h9 : x9 = IntKind.i64.wrap (x5 - g.getD (Int.ofNat x8).toNat 0)) (hl : ¬x9 + (1 : Int) ≤ 500) (hn : ¬x6.1.1.getD x8 false = false) : false = true := by
  rw [show x6.1.1.getD x8 false = _ from used T h8 h9] at hn
  exact absurd (decide_eq_false (by omega)) hn
theorem lB_ok {u : List Bool} (h : u.length = 8) : lB u = u := by
  unfold lB
  exact ex8b h
theorem use_z (v : List Bool) : useN v 0 = 0 := by unfold useN; rfl
theorem loopC_ok {x x5 : Int} {x6 : RV × List Int} {x7 : Nat} {g : List Int} (T : Tk x x5 x6 g) : loopC x x5 x6 x7 g := by
  unfold loopC
  have hx := T.x8
  have hx1 := T.x1
  refine ⟨⟨⟨⟨rfl, ⟨rfl, rfl⟩, rfl, sN_ok, ⟨rfl, rfl⟩, by rw [use_z]; rfl, rfl, trivial⟩, eqRm_self _, rfl, rfl, trivial⟩, ⟨by simp only [Int.ofNat_eq_natCast]; omega⟩⟩, fun x8 h7 => ⟨fun h8 => ?_, fun h8 x9 h9 => ?_⟩⟩
  · have hi := ix8 hx h8
    have hj := ixx h8
    have hg := ixg h8 T.gl
    have hr : restC x x5 x6 x7 g x8 := restC_ok hx h8
    rcases lt8 hx h8 with rfl | rfl | rfl | rfl | rfl | rfl | rfl | rfl
    all_goals
      refine ⟨⟨hi⟩, ?_⟩
      repeat' (first | with_reducible apply And.intro | with_reducible apply Lf.mk | intro _)
      all_goals first
        | contradiction
        | exact hr
        | exact hj.1
        | exact hj.2
        | exact hg
        | exact cf_t T h8 (by assumption) (by assumption) (by assumption)
        | exact cf_f T h8 (by assumption) (by assumption) (by assumption)
  · have h10 : x8 = x.toNat := by simp only [Int.ofNat_eq_natCast] at *; omega
    subst h10
    have hl := T.ln
    have hu := use_le x6.1.u x.toNat
    have hc := T.cm
    rw [show lB x6.fst.1 = x6.1.u from lB_ok T.u8, IntKind.wrap_i64] at h9
    simp only [Int.ofNat_eq_natCast] at h9
    have e9 : (↑x6.snd.length : Int) = x9 := by omega
    refine ⟨fun _ => ⟨fun h0 => ?_, fun h0 => ?_⟩, fun hn => absurd e9 hn⟩
    · intro y hy
      refine ⟨fun _ => rfl, fun hn => absurd ?_ hn⟩
      rw [hy, show comS x6.fst.k = _ from hc]; exact h0
    · intro y hy
      refine ⟨fun h1 => absurd ?_ h0, fun _ => rfl⟩
      rw [← h1, hy]; exact hc.symm
theorem tmod_b {a : Int} (b : Int) (h0 : 0 ≤ a) (hb : 0 < b) : 0 ≤ a.tmod b ∧ a.tmod b < b := by
  rw [Int.tmod_eq_emod_of_nonneg h0]
  exact ⟨Int.emod_nonneg _ (by omega), Int.emod_lt_of_pos _ hb⟩
theorem tk_mk {r : RV} {x x4 x5 late : Int} {g : List Int} {x6 : RV × List Int} {P : Prop} (hx1 : 1 ≤ x) (hx : x ≤ 8) (h : (Sil r x.toNat fun j => g.getD j (0 : Int)) ∧ g.length = x.toNat ∧ (∀ (j : Nat), j.succ ≤ x.toNat → (0 : Int) ≤ g.getD j (0 : Int) ∧ g.getD j (0 : Int) + (1 : Int) ≤ (1000 : Int)) ∧ P)
    (l0 : 0 ≤ late) (h4 : x4 = late.tmod 2000) (h5 : x5 = IntKind.i64.wrap x4) (h6 : x6 = tickRm (exRm r) x5) : Tk x x5 x6 g := by
  obtain ⟨hs, hg, hb, _⟩ := h
  have hm := tmod_b 2000 l0 (by omega)
  rw [← h4] at hm
  rw [IntKind.wrap_i64] at h5
  have hb' : ∀ j, j < x.toNat → 0 ≤ g.getD j 0 ∧ g.getD j 0 < 1000 := fun j hj => by
    have := hb j hj
    omega
  rw [exRm_ok hs.ok] at h6
  obtain ⟨g1, g2, g3, g4, g5⟩ := sil_tick hs (by omega) (now := x5) hb' (by omega) (by omega)
  rw [← h6] at g1 g2 g3 g4 g5
  exact ⟨hx1, hx, hg, g1, g2, g3, g5, by omega, by omega, hb'⟩
theorem sil_len {r : RV} {m : Nat} {F G : Nat → Int} (h : Sil r m F) (e : ∀ j, j < m → F j = G j) : Sil r m G := ⟨h.ok, h.o, h.k, h.u, h.a, fun j hj => by rw [h.s j hj, e j hj]⟩
theorem ten {k : Nat} {x : Int} (hk : k < 8) (h : x = IntKind.i64.wrap ((10 : Int) + Int.ofNat k)) : x = 10 + (k : Int) := by
  rw [h, IntKind.wrap_i64]; simp only [Int.ofNat_eq_natCast]; omega
set_option maxHeartbeats 20000000 in
set_option maxRecDepth 100000 in
theorem silent11_vc (n late : Int) (len cap : Nat) (X0 : Nat → Int) (n0 : 0 ≤ n) (l0 : 0 ≤ late) (hX : ∀ i, i < len → 0 ≤ X0 i) : silent11 n late len cap X0 := of_eq (b := (false = true → false = true) ∧ (false = false → ∀ (x : Int), x = n.tmod (8 : Int) → ∀ (x_1 : Int), x_1 = IntKind.i64.wrap x → ∀ (x : Int), x = IntKind.i64.wrap (x_1 + (1 : Int)) → ((((sL len cap) ∧ late = late ∧ x = x ∧ sN ∧ (0 : Int) = Int.ofNat (Int.toNat (0 : Int)) ∧ True) ∧ (sV1 len X0) ∧ (eqRm zeroRm zeroRm) ∧ True) ∧ Lf ((Sil (exRm zeroRm) (Int.toNat (0 : Int)) fun x => (0 : Int)) ∧ Int.ofNat (Int.toNat (0 : Int)) ≤ x)) ∧ ∀ (x_2 : Nat × RV), (Sil x_2.snd x_2.fst fun x => (0 : Int)) ∧ Int.ofNat x_2.fst ≤ x → (Int.ofNat x_2.fst + (1 : Int) ≤ x → ∀ (x_3 : Int), x_3 = IntKind.i64.wrap ((10 : Int) + Int.ofNat x_2.fst) → ∀ (x_4 : RV × Int × Int), x_4 = joinRm (exRm x_2.snd) x_3 (0 : Int) → (x_4.snd.snd = (0 : Int) → ∀ (x_5 : Int), x_5 = IntKind.i64.wrap (Int.ofNat x_2.fst + (1 : Int)) → ((((sL len cap) ∧ late = late ∧ x = x ∧ sN ∧ x_5 = Int.ofNat x_5.toNat ∧ True) ∧ (sV1 len X0) ∧ (eqRm x_4.fst x_4.fst) ∧ True) ∧ Lf ((Sil (exRm x_4.fst) x_5.toNat fun x => (0 : Int)) ∧ Int.ofNat x_5.toNat ≤ x)) ∧ Lf ((x.toNat - x_5.toNat).succ ≤ x.toNat - x_2.fst)) ∧ (¬x_4.snd.snd = (0 : Int) → false = true)) ∧ (¬Int.ofNat x_2.fst + (1 : Int) ≤ x → Lf (((0 : Int) ≤ x ∧ x ≤ (1000 : Int)) ∧ x = x) ∧ ((((sL len cap) ∧ late = late ∧ x = x ∧ sN ∧ (x.toNat = x.toNat ∧ x.toNat = x.toNat) ∧ (0 : Int) = Int.ofNat (Int.toNat (0 : Int)) ∧ True) ∧ (sV1 len X0) ∧ (eqRm x_2.snd x_2.snd) ∧ List.replicate x.toNat (0 : Int) = List.replicate x.toNat (0 : Int) ∧ True) ∧ Lf ((Sil (exRm x_2.snd) x.toNat fun j => (List.replicate x.toNat (0 : Int)).getD j (0 : Int)) ∧ (List.replicate x.toNat (0 : Int)).length = x.toNat ∧ (∀ (j : Nat), j.succ ≤ x.toNat → (0 : Int) ≤ (List.replicate x.toNat (0 : Int)).getD j (0 : Int) ∧ (List.replicate x.toNat (0 : Int)).getD j (0 : Int) + (1 : Int) ≤ (1000 : Int)) ∧ Int.ofNat (Int.toNat (0 : Int)) ≤ x)) ∧ ∀ (x_3 : Nat × RV × List Int), (Sil x_3.snd.fst x.toNat fun j => x_3.snd.snd.getD j (0 : Int)) ∧ x_3.snd.snd.length = x.toNat ∧ (∀ (j : Nat), j.succ ≤ x.toNat → (0 : Int) ≤ x_3.snd.snd.getD j (0 : Int) ∧ x_3.snd.snd.getD j (0 : Int) + (1 : Int) ≤ (1000 : Int)) ∧ Int.ofNat x_3.fst ≤ x → (Int.ofNat x_3.fst + (1 : Int) ≤ (↑len : Int) → (Int.ofNat x_3.fst + (1 : Int) ≤ x → Lf ((0 : Int) ≤ Int.ofNat x_3.fst ∧ Int.ofNat x_3.fst + (1 : Int) ≤ (↑len : Int)) ∧ Lf (((0 : Nat) + (Int.ofNat x_3.fst).toNat).succ ≤ len) ∧ ∀ (x_4 : Int), x_4 = (X0 ((0 : Nat) + (Int.ofNat x_3.fst).toNat)).tmod (1000 : Int) → ∀ (x_5 : Int), x_5 = IntKind.i64.wrap x_4 → ∀ (x_6 : Int), x_6 = IntKind.i64.wrap ((10 : Int) + Int.ofNat x_3.fst) → ∀ (x_7 : RV × Int), x_7 = aliveRm (exRm x_3.snd.fst) x_6 x_5 → (x_7.snd = (0 : Int) → Lf ((0 : Int) ≤ Int.ofNat x_3.fst ∧ Int.ofNat x_3.fst + (1 : Int) ≤ (↑x.toNat : Int)) ∧ Lf ((Int.ofNat x_3.fst).toNat.succ ≤ x_3.snd.snd.length) ∧ ∀ (x_8 : Int), x_8 = IntKind.i64.wrap (Int.ofNat x_3.fst + (1 : Int)) → ((((sL len cap) ∧ late = late ∧ x = x ∧ sN ∧ (x.toNat = x.toNat ∧ x.toNat = x.toNat) ∧ x_8 = Int.ofNat x_8.toNat ∧ True) ∧ (sV1 len X0) ∧ (eqRm x_7.fst x_7.fst) ∧ x_3.snd.snd.set (Int.ofNat x_3.fst).toNat x_5 = x_3.snd.snd.set (Int.ofNat x_3.fst).toNat x_5 ∧ True) ∧ Lf ((Sil (exRm x_7.fst) x.toNat fun j => (x_3.snd.snd.set (Int.ofNat x_3.fst).toNat x_5).getD j (0 : Int)) ∧ (x_3.snd.snd.set (Int.ofNat x_3.fst).toNat x_5).length = x.toNat ∧ (∀ (j : Nat), j.succ ≤ x.toNat → (0 : Int) ≤ (x_3.snd.snd.set (Int.ofNat x_3.fst).toNat x_5).getD j (0 : Int) ∧ (x_3.snd.snd.set (Int.ofNat x_3.fst).toNat x_5).getD j (0 : Int) + (1 : Int) ≤ (1000 : Int)) ∧ Int.ofNat x_8.toNat ≤ x)) ∧ Lf ((x.toNat - x_8.toNat).succ ≤ x.toNat - x_3.fst)) ∧ (¬x_7.snd = (0 : Int) → false = true)) ∧ (¬Int.ofNat x_3.fst + (1 : Int) ≤ x → ∀ (x_4 : Int), x_4 = late.tmod (2000 : Int) → ∀ (x_5 : Int), x_5 = IntKind.i64.wrap x_4 → ∀ (x_6 : RV × List Int), x_6 = tickRm (exRm x_3.snd.fst) x_5 → ∀ (x_7 : Nat), x_6.snd.length ≤ x_7 → loopC x x_5 x_6 x_7 x_3.snd.snd)) ∧ (¬Int.ofNat x_3.fst + (1 : Int) ≤ (↑len : Int) → ∀ (x_4 : Int), x_4 = late.tmod (2000 : Int) → ∀ (x_5 : Int), x_5 = IntKind.i64.wrap x_4 → ∀ (x_6 : RV × List Int), x_6 = tickRm (exRm x_3.snd.fst) x_5 → ∀ (x_7 : Nat), x_6.snd.length ≤ x_7 → loopC x x_5 x_6 x_7 x_3.snd.snd)))) (by kernel_rfl) (by
  refine ⟨fun h => h, fun _ => ?_⟩
  intro x0 e0 x1 e1 x e2
  obtain ⟨hx1, hx⟩ : 1 ≤ x ∧ x ≤ 8 := by
    have hm := tmod_b 8 n0 (by omega)
    rw [IntKind.wrap_i64] at e1 e2
    omega
  clear e0 e1 e2
  refine ⟨⟨⟨⟨sL_ok _ _, rfl, rfl, sN_ok, rfl, trivial⟩, sV1_ok _ _, eqRm_self _, trivial⟩, ⟨by
    rw [exRm_ok (sil_0 fun _ => 0).ok]
    exact ⟨sil_0 _, by simp only [Int.ofNat_eq_natCast]; simp; omega⟩⟩⟩, ?_⟩
  intro x2 h2
  obtain ⟨hs, hle⟩ := h2
  refine ⟨fun hlt => ?_, fun hge => ?_⟩
  · intro x3 e3 x4 e4
    have hk : x2.fst < 8 := by simp only [Int.ofNat_eq_natCast] at hlt; omega
    rw [exRm_ok hs.ok, ten hk e3] at e4
    obtain ⟨j1, j2⟩ := sil_join hs hk 0 rfl
    rw [← e4] at j1 j2
    refine ⟨fun _ => ?_, fun hn => absurd j1 hn⟩
    intro x5 e5
    have e6 : x5 = Int.ofNat (x2.fst + 1) := wr1 hx hlt e5
    subst e6
    clear e5
    refine ⟨⟨⟨⟨sL_ok _ _, rfl, rfl, sN_ok, rfl, trivial⟩, sV1_ok _ _, eqRm_self _, trivial⟩, ⟨?_⟩⟩, ⟨?_⟩⟩
    · rw [exRm_ok j2.ok]
      exact ⟨j2, by simp only [Int.ofNat_eq_natCast] at *; simp; omega⟩
    · simp only [Int.ofNat_eq_natCast] at *; simp; omega
  · have em : x2.fst = x.toNat := by simp only [Int.ofNat_eq_natCast] at *; omega
    refine ⟨⟨⟨by omega, by omega⟩, rfl⟩, ⟨⟨⟨sL_ok _ _, rfl, rfl, sN_ok, ⟨rfl, rfl⟩, rfl, trivial⟩, sV1_ok _ _, eqRm_self _, rfl, trivial⟩, ⟨?_⟩⟩, ?_⟩
    · rw [em] at hs
      have hr : ∀ j, j < x.toNat → (List.replicate x.toNat (0 : Int)).getD j 0 = 0 := fun j hj => by simp [List.getD, hj]
      rw [exRm_ok hs.ok]
      refine ⟨sil_len hs fun j hj => (hr j hj).symm, by simp, fun j hj => ?_, by simp only [Int.ofNat_eq_natCast]; simp; omega⟩
      rw [hr j hj]; omega
    · intro x3 h3
      have tick : ∀ (x4 : Int), x4 = late.tmod (2000 : Int) → ∀ (x5 : Int), x5 = IntKind.i64.wrap x4 → ∀ (x6 : RV × List Int), x6 = tickRm (exRm x3.snd.fst) x5 → ∀ (x7 : Nat), x6.snd.length ≤ x7 → loopC x x5 x6 x7 x3.snd.snd :=
        fun x4 h4 x5 h5 x6 h6 x7 _ => loopC_ok (tk_mk hx1 hx h3 l0 h4 h5 h6)
      obtain ⟨hs3, hg3, hb3, hle3⟩ := h3
      refine ⟨fun hlen => ⟨fun hlt => ?_, fun _ => tick⟩, fun _ => tick⟩
      have hk : x3.fst < x.toNat := by simp only [Int.ofNat_eq_natCast] at hlt; omega
      refine ⟨⟨by simp only [Int.ofNat_eq_natCast] at *; omega⟩, ⟨by simp only [Int.ofNat_eq_natCast] at *; simp; omega⟩, ?_⟩
      intro x4 e4 x5 e5 x6 e6 x7 e7
      have hm : 0 ≤ x5 ∧ x5 < 1000 := by
        have := tmod_b 1000 (hX (0 + (Int.ofNat x3.fst).toNat) (by simp only [Int.ofNat_eq_natCast] at hlen; simp; omega)) (by omega)
        rw [← e4] at this
        rw [e5, IntKind.wrap_i64]
        omega
      rw [exRm_ok hs3.ok, ten (by omega) e6] at e7
      obtain ⟨j1, j2⟩ := sil_alive hs3 (by omega) hk x5
      rw [← e7] at j1 j2
      refine ⟨fun _ => ⟨⟨ixx hlt⟩, ⟨ixg hlt hg3⟩, ?_⟩, fun hn => absurd j1 hn⟩
      intro x8 e8
      have e9 : x8 = Int.ofNat (x3.fst + 1) := wr1 hx hlt e8
      subst e9
      clear e8
      have hget : ∀ j, j < x.toNat → (x3.snd.snd.set (Int.ofNat x3.fst).toNat x5).getD j 0 = if j = x3.fst then x5 else x3.snd.snd.getD j 0 := fun j hj => getD_set _ _ _ _ _ (by rw [hg3]; exact hk)
      refine ⟨⟨⟨⟨sL_ok _ _, rfl, rfl, sN_ok, ⟨rfl, rfl⟩, rfl, trivial⟩, sV1_ok _ _, eqRm_self _, rfl, trivial⟩, ⟨?_⟩⟩, ⟨?_⟩⟩
      · rw [exRm_ok j2.ok]
        refine ⟨sil_len j2 fun j hj => (hget j hj).symm, by rw [List.length_set]; exact hg3, fun j hj => ?_, by simp only [Int.ofNat_eq_natCast] at *; simp; omega⟩
        rw [hget j hj]
        have := hb3 j hj
        split <;> omega
      · simp only [Int.ofNat_eq_natCast] at *; simp; omega)
end Go.Proofs.Ytcaipfdnadlkdaa.Sx
