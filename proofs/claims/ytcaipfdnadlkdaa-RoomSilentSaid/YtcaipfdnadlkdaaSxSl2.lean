/- slices.Index over a table's marks; the small functions of slots as contracts. No condition. -/
import Derived.Test.YtcaipfdnadlkdaaSxSl1
namespace Go.Proofs.Ytcaipfdnadlkdaa.Sx
open Go Go.RowKit
set_option linter.unusedVariables false
set_option linter.unusedSimpArgs false
def allBo : List SC → Bool
  | [] => true
  | .boo _ :: cs => allBo cs
  | .tru _ :: cs => allBo cs
  | _ => false
def idxOut : List SC → Bool → Int → Out SV
  | [], _, _ => .ret (one (.num .i64 (-1)))
  | .boo b :: cs, v, k => if v then .brB b (.ret (one (.num .i64 k))) (idxOut cs v (k + 1)) else .brB b (idxOut cs v (k + 1)) (.ret (one (.num .i64 k)))
  | .tru b :: cs, v, k => if v == b then .ret (one (.num .i64 k)) else idxOut cs v (k + 1)
  | _, _, _ => .fail
def idxSpec : Spec := fun base args => match args with
  | [.s (.c (.sli b i 0 j 8 c q)), .s (.c (.tru v))] => ⟨[b], [], fun bl =>
      match bl with
      | [some k] => match blkGet k i 0 j 8 with
        | some (none, cs) => if allBo cs then oAst none (Out.bind (idxOut cs v 0) fun x => .ret ⟨x, [], []⟩) else .fail
        | _ => .fail
      | _ => .fail⟩
  | _ => Req.fail
def sliN (x : SV) : Nat :=
  match x with
  | .s (.c (.sli b _ _ _ _ _ _)) => b
  | _ => 0
def viewBs (b : Option Blk) : Nat → Nat → List Bool
  | _, 0 => []
  | i, n + 1 => (match b with
    | some (.view _ _ f) => cellB (f i) 0
    | _ => false) :: viewBs b (i + 1) n
def idxAnn : Ann where
  A := Unit
  names := fun s => [sliN (s.slots.getD 0 .u)]
  st := fun k _ s => { s with slots := ((keepS [0, 1, 7] 0 s.slots).set 8 (one (.num .i64 (Int.ofNat k)))) }
  inv := fun s k _ => idxGo (boolN (s.slots.getD 1 .u)) 0 (viewBs (s.heap (sliN (s.slots.getD 0 .u))) 0 8) = idxGo (boolN (s.slots.getD 1 .u)) (Int.ofNat k) (viewBs (s.heap (sliN (s.slots.getD 0 .u))) k (8 - k))
  wit := fun _ => ()
  lit := some 8
def hIdx (B : Nat → Bool) : Nat → Option Blk := fun n => if n = 0 then some (.view 1 8 fun i => [.boo (B i)]) else none
def idxVC (c : Nat) (B : Nat → Bool) (v : Bool) : Prop :=
  entryK Try.f63 [one (.sli 0 0 1 0 8 c false), one (.boo v)] (hIdx B) 1 fun s => cwp Try.prog (envL []) (ctl1 2 idxAnn) (Try.f63.body.getD .skip) s (retK Try.prog Try.f63 fun sv _ => leV [] [] sv (one (.int .i64 (idxGo v 0 [B 0, B 1, B 2, B 3, B 4, B 5, B 6, B 7]))))

theorem idx_hit {v b : Bool} {k G : Int} {bs : List Bool} (hG : G = idxGo v k (b :: bs)) (h : v = b) : k = G := by subst hG; simp [idxGo, h]
theorem idx_no {v b : Bool} {k G : Int} {bs : List Bool} (hG : G = idxGo v k (b :: bs)) (h : ¬v = b) : G = idxGo v (k + 1) bs := by subst hG; simp [idxGo, h]
theorem idx_end {v : Bool} {k G : Int} (hG : G = idxGo v k []) : -1 = G := by subst hG; simp [idxGo]
set_option maxRecDepth 100000 in
set_option maxHeartbeats 8000000 in
theorem idx_vc (c : Nat) (B : Nat → Bool) (v : Bool) : idxVC c B v := of_eq (b := ((((((0 : Nat) = (0 : Nat) ∧ (0 : Nat) = (0 : Nat)) ∧ (8 : Nat) = (8 : Nat) ∧ c = c) ∧ v = v ∧ (8 : Int) = (8 : Int) ∧ (0 : Int) = (0 : Int) ∧ True) ∧ ((8 : Nat) = (8 : Nat) ∧ ∀ (i : Nat), i < (8 : Nat) → B i = B i) ∧ True) ∧ Lf (idxGo v (0 : Int) [B (0 : Nat), B (1 : Nat), B (2 : Nat), B (3 : Nat), B (4 : Nat), B (5 : Nat), B (6 : Nat), B (7 : Nat)] = idxGo v (0 : Int) [B (0 : Nat), B (1 : Nat), B (2 : Nat), B (3 : Nat), B (4 : Nat), B (5 : Nat), B (6 : Nat), B (7 : Nat)])) ∧ (∀ (x : Unit), idxGo v (0 : Int) [B (0 : Nat), B (1 : Nat), B (2 : Nat), B (3 : Nat), B (4 : Nat), B (5 : Nat), B (6 : Nat), B (7 : Nat)] = idxGo v (0 : Int) [B (0 : Nat), B (1 : Nat), B (2 : Nat), B (3 : Nat), B (4 : Nat), B (5 : Nat), B (6 : Nat), B (7 : Nat)] → ((0 : Int) < (8 : Int) → Lf ((0 : Int) ≤ (0 : Int) ∧ (0 : Int) < (8 : Int)) ∧ Lf ((0 : Nat) < (8 : Nat)) ∧ (v = B (0 : Nat) → (0 : Int) = idxGo v (0 : Int) [B (0 : Nat), B (1 : Nat), B (2 : Nat), B (3 : Nat), B (4 : Nat), B (5 : Nat), B (6 : Nat), B (7 : Nat)]) ∧ (¬v = B (0 : Nat) → (((((0 : Nat) = (0 : Nat) ∧ (0 : Nat) = (0 : Nat)) ∧ (8 : Nat) = (8 : Nat) ∧ c = c) ∧ v = v ∧ (8 : Int) = (8 : Int) ∧ (1 : Int) = (1 : Int) ∧ True) ∧ ((8 : Nat) = (8 : Nat) ∧ ∀ (i : Nat), i < (8 : Nat) → B i = B i) ∧ True) ∧ Lf (idxGo v (0 : Int) [B (0 : Nat), B (1 : Nat), B (2 : Nat), B (3 : Nat), B (4 : Nat), B (5 : Nat), B (6 : Nat), B (7 : Nat)] = idxGo v (1 : Int) [B (1 : Nat), B (2 : Nat), B (3 : Nat), B (4 : Nat), B (5 : Nat), B (6 : Nat), B (7 : Nat)]))) ∧ (¬(0 : Int) < (8 : Int) → (-1 : Int) = idxGo v (0 : Int) [B (0 : Nat), B (1 : Nat), B (2 : Nat), B (3 : Nat), B (4 : Nat), B (5 : Nat), B (6 : Nat), B (7 : Nat)])) ∧ (∀ (x : Unit), idxGo v (0 : Int) [B (0 : Nat), B (1 : Nat), B (2 : Nat), B (3 : Nat), B (4 : Nat), B (5 : Nat), B (6 : Nat), B (7 : Nat)] = idxGo v (1 : Int) [B (1 : Nat), B (2 : Nat), B (3 : Nat), B (4 : Nat), B (5 : Nat), B (6 : Nat), B (7 : Nat)] → ((1 : Int) < (8 : Int) → Lf ((0 : Int) ≤ (1 : Int) ∧ (1 : Int) < (8 : Int)) ∧ Lf ((1 : Nat) < (8 : Nat)) ∧ (v = B (1 : Nat) → (1 : Int) = idxGo v (0 : Int) [B (0 : Nat), B (1 : Nat), B (2 : Nat), B (3 : Nat), B (4 : Nat), B (5 : Nat), B (6 : Nat), B (7 : Nat)]) ∧ (¬v = B (1 : Nat) → (((((0 : Nat) = (0 : Nat) ∧ (0 : Nat) = (0 : Nat)) ∧ (8 : Nat) = (8 : Nat) ∧ c = c) ∧ v = v ∧ (8 : Int) = (8 : Int) ∧ (2 : Int) = (2 : Int) ∧ True) ∧ ((8 : Nat) = (8 : Nat) ∧ ∀ (i : Nat), i < (8 : Nat) → B i = B i) ∧ True) ∧ Lf (idxGo v (0 : Int) [B (0 : Nat), B (1 : Nat), B (2 : Nat), B (3 : Nat), B (4 : Nat), B (5 : Nat), B (6 : Nat), B (7 : Nat)] = idxGo v (2 : Int) [B (2 : Nat), B (3 : Nat), B (4 : Nat), B (5 : Nat), B (6 : Nat), B (7 : Nat)]))) ∧ (¬(1 : Int) < (8 : Int) → (-1 : Int) = idxGo v (0 : Int) [B (0 : Nat), B (1 : Nat), B (2 : Nat), B (3 : Nat), B (4 : Nat), B (5 : Nat), B (6 : Nat), B (7 : Nat)])) ∧ (∀ (x : Unit), idxGo v (0 : Int) [B (0 : Nat), B (1 : Nat), B (2 : Nat), B (3 : Nat), B (4 : Nat), B (5 : Nat), B (6 : Nat), B (7 : Nat)] = idxGo v (2 : Int) [B (2 : Nat), B (3 : Nat), B (4 : Nat), B (5 : Nat), B (6 : Nat), B (7 : Nat)] → ((2 : Int) < (8 : Int) → Lf ((0 : Int) ≤ (2 : Int) ∧ (2 : Int) < (8 : Int)) ∧ Lf ((2 : Nat) < (8 : Nat)) ∧ (v = B (2 : Nat) → (2 : Int) = idxGo v (0 : Int) [B (0 : Nat), B (1 : Nat), B (2 : Nat), B (3 : Nat), B (4 : Nat), B (5 : Nat), B (6 : Nat), B (7 : Nat)]) ∧ (¬v = B (2 : Nat) → (((((0 : Nat) = (0 : Nat) ∧ (0 : Nat) = (0 : Nat)) ∧ (8 : Nat) = (8 : Nat) ∧ c = c) ∧ v = v ∧ (8 : Int) = (8 : Int) ∧ (3 : Int) = (3 : Int) ∧ True) ∧ ((8 : Nat) = (8 : Nat) ∧ ∀ (i : Nat), i < (8 : Nat) → B i = B i) ∧ True) ∧ Lf (idxGo v (0 : Int) [B (0 : Nat), B (1 : Nat), B (2 : Nat), B (3 : Nat), B (4 : Nat), B (5 : Nat), B (6 : Nat), B (7 : Nat)] = idxGo v (3 : Int) [B (3 : Nat), B (4 : Nat), B (5 : Nat), B (6 : Nat), B (7 : Nat)]))) ∧ (¬(2 : Int) < (8 : Int) → (-1 : Int) = idxGo v (0 : Int) [B (0 : Nat), B (1 : Nat), B (2 : Nat), B (3 : Nat), B (4 : Nat), B (5 : Nat), B (6 : Nat), B (7 : Nat)])) ∧ (∀ (x : Unit), idxGo v (0 : Int) [B (0 : Nat), B (1 : Nat), B (2 : Nat), B (3 : Nat), B (4 : Nat), B (5 : Nat), B (6 : Nat), B (7 : Nat)] = idxGo v (3 : Int) [B (3 : Nat), B (4 : Nat), B (5 : Nat), B (6 : Nat), B (7 : Nat)] → ((3 : Int) < (8 : Int) → Lf ((0 : Int) ≤ (3 : Int) ∧ (3 : Int) < (8 : Int)) ∧ Lf ((3 : Nat) < (8 : Nat)) ∧ (v = B (3 : Nat) → (3 : Int) = idxGo v (0 : Int) [B (0 : Nat), B (1 : Nat), B (2 : Nat), B (3 : Nat), B (4 : Nat), B (5 : Nat), B (6 : Nat), B (7 : Nat)]) ∧ (¬v = B (3 : Nat) → (((((0 : Nat) = (0 : Nat) ∧ (0 : Nat) = (0 : Nat)) ∧ (8 : Nat) = (8 : Nat) ∧ c = c) ∧ v = v ∧ (8 : Int) = (8 : Int) ∧ (4 : Int) = (4 : Int) ∧ True) ∧ ((8 : Nat) = (8 : Nat) ∧ ∀ (i : Nat), i < (8 : Nat) → B i = B i) ∧ True) ∧ Lf (idxGo v (0 : Int) [B (0 : Nat), B (1 : Nat), B (2 : Nat), B (3 : Nat), B (4 : Nat), B (5 : Nat), B (6 : Nat), B (7 : Nat)] = idxGo v (4 : Int) [B (4 : Nat), B (5 : Nat), B (6 : Nat), B (7 : Nat)]))) ∧ (¬(3 : Int) < (8 : Int) → (-1 : Int) = idxGo v (0 : Int) [B (0 : Nat), B (1 : Nat), B (2 : Nat), B (3 : Nat), B (4 : Nat), B (5 : Nat), B (6 : Nat), B (7 : Nat)])) ∧ (∀ (x : Unit), idxGo v (0 : Int) [B (0 : Nat), B (1 : Nat), B (2 : Nat), B (3 : Nat), B (4 : Nat), B (5 : Nat), B (6 : Nat), B (7 : Nat)] = idxGo v (4 : Int) [B (4 : Nat), B (5 : Nat), B (6 : Nat), B (7 : Nat)] → ((4 : Int) < (8 : Int) → Lf ((0 : Int) ≤ (4 : Int) ∧ (4 : Int) < (8 : Int)) ∧ Lf ((4 : Nat) < (8 : Nat)) ∧ (v = B (4 : Nat) → (4 : Int) = idxGo v (0 : Int) [B (0 : Nat), B (1 : Nat), B (2 : Nat), B (3 : Nat), B (4 : Nat), B (5 : Nat), B (6 : Nat), B (7 : Nat)]) ∧ (¬v = B (4 : Nat) → (((((0 : Nat) = (0 : Nat) ∧ (0 : Nat) = (0 : Nat)) ∧ (8 : Nat) = (8 : Nat) ∧ c = c) ∧ v = v ∧ (8 : Int) = (8 : Int) ∧ (5 : Int) = (5 : Int) ∧ True) ∧ ((8 : Nat) = (8 : Nat) ∧ ∀ (i : Nat), i < (8 : Nat) → B i = B i) ∧ True) ∧ Lf (idxGo v (0 : Int) [B (0 : Nat), B (1 : Nat), B (2 : Nat), B (3 : Nat), B (4 : Nat), B (5 : Nat), B (6 : Nat), B (7 : Nat)] = idxGo v (5 : Int) [B (5 : Nat), B (6 : Nat), B (7 : Nat)]))) ∧ (¬(4 : Int) < (8 : Int) → (-1 : Int) = idxGo v (0 : Int) [B (0 : Nat), B (1 : Nat), B (2 : Nat), B (3 : Nat), B (4 : Nat), B (5 : Nat), B (6 : Nat), B (7 : Nat)])) ∧ (∀ (x : Unit), idxGo v (0 : Int) [B (0 : Nat), B (1 : Nat), B (2 : Nat), B (3 : Nat), B (4 : Nat), B (5 : Nat), B (6 : Nat), B (7 : Nat)] = idxGo v (5 : Int) [B (5 : Nat), B (6 : Nat), B (7 : Nat)] → ((5 : Int) < (8 : Int) → Lf ((0 : Int) ≤ (5 : Int) ∧ (5 : Int) < (8 : Int)) ∧ Lf ((5 : Nat) < (8 : Nat)) ∧ (v = B (5 : Nat) → (5 : Int) = idxGo v (0 : Int) [B (0 : Nat), B (1 : Nat), B (2 : Nat), B (3 : Nat), B (4 : Nat), B (5 : Nat), B (6 : Nat), B (7 : Nat)]) ∧ (¬v = B (5 : Nat) → (((((0 : Nat) = (0 : Nat) ∧ (0 : Nat) = (0 : Nat)) ∧ (8 : Nat) = (8 : Nat) ∧ c = c) ∧ v = v ∧ (8 : Int) = (8 : Int) ∧ (6 : Int) = (6 : Int) ∧ True) ∧ ((8 : Nat) = (8 : Nat) ∧ ∀ (i : Nat), i < (8 : Nat) → B i = B i) ∧ True) ∧ Lf (idxGo v (0 : Int) [B (0 : Nat), B (1 : Nat), B (2 : Nat), B (3 : Nat), B (4 : Nat), B (5 : Nat), B (6 : Nat), B (7 : Nat)] = idxGo v (6 : Int) [B (6 : Nat), B (7 : Nat)]))) ∧ (¬(5 : Int) < (8 : Int) → (-1 : Int) = idxGo v (0 : Int) [B (0 : Nat), B (1 : Nat), B (2 : Nat), B (3 : Nat), B (4 : Nat), B (5 : Nat), B (6 : Nat), B (7 : Nat)])) ∧ (∀ (x : Unit), idxGo v (0 : Int) [B (0 : Nat), B (1 : Nat), B (2 : Nat), B (3 : Nat), B (4 : Nat), B (5 : Nat), B (6 : Nat), B (7 : Nat)] = idxGo v (6 : Int) [B (6 : Nat), B (7 : Nat)] → ((6 : Int) < (8 : Int) → Lf ((0 : Int) ≤ (6 : Int) ∧ (6 : Int) < (8 : Int)) ∧ Lf ((6 : Nat) < (8 : Nat)) ∧ (v = B (6 : Nat) → (6 : Int) = idxGo v (0 : Int) [B (0 : Nat), B (1 : Nat), B (2 : Nat), B (3 : Nat), B (4 : Nat), B (5 : Nat), B (6 : Nat), B (7 : Nat)]) ∧ (¬v = B (6 : Nat) → (((((0 : Nat) = (0 : Nat) ∧ (0 : Nat) = (0 : Nat)) ∧ (8 : Nat) = (8 : Nat) ∧ c = c) ∧ v = v ∧ (8 : Int) = (8 : Int) ∧ (7 : Int) = (7 : Int) ∧ True) ∧ ((8 : Nat) = (8 : Nat) ∧ ∀ (i : Nat), i < (8 : Nat) → B i = B i) ∧ True) ∧ Lf (idxGo v (0 : Int) [B (0 : Nat), B (1 : Nat), B (2 : Nat), B (3 : Nat), B (4 : Nat), B (5 : Nat), B (6 : Nat), B (7 : Nat)] = idxGo v (7 : Int) [B (7 : Nat)]))) ∧ (¬(6 : Int) < (8 : Int) → (-1 : Int) = idxGo v (0 : Int) [B (0 : Nat), B (1 : Nat), B (2 : Nat), B (3 : Nat), B (4 : Nat), B (5 : Nat), B (6 : Nat), B (7 : Nat)])) ∧ (∀ (x : Unit), idxGo v (0 : Int) [B (0 : Nat), B (1 : Nat), B (2 : Nat), B (3 : Nat), B (4 : Nat), B (5 : Nat), B (6 : Nat), B (7 : Nat)] = idxGo v (7 : Int) [B (7 : Nat)] → ((7 : Int) < (8 : Int) → Lf ((0 : Int) ≤ (7 : Int) ∧ (7 : Int) < (8 : Int)) ∧ Lf ((7 : Nat) < (8 : Nat)) ∧ (v = B (7 : Nat) → (7 : Int) = idxGo v (0 : Int) [B (0 : Nat), B (1 : Nat), B (2 : Nat), B (3 : Nat), B (4 : Nat), B (5 : Nat), B (6 : Nat), B (7 : Nat)]) ∧ (¬v = B (7 : Nat) → (((((0 : Nat) = (0 : Nat) ∧ (0 : Nat) = (0 : Nat)) ∧ (8 : Nat) = (8 : Nat) ∧ c = c) ∧ v = v ∧ (8 : Int) = (8 : Int) ∧ (8 : Int) = (8 : Int) ∧ True) ∧ ((8 : Nat) = (8 : Nat) ∧ ∀ (i : Nat), i < (8 : Nat) → B i = B i) ∧ True) ∧ Lf (idxGo v (0 : Int) [B (0 : Nat), B (1 : Nat), B (2 : Nat), B (3 : Nat), B (4 : Nat), B (5 : Nat), B (6 : Nat), B (7 : Nat)] = idxGo v (8 : Int) []))) ∧ (¬(7 : Int) < (8 : Int) → (-1 : Int) = idxGo v (0 : Int) [B (0 : Nat), B (1 : Nat), B (2 : Nat), B (3 : Nat), B (4 : Nat), B (5 : Nat), B (6 : Nat), B (7 : Nat)])) ∧ ∀ (x : Unit), idxGo v (0 : Int) [B (0 : Nat), B (1 : Nat), B (2 : Nat), B (3 : Nat), B (4 : Nat), B (5 : Nat), B (6 : Nat), B (7 : Nat)] = idxGo v (8 : Int) [] → ((8 : Int) < (8 : Int) → Lf ((0 : Int) ≤ (8 : Int) ∧ (8 : Int) < (8 : Int)) ∧ Lf ((8 : Nat) < (8 : Nat)) ∧ (v = B (8 : Nat) → (8 : Int) = idxGo v (0 : Int) [B (0 : Nat), B (1 : Nat), B (2 : Nat), B (3 : Nat), B (4 : Nat), B (5 : Nat), B (6 : Nat), B (7 : Nat)]) ∧ (¬v = B (8 : Nat) → False)) ∧ (¬(8 : Int) < (8 : Int) → (-1 : Int) = idxGo v (0 : Int) [B (0 : Nat), B (1 : Nat), B (2 : Nat), B (3 : Nat), B (4 : Nat), B (5 : Nat), B (6 : Nat), B (7 : Nat)])) (by kernel_rfl) (by
  repeat' (first | apply And.intro | apply Lf.mk | intro _)
  all_goals first
    | rfl
    | trivial
    | omega
    | exact idx_no (by assumption) (by assumption)
    | exact idx_hit (by assumption) (by assumption)
    | exact idx_end (by assumption))
theorem fit_tab {ks : List LK} {L : List Leaf} (h0 : fits (tabK ++ ks) L = true) : ∃ b0 b1 b2 b3 b4 b5 b6 b7 a0 a1 a2 a3 a4 a5 a6 a7 L', L = .B b0 :: .B b1 :: .B b2 :: .B b3 :: .B b4 :: .B b5 :: .B b6 :: .B b7 :: .I a0 :: .I a1 :: .I a2 :: .I a3 :: .I a4 :: .I a5 :: .I a6 :: .I a7 :: L' ∧ fits ks L' = true := by
  obtain ⟨b0, L0, rfl, h1⟩ := fit_b h0
  obtain ⟨b1, L1, rfl, h2⟩ := fit_b h1
  obtain ⟨b2, L2, rfl, h3⟩ := fit_b h2
  obtain ⟨b3, L3, rfl, h4⟩ := fit_b h3
  obtain ⟨b4, L4, rfl, h5⟩ := fit_b h4
  obtain ⟨b5, L5, rfl, h6⟩ := fit_b h5
  obtain ⟨b6, L6, rfl, h7⟩ := fit_b h6
  obtain ⟨b7, L7, rfl, h8⟩ := fit_b h7
  obtain ⟨a0, M0, rfl, h9⟩ := fit_i h8
  obtain ⟨a1, M1, rfl, h10⟩ := fit_i h9
  obtain ⟨a2, M2, rfl, h11⟩ := fit_i h10
  obtain ⟨a3, M3, rfl, h12⟩ := fit_i h11
  obtain ⟨a4, M4, rfl, h13⟩ := fit_i h12
  obtain ⟨a5, M5, rfl, h14⟩ := fit_i h13
  obtain ⟨a6, M6, rfl, h15⟩ := fit_i h14
  obtain ⟨a7, M7, rfl, h16⟩ := fit_i h15
  exact ⟨b0, b1, b2, b3, b4, b5, b6, b7, a0, a1, a2, a3, a4, a5, a6, a7, M7, rfl, h16⟩
theorem addrS_ok : SpecOk Try.prog 61 addrC.spec := addrC.ok (envL_nil _) mixed (C := noCtl) Try.func61 rfl fun L h _ => by
  obtain ⟨i, _, rfl, h1⟩ := fit_i h
  obtain rfl := fit_nil h1
  exact addrS_vc i
theorem slot8_ok : SpecOk Try.prog 60 slot8C.spec := slot8C.ok (envL_nil _) mixed (C := noCtl) Try.func60 rfl fun L h _ => by
  obtain ⟨i, _, rfl, h1⟩ := fit_i h
  obtain rfl := fit_nil h1
  exact slot8_vc i
set_option maxRecDepth 100000 in
theorem findS_ok : SpecOk Try.prog 62 findC.spec := findC.ok (envL_nil _) mixed (C := ctl1 2 findAnn) Try.func62 rfl fun L h _ => by
  obtain ⟨b0, b1, b2, b3, b4, b5, b6, b7, a0, a1, a2, a3, a4, a5, a6, a7, _, rfl, h1⟩ := fit_tab h
  obtain ⟨x, _, rfl, h2⟩ := fit_i h1
  obtain rfl := fit_nil h2
  exact findS_vc ..
theorem envA_ok : EnvOk Try.prog (envL envA) :=
  envL_cons ⟨_, Try.func61, rfl, by kernel_rfl⟩ addrS_ok (envL_cons ⟨_, Try.func62, rfl, by kernel_rfl⟩ findS_ok (envL_nil _))
set_option maxRecDepth 100000 in
theorem goodT_ok : SpecOk Try.prog 31 goodTC.spec := goodTC.ok envA_ok mixed (C := ctl1 2 goodAnn) Try.func31 rfl fun L h _ => by
  obtain ⟨b0, b1, b2, b3, b4, b5, b6, b7, a0, a1, a2, a3, a4, a5, a6, a7, _, rfl, h1⟩ := fit_tab h
  obtain rfl := fit_nil h1
  exact goodS_vc ..
theorem allBo_ok {μ : Mu} : ∀ {cs : List SC} {vs : List Value}, allBo cs = true → All2 (SC.ok μ) cs vs → ∃ bs : List Bool, vs = bs.map Value.bool
  | [], [], _, _ => ⟨[], rfl⟩
  | .boo b :: cs, v :: vs, h, ha => by
    obtain ⟨bs, rfl⟩ := allBo_ok (cs := cs) h ha.2
    have hv : v = .bool b := ha.1
    exact ⟨b :: bs, by rw [hv]; rfl⟩
  | .tru b :: cs, v :: vs, h, ha => by
    obtain ⟨bs, rfl⟩ := allBo_ok (cs := cs) h ha.2
    have hv : v = .bool b := ha.1
    exact ⟨b :: bs, by rw [hv]; rfl⟩
  | [], _ :: _, _, ha => ha.elim
  | _ :: _, [], _, ha => ha.elim
  | .num _ _ :: _, _ :: _, h, _ | .int _ _ :: _, _ :: _, h, _ | .str _ :: _, _ :: _, h, _ | .nil :: _, _ :: _, h, _ | .ptr _ _ _ _ :: _, _ :: _, h, _
  | .sli _ _ _ _ _ _ _ :: _, _ :: _, h, _ | .own _ _ _ _ :: _, _ :: _, h, _ | .nos :: _, _ :: _, h, _ | .fn _ :: _, _ :: _, h, _ => by cases h
theorem idxOut_ok {μ : Mu} {K : SV → Prop} {v : Bool} : ∀ {cs : List SC} {k : Int} {bs : List Bool}, All2 (SC.ok μ) cs (bs.map Value.bool) → (idxOut cs v k).wp K → K (one (.num .i64 (idxGo v k bs)))
  | [], k, [], _, h => h
  | .boo b :: cs, k, u :: bs, ha, h => by
    have hu : Value.bool u = .bool b := ha.1
    cases hu
    cases v <;> cases b <;> simp only [idxOut, Bool.false_eq_true, if_false, if_true] at h
    · simpa [idxGo, Out.wp] using h.2 rfl
    · simpa [idxGo] using idxOut_ok ha.2 (h.1 rfl)
    · simpa [idxGo] using idxOut_ok ha.2 (h.2 rfl)
    · simpa [idxGo, Out.wp] using h.1 rfl
  | .tru b :: cs, k, u :: bs, ha, h => by
    have hu : Value.bool u = .bool b := ha.1
    cases hu
    cases v <;> cases b <;> simp only [idxOut, beq_self_eq_true, if_true] at h
    · simpa [idxGo, Out.wp] using h
    · simpa [idxGo] using idxOut_ok (k := k + 1) ha.2 h
    · simpa [idxGo] using idxOut_ok (k := k + 1) ha.2 h
    · simpa [idxGo, Out.wp] using h
  | [], _, _ :: _, ha, _ => ha.elim
  | _ :: _, _, [], ha, _ => ha.elim
  | .num _ _ :: _, _, _ :: _, _, h | .int _ _ :: _, _, _ :: _, _, h | .str _ :: _, _, _ :: _, _, h | .nil :: _, _, _ :: _, _, h | .ptr _ _ _ _ :: _, _, _ :: _, _, h
  | .sli _ _ _ _ _ _ _ :: _, _, _ :: _, _, h | .own _ _ _ _ :: _, _, _ :: _, _, h | .nos :: _, _, _ :: _, _, h | .fn _ :: _, _, _ :: _, _, h => h.elim
set_option maxRecDepth 100000 in
theorem idx_calls (a : Addr) (w : World) (b o c : Nat) (B : Nat → Bool) (v : Bool) (hc : 8 ≤ c) (hm : c ≤ maxLen) (hx : ∀ i, i < 8 → w.cell? ⟨b, o + i, none⟩ = some (.bool (B i))) :
    Calls Try.prog 63 #[.slice (some ⟨b, o, none⟩) 8 c, .bool v] w fun e w' => e = .returned (.int .i64 (idxGo v 0 [B 0, B 1, B 2, B 3, B 4, B 5, B 6, B 7])) ∧ Below w.heap.size w w' := by
  let μ : Mu := fun n => if n = 0 then some ⟨b, o, .slice (some ⟨b, o, none⟩) 8 c⟩ else none
  have hmu : μ 0 = some ⟨b, o, .slice (some ⟨b, o, none⟩) 8 c⟩ := rfl
  have hn : ∀ n l, μ n = some l → n = 0 := fun n l h => by
    rcases Nat.eq_zero_or_pos n with h0 | h0
    · exact h0
    · have : μ n = none := if_neg (by omega)
      rw [this] at h; cases h
  have hh : ∀ n k, hIdx B n = some k → n = 0 ∧ k = .view 1 8 fun i => [.boo (B i)] := fun n k h => by
    unfold hIdx at h
    split at h
    · rename_i e; exact ⟨e, (Option.some.inj h).symm⟩
    · cases h
  have hM : HeapM μ (hIdx B) w := by
    refine ⟨fun n k hk => ?_, fun n m k c l q x hne hk hc => ?_⟩
    · obtain ⟨rfl, rfl⟩ := hh n k hk
      refine ⟨_, hmu, fun hl => World.block_lt_of_cell? w _ (hx 0 (by omega)), fun i hi => ⟨rfl, fun j c hj => ?_⟩⟩
      match j, hj with
      | 0, hj => cases hj; exact ⟨_, by simpa using hx i hi, rfl⟩
      | j + 1, hj => simp at hj
    · exact absurd ((hh n k hk).1.trans (hh m c hc).1.symm) hne
  have hvc := idx_vc c B v
  unfold idxVC at hvc
  have hbd : Try.f63.body = some (Try.f63.body.getD .skip) := rfl
  refine (fn_sound (envL_nil _) mixed (ctl1 2 idxAnn) Try.func63 hbd (I := fun _ => False) (args := [one (.sli 0 0 1 0 8 c false), one (.boo v)]) (vals := [.slice (some ⟨b, o, none⟩) 8 c, .bool v]) (next := 1)
    ⟨⟨_, some ⟨b, o, none⟩, hmu, rfl, fun _ => rfl, hc, hm⟩, rfl, trivial⟩ hM (fun n l hl => by rw [hn n l hl]; exact Nat.zero_lt_one) (fun n k l x hk hl hx => ?_) hvc).mono fun e w' he => ?_
  · obtain ⟨rfl, rfl⟩ := hh n k hk
    cases hx
  · obtain ⟨v, sv, μ', s, a, rfl, hm', hok, hk⟩ := he
    have h3 := leV_ok hk hok
    have hv : v = _ := h3
    subst hv
    exact ⟨rfl, ⟨hm'.fr.os, hm'.fr.tape, hm'.fr.output, hm'.fr.size, fun x hx => hm'.fr.block x hx fun h => h⟩⟩
theorem idx_ok : SpecOk Try.prog 63 idxSpec := by
  intro μ hh w base args vals hm ha hfr K hk
  unfold idxSpec at hk ⊢
  split at hk
  · rename_i b i j c q v
    obtain ⟨u1, u2, rfl⟩ : ∃ u1 u2, vals = [u1, u2] := by
      match vals, ha with
      | [u1, u2], _ => exact ⟨u1, u2, rfl⟩
      | [], ha => exact ha.elim
      | [_], ha => exact ha.2.elim
      | _ :: _ :: _ :: _, ha => exact ha.2.2.elim
    obtain ⟨⟨l, a, hl, rfl, hpa, hnc, hcm⟩, h2, _⟩ := ha
    have h2 : u2 = .bool v := h2
    subst h2
    simp only [Req.pre, List.append_nil, List.map_cons, List.map_nil] at hk
    split at hk
    · rename_i k hb
      simp at hb
      split at hk
      · rename_i cs hg
        split at hk
        · rename_i hall
          obtain ⟨_, hk⟩ := oAst_ok hk
          obtain ⟨l', hl', hok⟩ := hm.ok b k hb
          rw [hl] at hl'; cases hl'
          obtain ⟨vs, h1, h2, h3⟩ := blkGet_ok hok hg trivial
          obtain ⟨bs, rfl⟩ := allBo_ok hall h2
          have hlen : bs.length = 8 := by simpa using h1
          match bs, hlen with
          | [b0, b1, b2, b3, b4, b5, b6, b7], _ =>
            have hk' := idxOut_ok h2 (Out.wp_bind.1 hk)
            obtain rfl := hpa (by omega)
            refine (idx_calls ⟨l.b, 0, none⟩ w l.b (l.off + (i * 0 + j)) c (fun n => [b0, b1, b2, b3, b4, b5, b6, b7].getD n false) v hnc hcm fun i hi => ?_).mono fun e w' he => ?_
            · match i, hi with
              | 0, _ => exact h3 0 _ rfl
              | 1, _ => exact h3 1 _ rfl
              | 2, _ => exact h3 2 _ rfl
              | 3, _ => exact h3 3 _ rfl
              | 4, _ => exact h3 4 _ rfl
              | 5, _ => exact h3 5 _ rfl
              | 6, _ => exact h3 6 _ rfl
              | 7, _ => exact h3 7 _ rfl
              | n + 8, hi => omega
            · obtain ⟨rfl, g3⟩ := he
              exact ⟨_, μ, ⟨_, [], []⟩, rfl, hk', { ext := Ext.refl μ, dom := fun _ _ h => .inl h, val := rfl, os := g3.os, tape := g3.tape, output := g3.output, size := g3.size, keep := fun x hx _ => g3.block x hx, wrs := List.nodup_nil, wsl := rfl, nsl := by simp, olds := fun j n b' h => by simp at h, news := fun j b h => by simp at h, newsApart := fun j k b c l m x _ h => by simp at h }⟩
        · exact hk.elim
      · exact hk.elim
    · exact hk.elim
  · exact hk.elim
end Go.Proofs.Ytcaipfdnadlkdaa.Sx
