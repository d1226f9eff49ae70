/- Headers: sizes, fields, bytes as contracts. No condition. -/
import Derived.Test.YtjmkeicmchgggaaSxQ
import Derived.Test.YtjmkeicmchgggaaHd1
namespace Go.Proofs.Ytjmkeicmchgggaa.Sx
open Go Go.RowKit
set_option linter.unusedVariables false
set_option linter.unusedSimpArgs false
theorem mixed : Try.prog.follows .mixedOrders = true := by kernel_rfl
def noCtl : Ctl := { lp := fun _ => none, cut := fun _ => none, fuel := 0 }
def ownN (x : SV) : Nat := match x with
  | .s (.c (.own b _ _ _)) => b
  | _ => 0
def capN (x : SV) : Nat := match x with
  | .s (.c (.own _ _ c _)) => c
  | _ => 0
def rowN (b : Option Blk) : List Int := match b with
  | some (.oints _ l) => l
  | some (.ints _ l) => l
  | _ => []
def gR (R : List (List Int)) (i : Nat) : List Int := match R[i]? with
  | some l => l
  | none => []
def c1I (k : IntKind) (n : Int) : RC := .c (.c (.int k n))
def c1B (b : Bool) : RC := .c (.c (.boo b))
def halfP : Option (List Leaf → List (List Int) → Prop) := some fun L _ => 0 ≤ gI L 0 ∧ gI L 0 < 16
def u64P (L : List Leaf) (i : Nat) : Prop := 0 ≤ gI L i ∧ gI L i < 18446744073709551616
def sizeC : Con1 := { pat := [.v (.i .u8)], pre := halfP, out := fun L _ => .eqn (sizeF (gI L 0)) fun r => .ret [c1I .i64 r] }
def numC : Con1 := { pat := [.v (.i .u8), .r .u8], pre := some fun L R => (0 ≤ gI L 0 ∧ gI L 0 < 16) ∧ Byt (gR R 0) ∧ ((gR R 0).length : Int) = sizeF (gI L 0), out := fun L R => .eqn (numF (gI L 0) (gR R 0)) fun r => .ret [c1I .u64 r.1, c1B r.2] }
def fieldC : Con1 := { pat := [.v (.i .u64)], pre := some fun L _ => u64P L 0, out := fun L _ => .eqn (fieldF (gI L 0)) fun r => .ret [c1I .u8 r.1, .r .u8 r.2] }
def uC : Con1 := { pat := [.r .u8, .v (.i .u64), .v (.i .i64)], pre := some fun L R => u64P L 0 ∧ (0 ≤ gI L 1 ∧ gI L 1 ≤ 8) ∧ (gR R 0).length ≤ 100, out := fun L R => .ret [.r .u8 (gR R 0 ++ uB (gI L 0) (gI L 1).toNat)] }
def bytesC : Con1 := { pat := [.v (.i .u64), .v (.i .u64)], pre := some fun L _ => u64P L 0 ∧ u64P L 1, out := fun L _ => .ret [.r .u8 (bytesF (gI L 0) (gI L 1))] }
def parseC : Con1 := { pat := [.r .u8], pre := some fun L R => Byt (gR R 0), out := fun L R => .eqn (parseF (gR R 0)) fun r => .ret [c1I .u64 r.1, c1I .u64 r.2.1, c1I .i64 r.2.2.1, c1I .i64 r.2.2.2] }
def sameC : Con1 := { pat := [.r .u8, .r .u8], pre := some fun L R => Byt (gR R 0) ∧ Byt (gR R 1), out := fun L R => .eqn (decide (gR R 0 = gR R 1)) fun r => .ret [c1B r] }
def fieldAnn : Ann where
  A := Int × List Int × Nat
  names := fun s => [ownN (s.slots.getD 4 .u)]
  r1 := fun s t => [(ownN (s.slots.getD 4 .u), ownN (t.slots.getD 4 .u))]
  st := fun _ a s => { s with slots := ((keepS [] 0 s.slots).set 0 (one (.int .u64 a.1))).set 4 (one (.own (ownN (s.slots.getD 4 .u)) a.2.1.length a.2.2 false)), heap := upd s.heap (ownN (s.slots.getD 4 .u)) (some (.oints .u8 a.2.1)) }
  inv := fun s k a => a.1 = intN (s.slots.getD 0 .u) / 256 ^ k ∧ a.2.1 = uB (intN (s.slots.getD 0 .u)) k ∧ lowF k (intN (s.slots.getD 0 .u))
  wit := fun s => (intN (s.slots.getD 0 .u), rowN (s.heap (ownN (s.slots.getD 4 .u))), capN (s.slots.getD 4 .u))
  lit := some 8
def fieldCtl : Ctl := { lp := fun j => if j = 4 then some fieldAnn else none, cut := fun _ => none, fuel := 0, owns := fun j => if j = 4 then some (4, .u8) else none }
def uAnn : Ann where
  A := Int × List Int × Nat
  names := fun s => [ownN (s.slots.getD 7 .u)]
  r1 := fun s t => [(ownN (s.slots.getD 7 .u), ownN (t.slots.getD 7 .u))]
  st := fun _ a s => { s with slots := ((keepS [1] 0 s.slots).set 8 (one (.int .i64 a.1))).set 7 (one (.own (ownN (s.slots.getD 7 .u)) a.2.1.length a.2.2 false)), heap := upd s.heap (ownN (s.slots.getD 7 .u)) (some (.oints .u8 a.2.1)) }
  inv := fun s _ a => -1 ≤ a.1 ∧ a.1 ≤ 7 ∧ a.2.1 ++ uB (intN (s.slots.getD 1 .u)) (a.1 + 1).toNat = rowN (s.heap (ownN (s.slots.getD 7 .u))) ++ uB (intN (s.slots.getD 1 .u)) (intN (s.slots.getD 8 .u) + 1).toNat ∧ (a.2.1.length : Int) + a.1 ≤ 107
  dec := fun _ a => (a.1 + 1).toNat
  wit := fun s => (intN (s.slots.getD 8 .u), rowN (s.heap (ownN (s.slots.getD 7 .u))), capN (s.slots.getD 7 .u))
def uCtl : Ctl := { lp := fun j => if j = 3 then some uAnn else none, cut := fun _ => none, fuel := 0 }
def fieldRAnn : Ann where
  A := Unit
  names := fun s => []
  st := fun k _ s => { s with slots := (keepS [0] 0 s.slots).set 4 (one (.num .i64 (Int.ofNat k + 1))) }
  inv := fun s k _ => lowR k (intN (s.slots.getD 0 .u)) ∧ True
  wit := fun _ => ()
  lit := some 7
def fieldRCtl : Ctl := { lp := fun j => if j = 4 then some fieldRAnn else none, cut := fun _ => none, fuel := 0 }
def numAnn (i n : Nat) (kp : List Nat) : Ann where
  A := Int × Int
  names := fun s => [0]
  st := fun _ a s => { s with slots := ((keepS kp 0 s.slots).set i (one (.int .i64 a.1))).set n (one (.int .u64 a.2)) }
  inv := fun s _ a => 0 ≤ a.1 ∧ a.1 ≤ ((rowN (s.heap 0)).length : Int) ∧ a.2 = beN 0 ((rowN (s.heap 0)).take a.1.toNat) ∧ 0 ≤ a.2 ∧ a.2 < 256 ^ a.1.toNat
  dec := fun s a => (((rowN (s.heap 0)).length : Int) - a.1).toNat
  wit := fun s => (intN (s.slots.getD i .u), intN (s.slots.getD n .u))
def numCtl : Ctl := { lp := fun j => if j = 5 then some (numAnn 16 6 [0, 1, 14, 15]) else none, cut := fun _ => none, fuel := 0 }
def valCtl : Ctl := { lp := fun j => if j = 5 then some (numAnn 7 6 [0, 1]) else none, cut := fun _ => none, fuel := 0 }
def envH1 : List (FuncId × Spec) := [(13, sizeC.spec), (14, numC.spec), (15, fieldC.spec), (16, sizeC.spec), (17, numC.spec), (18, fieldC.spec), (19, uC.spec)]

set_option maxRecDepth 100000 in
set_option maxHeartbeats 8000000 in
theorem size_vc (x : Int) (h0 : 0 ≤ x) (h1 : x < 16) : sizeC.vc Try.prog (envL []) noCtl Try.f13 [.I x] [] := of_eq (b := ∀ (x_1 : Int), x_1 = bits BinOp.and IntKind.u8 x (8 : Int) → (x_1 = (0 : Int) → ∀ (y : Int), y = sizeF x → (0 : Int) = y ∧ True) ∧ (¬x_1 = (0 : Int) → ∀ (x_2 : Int), x_2 = bits BinOp.and IntKind.u8 x (7 : Int) → ∀ (x_3 : Int), x_3 = IntKind.i64.wrap x_2 → ∀ (x_4 : Int), x_4 = IntKind.i64.wrap (x_3 + (1 : Int)) → ∀ (y : Int), y = sizeF x → x_4 = y ∧ True)) (by kernel_rfl) (by
  obtain ⟨k, rfl⟩ := fin_of (n := 16) h0 h1
  obtain ⟨a8, a7⟩ := and_16 k
  rw [a8, a7]
  by_cases hk : (k.val : Int) < 8
  · simp [hk, sizeF]
  · simp only [hk, if_false, sizeF]
    refine fun y hy => ⟨fun h => absurd (hy.symm.trans h) (by decide), fun _ => ?_⟩
    rintro a ha b hb c hc y rfl
    refine ⟨?_, trivial⟩
    subst hc; subst hb; subst ha
    simp only [IntKind.wrap_i64]
    omega)
set_option maxRecDepth 100000 in
set_option maxHeartbeats 8000000 in
theorem long_vc (x : Int) (h0 : 0 ≤ x) (h1 : x < 16) : sizeC.vc Try.prog (envL []) noCtl Try.f16 [.I x] [] := of_eq (b := (x < (8 : Int) → ∀ (y : Int), y = sizeF x → (0 : Int) = y ∧ True) ∧ (¬x < (8 : Int) → ∀ (x_1 : Int), x_1 = IntKind.u8.wrap (x - (8 : Int)) → ∀ (x_2 : Int), x_2 = IntKind.i64.wrap x_1 → ∀ (x_3 : Int), x_3 = IntKind.i64.wrap (x_2 + (1 : Int)) → ∀ (y : Int), y = sizeF x → x_3 = y ∧ True)) (by kernel_rfl) (by
  unfold sizeF
  refine ⟨fun h => ?_, fun h => ?_⟩
  · rintro y rfl; simp [h]
  · rintro a rfl b rfl c rfl y rfl
    rw [if_neg h]
    simp only [IntKind.wrap_i64, IntKind.wrap_u8]
    exact ⟨by omega, trivial⟩)
set_option maxRecDepth 100000 in
set_option maxHeartbeats 8000000 in
theorem same_vc (L M : List Int) (c d : Nat) (hL : Byt L) (hM : Byt M) : sameC.vc Try.prog (envL []) noCtl Try.f11 [] [⟨L, c⟩, ⟨M, d⟩] := of_eq (b := Lf ((0 : Nat) + L.length ≤ L.length) ∧ Lf ((0 : Nat) + M.length ≤ M.length) ∧ (List.foldl (fun r n => r.push (UInt8.ofNat n.toNat)) ByteArray.empty (List.take L.length (List.drop (0 : Nat) L)) = List.foldl (fun r n => r.push (UInt8.ofNat n.toNat)) ByteArray.empty (List.take M.length (List.drop (0 : Nat) M)) → ∀ (y : Bool), y = decide (L = M) → true = y ∧ True) ∧ (¬List.foldl (fun r n => r.push (UInt8.ofNat n.toNat)) ByteArray.empty (List.take L.length (List.drop (0 : Nat) L)) = List.foldl (fun r n => r.push (UInt8.ofNat n.toNat)) ByteArray.empty (List.take M.length (List.drop (0 : Nat) M)) → ∀ (y : Bool), y = decide (L = M) → false = y ∧ True)) (by kernel_rfl) (by
  simp only [List.drop_zero, List.take_length, str_inj hL hM]
  refine ⟨⟨by omega⟩, ⟨by omega⟩, fun h => ?_, fun h => ?_⟩
  · rintro y rfl; simp [h]
  · rintro y rfl; simp [h])
theorem lowF_0 (x : Int) : lowF 0 x := .inl rfl
theorem uB_0 (x : Int) : [] = uB x 0 := rfl
theorem f_small {x : Int} (h : x < 8) : fieldF x = (x, []) := by simp [fieldF, h]
theorem f_len {k : Nat} {x : Int} {L : List Int} {z : Int} {a p : Int} (h : a = x / p ∧ L = uB x k ∧ lowF k x) (hk : k ≤ 8) : ([z] ++ L).length * 1 ≤ 140737488355328 := by obtain ⟨_, hL, _⟩ := h; subst hL; simp [uB_len]; omega
theorem f_cons {k : Nat} {x a z p : Int} {L : List Int} (h : a = x / p ∧ L = uB x k ∧ lowF k x) (hz : z = IntKind.u8.wrap a) (hp : p = 256 ^ k) : z :: L = uB x (k + 1) := by
  obtain ⟨ha, hL, _⟩ := h
  subst hz; subst ha; subst hL; subst hp
  simp only [uB, IntKind.wrap_u8]
theorem f_low {k : Nat} {x a p : Int} {L : List Int} (h1 : a = x / p ∧ L = uB x k ∧ lowF k x) (h : 0 < a) (hp : p = 256 ^ k) : lowF (k + 1) x := by
  obtain ⟨ha, _, _⟩ := h1
  subst ha
  have hp0 : 0 < p := by subst hp; exact Int.pow_pos (by decide)
  right
  simp only [Nat.add_sub_cancel]
  rw [← hp]
  have h1 : 1 * p ≤ x := (Int.le_ediv_iff_mul_le hp0).1 (by omega)
  omega
theorem f_out {k : Nat} {x a p b c d : Int} {L : List Int} {y : Int × List Int} (hh : a = x / p ∧ L = uB x k ∧ lowF k x) (hy : y = fieldF x) (h : ¬0 < a) (h8 : ¬x < 8) (hb : b = IntKind.i64.wrap ((L.length : Int) - 1)) (hc : c = IntKind.u8.wrap b) (hd : d = bits .or .u8 8 c) (hp : p = 256 ^ k) (hk : k ≤ 8) (h1 : 1 ≤ k) : d = y.1 ∧ L = y.2 := by
  obtain ⟨ha, hL, hl⟩ := hh
  have hf := fld_nB h1 hk (by subst hp; omega) hl h8
  rw [hf] at hy
  subst hy; subst hd; subst hc; subst hb; subst hL
  rw [uB_len]
  refine ⟨?_, rfl⟩
  have : ∀ k : Fin 9, 1 ≤ k.val → bits .or .u8 8 (IntKind.u8.wrap (IntKind.i64.wrap ((k.val : Int) - 1))) = 7 + (k.val : Int) := by decide +kernel
  exact this ⟨k, by omega⟩ h1
attribute [local irreducible] uB fieldF lowF
set_option maxRecDepth 100000 in
set_option maxHeartbeats 8000000 in
theorem field_vc (x : Int) (h0 : 0 ≤ x) (hx64 : x < 18446744073709551616) : fieldC.vc Try.prog (envL []) fieldCtl Try.f15 [.I x] [] := of_eq (b := (x < (8 : Int) → ∀ (x_1 : Int), x_1 = IntKind.u8.wrap x → ∀ (y : Int × List Int), y = fieldF x → x_1 = y.fst ∧ [] = y.snd ∧ True) ∧ (¬x < (8 : Int) → ∀ (c : Nat), (0 : Nat) ≤ c → (((x = x ∧ ((0 : Nat) = ([] : List Int).length ∧ c = c) ∧ True) ∧ ([] : List Int) = [] ∧ True) ∧ Lf (x = x / (1 : Int) ∧ [] = uB x (0 : Nat) ∧ lowF (0 : Nat) x)) ∧ (∀ (x_1 : Int × List Int × Nat), x_1.fst = x / (1 : Int) ∧ x_1.snd.fst = uB x (0 : Nat) ∧ lowF (0 : Nat) x → ((0 : Int) < x_1.fst → ∀ (x_2 : Int), x_2 = IntKind.u8.wrap x_1.fst → Lf (([x_2] ++ x_1.snd.fst).length * (1 : Nat) ≤ (140737488355328 : Nat)) ∧ ∀ (x_3 : Nat), ([x_2] ++ x_1.snd.fst).length ≤ x_3 → ∀ (x_4 : Int), x_4 = x_1.fst / (256 : Int) → ((x_4 = x_4 ∧ (([x_2] ++ x_1.snd.fst).length = (x_2 :: x_1.snd.1).length ∧ x_3 = x_3) ∧ True) ∧ [x_2] ++ x_1.snd.fst = x_2 :: x_1.snd.1 ∧ True) ∧ Lf (x_4 = x / (256 : Int) ∧ x_2 :: x_1.snd.1 = uB x (1 : Nat) ∧ lowF (1 : Nat) x)) ∧ (¬(0 : Int) < x_1.fst → ∀ (x_2 : Int), x_2 = IntKind.i64.wrap (↑x_1.snd.fst.length - (1 : Int)) → ∀ (x_3 : Int), x_3 = IntKind.u8.wrap x_2 → ∀ (x_4 : Int), x_4 = bits BinOp.or IntKind.u8 (8 : Int) x_3 → ∀ (y : Int × List Int), y = fieldF x → x_4 = y.fst ∧ x_1.snd.fst = y.snd ∧ True)) ∧ (∀ (x_1 : Int × List Int × Nat), x_1.fst = x / (256 : Int) ∧ x_1.snd.fst = uB x (1 : Nat) ∧ lowF (1 : Nat) x → ((0 : Int) < x_1.fst → ∀ (x_2 : Int), x_2 = IntKind.u8.wrap x_1.fst → Lf (([x_2] ++ x_1.snd.fst).length * (1 : Nat) ≤ (140737488355328 : Nat)) ∧ ∀ (x_3 : Nat), ([x_2] ++ x_1.snd.fst).length ≤ x_3 → ∀ (x_4 : Int), x_4 = x_1.fst / (256 : Int) → ((x_4 = x_4 ∧ (([x_2] ++ x_1.snd.fst).length = (x_2 :: x_1.snd.1).length ∧ x_3 = x_3) ∧ True) ∧ [x_2] ++ x_1.snd.fst = x_2 :: x_1.snd.1 ∧ True) ∧ Lf (x_4 = x / (65536 : Int) ∧ x_2 :: x_1.snd.1 = uB x (2 : Nat) ∧ lowF (2 : Nat) x)) ∧ (¬(0 : Int) < x_1.fst → ∀ (x_2 : Int), x_2 = IntKind.i64.wrap (↑x_1.snd.fst.length - (1 : Int)) → ∀ (x_3 : Int), x_3 = IntKind.u8.wrap x_2 → ∀ (x_4 : Int), x_4 = bits BinOp.or IntKind.u8 (8 : Int) x_3 → ∀ (y : Int × List Int), y = fieldF x → x_4 = y.fst ∧ x_1.snd.fst = y.snd ∧ True)) ∧ (∀ (x_1 : Int × List Int × Nat), x_1.fst = x / (65536 : Int) ∧ x_1.snd.fst = uB x (2 : Nat) ∧ lowF (2 : Nat) x → ((0 : Int) < x_1.fst → ∀ (x_2 : Int), x_2 = IntKind.u8.wrap x_1.fst → Lf (([x_2] ++ x_1.snd.fst).length * (1 : Nat) ≤ (140737488355328 : Nat)) ∧ ∀ (x_3 : Nat), ([x_2] ++ x_1.snd.fst).length ≤ x_3 → ∀ (x_4 : Int), x_4 = x_1.fst / (256 : Int) → ((x_4 = x_4 ∧ (([x_2] ++ x_1.snd.fst).length = (x_2 :: x_1.snd.1).length ∧ x_3 = x_3) ∧ True) ∧ [x_2] ++ x_1.snd.fst = x_2 :: x_1.snd.1 ∧ True) ∧ Lf (x_4 = x / (16777216 : Int) ∧ x_2 :: x_1.snd.1 = uB x (3 : Nat) ∧ lowF (3 : Nat) x)) ∧ (¬(0 : Int) < x_1.fst → ∀ (x_2 : Int), x_2 = IntKind.i64.wrap (↑x_1.snd.fst.length - (1 : Int)) → ∀ (x_3 : Int), x_3 = IntKind.u8.wrap x_2 → ∀ (x_4 : Int), x_4 = bits BinOp.or IntKind.u8 (8 : Int) x_3 → ∀ (y : Int × List Int), y = fieldF x → x_4 = y.fst ∧ x_1.snd.fst = y.snd ∧ True)) ∧ (∀ (x_1 : Int × List Int × Nat), x_1.fst = x / (16777216 : Int) ∧ x_1.snd.fst = uB x (3 : Nat) ∧ lowF (3 : Nat) x → ((0 : Int) < x_1.fst → ∀ (x_2 : Int), x_2 = IntKind.u8.wrap x_1.fst → Lf (([x_2] ++ x_1.snd.fst).length * (1 : Nat) ≤ (140737488355328 : Nat)) ∧ ∀ (x_3 : Nat), ([x_2] ++ x_1.snd.fst).length ≤ x_3 → ∀ (x_4 : Int), x_4 = x_1.fst / (256 : Int) → ((x_4 = x_4 ∧ (([x_2] ++ x_1.snd.fst).length = (x_2 :: x_1.snd.1).length ∧ x_3 = x_3) ∧ True) ∧ [x_2] ++ x_1.snd.fst = x_2 :: x_1.snd.1 ∧ True) ∧ Lf (x_4 = x / (4294967296 : Int) ∧ x_2 :: x_1.snd.1 = uB x (4 : Nat) ∧ lowF (4 : Nat) x)) ∧ (¬(0 : Int) < x_1.fst → ∀ (x_2 : Int), x_2 = IntKind.i64.wrap (↑x_1.snd.fst.length - (1 : Int)) → ∀ (x_3 : Int), x_3 = IntKind.u8.wrap x_2 → ∀ (x_4 : Int), x_4 = bits BinOp.or IntKind.u8 (8 : Int) x_3 → ∀ (y : Int × List Int), y = fieldF x → x_4 = y.fst ∧ x_1.snd.fst = y.snd ∧ True)) ∧ (∀ (x_1 : Int × List Int × Nat), x_1.fst = x / (4294967296 : Int) ∧ x_1.snd.fst = uB x (4 : Nat) ∧ lowF (4 : Nat) x → ((0 : Int) < x_1.fst → ∀ (x_2 : Int), x_2 = IntKind.u8.wrap x_1.fst → Lf (([x_2] ++ x_1.snd.fst).length * (1 : Nat) ≤ (140737488355328 : Nat)) ∧ ∀ (x_3 : Nat), ([x_2] ++ x_1.snd.fst).length ≤ x_3 → ∀ (x_4 : Int), x_4 = x_1.fst / (256 : Int) → ((x_4 = x_4 ∧ (([x_2] ++ x_1.snd.fst).length = (x_2 :: x_1.snd.1).length ∧ x_3 = x_3) ∧ True) ∧ [x_2] ++ x_1.snd.fst = x_2 :: x_1.snd.1 ∧ True) ∧ Lf (x_4 = x / (1099511627776 : Int) ∧ x_2 :: x_1.snd.1 = uB x (5 : Nat) ∧ lowF (5 : Nat) x)) ∧ (¬(0 : Int) < x_1.fst → ∀ (x_2 : Int), x_2 = IntKind.i64.wrap (↑x_1.snd.fst.length - (1 : Int)) → ∀ (x_3 : Int), x_3 = IntKind.u8.wrap x_2 → ∀ (x_4 : Int), x_4 = bits BinOp.or IntKind.u8 (8 : Int) x_3 → ∀ (y : Int × List Int), y = fieldF x → x_4 = y.fst ∧ x_1.snd.fst = y.snd ∧ True)) ∧ (∀ (x_1 : Int × List Int × Nat), x_1.fst = x / (1099511627776 : Int) ∧ x_1.snd.fst = uB x (5 : Nat) ∧ lowF (5 : Nat) x → ((0 : Int) < x_1.fst → ∀ (x_2 : Int), x_2 = IntKind.u8.wrap x_1.fst → Lf (([x_2] ++ x_1.snd.fst).length * (1 : Nat) ≤ (140737488355328 : Nat)) ∧ ∀ (x_3 : Nat), ([x_2] ++ x_1.snd.fst).length ≤ x_3 → ∀ (x_4 : Int), x_4 = x_1.fst / (256 : Int) → ((x_4 = x_4 ∧ (([x_2] ++ x_1.snd.fst).length = (x_2 :: x_1.snd.1).length ∧ x_3 = x_3) ∧ True) ∧ [x_2] ++ x_1.snd.fst = x_2 :: x_1.snd.1 ∧ True) ∧ Lf (x_4 = x / (281474976710656 : Int) ∧ x_2 :: x_1.snd.1 = uB x (6 : Nat) ∧ lowF (6 : Nat) x)) ∧ (¬(0 : Int) < x_1.fst → ∀ (x_2 : Int), x_2 = IntKind.i64.wrap (↑x_1.snd.fst.length - (1 : Int)) → ∀ (x_3 : Int), x_3 = IntKind.u8.wrap x_2 → ∀ (x_4 : Int), x_4 = bits BinOp.or IntKind.u8 (8 : Int) x_3 → ∀ (y : Int × List Int), y = fieldF x → x_4 = y.fst ∧ x_1.snd.fst = y.snd ∧ True)) ∧ (∀ (x_1 : Int × List Int × Nat), x_1.fst = x / (281474976710656 : Int) ∧ x_1.snd.fst = uB x (6 : Nat) ∧ lowF (6 : Nat) x → ((0 : Int) < x_1.fst → ∀ (x_2 : Int), x_2 = IntKind.u8.wrap x_1.fst → Lf (([x_2] ++ x_1.snd.fst).length * (1 : Nat) ≤ (140737488355328 : Nat)) ∧ ∀ (x_3 : Nat), ([x_2] ++ x_1.snd.fst).length ≤ x_3 → ∀ (x_4 : Int), x_4 = x_1.fst / (256 : Int) → ((x_4 = x_4 ∧ (([x_2] ++ x_1.snd.fst).length = (x_2 :: x_1.snd.1).length ∧ x_3 = x_3) ∧ True) ∧ [x_2] ++ x_1.snd.fst = x_2 :: x_1.snd.1 ∧ True) ∧ Lf (x_4 = x / (72057594037927936 : Int) ∧ x_2 :: x_1.snd.1 = uB x (7 : Nat) ∧ lowF (7 : Nat) x)) ∧ (¬(0 : Int) < x_1.fst → ∀ (x_2 : Int), x_2 = IntKind.i64.wrap (↑x_1.snd.fst.length - (1 : Int)) → ∀ (x_3 : Int), x_3 = IntKind.u8.wrap x_2 → ∀ (x_4 : Int), x_4 = bits BinOp.or IntKind.u8 (8 : Int) x_3 → ∀ (y : Int × List Int), y = fieldF x → x_4 = y.fst ∧ x_1.snd.fst = y.snd ∧ True)) ∧ (∀ (x_1 : Int × List Int × Nat), x_1.fst = x / (72057594037927936 : Int) ∧ x_1.snd.fst = uB x (7 : Nat) ∧ lowF (7 : Nat) x → ((0 : Int) < x_1.fst → ∀ (x_2 : Int), x_2 = IntKind.u8.wrap x_1.fst → Lf (([x_2] ++ x_1.snd.fst).length * (1 : Nat) ≤ (140737488355328 : Nat)) ∧ ∀ (x_3 : Nat), ([x_2] ++ x_1.snd.fst).length ≤ x_3 → ∀ (x_4 : Int), x_4 = x_1.fst / (256 : Int) → ((x_4 = x_4 ∧ (([x_2] ++ x_1.snd.fst).length = (x_2 :: x_1.snd.1).length ∧ x_3 = x_3) ∧ True) ∧ [x_2] ++ x_1.snd.fst = x_2 :: x_1.snd.1 ∧ True) ∧ Lf (x_4 = x / (18446744073709551616 : Int) ∧ x_2 :: x_1.snd.1 = uB x (8 : Nat) ∧ lowF (8 : Nat) x)) ∧ (¬(0 : Int) < x_1.fst → ∀ (x_2 : Int), x_2 = IntKind.i64.wrap (↑x_1.snd.fst.length - (1 : Int)) → ∀ (x_3 : Int), x_3 = IntKind.u8.wrap x_2 → ∀ (x_4 : Int), x_4 = bits BinOp.or IntKind.u8 (8 : Int) x_3 → ∀ (y : Int × List Int), y = fieldF x → x_4 = y.fst ∧ x_1.snd.fst = y.snd ∧ True)) ∧ ∀ (x_1 : Int × List Int × Nat), x_1.fst = x / (18446744073709551616 : Int) ∧ x_1.snd.fst = uB x (8 : Nat) ∧ lowF (8 : Nat) x → ((0 : Int) < x_1.fst → ∀ (x : Int), x = IntKind.u8.wrap x_1.fst → Lf (([x] ++ x_1.snd.fst).length * (1 : Nat) ≤ (140737488355328 : Nat)) ∧ ∀ (x_2 : Nat), ([x] ++ x_1.snd.fst).length ≤ x_2 → ∀ (x : Int), x = x_1.fst / (256 : Int) → False) ∧ (¬(0 : Int) < x_1.fst → ∀ (x_2 : Int), x_2 = IntKind.i64.wrap (↑x_1.snd.fst.length - (1 : Int)) → ∀ (x_3 : Int), x_3 = IntKind.u8.wrap x_2 → ∀ (x_4 : Int), x_4 = bits BinOp.or IntKind.u8 (8 : Int) x_3 → ∀ (y : Int × List Int), y = fieldF x → x_4 = y.fst ∧ x_1.snd.fst = y.snd ∧ True))) (by kernel_rfl) (by
  apply And.intro
  · intro h a ha y hy
    subst hy; subst ha
    rw [f_small h]
    simp only [IntKind.wrap_u8]
    refine ⟨?_, trivial, trivial⟩
    omega
  intro h8 c hc
  repeat' (first | apply And.intro | apply Lf.mk | intro _)
  all_goals first
    | rfl
    | trivial
    | exact lowF_0 _
    | (simp; done)
    | (exfalso; omega)
    | exact f_len (by assumption) (by decide)
    | exact f_cons (by assumption) (by assumption) (by assumption) (by decide)
    | exact f_low (by assumption) (by assumption) (by decide)
    | exact (f_out (by assumption) (by assumption) (by assumption) (by assumption) (by assumption) (by assumption) (by assumption) (by decide) (by decide) (by decide)).1
    | exact (f_out (by assumption) (by assumption) (by assumption) (by assumption) (by assumption) (by assumption) (by assumption) (by decide) (by decide) (by decide)).2
    | omega
    | exact uB_0 _
    | (have h := ‹_ ∧ _›; omega)
    | exact f_cons (by assumption) (by assumption) (by decide))
end Go.Proofs.Ytjmkeicmchgggaa.Sx
