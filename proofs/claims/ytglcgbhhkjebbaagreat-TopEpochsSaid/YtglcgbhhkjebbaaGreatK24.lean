/- A part of the proof: lemmas. No condition of its own. -/
import Derived.Test.YtglcgbhhkjebbaaGreatProg
import Derived.Test.YtglcgbhhkjebbaaGreatK17
import Derived.Test.YtglcgbhhkjebbaaGreatK18
import Derived.Test.YtglcgbhhkjebbaaGreatK23
set_option linter.unusedVariables false
set_option linter.unusedSimpArgs false
namespace Zx.Zr
open Go Go.Proofs Go.RowKit
def ownN (x : SV) : Nat:=match x with
 | .s (.c (.own b _ _ _))=>b
 | _=>0
def capN (x : SV) : Nat:=match x with
 | .s (.c (.own _ _ c _))=>c
 | _=>0
def rowN (b : Option Blk) : List Int:=match b with
 | some (.ints _ L)=>L
 | some (.oints _ L)=>L
 | _=>[]
def cRm (cs : List SC) : RV:=⟨cBs cs 0 8,cIs cs 8 8,⟨cellI cs 16,cellB cs 17,cellI cs 18,cellI cs 19,cellI cs 20,cellI cs 21⟩,cIs cs 22 8,cIs cs 30 8,cellB cs 38⟩
def arrB (x : SV) : List Bool:=match x with
 | .s (.a cs)=>cBs cs 0 8
 | _=>[]
def tick1 : Ann where
 A:=RV
 names:=fun s=>[ptrN (s.slots.getD 2 .u),ptrN (s.slots.getD 4 .u),ptrN (s.slots.getD 6 .u)]
 st:=fun k x s=>{ s with slots:=((keepS [1,2,4,6,7,25] 0 s.slots).set 26 (one (.num .i64 (Int.ofNat k)))),heap:=upd s.heap (ptrN (s.slots.getD 2 .u)) (some (.cells 49 (roomL x))) }
 inv:=fun s k x=>tkI (cRm (cellsN (s.heap (ptrN (s.slots.getD 6 .u))))) (intN (s.slots.getD 7 .u)) (intN (s.slots.getD 1 .u)) k x
 wit:=fun s=>cRm (cellsN (s.heap (ptrN (s.slots.getD 2 .u))))
 lit:=some 8
def tick2 : Ann where
 A:=List Int × Nat
 names:=fun s=>[ptrN (s.slots.getD 2 .u),ptrN (s.slots.getD 4 .u),ownN (s.slots.getD 11 .u)]
 r1:=fun s t=>[(ptrN (s.slots.getD 2 .u),ptrN (s.slots.getD 2 .u)),(ptrN (s.slots.getD 4 .u),ptrN (s.slots.getD 4 .u)),(ownN (s.slots.getD 11 .u),ownN (t.slots.getD 11 .u))]
 st:=fun k a s=>{ s with slots:=((keepS [2,4,70] 0 s.slots).set 71 (one (.num .i64 (Int.ofNat k)))).set 11 (one (.own (ownN (s.slots.getD 11 .u)) a.1.length a.2 false)),heap:=upd s.heap (ownN (s.slots.getD 11 .u)) (some (.oints .i64 a.1)) }
 inv:=fun s k a=>a.1 = goneL (arrB (s.slots.getD 70 .u)) (cBs (cellsN (s.heap (ptrN (s.slots.getD 2 .u)))) 0 8) k
 wit:=fun s=>(rowN (s.heap (ownN (s.slots.getD 11 .u))),capN (s.slots.getD 11 .u))
 lit:=some 8
def tickCtl : Ctl:={ lp:=fun j=>if j = 5 then some tick1 else if j = 13 then some tick2 else none,cut:=fun _=>none,fuel:=0,owns:=fun j=>if j = 13 then some (11,.i64) else none }
def tickRmC : Con1:={ pat:=[.a roomK,.v (.i .i64)],out:=fun L _=>.eqn (tickRm (gRm L) (gI L 39)) fun r=>.ret [.c (.a (roomL r.1)),.r .i64 r.2] }
set_option maxHeartbeats 0 in
set_option maxRecDepth 100000 in
theorem tickRm_vc (b0 b1 b2 b3 b4 b5 b6 b7 : Bool) (a0 a1 a2 a3 a4 a5 a6 a7 : Int) (ep : Int) (op : Bool) (nx nd hv bn : Int) (s0 s1 s2 s3 s4 s5 s6 s7 c0 c1 c2 c3 c4 c5 c6 c7 : Int) (o : Bool) (x : Int) : tickRmC.vc Tryz.prog (envL envM2) tickCtl Tryz.f51 [.B b0,.B b1,.B b2,.B b3,.B b4,.B b5,.B b6,.B b7,.I a0,.I a1,.I a2,.I a3,.I a4,.I a5,.I a6,.I a7,.I ep,.B op,.I nx,.I nd,.I hv,.I bn,.I s0,.I s1,.I s2,.I s3,.I s4,.I s5,.I s6,.I s7,.I c0,.I c1,.I c2,.I c3,.I c4,.I c5,.I c6,.I c7,.B o,.I x] []:=of_eq (b:=let w3:=[c0,c1,c2,c3,c4,c5,c6,c7];let w2:=[s0,s1,s2,s3,s4,s5,s6,s7];let w1:=[a0,a1,a2,a3,a4,a5,a6,a7];let w0:=[b0,b1,b2,b3,b4,b5,b6,b7];let v0:=mkR b0 b1 b2 b3 b4 b5 b6 b7 a0 a1 a2 a3 a4 a5 a6 a7 ep op nx nd hv bn s0 s1 s2 s3 s4 s5 s6 s7 c0 c1 c2 c3 c4 c5 c6 c7 o;let v1:=b0 = b0 /\ b1 = b1 /\ b2 = b2 /\ b3 = b3 /\ b4 = b4 /\ b5 = b5 /\ b6 = b6 /\ b7 = b7;let v2:=fun (x_7 : RV)=>(eqRm x_7 (exRm x_7)) /\ (eqRm zeroRm zeroRm) /\ (eqRm (v0) (v0)) /\ True;let v3:=fun (x_2 : Int) (x_7 : RV)=>((x = x /\ ((0 : Nat) = 0 /\ (0 : Nat) = 0) /\ ((0 : Nat) = 0 /\ (0 : Nat) = 0) /\ ((0 : Nat) = 0 /\ (0 : Nat) = 0) /\ x_2 = x_2 /\ (v1) /\ (1 : Int) = 1 /\ True) /\ (v2 x_7)) /\ Lf (tkI (v0) x_2 x 1 (exRm x_7));let v4:=fun (x_2 : Int) (x_7 : RV)=>((x = x /\ ((0 : Nat) = 0 /\ (0 : Nat) = 0) /\ ((0 : Nat) = 0 /\ (0 : Nat) = 0) /\ ((0 : Nat) = 0 /\ (0 : Nat) = 0) /\ x_2 = x_2 /\ (v1) /\ (2 : Int) = 2 /\ True) /\ (v2 x_7)) /\ Lf (tkI (v0) x_2 x 2 (exRm x_7));let v5:=fun (x_2 : Int) (x_7 : RV)=>((x = x /\ ((0 : Nat) = 0 /\ (0 : Nat) = 0) /\ ((0 : Nat) = 0 /\ (0 : Nat) = 0) /\ ((0 : Nat) = 0 /\ (0 : Nat) = 0) /\ x_2 = x_2 /\ (v1) /\ (3 : Int) = 3 /\ True) /\ (v2 x_7)) /\ Lf (tkI (v0) x_2 x 3 (exRm x_7));let v6:=fun (x_2 : Int) (x_7 : RV)=>((x = x /\ ((0 : Nat) = 0 /\ (0 : Nat) = 0) /\ ((0 : Nat) = 0 /\ (0 : Nat) = 0) /\ ((0 : Nat) = 0 /\ (0 : Nat) = 0) /\ x_2 = x_2 /\ (v1) /\ (4 : Int) = 4 /\ True) /\ (v2 x_7)) /\ Lf (tkI (v0) x_2 x 4 (exRm x_7));let v7:=fun (x_2 : Int) (x_7 : RV)=>((x = x /\ ((0 : Nat) = 0 /\ (0 : Nat) = 0) /\ ((0 : Nat) = 0 /\ (0 : Nat) = 0) /\ ((0 : Nat) = 0 /\ (0 : Nat) = 0) /\ x_2 = x_2 /\ (v1) /\ (5 : Int) = 5 /\ True) /\ (v2 x_7)) /\ Lf (tkI (v0) x_2 x 5 (exRm x_7));let v8:=fun (x_2 : Int) (x_7 : RV)=>((x = x /\ ((0 : Nat) = 0 /\ (0 : Nat) = 0) /\ ((0 : Nat) = 0 /\ (0 : Nat) = 0) /\ ((0 : Nat) = 0 /\ (0 : Nat) = 0) /\ x_2 = x_2 /\ (v1) /\ (6 : Int) = 6 /\ True) /\ (v2 x_7)) /\ Lf (tkI (v0) x_2 x 6 (exRm x_7));let v9:=fun (x_2 : Int) (x_7 : RV)=>((x = x /\ ((0 : Nat) = 0 /\ (0 : Nat) = 0) /\ ((0 : Nat) = 0 /\ (0 : Nat) = 0) /\ ((0 : Nat) = 0 /\ (0 : Nat) = 0) /\ x_2 = x_2 /\ (v1) /\ (7 : Int) = 7 /\ True) /\ (v2 x_7)) /\ Lf (tkI (v0) x_2 x 7 (exRm x_7));let v10:=fun (x_2 : Int) (x_7 : RV)=>((x = x /\ ((0 : Nat) = 0 /\ (0 : Nat) = 0) /\ ((0 : Nat) = 0 /\ (0 : Nat) = 0) /\ ((0 : Nat) = 0 /\ (0 : Nat) = 0) /\ x_2 = x_2 /\ (v1) /\ (8 : Int) = 8 /\ True) /\ (v2 x_7)) /\ Lf (tkI (v0) x_2 x 8 (exRm x_7));let v11:=fun (x_3 : RV) (xq : List Int × Nat)=>(eqRm x_3 x_3) /\ (eqRm zeroRm zeroRm) /\ xq.1 = xq.1 /\ True;let v12:=fun (x_3 : RV) (x_2 : Int)=>(b7 = true -> ((!x_3.6) = true -> ∀ (x_7 : Int),x_7 = x_2 / 128 -> ∀ (x_8 : Int),x_8 = bits BinOp.and IntKind.i64 x_7 1 -> (x_8 = 1 -> Lf ((0 : Int) <= 7 /\ (7 : Int) < 8) /\ ∀ (x_9 : RV),x_9 = goneG (exRm x_3) 7 x -> (v10 x_2 x_9)) /\ (¬x_8 = 1 -> (v10 x_2 x_3))) /\ ((!x_3.6) = false -> (v10 x_2 x_3))) /\ (b7 = false -> (v10 x_2 x_3));let v13:=fun (x_3 : RV) (x_2 : Int)=>(b4 = true -> ((!x_3.6) = true -> ∀ (x_7 : Int),x_7 = x_2 / 16 -> ∀ (x_8 : Int),x_8 = bits BinOp.and IntKind.i64 x_7 1 -> (x_8 = 1 -> Lf ((0 : Int) <= 4 /\ (4 : Int) < 8) /\ ∀ (x_9 : RV),x_9 = goneG (exRm x_3) 4 x -> (v7 x_2 x_9)) /\ (¬x_8 = 1 -> (v7 x_2 x_3))) /\ ((!x_3.6) = false -> (v7 x_2 x_3))) /\ (b4 = false -> (v7 x_2 x_3));let v14:=fun (x_3 : RV) (x_2 : Int)=>(b5 = true -> ((!x_3.6) = true -> ∀ (x_7 : Int),x_7 = x_2 / 32 -> ∀ (x_8 : Int),x_8 = bits BinOp.and IntKind.i64 x_7 1 -> (x_8 = 1 -> Lf ((0 : Int) <= 5 /\ (5 : Int) < 8) /\ ∀ (x_9 : RV),x_9 = goneG (exRm x_3) 5 x -> (v8 x_2 x_9)) /\ (¬x_8 = 1 -> (v8 x_2 x_3))) /\ ((!x_3.6) = false -> (v8 x_2 x_3))) /\ (b5 = false -> (v8 x_2 x_3));let v15:=fun (x_3 : RV) (x_2 : Int)=>(b6 = true -> ((!x_3.6) = true -> ∀ (x_7 : Int),x_7 = x_2 / 64 -> ∀ (x_8 : Int),x_8 = bits BinOp.and IntKind.i64 x_7 1 -> (x_8 = 1 -> Lf ((0 : Int) <= 6 /\ (6 : Int) < 8) /\ ∀ (x_9 : RV),x_9 = goneG (exRm x_3) 6 x -> (v9 x_2 x_9)) /\ (¬x_8 = 1 -> (v9 x_2 x_3))) /\ ((!x_3.6) = false -> (v9 x_2 x_3))) /\ (b6 = false -> (v9 x_2 x_3));let v16:=fun (x_3 : RV) (x_2 : Int)=>(b0 = true -> ((!x_3.6) = true -> ∀ (x_7 : Int),x_7 = x_2 / 1 -> ∀ (x_8 : Int),x_8 = bits BinOp.and IntKind.i64 x_7 1 -> (x_8 = 1 -> Lf ((0 : Int) <= 0 /\ (0 : Int) < 8) /\ ∀ (x_9 : RV),x_9 = goneG (exRm x_3) 0 x -> (v3 x_2 x_9)) /\ (¬x_8 = 1 -> (v3 x_2 x_3))) /\ ((!x_3.6) = false -> (v3 x_2 x_3))) /\ (b0 = false -> (v3 x_2 x_3));let v17:=fun (x_3 : RV) (x_2 : Int)=>(b1 = true -> ((!x_3.6) = true -> ∀ (x_7 : Int),x_7 = x_2 / 2 -> ∀ (x_8 : Int),x_8 = bits BinOp.and IntKind.i64 x_7 1 -> (x_8 = 1 -> Lf ((0 : Int) <= 1 /\ (1 : Int) < 8) /\ ∀ (x_9 : RV),x_9 = goneG (exRm x_3) 1 x -> (v4 x_2 x_9)) /\ (¬x_8 = 1 -> (v4 x_2 x_3))) /\ ((!x_3.6) = false -> (v4 x_2 x_3))) /\ (b1 = false -> (v4 x_2 x_3));let v18:=fun (x_3 : RV) (x_2 : Int)=>(b2 = true -> ((!x_3.6) = true -> ∀ (x_7 : Int),x_7 = x_2 / 4 -> ∀ (x_8 : Int),x_8 = bits BinOp.and IntKind.i64 x_7 1 -> (x_8 = 1 -> Lf ((0 : Int) <= 2 /\ (2 : Int) < 8) /\ ∀ (x_9 : RV),x_9 = goneG (exRm x_3) 2 x -> (v5 x_2 x_9)) /\ (¬x_8 = 1 -> (v5 x_2 x_3))) /\ ((!x_3.6) = false -> (v5 x_2 x_3))) /\ (b2 = false -> (v5 x_2 x_3));let v19:=fun (x_3 : RV) (x_2 : Int)=>(b3 = true -> ((!x_3.6) = true -> ∀ (x_7 : Int),x_7 = x_2 / 8 -> ∀ (x_8 : Int),x_8 = bits BinOp.and IntKind.i64 x_7 1 -> (x_8 = 1 -> Lf ((0 : Int) <= 3 /\ (3 : Int) < 8) /\ ∀ (x_9 : RV),x_9 = goneG (exRm x_3) 3 x -> (v6 x_2 x_9)) /\ (¬x_8 = 1 -> (v6 x_2 x_3))) /\ ((!x_3.6) = false -> (v6 x_2 x_3))) /\ (b3 = false -> (v6 x_2 x_3));let v20:=fun (xq : List Int × Nat) (x_3 : RV)=>((((0 : Nat) = 0 /\ (0 : Nat) = 0) /\ ((0 : Nat) = 0 /\ (0 : Nat) = 0) /\ (xq.1.length = xq.1.length /\ xq.2 = xq.2) /\ (v1) /\ (1 : Int) = 1 /\ True) /\ (v11 x_3 xq)) /\ Lf (xq.1 = goneL w0 (jB x_3.1) 1);let v21:=fun (xq : List Int × Nat) (x_3 : RV)=>((((0 : Nat) = 0 /\ (0 : Nat) = 0) /\ ((0 : Nat) = 0 /\ (0 : Nat) = 0) /\ (xq.1.length = xq.1.length /\ xq.2 = xq.2) /\ (v1) /\ (2 : Int) = 2 /\ True) /\ (v11 x_3 xq)) /\ Lf (xq.1 = goneL w0 (jB x_3.1) 2);let v22:=fun (xq : List Int × Nat) (x_3 : RV)=>((((0 : Nat) = 0 /\ (0 : Nat) = 0) /\ ((0 : Nat) = 0 /\ (0 : Nat) = 0) /\ (xq.1.length = xq.1.length /\ xq.2 = xq.2) /\ (v1) /\ (3 : Int) = 3 /\ True) /\ (v11 x_3 xq)) /\ Lf (xq.1 = goneL w0 (jB x_3.1) 3);let v23:=fun (xq : List Int × Nat) (x_3 : RV)=>((((0 : Nat) = 0 /\ (0 : Nat) = 0) /\ ((0 : Nat) = 0 /\ (0 : Nat) = 0) /\ (xq.1.length = xq.1.length /\ xq.2 = xq.2) /\ (v1) /\ (4 : Int) = 4 /\ True) /\ (v11 x_3 xq)) /\ Lf (xq.1 = goneL w0 (jB x_3.1) 4);let v24:=fun (xq : List Int × Nat) (x_3 : RV)=>((((0 : Nat) = 0 /\ (0 : Nat) = 0) /\ ((0 : Nat) = 0 /\ (0 : Nat) = 0) /\ (xq.1.length = xq.1.length /\ xq.2 = xq.2) /\ (v1) /\ (5 : Int) = 5 /\ True) /\ (v11 x_3 xq)) /\ Lf (xq.1 = goneL w0 (jB x_3.1) 5);let v25:=fun (xq : List Int × Nat) (x_3 : RV)=>((((0 : Nat) = 0 /\ (0 : Nat) = 0) /\ ((0 : Nat) = 0 /\ (0 : Nat) = 0) /\ (xq.1.length = xq.1.length /\ xq.2 = xq.2) /\ (v1) /\ (6 : Int) = 6 /\ True) /\ (v11 x_3 xq)) /\ Lf (xq.1 = goneL w0 (jB x_3.1) 6);let v26:=fun (xq : List Int × Nat) (x_3 : RV)=>((((0 : Nat) = 0 /\ (0 : Nat) = 0) /\ ((0 : Nat) = 0 /\ (0 : Nat) = 0) /\ (xq.1.length = xq.1.length /\ xq.2 = xq.2) /\ (v1) /\ (7 : Int) = 7 /\ True) /\ (v11 x_3 xq)) /\ Lf (xq.1 = goneL w0 (jB x_3.1) 7);let v27:=fun (xq : List Int × Nat) (x_3 : RV)=>((((0 : Nat) = 0 /\ (0 : Nat) = 0) /\ ((0 : Nat) = 0 /\ (0 : Nat) = 0) /\ (xq.1.length = xq.1.length /\ xq.2 = xq.2) /\ (v1) /\ (8 : Int) = 8 /\ True) /\ (v11 x_3 xq)) /\ Lf (xq.1 = goneL w0 (jB x_3.1) 8);∀ (x_1 : Bool),x_1 = goodRm (v0) -> ((!x_1) = true -> ∀ (y : RV × List Int),y = tickRm (v0) x -> (eqRm (v0) y.1) /\ [] = y.2 /\ True) /\ ((!x_1) = false -> ∀ (x_2 : Int),x_2 = lateF (⟨ep,op,nx,nd,hv,bn⟩ : RS) x -> (((x = x /\ ((0 : Nat) = 0 /\ (0 : Nat) = 0) /\ ((0 : Nat) = 0 /\ (0 : Nat) = 0) /\ ((0 : Nat) = 0 /\ (0 : Nat) = 0) /\ x_2 = x_2 /\ (v1) /\ (0 : Int) = 0 /\ True) /\ (b0 = w0.getD 0 false /\ b1 = w0.getD 1 false /\ b2 = w0.getD 2 false /\ b3 = w0.getD 3 false /\ b4 = w0.getD 4 false /\ b5 = w0.getD 5 false /\ b6 = w0.getD 6 false /\ b7 = w0.getD 7 false /\ a0 = w1.getD 0 0 /\ a1 = w1.getD 1 0 /\ a2 = w1.getD 2 0 /\ a3 = w1.getD 3 0 /\ a4 = w1.getD 4 0 /\ a5 = w1.getD 5 0 /\ a6 = w1.getD 6 0 /\ a7 = w1.getD 7 0 /\ ep = ep /\ op = op /\ nx = nx /\ nd = nd /\ hv = hv /\ bn = bn /\ s0 = w2.getD 0 0 /\ s1 = w2.getD 1 0 /\ s2 = w2.getD 2 0 /\ s3 = w2.getD 3 0 /\ s4 = w2.getD 4 0 /\ s5 = w2.getD 5 0 /\ s6 = w2.getD 6 0 /\ s7 = w2.getD 7 0 /\ c0 = w3.getD 0 0 /\ c1 = w3.getD 1 0 /\ c2 = w3.getD 2 0 /\ c3 = w3.getD 3 0 /\ c4 = w3.getD 4 0 /\ c5 = w3.getD 5 0 /\ c6 = w3.getD 6 0 /\ c7 = w3.getD 7 0 /\ o = o) /\ (eqRm zeroRm zeroRm) /\ (eqRm (v0) (v0)) /\ True) /\ Lf (tkI (v0) x_2 x 0 (v0))) /\ (∀ (x_3 : RV),tkI (v0) x_2 x 0 x_3 -> (s0 <= x -> ∀ (x_4 : Int),x_4 = IntKind.u64.wrap x -> ∀ (x_5 : Int),x_5 = IntKind.u64.wrap s0 -> ∀ (x_6 : Int),x_6 = IntKind.u64.wrap (x_4 - x_5) -> (500 <= x_6 -> (b0 = true -> ((!x_3.6) = true -> Lf ((0 : Int) <= 0 /\ (0 : Int) < 8) /\ ∀ (x_7 : RV),x_7 = goneG (exRm x_3) 0 x -> (v3 x_2 x_7)) /\ ((!x_3.6) = false -> (v3 x_2 x_3))) /\ (b0 = false -> (v3 x_2 x_3))) /\ (¬500 <= x_6 -> (v16 x_3 x_2))) /\ (¬s0 <= x -> (v16 x_3 x_2))) /\ (∀ (x_3 : RV),tkI (v0) x_2 x 1 x_3 -> (s1 <= x -> ∀ (x_4 : Int),x_4 = IntKind.u64.wrap x -> ∀ (x_5 : Int),x_5 = IntKind.u64.wrap s1 -> ∀ (x_6 : Int),x_6 = IntKind.u64.wrap (x_4 - x_5) -> (500 <= x_6 -> (b1 = true -> ((!x_3.6) = true -> Lf ((0 : Int) <= 1 /\ (1 : Int) < 8) /\ ∀ (x_7 : RV),x_7 = goneG (exRm x_3) 1 x -> (v4 x_2 x_7)) /\ ((!x_3.6) = false -> (v4 x_2 x_3))) /\ (b1 = false -> (v4 x_2 x_3))) /\ (¬500 <= x_6 -> (v17 x_3 x_2))) /\ (¬s1 <= x -> (v17 x_3 x_2))) /\ (∀ (x_3 : RV),tkI (v0) x_2 x 2 x_3 -> (s2 <= x -> ∀ (x_4 : Int),x_4 = IntKind.u64.wrap x -> ∀ (x_5 : Int),x_5 = IntKind.u64.wrap s2 -> ∀ (x_6 : Int),x_6 = IntKind.u64.wrap (x_4 - x_5) -> (500 <= x_6 -> (b2 = true -> ((!x_3.6) = true -> Lf ((0 : Int) <= 2 /\ (2 : Int) < 8) /\ ∀ (x_7 : RV),x_7 = goneG (exRm x_3) 2 x -> (v5 x_2 x_7)) /\ ((!x_3.6) = false -> (v5 x_2 x_3))) /\ (b2 = false -> (v5 x_2 x_3))) /\ (¬500 <= x_6 -> (v18 x_3 x_2))) /\ (¬s2 <= x -> (v18 x_3 x_2))) /\ (∀ (x_3 : RV),tkI (v0) x_2 x 3 x_3 -> (s3 <= x -> ∀ (x_4 : Int),x_4 = IntKind.u64.wrap x -> ∀ (x_5 : Int),x_5 = IntKind.u64.wrap s3 -> ∀ (x_6 : Int),x_6 = IntKind.u64.wrap (x_4 - x_5) -> (500 <= x_6 -> (b3 = true -> ((!x_3.6) = true -> Lf ((0 : Int) <= 3 /\ (3 : Int) < 8) /\ ∀ (x_7 : RV),x_7 = goneG (exRm x_3) 3 x -> (v6 x_2 x_7)) /\ ((!x_3.6) = false -> (v6 x_2 x_3))) /\ (b3 = false -> (v6 x_2 x_3))) /\ (¬500 <= x_6 -> (v19 x_3 x_2))) /\ (¬s3 <= x -> (v19 x_3 x_2))) /\ (∀ (x_3 : RV),tkI (v0) x_2 x 4 x_3 -> (s4 <= x -> ∀ (x_4 : Int),x_4 = IntKind.u64.wrap x -> ∀ (x_5 : Int),x_5 = IntKind.u64.wrap s4 -> ∀ (x_6 : Int),x_6 = IntKind.u64.wrap (x_4 - x_5) -> (500 <= x_6 -> (b4 = true -> ((!x_3.6) = true -> Lf ((0 : Int) <= 4 /\ (4 : Int) < 8) /\ ∀ (x_7 : RV),x_7 = goneG (exRm x_3) 4 x -> (v7 x_2 x_7)) /\ ((!x_3.6) = false -> (v7 x_2 x_3))) /\ (b4 = false -> (v7 x_2 x_3))) /\ (¬500 <= x_6 -> (v13 x_3 x_2))) /\ (¬s4 <= x -> (v13 x_3 x_2))) /\ (∀ (x_3 : RV),tkI (v0) x_2 x 5 x_3 -> (s5 <= x -> ∀ (x_4 : Int),x_4 = IntKind.u64.wrap x -> ∀ (x_5 : Int),x_5 = IntKind.u64.wrap s5 -> ∀ (x_6 : Int),x_6 = IntKind.u64.wrap (x_4 - x_5) -> (500 <= x_6 -> (b5 = true -> ((!x_3.6) = true -> Lf ((0 : Int) <= 5 /\ (5 : Int) < 8) /\ ∀ (x_7 : RV),x_7 = goneG (exRm x_3) 5 x -> (v8 x_2 x_7)) /\ ((!x_3.6) = false -> (v8 x_2 x_3))) /\ (b5 = false -> (v8 x_2 x_3))) /\ (¬500 <= x_6 -> (v14 x_3 x_2))) /\ (¬s5 <= x -> (v14 x_3 x_2))) /\ (∀ (x_3 : RV),tkI (v0) x_2 x 6 x_3 -> (s6 <= x -> ∀ (x_4 : Int),x_4 = IntKind.u64.wrap x -> ∀ (x_5 : Int),x_5 = IntKind.u64.wrap s6 -> ∀ (x_6 : Int),x_6 = IntKind.u64.wrap (x_4 - x_5) -> (500 <= x_6 -> (b6 = true -> ((!x_3.6) = true -> Lf ((0 : Int) <= 6 /\ (6 : Int) < 8) /\ ∀ (x_7 : RV),x_7 = goneG (exRm x_3) 6 x -> (v9 x_2 x_7)) /\ ((!x_3.6) = false -> (v9 x_2 x_3))) /\ (b6 = false -> (v9 x_2 x_3))) /\ (¬500 <= x_6 -> (v15 x_3 x_2))) /\ (¬s6 <= x -> (v15 x_3 x_2))) /\ (∀ (x_3 : RV),tkI (v0) x_2 x 7 x_3 -> (s7 <= x -> ∀ (x_4 : Int),x_4 = IntKind.u64.wrap x -> ∀ (x_5 : Int),x_5 = IntKind.u64.wrap s7 -> ∀ (x_6 : Int),x_6 = IntKind.u64.wrap (x_4 - x_5) -> (500 <= x_6 -> (b7 = true -> ((!x_3.6) = true -> Lf ((0 : Int) <= 7 /\ (7 : Int) < 8) /\ ∀ (x_7 : RV),x_7 = goneG (exRm x_3) 7 x -> (v10 x_2 x_7)) /\ ((!x_3.6) = false -> (v10 x_2 x_3))) /\ (b7 = false -> (v10 x_2 x_3))) /\ (¬500 <= x_6 -> (v12 x_3 x_2))) /\ (¬s7 <= x -> (v12 x_3 x_2))) /\ ∀ (x_3 : RV),tkI (v0) x_2 x 8 x_3 -> ∀ (c : Nat),0 <= c -> (((((0 : Nat) = 0 /\ (0 : Nat) = 0) /\ ((0 : Nat) = 0 /\ (0 : Nat) = 0) /\ (0 = ([] : List Int).length /\ c = c) /\ (v1) /\ (0 : Int) = 0 /\ True) /\ (eqRm x_3 x_3) /\ (eqRm zeroRm zeroRm) /\ ([] : List Int) = [] /\ True) /\ Lf ([] = goneL w0 (jB x_3.1) 0)) /\ (∀ (xq : List Int × Nat),xq.1 = goneL w0 (jB x_3.1) 0 -> (b0 = true -> ((!x_3.1.getD 0 false) = true -> Lf ((xq.1 ++ [0]).length * (8 : Nat) <= 140737488355328) /\ ∀ (x_4 : Nat),(xq.1 ++ [0]).length <= x_4 -> ((((0 : Nat) = 0 /\ (0 : Nat) = 0) /\ ((0 : Nat) = 0 /\ (0 : Nat) = 0) /\ ((xq.1 ++ [0]).length = (xq.1 ++ [0]).length /\ x_4 = x_4) /\ (v1) /\ (1 : Int) = 1 /\ True) /\ (eqRm x_3 x_3) /\ (eqRm zeroRm zeroRm) /\ xq.1 ++ [0] = xq.1 ++ [0] /\ True) /\ Lf (xq.1 ++ [0] = goneL w0 (jB x_3.1) 1)) /\ ((!x_3.1.getD 0 false) = false -> (v20 xq x_3))) /\ (b0 = false -> (v20 xq x_3))) /\ (∀ (xq : List Int × Nat),xq.1 = goneL w0 (jB x_3.1) 1 -> (b1 = true -> ((!x_3.1.getD 1 false) = true -> Lf ((xq.1 ++ [1]).length * (8 : Nat) <= 140737488355328) /\ ∀ (x_4 : Nat),(xq.1 ++ [1]).length <= x_4 -> ((((0 : Nat) = 0 /\ (0 : Nat) = 0) /\ ((0 : Nat) = 0 /\ (0 : Nat) = 0) /\ ((xq.1 ++ [1]).length = (xq.1 ++ [1]).length /\ x_4 = x_4) /\ (v1) /\ (2 : Int) = 2 /\ True) /\ (eqRm x_3 x_3) /\ (eqRm zeroRm zeroRm) /\ xq.1 ++ [1] = xq.1 ++ [1] /\ True) /\ Lf (xq.1 ++ [1] = goneL w0 (jB x_3.1) 2)) /\ ((!x_3.1.getD 1 false) = false -> (v21 xq x_3))) /\ (b1 = false -> (v21 xq x_3))) /\ (∀ (xq : List Int × Nat),xq.1 = goneL w0 (jB x_3.1) 2 -> (b2 = true -> ((!x_3.1.getD 2 false) = true -> Lf ((xq.1 ++ [2]).length * (8 : Nat) <= 140737488355328) /\ ∀ (x_4 : Nat),(xq.1 ++ [2]).length <= x_4 -> ((((0 : Nat) = 0 /\ (0 : Nat) = 0) /\ ((0 : Nat) = 0 /\ (0 : Nat) = 0) /\ ((xq.1 ++ [2]).length = (xq.1 ++ [2]).length /\ x_4 = x_4) /\ (v1) /\ (3 : Int) = 3 /\ True) /\ (eqRm x_3 x_3) /\ (eqRm zeroRm zeroRm) /\ xq.1 ++ [2] = xq.1 ++ [2] /\ True) /\ Lf (xq.1 ++ [2] = goneL w0 (jB x_3.1) 3)) /\ ((!x_3.1.getD 2 false) = false -> (v22 xq x_3))) /\ (b2 = false -> (v22 xq x_3))) /\ (∀ (xq : List Int × Nat),xq.1 = goneL w0 (jB x_3.1) 3 -> (b3 = true -> ((!x_3.1.getD 3 false) = true -> Lf ((xq.1 ++ [3]).length * (8 : Nat) <= 140737488355328) /\ ∀ (x_4 : Nat),(xq.1 ++ [3]).length <= x_4 -> ((((0 : Nat) = 0 /\ (0 : Nat) = 0) /\ ((0 : Nat) = 0 /\ (0 : Nat) = 0) /\ ((xq.1 ++ [3]).length = (xq.1 ++ [3]).length /\ x_4 = x_4) /\ (v1) /\ (4 : Int) = 4 /\ True) /\ (eqRm x_3 x_3) /\ (eqRm zeroRm zeroRm) /\ xq.1 ++ [3] = xq.1 ++ [3] /\ True) /\ Lf (xq.1 ++ [3] = goneL w0 (jB x_3.1) 4)) /\ ((!x_3.1.getD 3 false) = false -> (v23 xq x_3))) /\ (b3 = false -> (v23 xq x_3))) /\ (∀ (xq : List Int × Nat),xq.1 = goneL w0 (jB x_3.1) 4 -> (b4 = true -> ((!x_3.1.getD 4 false) = true -> Lf ((xq.1 ++ [4]).length * (8 : Nat) <= 140737488355328) /\ ∀ (x_4 : Nat),(xq.1 ++ [4]).length <= x_4 -> ((((0 : Nat) = 0 /\ (0 : Nat) = 0) /\ ((0 : Nat) = 0 /\ (0 : Nat) = 0) /\ ((xq.1 ++ [4]).length = (xq.1 ++ [4]).length /\ x_4 = x_4) /\ (v1) /\ (5 : Int) = 5 /\ True) /\ (eqRm x_3 x_3) /\ (eqRm zeroRm zeroRm) /\ xq.1 ++ [4] = xq.1 ++ [4] /\ True) /\ Lf (xq.1 ++ [4] = goneL w0 (jB x_3.1) 5)) /\ ((!x_3.1.getD 4 false) = false -> (v24 xq x_3))) /\ (b4 = false -> (v24 xq x_3))) /\ (∀ (xq : List Int × Nat),xq.1 = goneL w0 (jB x_3.1) 5 -> (b5 = true -> ((!x_3.1.getD 5 false) = true -> Lf ((xq.1 ++ [5]).length * (8 : Nat) <= 140737488355328) /\ ∀ (x_4 : Nat),(xq.1 ++ [5]).length <= x_4 -> ((((0 : Nat) = 0 /\ (0 : Nat) = 0) /\ ((0 : Nat) = 0 /\ (0 : Nat) = 0) /\ ((xq.1 ++ [5]).length = (xq.1 ++ [5]).length /\ x_4 = x_4) /\ (v1) /\ (6 : Int) = 6 /\ True) /\ (eqRm x_3 x_3) /\ (eqRm zeroRm zeroRm) /\ xq.1 ++ [5] = xq.1 ++ [5] /\ True) /\ Lf (xq.1 ++ [5] = goneL w0 (jB x_3.1) 6)) /\ ((!x_3.1.getD 5 false) = false -> (v25 xq x_3))) /\ (b5 = false -> (v25 xq x_3))) /\ (∀ (xq : List Int × Nat),xq.1 = goneL w0 (jB x_3.1) 6 -> (b6 = true -> ((!x_3.1.getD 6 false) = true -> Lf ((xq.1 ++ [6]).length * (8 : Nat) <= 140737488355328) /\ ∀ (x_4 : Nat),(xq.1 ++ [6]).length <= x_4 -> ((((0 : Nat) = 0 /\ (0 : Nat) = 0) /\ ((0 : Nat) = 0 /\ (0 : Nat) = 0) /\ ((xq.1 ++ [6]).length = (xq.1 ++ [6]).length /\ x_4 = x_4) /\ (v1) /\ (7 : Int) = 7 /\ True) /\ (eqRm x_3 x_3) /\ (eqRm zeroRm zeroRm) /\ xq.1 ++ [6] = xq.1 ++ [6] /\ True) /\ Lf (xq.1 ++ [6] = goneL w0 (jB x_3.1) 7)) /\ ((!x_3.1.getD 6 false) = false -> (v26 xq x_3))) /\ (b6 = false -> (v26 xq x_3))) /\ (∀ (xq : List Int × Nat),xq.1 = goneL w0 (jB x_3.1) 7 -> (b7 = true -> ((!x_3.1.getD 7 false) = true -> Lf ((xq.1 ++ [7]).length * (8 : Nat) <= 140737488355328) /\ ∀ (x_4 : Nat),(xq.1 ++ [7]).length <= x_4 -> ((((0 : Nat) = 0 /\ (0 : Nat) = 0) /\ ((0 : Nat) = 0 /\ (0 : Nat) = 0) /\ ((xq.1 ++ [7]).length = (xq.1 ++ [7]).length /\ x_4 = x_4) /\ (v1) /\ (8 : Int) = 8 /\ True) /\ (eqRm x_3 x_3) /\ (eqRm zeroRm zeroRm) /\ xq.1 ++ [7] = xq.1 ++ [7] /\ True) /\ Lf (xq.1 ++ [7] = goneL w0 (jB x_3.1) 8)) /\ ((!x_3.1.getD 7 false) = false -> (v27 xq x_3))) /\ (b7 = false -> (v27 xq x_3))) /\ ∀ (x_4 : List Int × Nat),x_4.1 = goneL w0 (jB x_3.1) 8 -> ∀ (y : RV × List Int),y = tickRm (v0) x -> (eqRm x_3 y.1) /\ x_4.1 = y.2 /\ True)) (by kernel_rfl) (by
 dsimp only [jB,jI,eB,eI,uB,uI,oB,oI,eK]
 repeat' (first | with_reducible apply And.intro | apply Lf.mk | intro _)
 all_goals first
  | with_reducible trivial
  | with_reducible rfl
  | exact eqRm_self _
  | exact eqRm_ex _
  | omega
  | exact tk_init _ _ _ rfl rfl rfl rfl
  | exact tk_gone (by assumption) (by assumption) rfl (by assumption) (by assumption) (.inl (sil_yes (by assumption) (by assumption) (by assumption) (by assumption) (by assumption)))
  | exact tk_gone (by assumption) (by assumption) rfl (by assumption) (by assumption) (.inr (bit_yes (by assumption) (by assumption) (by assumption) (by decide)))
  | exact tk_stay_b (by assumption) (by assumption)
  | exact tk_stay_o (by assumption) (by assumption)
  | exact tk_stay_n (by assumption) (sil_no1 (by assumption)) (bit_no (by assumption) (by assumption) (by assumption) (by decide))
  | exact tk_stay_n (by assumption) (sil_no2 (by assumption) (by assumption) (by assumption) (by assumption)) (bit_no (by assumption) (by assumption) (by assumption) (by decide))
  | exact gl_len (by assumption) (by omega)
  | exact gl_yes (by assumption) (by assumption) (by assumption)
  | exact gl_no1 (by assumption) (by assumption)
  | exact gl_no2 (by assumption) (by assumption)
  | exact tick_good_e (by assumption) (by assumption) (by assumption) (by assumption) (by assumption) (by assumption)
  | exact tick_good_l (by assumption) (by assumption) (by assumption) (by assumption) (by assumption) (by assumption)
  | exact eqRm_of (congrArg Prod.fst (tick_bad (by assumption) (by assumption) (by assumption))).symm
  | exact (congrArg Prod.snd (tick_bad (by assumption) (by assumption) (by assumption))).symm
  | rfl
  | skip)
set_option maxRecDepth 100000 in
theorem tickRm_ok : SpecOk Tryz.prog 51 tickRmC.spec:=Con1.ok envM2_ok mixed (C:=tickCtl) Tryz.func51 rfl tickRmC fun L R h hR _ _=>by
 obtain ⟨b0,b1,b2,b3,b4,b5,b6,b7,a0,a1,a2,a3,a4,a5,a6,a7,ep,op,nx,nd,hv,bn,s0,s1,s2,s3,s4,s5,s6,s7,c0,c1,c2,c3,c4,c5,c6,c7,o,_,rfl,h1⟩:=fit_room (ks:=[.i .i64]) h
 obtain ⟨x,_,rfl,h2⟩:=fit_i h1
 obtain rfl:=fit_nil h2
 obtain rfl : R = []:=List.eq_nil_of_length_eq_zero hR
 exact tickRm_vc b0 b1 b2 b3 b4 b5 b6 b7 a0 a1 a2 a3 a4 a5 a6 a7 ep op nx nd hv bn s0 s1 s2 s3 s4 s5 s6 s7 c0 c1 c2 c3 c4 c5 c6 c7 o x
end Zx.Zr
namespace VtTop
open Go Zx Vx
noncomputable section
set_option maxRecDepth 1000000
abbrev P : Program:=Go.Proofs.Tryz.prog
theorem mixed : P.follows .mixedOrders = true:=rfl
def tc8 : TC:=tc8T
def tc61z : TC:=tcFind0
def tc34a : TC:=tcMask1
def tc84a : TC:=tcJoin0
def tc60 : TC:={ k:=2,pre:={ n:=2,P:=[(0,.s (.c (cP 155 0))),(1,.s (.c (cI .i64 1)))],C:=rP 0 ++ (rI 1 (-9223372036854775808) 9223372036854775807),adr:=[(0,0)] },W:=[208],post:=[{ n:=1,P:=[(0,.s (.c (cI .i64 2)))],C:=rI 2 (-9223372036854775808) 9223372036854775807,adr:=[] }] }
def tc61f : TC:={ k:=2,pre:={ n:=17,P:=[(0,.s (.a [cB 0,cB 1,cB 2,cB 3,cB 4,cB 5,cB 6,cB 7,cI .i64 8,cI .i64 9,cI .i64 10,cI .i64 11,cI .i64 12,cI .i64 13,cI .i64 14,cI .i64 15])),(1,.s (.c (cI .i64 16)))],C:=rI 8 0 63 ++ (rI 9 0 63 ++ (rI 10 0 63 ++ (rI 11 0 63 ++ (rI 12 0 63 ++ (rI 13 0 63 ++ (rI 14 0 63 ++ (rI 15 0 63 ++ (rI 16 (-9223372036854775808) 9223372036854775807)))))))),adr:=[],F:=[⟨611,[cB 0,cB 1,cB 2,cB 3,cB 4,cB 5,cB 6,cB 7,cI .i64 8,cI .i64 9,cI .i64 10,cI .i64 11,cI .i64 12,cI .i64 13,cI .i64 14,cI .i64 15,cI .i64 16]⟩] },W:=[],post:=[{ n:=1,P:=[(0,.t [.c (cI .i64 17),.c (.tru true)])],C:=rI 17 0 7,adr:=[],F:=[⟨61,[cB 0,cB 1,cB 2,cB 3,cB 4,cB 5,cB 6,cB 7,cI .i64 8,cI .i64 9,cI .i64 10,cI .i64 11,cI .i64 12,cI .i64 13,cI .i64 14,cI .i64 15,cI .i64 16,cI .i64 17]⟩] }] }
def tc61n : TC:={ k:=2,pre:={ n:=17,P:=[(0,.s (.a [cB 0,cB 1,cB 2,cB 3,cB 4,cB 5,cB 6,cB 7,cI .i64 8,cI .i64 9,cI .i64 10,cI .i64 11,cI .i64 12,cI .i64 13,cI .i64 14,cI .i64 15])),(1,.s (.c (cI .i64 16)))],C:=rI 8 0 63 ++ (rI 9 0 63 ++ (rI 10 0 63 ++ (rI 11 0 63 ++ (rI 12 0 63 ++ (rI 13 0 63 ++ (rI 14 0 63 ++ (rI 15 0 63 ++ (rI 16 (-9223372036854775808) 9223372036854775807)))))))),adr:=[],F:=[⟨610,[cB 0,cB 1,cB 2,cB 3,cB 4,cB 5,cB 6,cB 7,cI .i64 8,cI .i64 9,cI .i64 10,cI .i64 11,cI .i64 12,cI .i64 13,cI .i64 14,cI .i64 15,cI .i64 16]⟩] },W:=[],post:=[{ n:=1,P:=[(0,.t [.c (cI .i64 17),.c (.tru false)])],C:=rI 17 (-9223372036854775808) 9223372036854775807,adr:=[] }] }
def tc62 : TC:={ k:=3,pre:={ n:=41,P:=[(0,.s (.a (rC 0))),(1,.s (.c (cI .i64 39))),(2,.s (.c (cI .i64 40)))],C:=rR 0 ++ (rI 39 (-9223372036854775808) 9223372036854775807 ++ (rI 40 (-9223372036854775808) 9223372036854775807)),adr:=[] },W:=[],post:=[{ n:=40,P:=[(0,.t [.a (rC 41),.c (cI .i64 80)])],C:=rR 41 ++ (rI 80 (-9223372036854775808) 9223372036854775807),adr:=[],F:=[⟨62,rC 0 ++ ([cI .i64 39,cI .i64 40] ++ (rC 41))⟩] }] }
def tc132 : TC:={ k:=3,pre:={ n:=5,P:=[(0,.s (.c (cP 326 0))),(1,.s (.c (cI .u16 1))),(2,.s (.c (cS 5 2)))],C:=rP 0 ++ (rI 1 0 65535 ++ (rS 2 1200)),adr:=[(0,0),(2,0)] },W:=[338,339,341],post:=[{ n:=0,P:=[(0,.t [])],C:=[],adr:=[] }] }
def tc84 : TC:={ k:=3,pre:={ n:=41,P:=[(0,.s (.a (rC 0))),(1,.s (.c (cI .i64 39))),(2,.s (.c (cI .i64 40)))],C:=rR 0 ++ (rI 39 (-9223372036854775808) 9223372036854775807 ++ (rI 40 (-9223372036854775808) 9223372036854775807)),adr:=[] },W:=[],post:=[{ n:=41,P:=[(0,.t [.a (rC 41),.c (cI .i64 80),.c (cI .i64 81)])],C:=rR 41 ++ (rI 80 (-9223372036854775808) 9223372036854775807 ++ (rI 81 (-9223372036854775808) 9223372036854775807)),adr:=[],F:=[⟨84,rC 0 ++ ([cI .i64 39,cI .i64 40] ++ (rC 41 ++ ([cI .i64 81])))⟩] }] }
def tc16c : TC:={ k:=1,pre:={ n:=7,P:=[(0,.s (.a [cI .i64 0,cB 1,cI .i64 2,cI .i64 3,cI .i64 4,cI .i64 5]))],C:=[],adr:=[],F:=[⟨70,[cI .i64 0,cB 1,cI .i64 2,cI .i64 3,cI .i64 4,cI .i64 5,cI .i64 6]⟩] },W:=[],post:=[{ n:=0,P:=[(0,.s (.c (cI .i64 6)))],C:=[],adr:=[] }] }
def tc87 : TC:={ k:=3,pre:={ n:=41,P:=[(0,.s (.a (rC 0))),(1,.s (.c (cI .i64 39))),(2,.s (.c (cI .i64 40)))],C:=rR 0 ++ (rI 39 (-9223372036854775808) 9223372036854775807 ++ (rI 40 (-9223372036854775808) 9223372036854775807)),adr:=[] },W:=[],post:=[{ n:=40,P:=[(0,.t [.a (rC 41),.c (cI .i64 80)])],C:=rR 41 ++ (rI 80 (-9223372036854775808) 9223372036854775807),adr:=[],F:=[⟨87,rC 0 ++ ([cI .i64 39,cI .i64 40] ++ (rC 41))⟩] }] }
def tc88 : TC:={ k:=4,pre:={ n:=42,P:=[(0,.s (.a (rC 0))),(1,.s (.c (cI .i64 39))),(2,.s (.c (cI .i64 40))),(3,.s (.c (cI .i64 41)))],C:=rR 0 ++ (rI 39 (-9223372036854775808) 9223372036854775807 ++ (rI 40 (-9223372036854775808) 9223372036854775807 ++ (rI 41 (-9223372036854775808) 9223372036854775807))),adr:=[] },W:=[],post:=[{ n:=40,P:=[(0,.t [.a (rC 42),.c (cI .i64 81)])],C:=rR 42 ++ (rI 81 (-9223372036854775808) 9223372036854775807),adr:=[],F:=[⟨88,rC 0 ++ ([cI .i64 39,cI .i64 40,cI .i64 41] ++ (rC 42))⟩] }] }
def tc92 : TC:={ k:=3,pre:={ n:=41,P:=[(0,.s (.a (rC 0))),(1,.s (.c (cI .i64 39))),(2,.s (.c (cI .i64 40)))],C:=rR 0 ++ (rI 39 (-9223372036854775808) 9223372036854775807 ++ (rI 40 (-9223372036854775808) 9223372036854775807)),adr:=[] },W:=[],post:=[{ n:=41,P:=[(0,.t [.a (rC 41),.c (cB 80),.c (cI .i64 81)])],C:=rR 41 ++ (rB 80 ++ (rI 81 (-9223372036854775808) 9223372036854775807)),adr:=[],F:=[⟨92,rC 0 ++ ([cI .i64 39,cI .i64 40] ++ (rC 41))⟩] }] }
def tc51 : TC:={ k:=2,pre:={ n:=40,P:=[(0,.s (.a (rC 0))),(1,.s (.c (cI .i64 39)))],C:=rR 0 ++ (rI 39 (-9223372036854775808) 9223372036854775807),adr:=[] },W:=[],post:=[{ n:=42,P:=[(0,.t [.a (rC 40),.c (.zs 79 (.var 79) [] (.var 80) (.var 81))])],C:=rR 40 ++ (rS 79 1048576),adr:=[(79,0)],F:=[⟨51,rC 0 ++ ([cI .i64 39] ++ (rC 40))⟩] }] }
def tc15g : TC:={ k:=1,pre:={ n:=39,P:=[(0,.s (.a (rC 0)))],C:=[],adr:=[],F:=[⟨303,rC 0⟩] },W:=[],post:=[{ n:=0,P:=[(0,.s (.c (.tru true)))],C:=[],adr:=[] }] }
theorem eN : EnvTOk P (envL []):=envL_nil _
theorem tK {Γ : EnvT} {f : FuncId} {tc : TC} (hΓ : EnvTOk P Γ) (C : Cl) (h : tcT P Γ C f tc = true:=by kernel_rfl) (h0 : C.pcs = []:=by rfl) : TCok P f tc:=tcT_ok hΓ mixed h h0
end
end VtTop
namespace VtTop
noncomputable section
open Go Go.Proofs Zx Zx.Zr Vx Go.RowKit
set_option maxRecDepth 100000
theorem den_rC (ρ : Vl) (v : Nat) : (rC v).map (DC.den ρ) = roomL (roomV ρ v):=by
 simp [rC,rnB,rnI,roomL,tabL,stL,i8L,roomV,cB,cI,DC.den,Lin.var_den]
theorem leaf_rC (ρ : Vl) (v : Nat) (M : List Leaf) : gRm ((rC v).map (leafD ρ) ++ M) = roomV ρ v:=by
 simp [rC,rnB,rnI,gRm,gBs,gIs,gS,Zx.gB,Zx.gI,roomV,cB,cI,leafD,Lin.var_den]
theorem leaf_at (ρ : Vl) (v : Nat) (M : List Leaf) (j : Nat) : Zx.gI ((rC v).map (leafD ρ) ++ M) (39 + j) = Zx.gI M j:=by
 unfold Zx.gI
 rw [List.getElem?_append_right (by simp [rC,rnB,rnI]),show 39 + j - ((rC v).map (leafD ρ)).length = j by simp [rC,rnB,rnI]]
theorem leaf_39 (ρ : Vl) (v : Nat) (x : Int) (M : List Leaf) : Zx.gI ((rC v).map (leafD ρ) ++ .I x :: M) 39 = x:=leaf_at ρ v (.I x :: M) 0
theorem leaf_40 (ρ : Vl) (v : Nat) (l : Leaf) (x : Int) (M : List Leaf) : Zx.gI ((rC v).map (leafD ρ) ++ l :: .I x :: M) 40 = x:=leaf_at ρ v (l :: .I x :: M) 1
theorem leaf_41 (ρ : Vl) (v : Nat) (l l' : Leaf) (x : Int) (M : List Leaf) : Zx.gI ((rC v).map (leafD ρ) ++ l :: l' :: .I x :: M) 41 = x:=leaf_at ρ v (l :: l' :: .I x :: M) 2
theorem leaves_a (ρ : Vl) (cs : List DC) (xs : List D1) : leaves1 ρ (.a cs :: xs) = cs.map (leafD ρ) ++ leaves1 ρ xs:=rfl
theorem leaves_c (ρ : Vl) (k : IntKind) (v : Nat) (xs : List D1) : leaves1 ρ (.c (cI k v) :: xs) = .I (ρ.i v) :: leaves1 ρ xs:=by
 show Leaf.I ((Lin.var v).den ρ.i) :: _ = _
 rw [Lin.var_den]
theorem roomV_agr {ρ ρ' : Vl} {n v : Nat} (h : Agr n ρ ρ') (hv : v + 39 <= n) : roomV ρ' v = roomV ρ v:=by
 have k : ∀ j,j < 39 -> ρ'.i (v + j) = ρ.i (v + j):=fun j hj=>(h.i _ (by omega)).symm
 have k0:=k 0 (by omega)
 rw [Nat.add_zero] at k0
 simp only [roomV,k0,k 1 (by omega),k 2 (by omega),k 3 (by omega),k 4 (by omega),k 5 (by omega),k 6 (by omega),k 7 (by omega),k 8 (by omega),k 9 (by omega),k 10 (by omega),k 11 (by omega),k 12 (by omega),k 13 (by omega),k 14 (by omega),k 15 (by omega),k 16 (by omega),k 17 (by omega),k 18 (by omega),k 19 (by omega),k 20 (by omega),k 21 (by omega),k 22 (by omega),k 23 (by omega),k 24 (by omega),k 25 (by omega),k 26 (by omega),k 27 (by omega),k 28 (by omega),k 29 (by omega),k 30 (by omega),k 31 (by omega),k 32 (by omega),k 33 (by omega),k 34 (by omega),k 35 (by omega),k 36 (by omega),k 37 (by omega),k 38 (by omega)]
theorem iAt_rC (ρ : Vl) (v j : Nat) (xs : List DC) : iAt ((rC v ++ xs).map (valD ρ)) (39 + j) = iAt (xs.map (valD ρ)) j:=by
 unfold iAt
 have hl : ((rC v).map (valD ρ)).length = 39:=by simp [rC,rnB,rnI]
 rw [List.map_append,List.getD_eq_getElem?_getD,List.getElem?_append_right (by omega),hl,show 39 + j - 39 = j by omega,← List.getD_eq_getElem?_getD]
theorem iAt_0 (ρ : Vl) (v : Nat) (xs : List DC) : iAt ((cI .i64 v :: xs).map (valD ρ)) 0 = ρ.i v:=by
 simp only [iAt,List.map_cons,List.getD_cons_zero,valI_cI]
theorem bI_bd (b : Bool) : 0 <= bI b /\ bI b <= 1:=by cases b <;> decide
theorem sat_rB {ρ : Val} {v : Nat} (h : 0 <= ρ v /\ ρ v <= 1) : Sat ρ (rB v):=two_le (by simp only [Lin.var_den];omega) (by simp only [Lin.sub_den,Lin.var_den,Lin.num_den];omega)
theorem rv_0 (ρ : Vl) (v : Nat) (xs : List DC) : rvAt ((rC v ++ xs).map (valD ρ)) 0 = roomV ρ v:=rvAt_mid (pre:=[]) (post:=xs) rfl rfl
theorem rv_end (ρ : Vl) (v v' : Nat) (ys : List DC) {n : Nat} (h : 39 + ys.length = n) : rvAt ((rC v ++ (ys ++ rC v')).map (valD ρ)) n = roomV ρ v':=rvAt_mid (pre:=rC v ++ ys) (post:=[]) (by simp) (by rw [← h,List.length_append];simp [rC,rnB,rnI])
theorem rv_mid (ρ : Vl) (v v' : Nat) (ys zs : List DC) {n : Nat} (h : 39 + ys.length = n) : rvAt ((rC v ++ (ys ++ (rC v' ++ zs))).map (valD ρ)) n = roomV ρ v':=rvAt_mid (pre:=rC v ++ ys) (post:=zs) (by simp) (by rw [← h,List.length_append];simp [rC,rnB,rnI])
theorem i_39 (ρ : Vl) (v a : Nat) (xs zs : List DC) : iAt ((rC v ++ ((cI .i64 a :: xs) ++ zs)).map (valD ρ)) 39 = ρ.i a:=by
 rw [show (39 : Nat) = 39 + 0 from rfl,iAt_rC];exact iAt_0 ρ a _
theorem i_40 (ρ : Vl) (v a : Nat) (x : DC) (xs zs : List DC) : iAt ((rC v ++ ((x :: cI .i64 a :: xs) ++ zs)).map (valD ρ)) 40 = ρ.i a:=by
 rw [show (40 : Nat) = 39 + 1 from rfl,iAt_rC];exact iAt_0 ρ a (xs ++ zs)
theorem i_41 (ρ : Vl) (v a : Nat) (x y : DC) (xs zs : List DC) : iAt ((rC v ++ ((x :: y :: cI .i64 a :: xs) ++ zs)).map (valD ρ)) 41 = ρ.i a:=by
 rw [show (41 : Nat) = 39 + 2 from rfl,iAt_rC];exact iAt_0 ρ a (xs ++ zs)
theorem set_39 (ρ : Vl) (n : Nat) (r : RV) (y : Int) (ys : List Int) : (setL ρ n (roomN r ++ y :: ys)).i (n + 39) = y:=set_end ρ n r (y :: ys) 0
theorem set_40 (ρ : Vl) (n : Nat) (r : RV) (x y : Int) (ys : List Int) : (setL ρ n (roomN r ++ x :: y :: ys)).i (n + 40) = y:=set_end ρ n r (x :: y :: ys) 1
theorem ok62 : TCok P 62 tc62:=TCok.vals (xs:=[.a (rC 0),.c (cI .i64 39),.c (cI .i64 40)]) ⟨_,Tryz.func62,rfl,by kernel_rfl⟩ (by kernel_rfl) rfl rfl rfl fun ρ vs w hC hF hv=>by
 have hr : RIn (roomV ρ 0):=RIn.of_sat (sat_l hC)
 obtain ⟨hi,he⟩:=alive_in hr (ρ.i 39) (ρ.i 40)
 generalize hx : aliveRm (roomV ρ 0) (ρ.i 39) (ρ.i 40) = x at hi he
 refine (con0_calls aliveRm_ok rfl rfl (e:=x) (g:=fun r=>.t [.a (roomL r.1),.c (.int .i64 r.2)]) ?_ rfl hv).mono fun e w' ⟨v,h1,h2,h3⟩=>?_
 ·rw [leaves_a,leaves_c,leaves_c,← hx]
  simp only [aliveRmC,leaf_rC,leaf_39,leaf_40]
 ·have hA:=setL_agr ρ 41 (roomN x.1 ++ [x.2])
  have hR:=roomV_set ρ 41 hi [x.2]
  refine ⟨v,h1,h2,_,List.Mem.head _,setL ρ 41 (roomN x.1 ++ [x.2]),hA,sat_app (rR_set ρ 41 hi _) (sat_rI (by rw [show (80 : Nat) = 41 + 39 from rfl,set_39];exact he)),fun f hf=>?_,fun p hp=>?_,rfl,rfl,fun p hp=>(by cases hp)⟩
  ·rw [List.mem_singleton.1 hf]
   refine den_F rfl ?_
   show rvAt _ 41 = (aliveRm (rvAt _ 0) (iAt _ 39) (iAt _ 40)).1
   dsimp only
   rw [rv_end _ 0 41 [cI .i64 39,cI .i64 40] (n:=41) rfl,rv_0,i_39,i_40,hR,roomV_agr hA (by omega),← hA.i 39 (by omega),← hA.i 40 (by omega),hx]
  ·rw [List.mem_singleton.1 hp]
   refine ⟨rfl, ?_⟩
   show (SV.t [.a ((rC 41).map (DC.den _)),.c (.int .i64 ((Lin.var (41 + 39)).den _))]).ok noMu v
   rw [den_rC,hR,Lin.var_den,set_39 ρ 41]
   exact h3
theorem ok87 : TCok P 87 tc87:=TCok.vals (xs:=[.a (rC 0),.c (cI .i64 39),.c (cI .i64 40)]) ⟨_,Tryz.func87,rfl,by kernel_rfl⟩ (by kernel_rfl) rfl rfl rfl fun ρ vs w hC hF hv=>by
 have hr : RIn (roomV ρ 0):=RIn.of_sat (sat_l hC)
 obtain ⟨hi,he⟩:=leave_in hr (ρ.i 39) (ρ.i 40)
 generalize hx : leaveRm (roomV ρ 0) (ρ.i 39) (ρ.i 40) = x at hi he
 refine (con0_calls leaveRm_ok rfl rfl (e:=x) (g:=fun r=>.t [.a (roomL r.1),.c (.int .i64 r.2)]) ?_ rfl hv).mono fun e w' ⟨v,h1,h2,h3⟩=>?_
 ·rw [leaves_a,leaves_c,leaves_c,← hx]
  simp only [leaveRmC,leaf_rC,leaf_39,leaf_40]
 ·have hA:=setL_agr ρ 41 (roomN x.1 ++ [x.2])
  have hR:=roomV_set ρ 41 hi [x.2]
  refine ⟨v,h1,h2,_,List.Mem.head _,setL ρ 41 (roomN x.1 ++ [x.2]),hA,sat_app (rR_set ρ 41 hi _) (sat_rI (by rw [show (80 : Nat) = 41 + 39 from rfl,set_39];exact he)),fun f hf=>?_,fun p hp=>?_,rfl,rfl,fun p hp=>(by cases hp)⟩
  ·rw [List.mem_singleton.1 hf]
   refine den_F rfl ?_
   show rvAt _ 41 = (leaveRm (rvAt _ 0) (iAt _ 39) (iAt _ 40)).1
   dsimp only
   rw [rv_end _ 0 41 [cI .i64 39,cI .i64 40] (n:=41) rfl,rv_0,i_39,i_40,hR,roomV_agr hA (by omega),← hA.i 39 (by omega),← hA.i 40 (by omega),hx]
  ·rw [List.mem_singleton.1 hp]
   refine ⟨rfl, ?_⟩
   show (SV.t [.a ((rC 41).map (DC.den _)),.c (.int .i64 ((Lin.var (41 + 39)).den _))]).ok noMu v
   rw [den_rC,hR,Lin.var_den,set_39 ρ 41]
   exact h3
theorem ok88 : TCok P 88 tc88:=TCok.vals (xs:=[.a (rC 0),.c (cI .i64 39),.c (cI .i64 40),.c (cI .i64 41)]) ⟨_,Tryz.func88,rfl,by kernel_rfl⟩ (by kernel_rfl) rfl rfl rfl fun ρ vs w hC hF hv=>by
 have hr : RIn (roomV ρ 0):=RIn.of_sat (sat_l hC)
 obtain ⟨hi,he⟩:=kick_in hr (ρ.i 39) (ρ.i 40) (ρ.i 41)
 generalize hx : kickRm (roomV ρ 0) (ρ.i 39) (ρ.i 40) (ρ.i 41) = x at hi he
 refine (con0_calls kickRm_ok rfl rfl (e:=x) (g:=fun r=>.t [.a (roomL r.1),.c (.int .i64 r.2)]) ?_ rfl hv).mono fun e w' ⟨v,h1,h2,h3⟩=>?_
 ·rw [leaves_a,leaves_c,leaves_c,leaves_c,← hx]
  simp only [kickRmC,leaf_rC,leaf_39,leaf_40,leaf_41]
 ·have hA:=setL_agr ρ 42 (roomN x.1 ++ [x.2])
  have hR:=roomV_set ρ 42 hi [x.2]
  refine ⟨v,h1,h2,_,List.Mem.head _,setL ρ 42 (roomN x.1 ++ [x.2]),hA,sat_app (rR_set ρ 42 hi _) (sat_rI (by rw [show (81 : Nat) = 42 + 39 from rfl,set_39];exact he)),fun f hf=>?_,fun p hp=>?_,rfl,rfl,fun p hp=>(by cases hp)⟩
  ·rw [List.mem_singleton.1 hf]
   refine den_F rfl ?_
   show rvAt _ 42 = (kickRm (rvAt _ 0) (iAt _ 39) (iAt _ 40) (iAt _ 41)).1
   dsimp only
   rw [rv_end _ 0 42 [cI .i64 39,cI .i64 40,cI .i64 41] (n:=42) rfl,rv_0,i_39,i_40,i_41,hR,roomV_agr hA (by omega),← hA.i 39 (by omega),← hA.i 40 (by omega),← hA.i 41 (by omega),hx]
  ·rw [List.mem_singleton.1 hp]
   refine ⟨rfl, ?_⟩
   show (SV.t [.a ((rC 42).map (DC.den _)),.c (.int .i64 ((Lin.var (42 + 39)).den _))]).ok noMu v
   rw [den_rC,hR,Lin.var_den,set_39 ρ 42]
   exact h3
theorem ok84 : TCok P 84 tc84:=TCok.vals (xs:=[.a (rC 0),.c (cI .i64 39),.c (cI .i64 40)]) ⟨_,Tryz.func84,rfl,by kernel_rfl⟩ (by kernel_rfl) rfl rfl rfl fun ρ vs w hC hF hv=>by
 have hr : RIn (roomV ρ 0):=RIn.of_sat (sat_l hC)
 obtain ⟨hi,he,hg⟩:=join_in hr (ρ.i 39) (ρ.i 40)
 generalize hx : joinRm (roomV ρ 0) (ρ.i 39) (ρ.i 40) = x at hi he hg
 refine (con0_calls joinRm_ok rfl rfl (e:=x) (g:=fun r=>.t [.a (roomL r.1),.c (.int .i64 r.2.1),.c (.int .i64 r.2.2)]) ?_ rfl hv).mono fun e w' ⟨v,h1,h2,h3⟩=>?_
 ·rw [leaves_a,leaves_c,leaves_c,← hx]
  simp only [joinRmC,leaf_rC,leaf_39,leaf_40]
 ·have hA:=setL_agr ρ 41 (roomN x.1 ++ [x.2.1,x.2.2])
  have hR:=roomV_set ρ 41 hi [x.2.1,x.2.2]
  refine ⟨v,h1,h2,_,List.Mem.head _,setL ρ 41 (roomN x.1 ++ [x.2.1,x.2.2]),hA,sat_app (rR_set ρ 41 hi _) (sat_app (sat_rI (by rw [show (80 : Nat) = 41 + 39 from rfl,set_39];exact he)) (sat_rI (by rw [show (81 : Nat) = 41 + 40 from rfl,set_40];exact hg))),fun f hf=>?_,fun p hp=>?_,rfl,rfl,fun p hp=>(by cases hp)⟩
  ·rw [List.mem_singleton.1 hf]
   refine den_F rfl ?_
   show rvAt _ 41 = (joinRm (rvAt _ 0) (iAt _ 39) (iAt _ 40)).1
   dsimp only
   rw [rv_mid _ 0 41 [cI .i64 39,cI .i64 40] [cI .i64 81] (n:=41) rfl,rv_0,i_39,i_40,hR,roomV_agr hA (by omega),← hA.i 39 (by omega),← hA.i 40 (by omega),hx]
  ·rw [List.mem_singleton.1 hp]
   refine ⟨rfl, ?_⟩
   show (SV.t [.a ((rC 41).map (DC.den _)),.c (.int .i64 ((Lin.var (41 + 39)).den _)),.c (.int .i64 ((Lin.var (41 + 40)).den _))]).ok noMu v
   rw [den_rC,hR,Lin.var_den,Lin.var_den,set_39 ρ 41,set_40 ρ 41]
   exact h3
theorem ok92 : TCok P 92 tc92:=TCok.vals (xs:=[.a (rC 0),.c (cI .i64 39),.c (cI .i64 40)]) ⟨_,Tryz.func92,rfl,by kernel_rfl⟩ (by kernel_rfl) rfl rfl rfl fun ρ vs w hC hF hv=>by
 have hr : RIn (roomV ρ 0):=RIn.of_sat (sat_l hC)
 obtain ⟨hi,he⟩:=have_in hr (ρ.i 39) (ρ.i 40)
 generalize hx : haveRm (roomV ρ 0) (ρ.i 39) (ρ.i 40) = x at hi he
 refine (con0_calls haveRm_ok rfl rfl (e:=x) (g:=fun r=>.t [.a (roomL r.1),.c (.boo r.2.1),.c (.int .i64 r.2.2)]) ?_ rfl hv).mono fun e w' ⟨v,h1,h2,h3⟩=>?_
 ·rw [leaves_a,leaves_c,leaves_c,← hx]
  simp only [haveRmC,leaf_rC,leaf_39,leaf_40]
 ·have hA:=setL_agr ρ 41 (roomN x.1 ++ [bI x.2.1,x.2.2])
  have hR:=roomV_set ρ 41 hi [bI x.2.1,x.2.2]
  refine ⟨v,h1,h2,_,List.Mem.head _,setL ρ 41 (roomN x.1 ++ [bI x.2.1,x.2.2]),hA,sat_app (rR_set ρ 41 hi _) (sat_app (sat_rB (by rw [show (80 : Nat) = 41 + 39 from rfl,set_39];exact bI_bd _)) (sat_rI (by rw [show (81 : Nat) = 41 + 40 from rfl,set_40];exact he))),fun f hf=>?_,fun p hp=>?_,rfl,rfl,fun p hp=>(by cases hp)⟩
  ·rw [List.mem_singleton.1 hf]
   refine den_F rfl ?_
   show rvAt _ 41 = (haveRm (rvAt _ 0) (iAt _ 39) (iAt _ 40)).1
   dsimp only
   rw [rv_end _ 0 41 [cI .i64 39,cI .i64 40] (n:=41) rfl,rv_0,i_39,i_40,hR,roomV_agr hA (by omega),← hA.i 39 (by omega),← hA.i 40 (by omega),hx]
  ·rw [List.mem_singleton.1 hp]
   refine ⟨rfl, ?_⟩
   show (SV.t [.a ((rC 41).map (DC.den _)),.c (.boo (true == decide ((setL ρ 41 (roomN x.1 ++ [bI x.2.1,x.2.2])).i (41 + 39) = 1))),.c (.int .i64 ((Lin.var (41 + 40)).den _))]).ok noMu v
   rw [den_rC,hR,Lin.var_den,set_39 ρ 41,set_40 ρ 41,bI_dec,Bool.true_beq]
   exact h3
end
end VtTop
namespace VtTop
noncomputable section
open Go Go.Proofs Zx Zx.Zr Vx Go.RowKit
set_option maxRecDepth 100000
theorem ok15g : TCok P 15 tc15g:=TCok.vals (xs:=[.a (rC 0)]) ⟨_,Tryz.func15,rfl,by kernel_rfl⟩ (by kernel_rfl) rfl rfl rfl fun ρ vs w hC hF hv=>by
 have h0:=(hF _ (List.Mem.head _)).1
 dsimp only at h0
 rw [show rC 0 = rC 0 ++ [] from (List.append_nil _).symm,rv_0] at h0
 refine (con0_calls goodRm_ok rfl rfl (e:=true) (g:=fun r=>one (.boo r)) ?_ rfl hv).mono fun e w' ⟨v,h1,h2,h3⟩=>?_
 ·rw [leaves_a]
  simp only [goodRmC,leaf_rC,Zx.Zr.rB,h0]
 ·refine ⟨v,h1,h2,_,List.Mem.head _,ρ,Agr.refl _ _,fun l hl=>(by cases hl),fun f hf=>(by cases hf),fun p hp=>?_,rfl,rfl,fun p hp=>(by cases hp)⟩
  rw [List.mem_singleton.1 hp]
  exact ⟨rfl,h3⟩
theorem ok16c : TCok P 16 tc16c:=TCok.vals (xs:=[.a [cI .i64 0,cB 1,cI .i64 2,cI .i64 3,cI .i64 4,cI .i64 5]]) ⟨_,Tryz.func16,rfl,by kernel_rfl⟩ (by kernel_rfl) rfl rfl rfl fun ρ vs w hC hF hv=>by
 have h0 : iAt _ 6 = comS (kAt _ 0):=hF _ (List.Mem.head _)
 have h1 : ρ.i 6 = comS (kAt ([cI .i64 0,cB 1,cI .i64 2,cI .i64 3,cI .i64 4,cI .i64 5,cI .i64 6].map (valD ρ)) 0):=by
  rw [← h0]
  simp only [iAt,List.map_cons,List.getD_cons_succ,List.getD_cons_zero,valI_cI]
 refine (con0_calls com_ok rfl rfl (e:=comS (kAt ([cI .i64 0,cB 1,cI .i64 2,cI .i64 3,cI .i64 4,cI .i64 5,cI .i64 6].map (valD ρ)) 0)) (g:=fun r=>one (.int .i64 r)) rfl rfl hv).mono fun e w' ⟨v,h2,h3,h4⟩=>?_
 refine ⟨v,h2,h3,_,List.Mem.head _,ρ,Agr.refl _ _,fun l hl=>(by cases hl),fun f hf=>(by cases hf),fun p hp=>?_,rfl,rfl,fun p hp=>(by cases hp)⟩
 rw [List.mem_singleton.1 hp]
 refine ⟨rfl, ?_⟩
 show (one (.int .i64 ((Lin.var 6).den ρ.i))).ok noMu v
 rw [Lin.var_den,h1]
 exact h4
def tabD : List DC:=[cB 0,cB 1,cB 2,cB 3,cB 4,cB 5,cB 6,cB 7,cI .i64 8,cI .i64 9,cI .i64 10,cI .i64 11,cI .i64 12,cI .i64 13,cI .i64 14,cI .i64 15]
theorem valD_agr {ρ σ : Vl} {n : Nat} (h : Agr n ρ σ) {x : DC} (hx : x.lt n) : valD ρ x = valD σ x:=by
 cases x <;> first
  | rfl
  | (simp only [valD];rw [Lin.den_eq h.i hx])
  | (simp only [valD];rw [h.i _ hx])
theorem map_agr {ρ σ : Vl} {n : Nat} (h : Agr n ρ σ) {xs : List DC} (hx : ∀ x ∈ xs,x.lt n) : xs.map (valD ρ) = xs.map (valD σ):=List.map_congr_left fun x hm=>valD_agr h (hx x hm)
theorem tru_t {x : S1} {b : Bool} {μ : Mu} {v : Value} (h : (SV.t [x,.c (.boo b)]).ok μ v) : (SV.t [x,.c (.tru b)]).ok μ v:=by
 obtain ⟨us,e,h⟩:=h
 match us,h with
 | [p,q],⟨h1,h2,_⟩=>exact ⟨[p,q],e,h1,h2,trivial⟩
theorem findGo_no : ∀ (u : List Bool) (a : List Int) (k x : Int),(findGo k u a x).2 = false -> (findGo k u a x).1 = 0
 | [],_,_,_,_=>rfl
 | _ :: _,[],_,_,_=>rfl
 | u :: us,b :: bs,k,x,h=>by
  unfold findGo at h ⊢
  split
  ·rename_i hc;rw [if_pos hc] at h;cases h
  ·rename_i hc;rw [if_neg hc] at h;exact findGo_no us bs (k + 1) x h
theorem findG_no {u : List Bool} {a : List Int} {x : Int} (h : (findG u a x).2 = false) : (findG u a x).1 = 0:=by
 unfold findG at h ⊢
 split
 ·rename_i hg;rw [if_pos hg] at h;exact findGo_no _ _ _ _ h
 ·rfl
abbrev fndV (ρ : Vl) : Int × Bool:=findG (uAt ((tabD ++ [cI .i64 16]).map (valD ρ)) 0) (lAt ((tabD ++ [cI .i64 16]).map (valD ρ)) 8) (iAt ((tabD ++ [cI .i64 16]).map (valD ρ)) 16)
theorem ok61n : TCok P 61 tc61n:=TCok.vals (xs:=[.a tabD,.c (cI .i64 16)]) ⟨_,Tryz.func61,rfl,by kernel_rfl⟩ (by kernel_rfl) rfl rfl rfl fun ρ vs w hC hF hv=>by
 have h0 : (fndV ρ).2 = false:=hF _ (List.Mem.head _)
 refine (con0_calls findG_ok rfl rfl (e:=fndV ρ) (g:=fun r=>.t [.c (.int .i64 r.1),.c (.boo r.2)]) rfl rfl hv).mono fun e w' ⟨v,h2,h3,h4⟩=>?_
 have h1:=findG_no h0
 have hx : fndV ρ = (0,false):=by rw [← h0,← h1]
 rw [hx] at h4
 have h17:=setL_at0 ρ 17 [0]
 refine ⟨v,h2,h3,_,List.Mem.head _,setL ρ 17 [0],setL_agr ρ 17 [0],sat_rI (by rw [h17];decide),fun f hf=>(by cases hf),fun p hp=>?_,rfl,rfl,fun p hp=>(by cases hp)⟩
 rw [List.mem_singleton.1 hp]
 refine ⟨rfl, ?_⟩
 show (SV.t [.c (.int .i64 ((Lin.var 17).den _)),.c (.tru false)]).ok noMu v
 rw [Lin.var_den,h17]
 exact tru_t h4
theorem findG_bd {u : List Bool} {a : List Int} {x : Int} (h8 : u.length = 8) (h : (findG u a x).2 = true) : 0 <= (findG u a x).1 /\ (findG u a x).1 <= 7:=by
 unfold findG at h ⊢
 split
 ·rename_i hg
  rw [if_pos hg] at h
  have:=findGo_bd u a 0 x h
  rw [h8] at this
  omega
 ·rename_i hg
  rw [if_neg hg] at h
  cases h
theorem tabD_lt : ∀ x ∈ tabD ++ [cI .i64 16],x.lt 17:=by
 intro x hx
 simp only [tabD,List.cons_append,List.nil_append,List.mem_cons,List.not_mem_nil,or_false] at hx
 rcases hx with rfl | rfl | rfl | rfl | rfl | rfl | rfl | rfl | rfl | rfl | rfl | rfl | rfl | rfl | rfl | rfl | rfl <;> first | exact Lin.var_lt (by decide) | (show _ < _;decide)
theorem ok61f : TCok P 61 tc61f:=TCok.vals (xs:=[.a tabD,.c (cI .i64 16)]) ⟨_,Tryz.func61,rfl,by kernel_rfl⟩ (by kernel_rfl) rfl rfl rfl fun ρ vs w hC hF hv=>by
 have h0 : (fndV ρ).2 = true:=hF _ (List.Mem.head _)
 refine (con0_calls findG_ok rfl rfl (e:=fndV ρ) (g:=fun r=>.t [.c (.int .i64 r.1),.c (.boo r.2)]) rfl rfl hv).mono fun e w' ⟨v,h2,h3,h4⟩=>?_
 have hb : 0 <= (fndV ρ).1 /\ (fndV ρ).1 <= 7:=findG_bd (u:=uAt ((tabD ++ [cI .i64 16]).map (valD ρ)) 0) rfl h0
 have hx2 : fndV ρ = ((fndV ρ).1,true):=by rw [← h0]
 have hA:=setL_agr ρ 17 [(fndV ρ).1]
 have h17 : (setL ρ 17 [(fndV ρ).1]).i 17 = (fndV ρ).1:=setL_at0 ρ 17 [(fndV ρ).1]
 refine ⟨v,h2,h3,_,List.Mem.head _,setL ρ 17 [(fndV ρ).1],hA,sat_rI (by rw [h17];exact hb),fun f hf=>?_,fun p hp=>?_,rfl,rfl,fun p hp=>(by cases hp)⟩
 ·rw [List.mem_singleton.1 hf]
  refine den_F rfl ?_
  show fndV (setL ρ 17 [(fndV ρ).1]) = (valI (valD (setL ρ 17 [(fndV ρ).1]) (cI .i64 17)),true)
  rw [valI_cI,h17]
  have e1 : fndV (setL ρ 17 [(fndV ρ).1]) = fndV ρ:=by
   simp only [fndV]
   rw [← map_agr hA tabD_lt]
  rw [e1]
  exact hx2
 ·rw [List.mem_singleton.1 hp]
  refine ⟨rfl, ?_⟩
  show (SV.t [.c (.int .i64 ((Lin.var 17).den _)),.c (.tru true)]).ok noMu v
  rw [Lin.var_den,h17]
  rw [hx2] at h4
  exact tru_t h4
end
end VtTop
namespace VtTop
noncomputable section
open Go Go.Proofs Zx Zx.Zr Vx Go.RowKit
set_option maxRecDepth 100000
def toPA : PV -> PA
 | .c k=>.v k
 | .a ks=>.a ks
theorem matchA_of : ∀ {ps : List PV} {xs : List SV} {L : List Leaf},matchV ps xs = some L -> matchA (ps.map toPA) xs [] = some ⟨L,[],[]⟩ /\ rowNames (ps.map toPA) xs = []
 | [],[],L,h=>by cases h;exact ⟨rfl,rfl⟩
 | .c k :: ps,.s (.c c) :: xs,L,h=>by
  simp only [matchV] at h
  split at h
  ·rename_i l M h1 h2
   cases h
   obtain ⟨a1,a2⟩:=matchA_of h2
   exact ⟨by simp only [List.map_cons,toPA,matchA,h1,a1],by simp only [List.map_cons,toPA,rowNames,a2]⟩
  ·cases h
 | .a ks :: ps,.s (.a cs) :: xs,L,h=>by
  simp only [matchV] at h
  split at h
  ·rename_i l M h1 h2
   cases h
   obtain ⟨a1,a2⟩:=matchA_of h2
   exact ⟨by simp only [List.map_cons,toPA,matchA,h1,a1],by simp only [List.map_cons,toPA,rowNames,a2]⟩
  ·cases h
 | [],_ :: _,_,h=>by simp [matchV] at h
 | .c _ :: _,[],_,h=>by simp [matchV] at h
 | .a _ :: _,[],_,h=>by simp [matchV] at h
 | .c _ :: _,.s (.a _) :: _,_,h=>by simp [matchV] at h
 | .c _ :: _,.t _ :: _,_,h=>by simp [matchV] at h
 | .c _ :: _,.u :: _,_,h=>by simp [matchV] at h
 | .a _ :: _,.s (.c _) :: _,_,h=>by simp [matchV] at h
 | .a _ :: _,.t _ :: _,_,h=>by simp [matchV] at h
 | .a _ :: _,.u :: _,_,h=>by simp [matchV] at h
theorem tick_calls {ρ : Vl} {vs : List Value} {w : World} {x : RV × List Int} (hx : tickRm (roomV ρ 0) (ρ.i 39) = x) (hv : ∃ μ : Mu,AllD1 ρ μ [.a (rC 0),.c (cI .i64 39)] vs) :
  Calls P 51 vs.toArray w fun e' w'=>∃ v,e' = .returned v /\ Below w.heap.size w w' /\ ∃ (p q : Value) (a : Option Addr) (c : Nat),v = .tuple [p,q].toArray /\ (S1.a (roomL x.1)).ok noMu p /\ q = .slice a x.2.length c /\ x.2.length <= c /\ c <= maxLen /\ (0 < c -> ∃ b o,a = some ⟨b,o,none⟩ /\ b < w'.heap.size):=by
 obtain ⟨μ,hv⟩:=hv
 obtain ⟨h1,h2,h3⟩:=fitP_ok (ps:=[.a roomK,.c (.i .i64)]) rfl hv
 obtain ⟨h4,h5⟩:=matchA_of h2
 have e0 : tickRmC.spec 0 (instVs [.a roomK,.c (.i .i64)] (leaves1 ρ [.a (rC 0),.c (cI .i64 39)])) = ⟨[],[],fun bl=>match matchA [.a roomK,.v (.i .i64)] (instVs [.a roomK,.c (.i .i64)] (leaves1 ρ [.a (rC 0),.c (cI .i64 39)])) bl with
  | some m=>astL m.p (preO1 none m.L m.R ((tickRmC.out m.L m.R).bind (mkRes 0)))
  | none=>.fail⟩:=by
  have h5' : rowNames tickRmC.pat (instVs [.a roomK,.c (.i .i64)] (leaves1 ρ [.a (rC 0),.c (cI .i64 39)])) = []:=h5
  unfold Con1.spec
  rw [h5']
  rfl
 have hk : (tickRmC.spec 0 (instVs [.a roomK,.c (.i .i64)] (leaves1 ρ [.a (rC 0),.c (cI .i64 39)]))).pre (fun _=>none) (fun r=>∃ c,x.2.length <= c /\ r = ⟨.t [.a (roomL x.1),.c (.own 0 x.2.length c false)],[],[.oints .i64 x.2]⟩):=by
  rw [e0]
  have h4' : matchA [.a roomK,.v (.i .i64)] (instVs [.a roomK,.c (.i .i64)] (leaves1 ρ [.a (rC 0),.c (cI .i64 39)])) [] = some ⟨leaves1 ρ [.a (rC 0),.c (cI .i64 39)],[],[]⟩:=h4
  show Out.wp (match matchA [.a roomK,.v (.i .i64)] (instVs [.a roomK,.c (.i .i64)] (leaves1 ρ [.a (rC 0),.c (cI .i64 39)])) [] with
   | some m=>astL m.p (preO1 none m.L m.R ((tickRmC.out m.L m.R).bind (mkRes 0)))
   | none=>.fail) _
  rw [h4']
  dsimp only [astL,preO1]
  rw [leaves_a,leaves_c]
  refine Out.wp_bind.2 ?_
  simp only [tickRmC,leaf_rC,leaf_39]
  rw [hx]
  intro y hy
  subst hy
  show Out.wp (mkRes 0 [.c (.a (roomL y.1)),.r .i64 y.2]) _
  intro c hc
  exact ⟨c,hc,rfl⟩
 refine (tickRm_ok noMu (fun _=>none) w 0 _ vs (noHeap w) h1 (fun n _=>rfl) _ hk).mono fun e' w' he=>?_
 obtain ⟨v,μ',r,rfl,⟨c,hc,rfl⟩,hE⟩:=he
 refine ⟨v,rfl,⟨hE.os,hE.tape,hE.output,hE.size,fun x hx=>hE.keep x hx (fun n b l _ h=>by cases h) (fun _=>rfl)⟩, ?_⟩
 obtain ⟨us,e1,e2⟩:=hE.val
 match us,e2 with
 | [p,q],⟨k1,k2,_⟩=>
  obtain ⟨l,a,g1,g2,g3,g4,g5,g6⟩:=k2
  refine ⟨p,q,a,c,e1,plain1_ok rfl k1,g2.trans g3,g5,g6,fun h0=>⟨l.b,l.off,g4 h0, ?_⟩⟩
  obtain ⟨l',n1,n2,_⟩:=hE.news 0 _ rfl
  rw [Nat.zero_add,g1] at n1
  cases n1
  obtain ⟨t,n2⟩:=n2
  obtain ⟨a2,c2,q1,q2,q3,q4⟩:=own_vals n2
  rw [g3] at q1
  injection q1 with r1 r2 r3
  subst r3
  obtain ⟨_,cur,q5,_⟩:=q4 h0
  exact heap_lt q5
theorem nos_ok {b o n c : Nat} {a : Option Addr} {E : List CS} (hE : E = []) (h1 : n <= c) (h2 : c <= maxLen) (h3 : 0 < c -> a = some ⟨b,o,none⟩) : (SC.zsa b o E n c).ok noMu (.slice a n c):=⟨a,rfl,h1,h2,fun h0=>⟨h3 h0,fun i _ j c' hj=>by rw [hE] at hj;simp at hj⟩⟩
theorem ok51 : TCok P 51 tc51:=TCok.vals (xs:=[.a (rC 0),.c (cI .i64 39)]) ⟨_,Tryz.func51,rfl,by kernel_rfl⟩ (by kernel_rfl) rfl rfl rfl fun ρ vs w hC hF hv=>by
 have hr : RIn (roomV ρ 0):=RIn.of_sat (sat_l hC)
 obtain ⟨hi,he⟩:=tick_in hr (ρ.i 39)
 generalize hx : tickRm (roomV ρ 0) (ρ.i 39) = x at hi he
 refine (tick_calls hx hv).mono fun e w' ⟨v,h1,h2,pv,qv,a,c,k1,k2,k3,k4,k5,k6⟩=>?_
 obtain ⟨b,o,hb,ha⟩ : ∃ (b : Int) (o : Nat),b < (w'.heap.size : Int) /\ ((0 <= b \/ c = 0) /\ (0 < c -> a = some ⟨b.toNat,o,none⟩)):=by
  rcases Nat.eq_zero_or_pos c with h0 | h0
  ·exact ⟨-1,0,by omega,.inr h0,fun h=>by omega⟩
  ·obtain ⟨b,o,e1,e2⟩:=k6 h0
   exact ⟨(b : Int),o,by omega,.inl (by omega),fun _=>by rw [e1];simp⟩
 have hA0:=setL_agr ρ 40 (roomN x.1 ++ [0,(x.2.length : Int),(c : Int)])
 let ρ' : Vl:=⟨(setL ρ 40 (roomN x.1 ++ [0,(x.2.length : Int),(c : Int)])).i,ρ.s,fun u=>if u < 40 then ρ.a u else (b,o),ρ.A⟩
 have hA : Agr 40 ρ ρ':=⟨hA0.i,fun _ _=>rfl,fun u hu=>by simp [ρ',hu],rfl⟩
 have hR : roomV ρ' 40 = x.1:=roomV_set ρ 40 hi [0,(x.2.length : Int),(c : Int)]
 have s79 : ρ'.i 79 = 0:=set_39 ρ 40 x.1 0 [(x.2.length : Int),(c : Int)]
 have s80 : ρ'.i 80 = (x.2.length : Int):=set_40 ρ 40 x.1 0 _ [(c : Int)]
 have s81 : ρ'.i 81 = (c : Int):=set_end ρ 40 x.1 [0,(x.2.length : Int),(c : Int)] 2
 have hm : (maxLen : Int) = 9223372036854775807:=by decide
 refine ⟨v,h1,h2,_,List.Mem.head _,ρ',hA,sat_app (rR_set ρ 40 hi [0,(x.2.length : Int),(c : Int)]) (fun l hl=>?_),fun f hf=>?_,fun p hp=>?_,rfl,rfl,fun p hp=>?_⟩
 ·simp only [rS,List.mem_cons,List.not_mem_nil,or_false] at hl
  rcases hl with rfl | rfl | rfl | rfl | rfl <;> simp only [Lin.var_den,Lin.sub_den,Lin.num_den,s79,s80,s81,Nat.reduceAdd] <;> omega
 ·rw [List.mem_singleton.1 hf]
  refine den_F rfl ?_
  show rvAt _ 40 = (tickRm (rvAt _ 0) (iAt _ 39)).1
  dsimp only
  rw [rv_end _ 0 40 [cI .i64 39] (n:=40) rfl,rv_0,i_39,hR,roomV_agr hA (by omega),← hA.i 39 (by omega),hx]
 ·rw [List.mem_singleton.1 hp]
  refine ⟨rfl,[pv,qv],k1, ?_, ?_,trivial⟩
  ·show (S1.a ((rC 40).map (DC.den ρ'))).ok noMu pv
   rw [den_rC,hR];exact k2
  ·show (SC.ok noMu (DC.den ρ' (.zs 79 (.var 79) [] (.var 80) (.var 81))) qv)
   have h79 : ρ'.a 79 = (b,o):=rfl
   simp only [DC.den,h79,Lin.var_den,s79,s80,s81]
   rw [if_pos (by omega),k3]
   exact nos_ok rfl k4 k5 (fun h0=>by simpa using ha.2 h0)
 ·rw [List.mem_singleton.1 hp]
  exact ⟨rfl,hb⟩
end
end VtTop
namespace VtTop
noncomputable section
open Go Go.Proofs Zx Zx.Zr Vx Go.RowKit
set_option maxRecDepth 100000
def zrV : RV:=⟨List.replicate 8 false,List.replicate 8 0,⟨0,false,0,0,0,0⟩,List.replicate 8 0,List.replicate 8 0,false⟩
def wkC : SC -> SC
 | .int k n=>.num k n
 | .boo b=>.tru b
 | c=>c
theorem wkC_ok (μ : Mu) (c : SC) (v : Value) : (wkC c).ok μ v ↔ c.ok μ v:=by
 cases c <;> exact Iff.rfl
theorem wk2 (μ : Mu) : ∀ (cs : List SC) (vs : List Value),All2 (SC.ok μ) (cs.map wkC) vs ↔ All2 (SC.ok μ) cs vs
 | [],[]=>Iff.rfl
 | [],_ :: _=>Iff.rfl
 | _ :: _,[]=>Iff.rfl
 | c :: cs,v :: vs=>and_congr (wkC_ok μ c v) (wk2 μ cs vs)
def wk1 : S1 -> S1
 | .c x=>.c (wkC x)
 | .a cs=>.a (cs.map wkC)
theorem wk1_ok (μ : Mu) : ∀ (x : S1) (v : Value),(wk1 x).ok μ v ↔ x.ok μ v
 | .c x,v=>wkC_ok μ x v
 | .a cs,v=>exists_congr fun vs=>and_congr Iff.rfl (wk2 μ cs vs)
theorem wkS (μ : Mu) : ∀ (cs : List S1) (vs : List Value),AllS (S1.ok μ) (cs.map wk1) vs ↔ AllS (S1.ok μ) cs vs
 | [],[]=>Iff.rfl
 | [],_ :: _=>Iff.rfl
 | _ :: _,[]=>Iff.rfl
 | c :: cs,v :: vs=>and_congr (wk1_ok μ c v) (wkS μ cs vs)
def wkV : SV -> SV
 | .s x=>.s (wk1 x)
 | .t xs=>.t (xs.map wk1)
 | .u=>.u
theorem wkV_ok (μ : Mu) : ∀ (x : SV) (v : Value),(wkV x).ok μ v ↔ x.ok μ v
 | .s x,v=>wk1_ok μ x v
 | .t xs,v=>exists_congr fun vs=>and_congr Iff.rfl (wkS μ xs vs)
 | .u,_=>Iff.rfl
theorem okJoin0 : TCok P 84 tcJoin0:=TCok.vals (xs:=[.a zR39,.c (.num .i64 5),.c (.num .i64 0)]) ⟨_,Tryz.func84,rfl,by kernel_rfl⟩ (by kernel_rfl) rfl rfl rfl fun ρ vs w hC hF hv=>by
 refine (con0_calls joinRm_ok rfl rfl (e:=joinRm zrV 5 0) (g:=fun r=>.t [.a (roomL r.1),.c (.int .i64 r.2.1),.c (.int .i64 r.2.2)]) ?_ rfl hv).mono fun e w' ⟨v,h1,h2,h3⟩=>?_
 ·rfl
 ·refine ⟨v,h1,h2,_,List.Mem.head _,ρ,Agr.refl _ ρ,fun _ hl=>(by cases hl),fun f hf=>(by cases hf),fun p hp=>?_,rfl,rfl,fun p hp=>(by cases hp)⟩
  rw [List.mem_singleton.1 hp]
  have e : DV.den ρ (.t [.a zJ39,.c (.num .i64 0),.c (.num .i64 0)]) = wkV (SV.t [.a (roomL (joinRm zrV 5 0).1),.c (.int .i64 (joinRm zrV 5 0).2.1),.c (.int .i64 (joinRm zrV 5 0).2.2)]):=by kernel_rfl
  refine ⟨rfl, ?_⟩
  show SV.ok noMu (DV.den ρ (.t [.a zJ39,.c (.num .i64 0),.c (.num .i64 0)])) v
  rw [e]
  exact (wkV_ok _ _ _).2 h3
theorem okFind0 : TCok P 61 tcFind0:=TCok.vals (xs:=[.a zS16,.c (.num .i64 5)]) ⟨_,Tryz.func61,rfl,by kernel_rfl⟩ (by kernel_rfl) rfl rfl rfl fun ρ vs w hC hF hv=>by
 refine (con0_calls findG_ok rfl rfl (e:=findG zrV.u zrV.a 5) (g:=fun r=>.t [.c (.int .i64 r.1),.c (.boo r.2)]) ?_ rfl hv).mono fun e w' ⟨v,h1,h2,h3⟩=>?_
 ·rfl
 ·refine ⟨v,h1,h2,_,List.Mem.head _,ρ,Agr.refl _ ρ,fun _ hl=>(by cases hl),fun f hf=>(by cases hf),fun p hp=>?_,rfl,rfl,fun p hp=>(by cases hp)⟩
  rw [List.mem_singleton.1 hp]
  have e : DV.den ρ (.t [.c (.num .i64 0),.c (.tru false)]) = wkV (SV.t [.c (.int .i64 (findG zrV.u zrV.a 5).1),.c (.boo (findG zrV.u zrV.a 5).2)]):=by kernel_rfl
  refine ⟨rfl, ?_⟩
  show SV.ok noMu (DV.den ρ (.t [.c (.num .i64 0),.c (.tru false)])) v
  rw [e]
  exact (wkV_ok _ _ _).2 h3
theorem okMask1 : TCok P 34 tcMask1:=TCok.vals (xs:=[.a zT16]) ⟨_,Tryz.func34,rfl,by kernel_rfl⟩ (by kernel_rfl) rfl rfl rfl fun ρ vs w hC hF hv=>by
 refine (con0_calls maskG_ok rfl rfl (e:=maskG (joinRm zrV 5 0).1.u (joinRm zrV 5 0).1.a) (g:=fun r=>one (.int .i64 r)) ?_ rfl hv).mono fun e w' ⟨v,h1,h2,h3⟩=>?_
 ·rfl
 ·refine ⟨v,h1,h2,_,List.Mem.head _,ρ,Agr.refl _ ρ,fun _ hl=>(by cases hl),fun f hf=>(by cases hf),fun p hp=>?_,rfl,rfl,fun p hp=>(by cases hp)⟩
  rw [List.mem_singleton.1 hp]
  have e : DV.den ρ (.s (.c (.num .i64 1))) = wkV (one (.int .i64 (maskG (joinRm zrV 5 0).1.u (joinRm zrV 5 0).1.a))):=by kernel_rfl
  refine ⟨rfl, ?_⟩
  show SV.ok noMu (DV.den ρ (.s (.c (.num .i64 1)))) v
  rw [e]
  exact (wkV_ok _ _ _).2 h3
end
end VtTop
