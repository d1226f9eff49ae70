/- A part of the proof: lemmas. No condition of its own. -/
import Derived.Test.YtglcgbhhkjebbaaGreatProg
import Derived.Laws.LoneSync
import Derived.WalkSpells
import Derived.Test.YtglcgbhhkjebbaaGreatK17
import Derived.Test.YtglcgbhhkjebbaaGreatK18
import Derived.Test.YtglcgbhhkjebbaaGreatK22
set_option linter.unusedVariables false
set_option linter.unusedSimpArgs false
namespace VtTop
open Go Zx Vx
noncomputable section
set_option maxRecDepth 1000000
abbrev P : Program:=Go.Proofs.Tryz.prog
theorem mixed : P.follows .mixedOrders = true:=rfl
def tc8 : TC:=tc8T
def tc61z : TC:=tcFind0
def tc34a : TC:=tcMask1
def tc84a : TC:=tcJoin0
def tc16c : TC:={ k:=1,pre:={ n:=7,P:=[(0,.s (.a [cI .i64 0,cB 1,cI .i64 2,cI .i64 3,cI .i64 4,cI .i64 5]))],C:=[],adr:=[],F:=[⟨70,[cI .i64 0,cB 1,cI .i64 2,cI .i64 3,cI .i64 4,cI .i64 5,cI .i64 6]⟩] },W:=[],post:=[{ n:=0,P:=[(0,.s (.c (cI .i64 6)))],C:=[],adr:=[] }] }
def tc60 : TC:={ k:=2,pre:={ n:=2,P:=[(0,.s (.c (cP 155 0))),(1,.s (.c (cI .i64 1)))],C:=rP 0 ++ (rI 1 (-9223372036854775808) 9223372036854775807),adr:=[(0,0)] },W:=[208],post:=[{ n:=1,P:=[(0,.s (.c (cI .i64 2)))],C:=rI 2 (-9223372036854775808) 9223372036854775807,adr:=[] }] }
def tc61f : TC:={ k:=2,pre:={ n:=17,P:=[(0,.s (.a [cB 0,cB 1,cB 2,cB 3,cB 4,cB 5,cB 6,cB 7,cI .i64 8,cI .i64 9,cI .i64 10,cI .i64 11,cI .i64 12,cI .i64 13,cI .i64 14,cI .i64 15])),(1,.s (.c (cI .i64 16)))],C:=rI 8 0 63 ++ (rI 9 0 63 ++ (rI 10 0 63 ++ (rI 11 0 63 ++ (rI 12 0 63 ++ (rI 13 0 63 ++ (rI 14 0 63 ++ (rI 15 0 63 ++ (rI 16 (-9223372036854775808) 9223372036854775807)))))))),adr:=[],F:=[⟨611,[cB 0,cB 1,cB 2,cB 3,cB 4,cB 5,cB 6,cB 7,cI .i64 8,cI .i64 9,cI .i64 10,cI .i64 11,cI .i64 12,cI .i64 13,cI .i64 14,cI .i64 15,cI .i64 16]⟩] },W:=[],post:=[{ n:=1,P:=[(0,.t [.c (cI .i64 17),.c (.tru true)])],C:=rI 17 0 7,adr:=[],F:=[⟨61,[cB 0,cB 1,cB 2,cB 3,cB 4,cB 5,cB 6,cB 7,cI .i64 8,cI .i64 9,cI .i64 10,cI .i64 11,cI .i64 12,cI .i64 13,cI .i64 14,cI .i64 15,cI .i64 16,cI .i64 17]⟩] }] }
def tc61n : TC:={ k:=2,pre:={ n:=17,P:=[(0,.s (.a [cB 0,cB 1,cB 2,cB 3,cB 4,cB 5,cB 6,cB 7,cI .i64 8,cI .i64 9,cI .i64 10,cI .i64 11,cI .i64 12,cI .i64 13,cI .i64 14,cI .i64 15])),(1,.s (.c (cI .i64 16)))],C:=rI 8 0 63 ++ (rI 9 0 63 ++ (rI 10 0 63 ++ (rI 11 0 63 ++ (rI 12 0 63 ++ (rI 13 0 63 ++ (rI 14 0 63 ++ (rI 15 0 63 ++ (rI 16 (-9223372036854775808) 9223372036854775807)))))))),adr:=[],F:=[⟨610,[cB 0,cB 1,cB 2,cB 3,cB 4,cB 5,cB 6,cB 7,cI .i64 8,cI .i64 9,cI .i64 10,cI .i64 11,cI .i64 12,cI .i64 13,cI .i64 14,cI .i64 15,cI .i64 16]⟩] },W:=[],post:=[{ n:=1,P:=[(0,.t [.c (cI .i64 17),.c (.tru false)])],C:=rI 17 (-9223372036854775808) 9223372036854775807,adr:=[] }] }
def tc62 : TC:={ k:=3,pre:={ n:=41,P:=[(0,.s (.a (rC 0))),(1,.s (.c (cI .i64 39))),(2,.s (.c (cI .i64 40)))],C:=rR 0 ++ (rI 39 (-9223372036854775808) 9223372036854775807 ++ (rI 40 (-9223372036854775808) 9223372036854775807)),adr:=[] },W:=[],post:=[{ n:=40,P:=[(0,.t [.a (rC 41),.c (cI .i64 80)])],C:=rR 41 ++ (rI 80 (-9223372036854775808) 9223372036854775807),adr:=[],F:=[⟨62,rC 0 ++ ([cI .i64 39,cI .i64 40] ++ (rC 41))⟩] }] }
def tc132 : TC:={ k:=3,pre:={ n:=5,P:=[(0,.s (.c (cP 326 0))),(1,.s (.c (cI .u16 1))),(2,.s (.c (cS 5 2)))],C:=rP 0 ++ (rI 1 0 65535 ++ (rS 2 1200)),adr:=[(0,0),(2,0)] },W:=[338,339,341],post:=[{ n:=0,P:=[(0,.t [])],C:=[],adr:=[] }] }
def tc84 : TC:={ k:=3,pre:={ n:=41,P:=[(0,.s (.a (rC 0))),(1,.s (.c (cI .i64 39))),(2,.s (.c (cI .i64 40)))],C:=rR 0 ++ (rI 39 (-9223372036854775808) 9223372036854775807 ++ (rI 40 (-9223372036854775808) 9223372036854775807)),adr:=[] },W:=[],post:=[{ n:=41,P:=[(0,.t [.a (rC 41),.c (cI .i64 80),.c (cI .i64 81)])],C:=rR 41 ++ (rI 80 (-9223372036854775808) 9223372036854775807 ++ (rI 81 (-9223372036854775808) 9223372036854775807)),adr:=[],F:=[⟨84,rC 0 ++ ([cI .i64 39,cI .i64 40] ++ (rC 41 ++ ([cI .i64 81])))⟩] }] }
def tc87 : TC:={ k:=3,pre:={ n:=41,P:=[(0,.s (.a (rC 0))),(1,.s (.c (cI .i64 39))),(2,.s (.c (cI .i64 40)))],C:=rR 0 ++ (rI 39 (-9223372036854775808) 9223372036854775807 ++ (rI 40 (-9223372036854775808) 9223372036854775807)),adr:=[] },W:=[],post:=[{ n:=40,P:=[(0,.t [.a (rC 41),.c (cI .i64 80)])],C:=rR 41 ++ (rI 80 (-9223372036854775808) 9223372036854775807),adr:=[],F:=[⟨87,rC 0 ++ ([cI .i64 39,cI .i64 40] ++ (rC 41))⟩] }] }
def tc88 : TC:={ k:=4,pre:={ n:=42,P:=[(0,.s (.a (rC 0))),(1,.s (.c (cI .i64 39))),(2,.s (.c (cI .i64 40))),(3,.s (.c (cI .i64 41)))],C:=rR 0 ++ (rI 39 (-9223372036854775808) 9223372036854775807 ++ (rI 40 (-9223372036854775808) 9223372036854775807 ++ (rI 41 (-9223372036854775808) 9223372036854775807))),adr:=[] },W:=[],post:=[{ n:=40,P:=[(0,.t [.a (rC 42),.c (cI .i64 81)])],C:=rR 42 ++ (rI 81 (-9223372036854775808) 9223372036854775807),adr:=[],F:=[⟨88,rC 0 ++ ([cI .i64 39,cI .i64 40,cI .i64 41] ++ (rC 42))⟩] }] }
def tc92 : TC:={ k:=3,pre:={ n:=41,P:=[(0,.s (.a (rC 0))),(1,.s (.c (cI .i64 39))),(2,.s (.c (cI .i64 40)))],C:=rR 0 ++ (rI 39 (-9223372036854775808) 9223372036854775807 ++ (rI 40 (-9223372036854775808) 9223372036854775807)),adr:=[] },W:=[],post:=[{ n:=41,P:=[(0,.t [.a (rC 41),.c (cB 80),.c (cI .i64 81)])],C:=rR 41 ++ (rB 80 ++ (rI 81 (-9223372036854775808) 9223372036854775807)),adr:=[],F:=[⟨92,rC 0 ++ ([cI .i64 39,cI .i64 40] ++ (rC 41))⟩] }] }
def tc51 : TC:={ k:=2,pre:={ n:=40,P:=[(0,.s (.a (rC 0))),(1,.s (.c (cI .i64 39)))],C:=rR 0 ++ (rI 39 (-9223372036854775808) 9223372036854775807),adr:=[] },W:=[],post:=[{ n:=42,P:=[(0,.t [.a (rC 40),.c (.zs 79 (.var 79) [] (.var 80) (.var 81))])],C:=rR 40 ++ (rS 79 1048576),adr:=[(79,0)],F:=[⟨51,rC 0 ++ ([cI .i64 39] ++ (rC 40))⟩] }] }
theorem eN : EnvTOk P (envL []):=envL_nil _
theorem tK {Γ : EnvT} {f : FuncId} {tc : TC} (hΓ : EnvTOk P Γ) (C : Cl) (h : tcT P Γ C f tc = true:=by kernel_rfl) (h0 : C.pcs = []:=by rfl) : TCok P f tc:=tcT_ok hΓ mixed h h0
end
end VtTop
namespace VtTop
noncomputable section
open Go Go.Proofs Zx Zx.Zr Vx Go.RowKit
set_option maxRecDepth 100000
theorem den_rC (ρ : Vl) (v : Nat) : (rC v).map (DC.den ρ) = roomL (roomV ρ v):=by
 simp [rC,rnB,rnI,roomL,tabL,stL,i8L,roomV,cB,cI,DC.den,Lin.var_den]
theorem leaf_rC (ρ : Vl) (v : Nat) (M : List Leaf) : gRm ((rC v).map (leafD ρ) ++ M) = roomV ρ v:=by
 simp [rC,rnB,rnI,gRm,gBs,gIs,gS,Zx.gB,Zx.gI,roomV,cB,cI,leafD,Lin.var_den]
theorem leaf_at (ρ : Vl) (v : Nat) (M : List Leaf) (j : Nat) : Zx.gI ((rC v).map (leafD ρ) ++ M) (39 + j) = Zx.gI M j:=by
 unfold Zx.gI
 rw [List.getElem?_append_right (by simp [rC,rnB,rnI]),show 39 + j - ((rC v).map (leafD ρ)).length = j by simp [rC,rnB,rnI]]
theorem leaf_39 (ρ : Vl) (v : Nat) (x : Int) (M : List Leaf) : Zx.gI ((rC v).map (leafD ρ) ++ .I x :: M) 39 = x:=leaf_at ρ v (.I x :: M) 0
theorem leaf_40 (ρ : Vl) (v : Nat) (l : Leaf) (x : Int) (M : List Leaf) : Zx.gI ((rC v).map (leafD ρ) ++ l :: .I x :: M) 40 = x:=leaf_at ρ v (l :: .I x :: M) 1
theorem leaf_41 (ρ : Vl) (v : Nat) (l l' : Leaf) (x : Int) (M : List Leaf) : Zx.gI ((rC v).map (leafD ρ) ++ l :: l' :: .I x :: M) 41 = x:=leaf_at ρ v (l :: l' :: .I x :: M) 2
theorem leaves_a (ρ : Vl) (cs : List DC) (xs : List D1) : leaves1 ρ (.a cs :: xs) = cs.map (leafD ρ) ++ leaves1 ρ xs:=rfl
theorem leaves_c (ρ : Vl) (k : IntKind) (v : Nat) (xs : List D1) : leaves1 ρ (.c (cI k v) :: xs) = .I (ρ.i v) :: leaves1 ρ xs:=by
 show Leaf.I ((Lin.var v).den ρ.i) :: _ = _
 rw [Lin.var_den]
theorem roomV_agr {ρ ρ' : Vl} {n v : Nat} (h : Agr n ρ ρ') (hv : v + 39 <= n) : roomV ρ' v = roomV ρ v:=by
 have k : ∀ j,j < 39 -> ρ'.i (v + j) = ρ.i (v + j):=fun j hj=>(h.i _ (by omega)).symm
 have k0:=k 0 (by omega)
 rw [Nat.add_zero] at k0
 simp only [roomV,k0,k 1 (by omega),k 2 (by omega),k 3 (by omega),k 4 (by omega),k 5 (by omega),k 6 (by omega),k 7 (by omega),k 8 (by omega),k 9 (by omega),k 10 (by omega),k 11 (by omega),k 12 (by omega),k 13 (by omega),k 14 (by omega),k 15 (by omega),k 16 (by omega),k 17 (by omega),k 18 (by omega),k 19 (by omega),k 20 (by omega),k 21 (by omega),k 22 (by omega),k 23 (by omega),k 24 (by omega),k 25 (by omega),k 26 (by omega),k 27 (by omega),k 28 (by omega),k 29 (by omega),k 30 (by omega),k 31 (by omega),k 32 (by omega),k 33 (by omega),k 34 (by omega),k 35 (by omega),k 36 (by omega),k 37 (by omega),k 38 (by omega)]
theorem iAt_rC (ρ : Vl) (v j : Nat) (xs : List DC) : iAt ((rC v ++ xs).map (valD ρ)) (39 + j) = iAt (xs.map (valD ρ)) j:=by
 unfold iAt
 have hl : ((rC v).map (valD ρ)).length = 39:=by simp [rC,rnB,rnI]
 rw [List.map_append,List.getD_eq_getElem?_getD,List.getElem?_append_right (by omega),hl,show 39 + j - 39 = j by omega,← List.getD_eq_getElem?_getD]
theorem iAt_0 (ρ : Vl) (v : Nat) (xs : List DC) : iAt ((cI .i64 v :: xs).map (valD ρ)) 0 = ρ.i v:=by
 simp only [iAt,List.map_cons,List.getD_cons_zero,valI_cI]
theorem bI_bd (b : Bool) : 0 <= bI b /\ bI b <= 1:=by cases b <;> decide
theorem sat_rB {ρ : Val} {v : Nat} (h : 0 <= ρ v /\ ρ v <= 1) : Sat ρ (rB v):=two_le (by simp only [Lin.var_den];omega) (by simp only [Lin.sub_den,Lin.var_den,Lin.num_den];omega)
theorem rv_0 (ρ : Vl) (v : Nat) (xs : List DC) : rvAt ((rC v ++ xs).map (valD ρ)) 0 = roomV ρ v:=rvAt_mid (pre:=[]) (post:=xs) rfl rfl
theorem rv_end (ρ : Vl) (v v' : Nat) (ys : List DC) {n : Nat} (h : 39 + ys.length = n) : rvAt ((rC v ++ (ys ++ rC v')).map (valD ρ)) n = roomV ρ v':=rvAt_mid (pre:=rC v ++ ys) (post:=[]) (by simp) (by rw [← h,List.length_append];simp [rC,rnB,rnI])
theorem rv_mid (ρ : Vl) (v v' : Nat) (ys zs : List DC) {n : Nat} (h : 39 + ys.length = n) : rvAt ((rC v ++ (ys ++ (rC v' ++ zs))).map (valD ρ)) n = roomV ρ v':=rvAt_mid (pre:=rC v ++ ys) (post:=zs) (by simp) (by rw [← h,List.length_append];simp [rC,rnB,rnI])
theorem i_39 (ρ : Vl) (v a : Nat) (xs zs : List DC) : iAt ((rC v ++ ((cI .i64 a :: xs) ++ zs)).map (valD ρ)) 39 = ρ.i a:=by
 rw [show (39 : Nat) = 39 + 0 from rfl,iAt_rC];exact iAt_0 ρ a _
theorem i_40 (ρ : Vl) (v a : Nat) (x : DC) (xs zs : List DC) : iAt ((rC v ++ ((x :: cI .i64 a :: xs) ++ zs)).map (valD ρ)) 40 = ρ.i a:=by
 rw [show (40 : Nat) = 39 + 1 from rfl,iAt_rC];exact iAt_0 ρ a (xs ++ zs)
theorem i_41 (ρ : Vl) (v a : Nat) (x y : DC) (xs zs : List DC) : iAt ((rC v ++ ((x :: y :: cI .i64 a :: xs) ++ zs)).map (valD ρ)) 41 = ρ.i a:=by
 rw [show (41 : Nat) = 39 + 2 from rfl,iAt_rC];exact iAt_0 ρ a (xs ++ zs)
theorem set_39 (ρ : Vl) (n : Nat) (r : RV) (y : Int) (ys : List Int) : (setL ρ n (roomN r ++ y :: ys)).i (n + 39) = y:=set_end ρ n r (y :: ys) 0
theorem set_40 (ρ : Vl) (n : Nat) (r : RV) (x y : Int) (ys : List Int) : (setL ρ n (roomN r ++ x :: y :: ys)).i (n + 40) = y:=set_end ρ n r (x :: y :: ys) 1
theorem ok62 : TCok P 62 tc62:=TCok.vals (xs:=[.a (rC 0),.c (cI .i64 39),.c (cI .i64 40)]) ⟨_,Tryz.func62,rfl,by kernel_rfl⟩ (by kernel_rfl) rfl rfl rfl fun ρ vs w hC hF hv=>by
 have hr : RIn (roomV ρ 0):=RIn.of_sat (sat_l hC)
 obtain ⟨hi,he⟩:=alive_in hr (ρ.i 39) (ρ.i 40)
 generalize hx : aliveRm (roomV ρ 0) (ρ.i 39) (ρ.i 40) = x at hi he
 refine (con0_calls aliveRm_ok rfl rfl (e:=x) (g:=fun r=>.t [.a (roomL r.1),.c (.int .i64 r.2)]) ?_ rfl hv).mono fun e w' ⟨v,h1,h2,h3⟩=>?_
 ·rw [leaves_a,leaves_c,leaves_c,← hx]
  simp only [aliveRmC,leaf_rC,leaf_39,leaf_40]
 ·have hA:=setL_agr ρ 41 (roomN x.1 ++ [x.2])
  have hR:=roomV_set ρ 41 hi [x.2]
  refine ⟨v,h1,h2,_,List.Mem.head _,setL ρ 41 (roomN x.1 ++ [x.2]),hA,sat_app (rR_set ρ 41 hi _) (sat_rI (by rw [show (80 : Nat) = 41 + 39 from rfl,set_39];exact he)),fun f hf=>?_,fun p hp=>?_,rfl,rfl,fun p hp=>(by cases hp)⟩
  ·rw [List.mem_singleton.1 hf]
   refine den_F rfl ?_
   show rvAt _ 41 = (aliveRm (rvAt _ 0) (iAt _ 39) (iAt _ 40)).1
   dsimp only
   rw [rv_end _ 0 41 [cI .i64 39,cI .i64 40] (n:=41) rfl,rv_0,i_39,i_40,hR,roomV_agr hA (by omega),← hA.i 39 (by omega),← hA.i 40 (by omega),hx]
  ·rw [List.mem_singleton.1 hp]
   refine ⟨rfl, ?_⟩
   show (SV.t [.a ((rC 41).map (DC.den _)),.c (.int .i64 ((Lin.var (41 + 39)).den _))]).ok noMu v
   rw [den_rC,hR,Lin.var_den,set_39 ρ 41]
   exact h3
theorem ok87 : TCok P 87 tc87:=TCok.vals (xs:=[.a (rC 0),.c (cI .i64 39),.c (cI .i64 40)]) ⟨_,Tryz.func87,rfl,by kernel_rfl⟩ (by kernel_rfl) rfl rfl rfl fun ρ vs w hC hF hv=>by
 have hr : RIn (roomV ρ 0):=RIn.of_sat (sat_l hC)
 obtain ⟨hi,he⟩:=leave_in hr (ρ.i 39) (ρ.i 40)
 generalize hx : leaveRm (roomV ρ 0) (ρ.i 39) (ρ.i 40) = x at hi he
 refine (con0_calls leaveRm_ok rfl rfl (e:=x) (g:=fun r=>.t [.a (roomL r.1),.c (.int .i64 r.2)]) ?_ rfl hv).mono fun e w' ⟨v,h1,h2,h3⟩=>?_
 ·rw [leaves_a,leaves_c,leaves_c,← hx]
  simp only [leaveRmC,leaf_rC,leaf_39,leaf_40]
 ·have hA:=setL_agr ρ 41 (roomN x.1 ++ [x.2])
  have hR:=roomV_set ρ 41 hi [x.2]
  refine ⟨v,h1,h2,_,List.Mem.head _,setL ρ 41 (roomN x.1 ++ [x.2]),hA,sat_app (rR_set ρ 41 hi _) (sat_rI (by rw [show (80 : Nat) = 41 + 39 from rfl,set_39];exact he)),fun f hf=>?_,fun p hp=>?_,rfl,rfl,fun p hp=>(by cases hp)⟩
  ·rw [List.mem_singleton.1 hf]
   refine den_F rfl ?_
   show rvAt _ 41 = (leaveRm (rvAt _ 0) (iAt _ 39) (iAt _ 40)).1
   dsimp only
   rw [rv_end _ 0 41 [cI .i64 39,cI .i64 40] (n:=41) rfl,rv_0,i_39,i_40,hR,roomV_agr hA (by omega),← hA.i 39 (by omega),← hA.i 40 (by omega),hx]
  ·rw [List.mem_singleton.1 hp]
   refine ⟨rfl, ?_⟩
   show (SV.t [.a ((rC 41).map (DC.den _)),.c (.int .i64 ((Lin.var (41 + 39)).den _))]).ok noMu v
   rw [den_rC,hR,Lin.var_den,set_39 ρ 41]
   exact h3
theorem ok88 : TCok P 88 tc88:=TCok.vals (xs:=[.a (rC 0),.c (cI .i64 39),.c (cI .i64 40),.c (cI .i64 41)]) ⟨_,Tryz.func88,rfl,by kernel_rfl⟩ (by kernel_rfl) rfl rfl rfl fun ρ vs w hC hF hv=>by
 have hr : RIn (roomV ρ 0):=RIn.of_sat (sat_l hC)
 obtain ⟨hi,he⟩:=kick_in hr (ρ.i 39) (ρ.i 40) (ρ.i 41)
 generalize hx : kickRm (roomV ρ 0) (ρ.i 39) (ρ.i 40) (ρ.i 41) = x at hi he
 refine (con0_calls kickRm_ok rfl rfl (e:=x) (g:=fun r=>.t [.a (roomL r.1),.c (.int .i64 r.2)]) ?_ rfl hv).mono fun e w' ⟨v,h1,h2,h3⟩=>?_
 ·rw [leaves_a,leaves_c,leaves_c,leaves_c,← hx]
  simp only [kickRmC,leaf_rC,leaf_39,leaf_40,leaf_41]
 ·have hA:=setL_agr ρ 42 (roomN x.1 ++ [x.2])
  have hR:=roomV_set ρ 42 hi [x.2]
  refine ⟨v,h1,h2,_,List.Mem.head _,setL ρ 42 (roomN x.1 ++ [x.2]),hA,sat_app (rR_set ρ 42 hi _) (sat_rI (by rw [show (81 : Nat) = 42 + 39 from rfl,set_39];exact he)),fun f hf=>?_,fun p hp=>?_,rfl,rfl,fun p hp=>(by cases hp)⟩
  ·rw [List.mem_singleton.1 hf]
   refine den_F rfl ?_
   show rvAt _ 42 = (kickRm (rvAt _ 0) (iAt _ 39) (iAt _ 40) (iAt _ 41)).1
   dsimp only
   rw [rv_end _ 0 42 [cI .i64 39,cI .i64 40,cI .i64 41] (n:=42) rfl,rv_0,i_39,i_40,i_41,hR,roomV_agr hA (by omega),← hA.i 39 (by omega),← hA.i 40 (by omega),← hA.i 41 (by omega),hx]
  ·rw [List.mem_singleton.1 hp]
   refine ⟨rfl, ?_⟩
   show (SV.t [.a ((rC 42).map (DC.den _)),.c (.int .i64 ((Lin.var (42 + 39)).den _))]).ok noMu v
   rw [den_rC,hR,Lin.var_den,set_39 ρ 42]
   exact h3
theorem ok84 : TCok P 84 tc84:=TCok.vals (xs:=[.a (rC 0),.c (cI .i64 39),.c (cI .i64 40)]) ⟨_,Tryz.func84,rfl,by kernel_rfl⟩ (by kernel_rfl) rfl rfl rfl fun ρ vs w hC hF hv=>by
 have hr : RIn (roomV ρ 0):=RIn.of_sat (sat_l hC)
 obtain ⟨hi,he,hg⟩:=join_in hr (ρ.i 39) (ρ.i 40)
 generalize hx : joinRm (roomV ρ 0) (ρ.i 39) (ρ.i 40) = x at hi he hg
 refine (con0_calls joinRm_ok rfl rfl (e:=x) (g:=fun r=>.t [.a (roomL r.1),.c (.int .i64 r.2.1),.c (.int .i64 r.2.2)]) ?_ rfl hv).mono fun e w' ⟨v,h1,h2,h3⟩=>?_
 ·rw [leaves_a,leaves_c,leaves_c,← hx]
  simp only [joinRmC,leaf_rC,leaf_39,leaf_40]
 ·have hA:=setL_agr ρ 41 (roomN x.1 ++ [x.2.1,x.2.2])
  have hR:=roomV_set ρ 41 hi [x.2.1,x.2.2]
  refine ⟨v,h1,h2,_,List.Mem.head _,setL ρ 41 (roomN x.1 ++ [x.2.1,x.2.2]),hA,sat_app (rR_set ρ 41 hi _) (sat_app (sat_rI (by rw [show (80 : Nat) = 41 + 39 from rfl,set_39];exact he)) (sat_rI (by rw [show (81 : Nat) = 41 + 40 from rfl,set_40];exact hg))),fun f hf=>?_,fun p hp=>?_,rfl,rfl,fun p hp=>(by cases hp)⟩
  ·rw [List.mem_singleton.1 hf]
   refine den_F rfl ?_
   show rvAt _ 41 = (joinRm (rvAt _ 0) (iAt _ 39) (iAt _ 40)).1
   dsimp only
   rw [rv_mid _ 0 41 [cI .i64 39,cI .i64 40] [cI .i64 81] (n:=41) rfl,rv_0,i_39,i_40,hR,roomV_agr hA (by omega),← hA.i 39 (by omega),← hA.i 40 (by omega),hx]
  ·rw [List.mem_singleton.1 hp]
   refine ⟨rfl, ?_⟩
   show (SV.t [.a ((rC 41).map (DC.den _)),.c (.int .i64 ((Lin.var (41 + 39)).den _)),.c (.int .i64 ((Lin.var (41 + 40)).den _))]).ok noMu v
   rw [den_rC,hR,Lin.var_den,Lin.var_den,set_39 ρ 41,set_40 ρ 41]
   exact h3
theorem ok92 : TCok P 92 tc92:=TCok.vals (xs:=[.a (rC 0),.c (cI .i64 39),.c (cI .i64 40)]) ⟨_,Tryz.func92,rfl,by kernel_rfl⟩ (by kernel_rfl) rfl rfl rfl fun ρ vs w hC hF hv=>by
 have hr : RIn (roomV ρ 0):=RIn.of_sat (sat_l hC)
 obtain ⟨hi,he⟩:=have_in hr (ρ.i 39) (ρ.i 40)
 generalize hx : haveRm (roomV ρ 0) (ρ.i 39) (ρ.i 40) = x at hi he
 refine (con0_calls haveRm_ok rfl rfl (e:=x) (g:=fun r=>.t [.a (roomL r.1),.c (.boo r.2.1),.c (.int .i64 r.2.2)]) ?_ rfl hv).mono fun e w' ⟨v,h1,h2,h3⟩=>?_
 ·rw [leaves_a,leaves_c,leaves_c,← hx]
  simp only [haveRmC,leaf_rC,leaf_39,leaf_40]
 ·have hA:=setL_agr ρ 41 (roomN x.1 ++ [bI x.2.1,x.2.2])
  have hR:=roomV_set ρ 41 hi [bI x.2.1,x.2.2]
  refine ⟨v,h1,h2,_,List.Mem.head _,setL ρ 41 (roomN x.1 ++ [bI x.2.1,x.2.2]),hA,sat_app (rR_set ρ 41 hi _) (sat_app (sat_rB (by rw [show (80 : Nat) = 41 + 39 from rfl,set_39];exact bI_bd _)) (sat_rI (by rw [show (81 : Nat) = 41 + 40 from rfl,set_40];exact he))),fun f hf=>?_,fun p hp=>?_,rfl,rfl,fun p hp=>(by cases hp)⟩
  ·rw [List.mem_singleton.1 hf]
   refine den_F rfl ?_
   show rvAt _ 41 = (haveRm (rvAt _ 0) (iAt _ 39) (iAt _ 40)).1
   dsimp only
   rw [rv_end _ 0 41 [cI .i64 39,cI .i64 40] (n:=41) rfl,rv_0,i_39,i_40,hR,roomV_agr hA (by omega),← hA.i 39 (by omega),← hA.i 40 (by omega),hx]
  ·rw [List.mem_singleton.1 hp]
   refine ⟨rfl, ?_⟩
   show (SV.t [.a ((rC 41).map (DC.den _)),.c (.boo (true == decide ((setL ρ 41 (roomN x.1 ++ [bI x.2.1,x.2.2])).i (41 + 39) = 1))),.c (.int .i64 ((Lin.var (41 + 40)).den _))]).ok noMu v
   rw [den_rC,hR,Lin.var_den,set_39 ρ 41,set_40 ρ 41,bI_dec,Bool.true_beq]
   exact h3
end
end VtTop
namespace VtTop
noncomputable section
open Go Go.Proofs Zx Zx.Zr Vx Go.RowKit
set_option maxRecDepth 100000
theorem ok16c : TCok P 16 tc16c:=TCok.vals (xs:=[.a [cI .i64 0,cB 1,cI .i64 2,cI .i64 3,cI .i64 4,cI .i64 5]]) ⟨_,Tryz.func16,rfl,by kernel_rfl⟩ (by kernel_rfl) rfl rfl rfl fun ρ vs w hC hF hv=>by
 have h0 : iAt _ 6 = comS (kAt _ 0):=hF _ (List.Mem.head _)
 have h1 : ρ.i 6 = comS (kAt ([cI .i64 0,cB 1,cI .i64 2,cI .i64 3,cI .i64 4,cI .i64 5,cI .i64 6].map (valD ρ)) 0):=by
  rw [← h0]
  simp only [iAt,List.map_cons,List.getD_cons_succ,List.getD_cons_zero,valI_cI]
 refine (con0_calls com_ok rfl rfl (e:=comS (kAt ([cI .i64 0,cB 1,cI .i64 2,cI .i64 3,cI .i64 4,cI .i64 5,cI .i64 6].map (valD ρ)) 0)) (g:=fun r=>one (.int .i64 r)) rfl rfl hv).mono fun e w' ⟨v,h2,h3,h4⟩=>?_
 refine ⟨v,h2,h3,_,List.Mem.head _,ρ,Agr.refl _ _,fun l hl=>(by cases hl),fun f hf=>(by cases hf),fun p hp=>?_,rfl,rfl,fun p hp=>(by cases hp)⟩
 rw [List.mem_singleton.1 hp]
 refine ⟨rfl, ?_⟩
 show (one (.int .i64 ((Lin.var 6).den ρ.i))).ok noMu v
 rw [Lin.var_den,h1]
 exact h4
def tabD : List DC:=[cB 0,cB 1,cB 2,cB 3,cB 4,cB 5,cB 6,cB 7,cI .i64 8,cI .i64 9,cI .i64 10,cI .i64 11,cI .i64 12,cI .i64 13,cI .i64 14,cI .i64 15]
theorem valD_agr {ρ σ : Vl} {n : Nat} (h : Agr n ρ σ) {x : DC} (hx : x.lt n) : valD ρ x = valD σ x:=by
 cases x <;> first
  | rfl
  | (simp only [valD];rw [Lin.den_eq h.i hx])
  | (simp only [valD];rw [h.i _ hx])
theorem map_agr {ρ σ : Vl} {n : Nat} (h : Agr n ρ σ) {xs : List DC} (hx : ∀ x ∈ xs,x.lt n) : xs.map (valD ρ) = xs.map (valD σ):=List.map_congr_left fun x hm=>valD_agr h (hx x hm)
theorem tru_t {x : S1} {b : Bool} {μ : Mu} {v : Value} (h : (SV.t [x,.c (.boo b)]).ok μ v) : (SV.t [x,.c (.tru b)]).ok μ v:=by
 obtain ⟨us,e,h⟩:=h
 match us,h with
 | [p,q],⟨h1,h2,_⟩=>exact ⟨[p,q],e,h1,h2,trivial⟩
theorem findGo_no : ∀ (u : List Bool) (a : List Int) (k x : Int),(findGo k u a x).2 = false -> (findGo k u a x).1 = 0
 | [],_,_,_,_=>rfl
 | _ :: _,[],_,_,_=>rfl
 | u :: us,b :: bs,k,x,h=>by
  unfold findGo at h ⊢
  split
  ·rename_i hc;rw [if_pos hc] at h;cases h
  ·rename_i hc;rw [if_neg hc] at h;exact findGo_no us bs (k + 1) x h
theorem findG_no {u : List Bool} {a : List Int} {x : Int} (h : (findG u a x).2 = false) : (findG u a x).1 = 0:=by
 unfold findG at h ⊢
 split
 ·rename_i hg;rw [if_pos hg] at h;exact findGo_no _ _ _ _ h
 ·rfl
abbrev fndV (ρ : Vl) : Int × Bool:=findG (uAt ((tabD ++ [cI .i64 16]).map (valD ρ)) 0) (lAt ((tabD ++ [cI .i64 16]).map (valD ρ)) 8) (iAt ((tabD ++ [cI .i64 16]).map (valD ρ)) 16)
theorem ok61n : TCok P 61 tc61n:=TCok.vals (xs:=[.a tabD,.c (cI .i64 16)]) ⟨_,Tryz.func61,rfl,by kernel_rfl⟩ (by kernel_rfl) rfl rfl rfl fun ρ vs w hC hF hv=>by
 have h0 : (fndV ρ).2 = false:=hF _ (List.Mem.head _)
 refine (con0_calls findG_ok rfl rfl (e:=fndV ρ) (g:=fun r=>.t [.c (.int .i64 r.1),.c (.boo r.2)]) rfl rfl hv).mono fun e w' ⟨v,h2,h3,h4⟩=>?_
 have h1:=findG_no h0
 have hx : fndV ρ = (0,false):=by rw [← h0,← h1]
 rw [hx] at h4
 have h17:=setL_at0 ρ 17 [0]
 refine ⟨v,h2,h3,_,List.Mem.head _,setL ρ 17 [0],setL_agr ρ 17 [0],sat_rI (by rw [h17];decide),fun f hf=>(by cases hf),fun p hp=>?_,rfl,rfl,fun p hp=>(by cases hp)⟩
 rw [List.mem_singleton.1 hp]
 refine ⟨rfl, ?_⟩
 show (SV.t [.c (.int .i64 ((Lin.var 17).den _)),.c (.tru false)]).ok noMu v
 rw [Lin.var_den,h17]
 exact tru_t h4
theorem findG_bd {u : List Bool} {a : List Int} {x : Int} (h8 : u.length = 8) (h : (findG u a x).2 = true) : 0 <= (findG u a x).1 /\ (findG u a x).1 <= 7:=by
 unfold findG at h ⊢
 split
 ·rename_i hg
  rw [if_pos hg] at h
  have:=findGo_bd u a 0 x h
  rw [h8] at this
  omega
 ·rename_i hg
  rw [if_neg hg] at h
  cases h
theorem tabD_lt : ∀ x ∈ tabD ++ [cI .i64 16],x.lt 17:=by
 intro x hx
 simp only [tabD,List.cons_append,List.nil_append,List.mem_cons,List.not_mem_nil,or_false] at hx
 rcases hx with rfl | rfl | rfl | rfl | rfl | rfl | rfl | rfl | rfl | rfl | rfl | rfl | rfl | rfl | rfl | rfl | rfl <;> first | exact Lin.var_lt (by decide) | (show _ < _;decide)
theorem ok61f : TCok P 61 tc61f:=TCok.vals (xs:=[.a tabD,.c (cI .i64 16)]) ⟨_,Tryz.func61,rfl,by kernel_rfl⟩ (by kernel_rfl) rfl rfl rfl fun ρ vs w hC hF hv=>by
 have h0 : (fndV ρ).2 = true:=hF _ (List.Mem.head _)
 refine (con0_calls findG_ok rfl rfl (e:=fndV ρ) (g:=fun r=>.t [.c (.int .i64 r.1),.c (.boo r.2)]) rfl rfl hv).mono fun e w' ⟨v,h2,h3,h4⟩=>?_
 have hb : 0 <= (fndV ρ).1 /\ (fndV ρ).1 <= 7:=findG_bd (u:=uAt ((tabD ++ [cI .i64 16]).map (valD ρ)) 0) rfl h0
 have hx2 : fndV ρ = ((fndV ρ).1,true):=by rw [← h0]
 have hA:=setL_agr ρ 17 [(fndV ρ).1]
 have h17 : (setL ρ 17 [(fndV ρ).1]).i 17 = (fndV ρ).1:=setL_at0 ρ 17 [(fndV ρ).1]
 refine ⟨v,h2,h3,_,List.Mem.head _,setL ρ 17 [(fndV ρ).1],hA,sat_rI (by rw [h17];exact hb),fun f hf=>?_,fun p hp=>?_,rfl,rfl,fun p hp=>(by cases hp)⟩
 ·rw [List.mem_singleton.1 hf]
  refine den_F rfl ?_
  show fndV (setL ρ 17 [(fndV ρ).1]) = (valI (valD (setL ρ 17 [(fndV ρ).1]) (cI .i64 17)),true)
  rw [valI_cI,h17]
  have e1 : fndV (setL ρ 17 [(fndV ρ).1]) = fndV ρ:=by
   simp only [fndV]
   rw [← map_agr hA tabD_lt]
  rw [e1]
  exact hx2
 ·rw [List.mem_singleton.1 hp]
  refine ⟨rfl, ?_⟩
  show (SV.t [.c (.int .i64 ((Lin.var 17).den _)),.c (.tru true)]).ok noMu v
  rw [Lin.var_den,h17]
  rw [hx2] at h4
  exact tru_t h4
end
end VtTop
namespace VtTop
noncomputable section
open Go Go.Proofs Zx Zx.Zr Vx Go.RowKit
set_option maxRecDepth 100000
def toPA : PV -> PA
 | .c k=>.v k
 | .a ks=>.a ks
theorem matchA_of : ∀ {ps : List PV} {xs : List SV} {L : List Leaf},matchV ps xs = some L -> matchA (ps.map toPA) xs [] = some ⟨L,[],[]⟩ /\ rowNames (ps.map toPA) xs = []
 | [],[],L,h=>by cases h;exact ⟨rfl,rfl⟩
 | .c k :: ps,.s (.c c) :: xs,L,h=>by
  simp only [matchV] at h
  split at h
  ·rename_i l M h1 h2
   cases h
   obtain ⟨a1,a2⟩:=matchA_of h2
   exact ⟨by simp only [List.map_cons,toPA,matchA,h1,a1],by simp only [List.map_cons,toPA,rowNames,a2]⟩
  ·cases h
 | .a ks :: ps,.s (.a cs) :: xs,L,h=>by
  simp only [matchV] at h
  split at h
  ·rename_i l M h1 h2
   cases h
   obtain ⟨a1,a2⟩:=matchA_of h2
   exact ⟨by simp only [List.map_cons,toPA,matchA,h1,a1],by simp only [List.map_cons,toPA,rowNames,a2]⟩
  ·cases h
 | [],_ :: _,_,h=>by simp [matchV] at h
 | .c _ :: _,[],_,h=>by simp [matchV] at h
 | .a _ :: _,[],_,h=>by simp [matchV] at h
 | .c _ :: _,.s (.a _) :: _,_,h=>by simp [matchV] at h
 | .c _ :: _,.t _ :: _,_,h=>by simp [matchV] at h
 | .c _ :: _,.u :: _,_,h=>by simp [matchV] at h
 | .a _ :: _,.s (.c _) :: _,_,h=>by simp [matchV] at h
 | .a _ :: _,.t _ :: _,_,h=>by simp [matchV] at h
 | .a _ :: _,.u :: _,_,h=>by simp [matchV] at h
theorem tick_calls {ρ : Vl} {vs : List Value} {w : World} {x : RV × List Int} (hx : tickRm (roomV ρ 0) (ρ.i 39) = x) (hv : ∃ μ : Mu,AllD1 ρ μ [.a (rC 0),.c (cI .i64 39)] vs) :
  Calls P 51 vs.toArray w fun e' w'=>∃ v,e' = .returned v /\ Below w.heap.size w w' /\ ∃ (p q : Value) (a : Option Addr) (c : Nat),v = .tuple [p,q].toArray /\ (S1.a (roomL x.1)).ok noMu p /\ q = .slice a x.2.length c /\ x.2.length <= c /\ c <= maxLen /\ (0 < c -> ∃ b o,a = some ⟨b,o,none⟩ /\ b < w'.heap.size):=by
 obtain ⟨μ,hv⟩:=hv
 obtain ⟨h1,h2,h3⟩:=fitP_ok (ps:=[.a roomK,.c (.i .i64)]) rfl hv
 obtain ⟨h4,h5⟩:=matchA_of h2
 have e0 : tickRmC.spec 0 (instVs [.a roomK,.c (.i .i64)] (leaves1 ρ [.a (rC 0),.c (cI .i64 39)])) = ⟨[],[],fun bl=>match matchA [.a roomK,.v (.i .i64)] (instVs [.a roomK,.c (.i .i64)] (leaves1 ρ [.a (rC 0),.c (cI .i64 39)])) bl with
  | some m=>astL m.p (preO1 none m.L m.R ((tickRmC.out m.L m.R).bind (mkRes 0)))
  | none=>.fail⟩:=by
  have h5' : rowNames tickRmC.pat (instVs [.a roomK,.c (.i .i64)] (leaves1 ρ [.a (rC 0),.c (cI .i64 39)])) = []:=h5
  unfold Con1.spec
  rw [h5']
  rfl
 have hk : (tickRmC.spec 0 (instVs [.a roomK,.c (.i .i64)] (leaves1 ρ [.a (rC 0),.c (cI .i64 39)]))).pre (fun _=>none) (fun r=>∃ c,x.2.length <= c /\ r = ⟨.t [.a (roomL x.1),.c (.own 0 x.2.length c false)],[],[.oints .i64 x.2]⟩):=by
  rw [e0]
  have h4' : matchA [.a roomK,.v (.i .i64)] (instVs [.a roomK,.c (.i .i64)] (leaves1 ρ [.a (rC 0),.c (cI .i64 39)])) [] = some ⟨leaves1 ρ [.a (rC 0),.c (cI .i64 39)],[],[]⟩:=h4
  show Out.wp (match matchA [.a roomK,.v (.i .i64)] (instVs [.a roomK,.c (.i .i64)] (leaves1 ρ [.a (rC 0),.c (cI .i64 39)])) [] with
   | some m=>astL m.p (preO1 none m.L m.R ((tickRmC.out m.L m.R).bind (mkRes 0)))
   | none=>.fail) _
  rw [h4']
  dsimp only [astL,preO1]
  rw [leaves_a,leaves_c]
  refine Out.wp_bind.2 ?_
  simp only [tickRmC,leaf_rC,leaf_39]
  rw [hx]
  intro y hy
  subst hy
  show Out.wp (mkRes 0 [.c (.a (roomL y.1)),.r .i64 y.2]) _
  intro c hc
  exact ⟨c,hc,rfl⟩
 refine (tickRm_ok noMu (fun _=>none) w 0 _ vs (noHeap w) h1 (fun n _=>rfl) _ hk).mono fun e' w' he=>?_
 obtain ⟨v,μ',r,rfl,⟨c,hc,rfl⟩,hE⟩:=he
 refine ⟨v,rfl,⟨hE.os,hE.tape,hE.output,hE.size,fun x hx=>hE.keep x hx (fun n b l _ h=>by cases h) (fun _=>rfl)⟩, ?_⟩
 obtain ⟨us,e1,e2⟩:=hE.val
 match us,e2 with
 | [p,q],⟨k1,k2,_⟩=>
  obtain ⟨l,a,g1,g2,g3,g4,g5,g6⟩:=k2
  refine ⟨p,q,a,c,e1,plain1_ok rfl k1,g2.trans g3,g5,g6,fun h0=>⟨l.b,l.off,g4 h0, ?_⟩⟩
  obtain ⟨l',n1,n2,_⟩:=hE.news 0 _ rfl
  rw [Nat.zero_add,g1] at n1
  cases n1
  obtain ⟨t,n2⟩:=n2
  obtain ⟨a2,c2,q1,q2,q3,q4⟩:=own_vals n2
  rw [g3] at q1
  injection q1 with r1 r2 r3
  subst r3
  obtain ⟨_,cur,q5,_⟩:=q4 h0
  exact heap_lt q5
theorem nos_ok {b o n c : Nat} {a : Option Addr} {E : List CS} (hE : E = []) (h1 : n <= c) (h2 : c <= maxLen) (h3 : 0 < c -> a = some ⟨b,o,none⟩) : (SC.zsa b o E n c).ok noMu (.slice a n c):=⟨a,rfl,h1,h2,fun h0=>⟨h3 h0,fun i _ j c' hj=>by rw [hE] at hj;simp at hj⟩⟩
theorem ok51 : TCok P 51 tc51:=TCok.vals (xs:=[.a (rC 0),.c (cI .i64 39)]) ⟨_,Tryz.func51,rfl,by kernel_rfl⟩ (by kernel_rfl) rfl rfl rfl fun ρ vs w hC hF hv=>by
 have hr : RIn (roomV ρ 0):=RIn.of_sat (sat_l hC)
 obtain ⟨hi,he⟩:=tick_in hr (ρ.i 39)
 generalize hx : tickRm (roomV ρ 0) (ρ.i 39) = x at hi he
 refine (tick_calls hx hv).mono fun e w' ⟨v,h1,h2,pv,qv,a,c,k1,k2,k3,k4,k5,k6⟩=>?_
 obtain ⟨b,o,hb,ha⟩ : ∃ (b : Int) (o : Nat),b < (w'.heap.size : Int) /\ ((0 <= b \/ c = 0) /\ (0 < c -> a = some ⟨b.toNat,o,none⟩)):=by
  rcases Nat.eq_zero_or_pos c with h0 | h0
  ·exact ⟨-1,0,by omega,.inr h0,fun h=>by omega⟩
  ·obtain ⟨b,o,e1,e2⟩:=k6 h0
   exact ⟨(b : Int),o,by omega,.inl (by omega),fun _=>by rw [e1];simp⟩
 have hA0:=setL_agr ρ 40 (roomN x.1 ++ [0,(x.2.length : Int),(c : Int)])
 let ρ' : Vl:=⟨(setL ρ 40 (roomN x.1 ++ [0,(x.2.length : Int),(c : Int)])).i,ρ.s,fun u=>if u < 40 then ρ.a u else (b,o),ρ.A⟩
 have hA : Agr 40 ρ ρ':=⟨hA0.i,fun _ _=>rfl,fun u hu=>by simp [ρ',hu],rfl⟩
 have hR : roomV ρ' 40 = x.1:=roomV_set ρ 40 hi [0,(x.2.length : Int),(c : Int)]
 have s79 : ρ'.i 79 = 0:=set_39 ρ 40 x.1 0 [(x.2.length : Int),(c : Int)]
 have s80 : ρ'.i 80 = (x.2.length : Int):=set_40 ρ 40 x.1 0 _ [(c : Int)]
 have s81 : ρ'.i 81 = (c : Int):=set_end ρ 40 x.1 [0,(x.2.length : Int),(c : Int)] 2
 have hm : (maxLen : Int) = 9223372036854775807:=by decide
 refine ⟨v,h1,h2,_,List.Mem.head _,ρ',hA,sat_app (rR_set ρ 40 hi [0,(x.2.length : Int),(c : Int)]) (fun l hl=>?_),fun f hf=>?_,fun p hp=>?_,rfl,rfl,fun p hp=>?_⟩
 ·simp only [rS,List.mem_cons,List.not_mem_nil,or_false] at hl
  rcases hl with rfl | rfl | rfl | rfl | rfl <;> simp only [Lin.var_den,Lin.sub_den,Lin.num_den,s79,s80,s81,Nat.reduceAdd] <;> omega
 ·rw [List.mem_singleton.1 hf]
  refine den_F rfl ?_
  show rvAt _ 40 = (tickRm (rvAt _ 0) (iAt _ 39)).1
  dsimp only
  rw [rv_end _ 0 40 [cI .i64 39] (n:=40) rfl,rv_0,i_39,hR,roomV_agr hA (by omega),← hA.i 39 (by omega),hx]
 ·rw [List.mem_singleton.1 hp]
  refine ⟨rfl,[pv,qv],k1, ?_, ?_,trivial⟩
  ·show (S1.a ((rC 40).map (DC.den ρ'))).ok noMu pv
   rw [den_rC,hR];exact k2
  ·show (SC.ok noMu (DC.den ρ' (.zs 79 (.var 79) [] (.var 80) (.var 81))) qv)
   have h79 : ρ'.a 79 = (b,o):=rfl
   simp only [DC.den,h79,Lin.var_den,s79,s80,s81]
   rw [if_pos (by omega),k3]
   exact nos_ok rfl k4 k5 (fun h0=>by simpa using ha.2 h0)
 ·rw [List.mem_singleton.1 hp]
  exact ⟨rfl,hb⟩
end
end VtTop
namespace VtTop
noncomputable section
open Go Go.Proofs Zx Zx.Zr Vx Go.RowKit
set_option maxRecDepth 100000
def zrV : RV:=⟨List.replicate 8 false,List.replicate 8 0,⟨0,false,0,0,0,0⟩,List.replicate 8 0,List.replicate 8 0,false⟩
def wkC : SC -> SC
 | .int k n=>.num k n
 | .boo b=>.tru b
 | c=>c
theorem wkC_ok (μ : Mu) (c : SC) (v : Value) : (wkC c).ok μ v ↔ c.ok μ v:=by
 cases c <;> exact Iff.rfl
theorem wk2 (μ : Mu) : ∀ (cs : List SC) (vs : List Value),All2 (SC.ok μ) (cs.map wkC) vs ↔ All2 (SC.ok μ) cs vs
 | [],[]=>Iff.rfl
 | [],_ :: _=>Iff.rfl
 | _ :: _,[]=>Iff.rfl
 | c :: cs,v :: vs=>and_congr (wkC_ok μ c v) (wk2 μ cs vs)
def wk1 : S1 -> S1
 | .c x=>.c (wkC x)
 | .a cs=>.a (cs.map wkC)
theorem wk1_ok (μ : Mu) : ∀ (x : S1) (v : Value),(wk1 x).ok μ v ↔ x.ok μ v
 | .c x,v=>wkC_ok μ x v
 | .a cs,v=>exists_congr fun vs=>and_congr Iff.rfl (wk2 μ cs vs)
theorem wkS (μ : Mu) : ∀ (cs : List S1) (vs : List Value),AllS (S1.ok μ) (cs.map wk1) vs ↔ AllS (S1.ok μ) cs vs
 | [],[]=>Iff.rfl
 | [],_ :: _=>Iff.rfl
 | _ :: _,[]=>Iff.rfl
 | c :: cs,v :: vs=>and_congr (wk1_ok μ c v) (wkS μ cs vs)
def wkV : SV -> SV
 | .s x=>.s (wk1 x)
 | .t xs=>.t (xs.map wk1)
 | .u=>.u
theorem wkV_ok (μ : Mu) : ∀ (x : SV) (v : Value),(wkV x).ok μ v ↔ x.ok μ v
 | .s x,v=>wk1_ok μ x v
 | .t xs,v=>exists_congr fun vs=>and_congr Iff.rfl (wkS μ xs vs)
 | .u,_=>Iff.rfl
theorem okJoin0 : TCok P 84 tcJoin0:=TCok.vals (xs:=[.a zR39,.c (.num .i64 5),.c (.num .i64 0)]) ⟨_,Tryz.func84,rfl,by kernel_rfl⟩ (by kernel_rfl) rfl rfl rfl fun ρ vs w hC hF hv=>by
 refine (con0_calls joinRm_ok rfl rfl (e:=joinRm zrV 5 0) (g:=fun r=>.t [.a (roomL r.1),.c (.int .i64 r.2.1),.c (.int .i64 r.2.2)]) ?_ rfl hv).mono fun e w' ⟨v,h1,h2,h3⟩=>?_
 ·rfl
 ·refine ⟨v,h1,h2,_,List.Mem.head _,ρ,Agr.refl _ ρ,fun _ hl=>(by cases hl),fun f hf=>(by cases hf),fun p hp=>?_,rfl,rfl,fun p hp=>(by cases hp)⟩
  rw [List.mem_singleton.1 hp]
  have e : DV.den ρ (.t [.a zJ39,.c (.num .i64 0),.c (.num .i64 0)]) = wkV (SV.t [.a (roomL (joinRm zrV 5 0).1),.c (.int .i64 (joinRm zrV 5 0).2.1),.c (.int .i64 (joinRm zrV 5 0).2.2)]):=by kernel_rfl
  refine ⟨rfl, ?_⟩
  show SV.ok noMu (DV.den ρ (.t [.a zJ39,.c (.num .i64 0),.c (.num .i64 0)])) v
  rw [e]
  exact (wkV_ok _ _ _).2 h3
theorem okFind0 : TCok P 61 tcFind0:=TCok.vals (xs:=[.a zS16,.c (.num .i64 5)]) ⟨_,Tryz.func61,rfl,by kernel_rfl⟩ (by kernel_rfl) rfl rfl rfl fun ρ vs w hC hF hv=>by
 refine (con0_calls findG_ok rfl rfl (e:=findG zrV.u zrV.a 5) (g:=fun r=>.t [.c (.int .i64 r.1),.c (.boo r.2)]) ?_ rfl hv).mono fun e w' ⟨v,h1,h2,h3⟩=>?_
 ·rfl
 ·refine ⟨v,h1,h2,_,List.Mem.head _,ρ,Agr.refl _ ρ,fun _ hl=>(by cases hl),fun f hf=>(by cases hf),fun p hp=>?_,rfl,rfl,fun p hp=>(by cases hp)⟩
  rw [List.mem_singleton.1 hp]
  have e : DV.den ρ (.t [.c (.num .i64 0),.c (.tru false)]) = wkV (SV.t [.c (.int .i64 (findG zrV.u zrV.a 5).1),.c (.boo (findG zrV.u zrV.a 5).2)]):=by kernel_rfl
  refine ⟨rfl, ?_⟩
  show SV.ok noMu (DV.den ρ (.t [.c (.num .i64 0),.c (.tru false)])) v
  rw [e]
  exact (wkV_ok _ _ _).2 h3
theorem okMask1 : TCok P 34 tcMask1:=TCok.vals (xs:=[.a zT16]) ⟨_,Tryz.func34,rfl,by kernel_rfl⟩ (by kernel_rfl) rfl rfl rfl fun ρ vs w hC hF hv=>by
 refine (con0_calls maskG_ok rfl rfl (e:=maskG (joinRm zrV 5 0).1.u (joinRm zrV 5 0).1.a) (g:=fun r=>one (.int .i64 r)) ?_ rfl hv).mono fun e w' ⟨v,h1,h2,h3⟩=>?_
 ·rfl
 ·refine ⟨v,h1,h2,_,List.Mem.head _,ρ,Agr.refl _ ρ,fun _ hl=>(by cases hl),fun f hf=>(by cases hf),fun p hp=>?_,rfl,rfl,fun p hp=>(by cases hp)⟩
  rw [List.mem_singleton.1 hp]
  have e : DV.den ρ (.s (.c (.num .i64 1))) = wkV (one (.int .i64 (maskG (joinRm zrV 5 0).1.u (joinRm zrV 5 0).1.a))):=by kernel_rfl
  refine ⟨rfl, ?_⟩
  show SV.ok noMu (DV.den ρ (.s (.c (.num .i64 1)))) v
  rw [e]
  exact (wkV_ok _ _ _).2 h3
end
end VtTop
namespace VtTop
noncomputable section
open Go Go.Proofs Zx Vx Go.RowKit
set_option maxHeartbeats 4000000 in
theorem atomic_add (b o : Nat) (x y : Int) (w : World) (hc : w.cell? ⟨b,o,none⟩ = some (.int .i64 x)) (hz : w.frozen? ⟨b,o,none⟩ = false) :
  Calls Tryz.prog 60 #[.pointer (some ⟨b,o,none⟩),.int .i64 y] w fun e w'=>e = .returned (.int .i64 (wrap64 (x + y))) /\ w' = w.setCell ⟨b,o,none⟩ (.int .i64 (wrap64 (x + y))):=by
 have hd:=Go.run_call_add (P:=Tryz.prog) (f:=96) Tryz.func96 (by kernel_rfl) (by kernel_rfl) (by kernel_rfl) .i64 (by kernel_rfl) (y:=y) (s:=wrap64 (x + y)) hc hz (by simp [go_sem,IntKind.wrap_i64,wrap64])
 go_enter Tryz.func60,Tryz.ntmps60
 go_wp2
 exact bodyPost_ret (v:=.int .i64 (wrap64 (x + y))) (by first | rfl | (simp [results];done) | (simp [results];rfl)) rfl ⟨rfl,rfl⟩
theorem set_zone {sg : Sig} {w : World} {b o : Nat} {cur : Array Value} {t : TF} {c : CS} {v : Value} {W : Wt} {ow : Nat -> Prop} (hz : ZoneOk sg w) (hh : w.heap[b]? = some (.cells cur t.1 t.2)) (ho : o < cur.size) (hs : sg b o = some c) (hv : c.ok sg v) (hW : c.tag ∈ W.W) :
  ZoneOk sg (w.setCell ⟨b,o,none⟩ v) /\ Frm ⟨w,sg,W,ow⟩ sg (w.setCell ⟨b,o,none⟩ v):=by
 have hb:=heap_lt hh
 have h1 : (w.setCell ⟨b,o,none⟩ v).heap[b]? = some (.cells (cur.setIfInBounds o v) t.1 t.2):=by
  simp [World.setCell,Array.getElem?_modify,hh]
 have h2 : ∀ x,x ≠ b -> (w.setCell ⟨b,o,none⟩ v).heap[x]? = w.heap[x]?:=fun x hx=>Below.heap_setCell w ⟨b,o,none⟩ v x hx
 refine ⟨fun x y c' h=>?_,⟨by simp [World.setCell],rfl,rfl,rfl,fun _ _ _=>rfl,fun x hx=>?_⟩⟩
 ·obtain ⟨cu,tt,u,g1,g2,g3⟩:=hz _ _ _ h
  by_cases hx : x = b
  ·subst hx
   obtain ⟨rfl,rfl⟩:=cells_inj hh g1
   by_cases hy : y = o
   ·subst hy
    rw [hs] at h
    cases h
    exact ⟨_,_,v,h1,by simp [ho],hv,g3.2⟩
   ·exact ⟨_,_,u,h1,by rw [Array.getElem?_setIfInBounds_ne (fun e=>hy e.symm)];exact g2,g3⟩
  ·exact ⟨cu,tt,u,by rw [h2 x hx];exact g1,g2,g3⟩
 ·by_cases hx : x = b
  ·subst hx
   refine .inr ⟨cur,_,t,hh,h1,Array.size_setIfInBounds,fun y hy=>?_⟩
   by_cases hyo : y = o
   ·subst hyo
    exact absurd hW (hy _ hs).1
   ·rw [Array.getElem?_setIfInBounds_ne (fun e=>hyo e.symm)]
  ·exact .inl (h2 x hx)
theorem wrap_bd (n : Int) : -9223372036854775808 <= wrap64 n /\ wrap64 n <= 9223372036854775807:=by
 unfold wrap64
 constructor <;> omega
theorem ok60 : TCok P 60 tc60:=by
 refine ⟨⟨_,Tryz.func60,rfl,by kernel_rfl⟩,by kernel_rfl,fun sg w ρ vs hz hlen hpre=>?_⟩
 obtain ⟨v0,hv0,ok0⟩:=hpre.P _ List.mem_cons_self
 obtain ⟨b,hb,rfl,hs⟩:=zp_ok (a:=0) (o:=.var 0) (L:=zTab 155) ok0
 obtain ⟨v1,hv1,ok1⟩:=hpre.P _ (List.mem_cons_of_mem _ List.mem_cons_self)
 have ok1 : v1 = .int .i64 ((Lin.var 1).den ρ.i):=ok1
 subst ok1
 have hr:=hs 0 _ rfl
 simp only [Lin.var_den,Nat.add_zero] at hr hv0 hv1
 generalize (ρ.a 0).2 + (ρ.i 0).toNat = o at hr hv0
 obtain ⟨cur,t,v,g1,g2,⟨x,rfl,g3⟩,nf⟩:=hz _ _ _ hr
 have hvs : vs = [.pointer (some ⟨b,o,none⟩),.int .i64 (ρ.i 1)]:=by
  match vs,hlen with
  | [p,q],_=>
   simp only [List.getElem?_cons_zero,List.getElem?_cons_succ,Option.some.injEq] at hv0 hv1
   rw [hv0,hv1]
 have hc : w.cell? ⟨b,o,none⟩ = some (.int .i64 x):=by simp [World.cell?,g1,g2]
 have hf : w.frozen? ⟨b,o,none⟩ = false:=by
  obtain ⟨t1,lo,hi⟩:=t
  simp only [NF] at nf
  simp only [World.frozen?,g1,Bool.and_eq_false_iff,decide_eq_false_iff_not]
  omega
 rw [hvs]
 refine (atomic_add b o x (ρ.i 1) w hc hf).mono fun e w' ⟨h1,h2⟩=>?_
 subst h1;subst h2
 have hbd:=wrap_bd (x + ρ.i 1)
 obtain ⟨k1,k2⟩:=set_zone (W:=tc60.wt) (ow:=tc60.own ρ) (v:=.int .i64 (wrap64 (x + ρ.i 1))) hz g1 (Array.getElem?_eq_some_iff.1 g2).1 hr ⟨_,rfl,.inr hbd⟩ (by decide)
 let ρ' : Vl:=⟨fun u=>if u < 2 then ρ.i u else wrap64 (x + ρ.i 1),ρ.s,ρ.a,ρ.A⟩
 have ag : Agr 2 ρ ρ':=⟨fun u hu=>by simp [ρ',hu],fun _ _=>rfl,fun _ _=>rfl,rfl⟩
 have e2 : ρ'.i 2 = wrap64 (x + ρ.i 1):=rfl
 refine ⟨_,rfl,sg,Grows.refl _,k1,k2,_,List.mem_cons_self,ρ',ag,⟨fun l hl=>?_,fun p hp=>?_,fun q hq=>(by cases hq),fun p hp=>(by cases hp),fun p hp=>(by cases hp),fun f hf=>(by cases hf),fun f hf=>(by cases hf)⟩⟩
 ·simp only [rI,List.mem_cons,List.not_mem_nil,or_false] at hl
  rcases hl with rfl | rfl <;> simp only [Lin.addc_den,Lin.var_den,Lin.sub_den,Lin.num_den,e2] <;> omega
 ·rw [List.mem_singleton.1 hp]
  refine ⟨_,rfl, ?_⟩
  show (Value.int .i64 _) = .int .i64 ((Lin.var 2).den ρ'.i)
  rw [Lin.var_den,e2]
end
end VtTop
namespace VtTop
noncomputable section
open Go Zx Vx
def kR : CS:=.sli 341 324 4096
def kX : CS:=.sli 341 324 8192
def flt (c : CS) : Prop:=c = .int 338 .u16 0 65535 \/ c = .sli 339 5 131072 \/ c = .int 4 .u8 0 255
def cutR (sg : Sig) (b o : Nat) : Sig:=fun x y=>open Classical in if x = b /\ y = o then some kX else match sg x y with
 | some c=>if flt c then some c else none
 | none=>none
def putR (sg sg1 : Sig) (n : Nat) : Sig:=fun x y=>open Classical in if x < n then sg x y else match sg1 x y with
 | some c=>if flt c then some c else none
 | none=>none
theorem cutR_flt {sg : Sig} {b o x y : Nat} {c : CS} (hr : sg b o = some kR) (h : sg x y = some c) (hc : flt c) : cutR sg b o x y = some c:=by
 unfold cutR
 rw [if_neg,h]
 ·exact if_pos hc
 ·rintro ⟨rfl,rfl⟩
  rw [hr] at h
  cases h
  rcases hc with h | h | h <;> cases h
theorem cutR_get {sg : Sig} {b o x y : Nat} {c : CS} (h : cutR sg b o x y = some c) : (x = b /\ y = o /\ c = kX) \/ (sg x y = some c /\ flt c):=by
 unfold cutR at h
 split at h
 ·rename_i e
  cases h
  exact .inl ⟨e.1,e.2,rfl⟩
 ·split at h
  ·rename_i c' hc
   split at h
   ·rename_i hf
    cases h
    exact .inr ⟨hc,hf⟩
   ·cases h
  ·cases h
theorem putR_new {sg sg1 : Sig} {n x y : Nat} {c : CS} (h : putR sg sg1 n x y = some c) (hx : ¬x < n) : sg1 x y = some c /\ flt c:=by
 unfold putR at h
 rw [if_neg hx] at h
 split at h
 ·rename_i c' hc
  split at h
  ·rename_i hf;cases h;exact ⟨hc,hf⟩
  ·cases h
 ·cases h
theorem putR_old {sg sg1 : Sig} {n x y : Nat} (hx : x < n) : putR sg sg1 n x y = sg x y:=if_pos hx
theorem flt_ok {sg sg' : Sig} (h : ∀ x y c,sg x y = some c -> flt c -> sg' x y = some c) {c : CS} {v : Value} (hc : flt c) (hv : c.ok sg v) : c.ok sg' v:=by
 rcases hc with rfl | rfl | rfl
 ·exact hv
 ·obtain ⟨a,n,m,e,h1,h2,h3,h4⟩:=hv
  refine ⟨a,n,m,e,h1,h2,h3,fun hm=>?_⟩
  obtain ⟨b,o,ha,hs⟩:=h4 hm
  refine ⟨b,o,ha,fun i hi j c hj=>?_⟩
  refine h _ _ _ (hs i hi j c hj) ?_
  have e5 : zTab 5 = [.int 4 .u8 0 255]:=rfl
  rw [e5] at hj
  match j,hj with
  | 0,hj=>cases hj;exact .inr (.inr rfl)
  | j + 1,hj=>simp at hj
 ·exact hv
theorem row_flt {sg sg' : Sig} (h : ∀ x y c,sg x y = some c -> flt c -> sg' x y = some c) {a : Option Addr} {m : Nat} (hs : SitsN sg a m (zTab 324)) : SitsN sg' a m (zTab 324):=fun hm=>by
 obtain ⟨b,o,ha,hs⟩:=hs hm
 refine ⟨b,o,ha,fun i hi j c hj=>?_⟩
 refine h _ _ _ (hs i hi j c hj) ?_
 have e5 : zTab 324 = [.int 338 .u16 0 65535,.sli 339 5 131072]:=rfl
 rw [e5] at hj
 match j,hj with
 | 0,hj=>cases hj;exact .inl rfl
 | 1,hj=>cases hj;exact .inr (.inl rfl)
 | j + 2,hj=>simp at hj
theorem cut_zone {sg : Sig} {w : World} {b o : Nat} (hz : ZoneOk sg w) (hr : sg b o = some kR) : ZoneOk (cutR sg b o) w:=fun x y c h=>by
 have hf : ∀ x y c,sg x y = some c -> flt c -> cutR sg b o x y = some c:=fun x y c h k=>cutR_flt hr h k
 rcases cutR_get h with ⟨rfl,rfl,rfl⟩ | ⟨h1,h2⟩
 ·obtain ⟨cur,t,v,g1,g2,⟨a,n,m,e,k1,k2,k3,k4⟩,nf⟩:=hz _ _ _ hr
  exact ⟨cur,t,v,g1,g2,⟨a,n,m,e,k1,k2,by omega,row_flt hf k4⟩,nf⟩
 ·obtain ⟨cur,t,v,g1,g2,g3⟩:=hz _ _ _ h1
  exact ⟨cur,t,v,g1,g2,flt_ok hf h2 g3.1,g3.2⟩
theorem put_back {sg sg1 : Sig} {w w' : World} {b o : Nat} {W : Wt} {ow : Nat -> Prop} (hz : ZoneOk sg w) (hr : sg b o = some kR) (hW : (341 : Nat) ∈ W.W) (hz1 : ZoneOk sg1 w') (hf : Frm ⟨w,cutR sg b o,W,ow⟩ sg1 w') (hY : W.Y = none)
  (hcell : ∃ (cur : Array Value) (t : TF) (v : Value),w'.heap[b]? = some (.cells cur t.1 t.2) /\ cur[o]? = some v /\ kR.ok sg1 v) :
  Grows sg (putR sg sg1 w.heap.size) /\ ZoneOk (putR sg sg1 w.heap.size) w' /\ ∀ ow',Frm ⟨w,sg,W,ow'⟩ (putR sg sg1 w.heap.size) w':=by
 have hG : Grows sg (putR sg sg1 w.heap.size):=fun x y c h=>by rw [putR_old (hz.lt h)];exact h
 have hA : ∀ x y c,sg1 x y = some c -> flt c -> putR sg sg1 w.heap.size x y = some c:=fun x y c h k=>by
  by_cases hx : x < w.heap.size
  ·rw [putR_old hx]
   have h0:=hf.sig x y hx
   rw [h] at h0
   rcases cutR_get h0.symm with ⟨_,_,rfl⟩ | ⟨h1,_⟩
   ·rcases k with k | k | k <;> cases k
   ·exact h1
  ·unfold putR
   rw [if_neg hx,h]
   exact if_pos k
 refine ⟨hG,fun x y c h=>?_,fun ow'=>⟨hf.size,hf.os,hf.tape,hf.output,fun x y hx=>putR_old hx,fun x hx=>?_⟩⟩
 ·by_cases hx : x < w.heap.size
  ·rw [putR_old hx] at h
   obtain ⟨cur,t,v,g1,g2,g3⟩:=hz _ _ _ h
   by_cases hb : x = b /\ y = o
   ·obtain ⟨rfl,rfl⟩:=hb
    rw [hr] at h
    cases h
    obtain ⟨cur,t,v,k1,k2,a,n,m,e,k3,k4,k5,k6⟩:=hcell
    obtain ⟨_,t9,_,j1,_,_,nf⟩:=hz1 x y _ ((hf.sig x y hx).trans (by unfold cutR;exact if_pos ⟨rfl,rfl⟩))
    obtain ⟨_,rfl⟩:=cells_inj k1 j1
    exact ⟨cur,t,v,k1,k2,⟨a,n,m,e,k3,k4,k5,row_flt hA k6⟩,nf⟩
   ·by_cases hc : flt c
    ·have h1 : sg1 x y = some c:=by
      rw [hf.sig x y hx]
      exact cutR_flt hr h hc
     obtain ⟨cur,t,v,k1,k2,k3⟩:=hz1 _ _ _ h1
     exact ⟨cur,t,v,k1,k2,flt_ok hA hc k3.1,k3.2⟩
    ·have hn : cutR sg b o x y = none:=by
      cases e : cutR sg b o x y with
      | none=>rfl
      | some c'=>
       rcases cutR_get e with ⟨e1,e2,_⟩ | ⟨e1,e2⟩
       ·exact absurd ⟨e1,e2⟩ hb
       ·rw [h] at e1;cases e1;exact absurd e2 hc
     rcases hf.keep x hx with k | ⟨c1,c2,t',k1,k2,k3,k4⟩
     ·exact ⟨cur,t,v,by rw [k];exact g1,g2,CS.ok_grow hG g3.1,g3.2⟩
     ·have k1 : w.heap[x]? = _:=k1
      obtain ⟨rfl,rfl⟩:=cells_inj g1 k1
      refine ⟨c2,t,v,k2, ?_,CS.ok_grow hG g3.1,g3.2⟩
      rw [k4 y fun c' hc'=>?_]
      ·exact g2
      ·have hc' : cutR sg b o x y = some c':=hc'
       rw [hn] at hc';cases hc'
  ·obtain ⟨h1,h2⟩:=putR_new h hx
   obtain ⟨cur,t,v,k1,k2,k3⟩:=hz1 _ _ _ h1
   exact ⟨cur,t,v,k1,k2,flt_ok hA h2 k3.1,k3.2⟩
 ·rcases hf.keep x hx with k | ⟨c1,c2,t',k1,k2,k3,k4⟩
  ·exact .inl k
  ·refine .inr ⟨c1,c2,t',k1,k2,k3,fun y hy=>k4 y fun c hc=>?_⟩
   have hc : cutR sg b o x y = some c:=hc
   have noY : ∀ z : Nat,(Ent.mk w (cutR sg b o) W ow).ow x -> z ∉ W.ys:=fun z h=>by
    have:=h.1
    simp only [Wt.hasY,hY] at this
    cases this
   rcases cutR_get hc with ⟨rfl,rfl,rfl⟩ | ⟨h1,_⟩
   ·exact absurd hW (hy _ hr).1
   ·exact ⟨(hy _ h1).1,noY _⟩
end
end VtTop
namespace VtTop
open Go Zx Vx
noncomputable section
set_option maxRecDepth 1000000
def tc81 : TC:=t0 5 70368744177664
theorem ok81 : TCok P 81 tc81:=tK eN {}
def tc221 : TC:=tC 2 (sH 5 [aQ 0 [cI .u16 0,cS 5 1],aP 1 56 4] (cT [rI 0 0 65535,rS 1 131072,rP 4]) [(1,0),(4,0)]) [] [(sH 1 [(0,d1 (cB 5))] (rB 5) [])]
theorem ok221 : TCok P 221 tc221:=tK eN {}
def tc220 : TC:=t1 324 221 56
theorem ok220 : TCok P 220 tc220:=tK (eC ok221 eN) (l1 2 (laK (sH 1 [aW 8 1] (rI 1 0 1048576 ++ ([⟨0,[(1,-1),(0,1)]⟩])) []) [0,1,7] [] [] 1 [aW 7 0] (⟨0,[(1,-1),(0,1)]⟩)))
def tc188x : TC:=tC 2 (sM 5 [(0,.s (.c (.zp 0 (.var 0) [.sli 341 324 8192]))),(1,d1 (cI .u16 1))] (cT [rP 0,rI 1 0 65535,rS 2 4096]) [(0,0),(2,0)] [mq 0 0 (.sli 341 324 8192) (cS 324 2)]) [] [(sH 1 [aW 0 5] (rW 5 ++ ([⟨1,[(5,1)]⟩,⟨-1,[(5,-1),(3,1)]⟩])) [])]
theorem ok188x : TCok P 188 tc188x:=tK (eC ok220 (eC ok221 eN)) {}
def tc189x : TC:=tC 3 (sH 5 [aS 0 324 0,aW 1 3,aW 2 4] (cT [rS 0 8192,rW 3,rW 4,[⟨0,[(3,1)]⟩,⟨0,[(4,1),(3,-1)]⟩,⟨0,[(4,-1),(1,1)]⟩]]) [(0,0)]) [338,339] [(sH 3 [aS 0 324 5] (rS 5 8192 ++ ([⟨0,[(6,1),(4,1),(3,-1),(1,-1)]⟩,⟨0,[(6,-1),(4,-1),(3,1),(1,1)]⟩])) [(5,0)])]
theorem ok189x : TCok P 189 tc189x:=tK eN {}
def tc132x : TC:={ k:=3,pre:={ n:=8,P:=[(0,.s (.c (.zp 0 (.var 0) [.sli 341 324 8192]))),(1,.s (.c (cI .u16 1))),(2,.s (.c (cS 5 2)))],C:=rP 0 ++ (rI 1 0 65535 ++ (rS 2 1200 ++ (rS 5 4096))),adr:=[(0,0),(2,0),(5,0)],M:=[⟨0,⟨0,[(0,1)]⟩,.sli 341 324 8192,cS 324 5⟩] },W:=[338,339,341],post:=[{ n:=3,P:=[(0,.t [])],C:=rS 8 4096,adr:=[(8,0)],M:=[⟨0,⟨0,[(0,1)]⟩,.sli 341 324 8192,cS 324 8⟩] }] }
theorem ok132x : TCok P 132 tc132x:=tK (eC ok81 (eC ok188x (eC ok189x eN))) {}
def tc22 : TC:=tC 1 (sH 0 [(0,d1 (.num .i64 11))] [] []) [] [(sH 1 [aP 0 114 0] (rP 0) [(0,1)])]
theorem ok22 : TCok P 22 tc22:=tK eN {}
def tc23 : TC:=tC 1 (sH 0 [(0,d1 (.num .i64 32))] [] []) [] [(sM 1 [aP 0 116 0] (rP 0) [(0,1)] [mq 0 0 (.int 142 .i64 0 65536) (.num .i64 32),mq 0 1 (.sli 143 35 131072) (.nos)])]
theorem ok23 : TCok P 23 tc23:=tK eN {}
def tc8x : TC:=tc8X
theorem ok8x : TCok P 8 tc8x:=tK (eC ok22 (eC ok23 eN)) { fuel:=70 }
end
end VtTop
namespace VtTop
noncomputable section
open Go Zx Vx
theorem ok132 : TCok P 132 tc132:=by
 refine ⟨ok132x.call,by kernel_rfl,fun sg w ρ vs hz hlen hpre=>?_⟩
 obtain ⟨v0,hv0,ok0⟩:=hpre.P _ List.mem_cons_self
 obtain ⟨b,hb,rfl,hs⟩:=zp_ok (a:=0) (o:=.var 0) (L:=zTab 326) ok0
 obtain ⟨v1,hv1,ok1⟩:=hpre.P _ (List.mem_cons_of_mem _ List.mem_cons_self)
 obtain ⟨v2,hv2,ok2⟩:=hpre.P _ (List.mem_cons_of_mem _ (List.mem_cons_of_mem _ List.mem_cons_self))
 obtain ⟨ad,rfl,z1,z2,z3⟩:=zs_den_ok (a:=2) (o:=.var 2) (n:=.var 3) (c:=.var 4) (E:=zTab 5) ok2
 have hr:=hs 0 kR rfl
 simp only [Lin.var_den,Nat.add_zero] at hr hv0 hv2 z1 z2 z3
 generalize ho : (ρ.a 0).2 + (ρ.i 0).toNat = o at hr hv0
 obtain ⟨cur,t,v,g1,g2,⟨a,n,m,rfl,k1,k2,k3,k4⟩,nf⟩:=hz _ _ _ hr
 have hf : ∀ x y c,sg x y = some c -> flt c -> cutR sg b o x y = some c:=fun x y c h k=>cutR_flt hr h k
 obtain ⟨A,hA0,hA1⟩ : ∃ A : Int × Nat,A.1 < (w.heap.size : Int) /\ (0 < m -> ∃ y : Nat,A.1 = (y : Int) /\ a = some ⟨y,A.2,none⟩ /\ ∀ i,i < m -> Sits (cutR sg b o) y (A.2 + i * (zTab 324).length) (zTab 324)):=by
  rcases Nat.eq_zero_or_pos m with h0 | h0
  ·exact ⟨(-1,0),by show (-1 : Int) < _;omega,fun h=>by omega⟩
  ·obtain ⟨y,oy,e1,e2⟩:=row_flt hf k4 h0
   have hy:=hz.lt ((fun hs=>by
    obtain ⟨y',oy',e3,e4⟩:=hs h0
    rw [e1] at e3;cases e3
    exact e4 0 h0 0 _ rfl : SitsN sg a m (zTab 324) -> sg y (oy + 0 * (zTab 324).length + 0) = some (.int 338 .u16 0 65535)) k4)
   exact ⟨((y : Int),oy),by show (y : Int) < _;omega,fun _=>⟨y,rfl,e1,e2⟩⟩
 let ρ1 : Vl:=⟨fun u=>if u < 5 then ρ.i u else ([0,(n : Int),(m : Int)] : List Int).getD (u - 5) 0,ρ.s,fun u=>if u < 5 then ρ.a u else A,ρ.A⟩
 have ag : Agr 5 ρ ρ1:=⟨fun u hu=>by simp [ρ1,hu],fun _ _=>rfl,fun u hu=>by simp [ρ1,hu],rfl⟩
 have i5 : ρ1.i 5 = 0:=rfl
 have i6 : ρ1.i 6 = n:=rfl
 have i7 : ρ1.i 7 = m:=rfl
 have a5 : ρ1.a 5 = A:=rfl
 have hpC:=hpre.C
 have c0 : 0 <= ρ.i 0:=by have:=hpC (.var 0) (by simp [tc132,rP]);rwa [Lin.var_den] at this
 have hml : (maxLen : Int) = 9223372036854775807:=by decide
 have pre1 : tc132x.pre.Holds (tc132x.ent (cutR sg b o) w ρ1) (cutR sg b o) ρ1 (fun i=>vs[i]?) w:=by
  refine ⟨?_, ?_, ?_, ?_, ?_, ?_, ?_⟩
  ·refine fun l hl=>?_
   have hl : l ∈ (rP 0 ++ (rI 1 0 65535 ++ rS 2 1200)) ++ rS 5 4096:=by simpa [tc132x] using hl
   rcases List.mem_append.1 hl with hl | hl
   ·have : l.lt 5:=by
     simp only [rP,rI,rS,List.cons_append,List.nil_append,List.mem_cons,List.not_mem_nil,or_false] at hl
     rcases hl with rfl | rfl | rfl | rfl | rfl | rfl | rfl | rfl <;> simp [Lin.lt,Lin.var,Lin.num,Lin.sub,Lin.addc,Lin.comb,Tm.lt,Tm.comb]
    rw [← Lin.den_eq ag.i this]
    exact hpC l hl
   ·simp only [rS,List.mem_cons,List.not_mem_nil,or_false] at hl
    rcases hl with rfl | rfl | rfl | rfl | rfl <;> simp only [Lin.var_den,Lin.sub_den,Lin.num_den,i5,i6,i7,Nat.reduceAdd] <;> omega
  ·intro p hp
   simp only [tc132x,List.mem_cons,List.not_mem_nil,or_false] at hp
   rcases hp with rfl | rfl | rfl
   ·refine ⟨_,hv0,zp_mk (b:=b) (by rw [← ag.a 0 (by omega)];exact hb) (by rw [← ag.a 0 (by omega),Lin.var_den,← ag.i 0 (by omega)];exact ho.symm) fun j c hj=>?_⟩
    match j,hj with
    | 0,hj=>
     cases hj
     unfold cutR
     exact if_pos ⟨rfl,rfl⟩
    | j + 1,hj=>simp at hj
   ·refine ⟨_,hv1, ?_⟩
    have e : (DV.den ρ1 (.s (.c (cI .u16 1)))) = DV.den ρ (.s (.c (cI .u16 1))):=(DV.den_eq (n:=5) ag (by show Lin.lt 5 (Lin.var 1);exact Lin.var_lt (by omega))).symm
    show SV.ok _ (DV.den ρ1 (.s (.c (cI .u16 1)))) v1
    rw [e]
    exact ok1
   ·refine ⟨_,hv2,zs_mk (by rw [Lin.var_den,← ag.i 3 (by omega)]) (by rw [Lin.var_den,← ag.i 4 (by omega)]) z1 z2 fun hc=>?_⟩
    obtain ⟨y,e1,e2,e3⟩:=z3 hc
    refine ⟨y,by rw [← ag.a 2 (by omega)];exact e1,by rw [← ag.a 2 (by omega),Lin.var_den,← ag.i 2 (by omega)];exact e2,fun i hi j c hj=>?_⟩
    rw [← ag.a 2 (by omega),Lin.var_den,← ag.i 2 (by omega)]
    refine hf _ _ _ (e3 i hi j c hj) ?_
    have e5 : zTab 5 = [.int 4 .u8 0 255]:=rfl
    rw [e5] at hj
    match j,hj with
    | 0,hj=>cases hj;exact .inr (.inr rfl)
    | j + 1,hj=>simp at hj
  ·intro q hq
   simp only [tc132x,List.mem_cons,List.not_mem_nil,or_false] at hq
   subst hq
   have e0 : (⟨0,[(0,1)]⟩ : Lin).den ρ1.i = ρ.i 0:=by
    simp only [Lin.den,Tm.den]
    rw [← ag.i 0 (by omega)];omega
   have h5 : ((d1 (.zs 5 (.var 5) (zTab 324) (.var 6) (.var 7))).den ρ1).ok (mu (cutR sg b o)) (.slice a n m):=zs_mk (N:=n) (C:=m) (by rw [Lin.var_den,i6];simp) (by rw [Lin.var_den,i7];simp) k1 k2 fun hc=>by
    obtain ⟨y,e1,e2,e3⟩:=hA1 hc
    refine ⟨y,by rw [a5];exact e1,by rw [a5,Lin.var_den,i5];simpa using e2,fun i hi=>?_⟩
    rw [a5,Lin.var_den,i5]
    simpa using e3 i hi
   refine ⟨by rw [e0];exact c0,b,t,cur,.slice a n m,by rw [← ag.a 0 (by omega)];exact hb,g1, ?_, ?_,h5⟩
   ·rw [e0,← ag.a 0 (by omega),ho];exact g2
   ·rw [e0,← ag.a 0 (by omega),ho]
    unfold cutR
    exact if_pos ⟨rfl,rfl⟩
  ·intro p hp
   simp only [tc132x,List.mem_cons,List.not_mem_nil,or_false] at hp
   rcases hp with rfl | rfl | rfl
   ·rw [← ag.a 0 (by omega)];exact hpre.asz (0,0) (by simp [tc132])
   ·rw [← ag.a 2 (by omega)];exact hpre.asz (2,0) (by simp [tc132])
   ·rw [a5];exact hA0
  ·intro p hp h1
   simp only [tc132x,List.mem_cons,List.not_mem_nil,or_false] at hp
   rcases hp with rfl | rfl | rfl <;> exact absurd h1 (by decide)
  ·intro f hf;cases hf
  ·intro f hf;cases hf
 refine (ok132x.ok (cutR sg b o) w ρ1 vs (cut_zone hz hr) hlen pre1).mono fun e w' he=>?_
 obtain ⟨v,rfl,sg1,G1,Z1,F1,sh,hsh,ρ2,A2,H2⟩:=he
 rw [List.mem_singleton.1 hsh] at H2
 have hcell : ∃ (cur : Array Value) (t : TF) (v : Value),w'.heap[b]? = some (.cells cur t.1 t.2) /\ cur[o]? = some v /\ kR.ok sg1 v:=by
  obtain ⟨q0,b',t',cur',u,q1,q2,q3,q4,q5⟩:=H2.M _ List.mem_cons_self
  have e0 : (⟨0,[(0,1)]⟩ : Lin).den ρ2.i = ρ.i 0:=by
   simp only [Lin.den,Tm.den]
   rw [← A2.i 0 (by decide),← ag.i 0 (by omega)];omega
  have ea : ρ2.a 0 = ρ.a 0:=by rw [← A2.a 0 (by decide),← ag.a 0 (by omega)]
  dsimp only at q1 q3
  rw [ea] at q1 q3
  rw [e0,ho] at q3
  have : b' = b:=by omega
  subst this
  obtain ⟨ad',e1,e2,e3,e4⟩:=zs_den_ok (a:=8) (o:=.var 8) (n:=.var 9) (c:=.var 10) (E:=zTab 324) q5
  have hb9:=H2.C ((Lin.num 4096).sub (.var 9)) (by simp [rS])
  simp only [Lin.sub_den,Lin.num_den,Lin.var_den] at hb9 e2 e3 e4
  refine ⟨cur',t',u,q2,q3,ad',_,_,e1,by simpa using e2,by simpa using e3,by rw [Lin.var_den];omega,fun hc=>?_⟩
  rw [Lin.var_den] at hc
  obtain ⟨y,f1,f2,f3⟩:=e4 hc
  refine ⟨y,_,f2,fun i hi=>f3 i (by rwa [Lin.var_den] at hi)⟩
 obtain ⟨r1,r2,r3⟩:=put_back hz hr (by decide) Z1 F1 rfl hcell
 refine ⟨v,rfl,putR sg sg1 w.heap.size,r1,r2,r3 _,_,List.mem_cons_self,ρ,Agr.refl _ _,⟨fun l hl=>(by cases hl),fun p hp=>?_,fun q hq=>(by cases hq),fun p hp=>(by cases hp),fun p hp=>(by cases hp),fun f hf=>(by cases hf),fun f hf=>(by cases hf)⟩⟩
 rw [List.mem_singleton.1 hp]
 obtain ⟨u,e1,us,e2,e3⟩:=H2.P _ List.mem_cons_self
 refine ⟨u,e1,us,e2, ?_⟩
 cases us with
 | nil=>trivial
 | cons x xs=>exact e3.elim
end
end VtTop
namespace VtTop
noncomputable section
open Go Zx Vx
set_option maxRecDepth 100000
def bad : CS -> Bool
 | .ptr 134 116 false=>true
 | .ptr 135 114 false=>true
 | _=>false
theorem noBad (nm : Nat) : (zTab nm).all (fun c=>!bad c) = true:=by
 unfold zTab
 repeat' split
 all_goals first | rfl | decide +kernel
theorem noBad_get {nm j : Nat} {c : CS} (h : (zTab nm)[j]? = some c) : bad c = false:=by
 have:=List.all_eq_true.1 (noBad nm) c (List.mem_of_getElem? h)
 simpa using this
def strC : CS -> CS
 | .ptr 134 116 false=>.ptr 134 116 true
 | .ptr 135 114 false=>.ptr 135 114 true
 | c=>c
theorem strC_ok {c : CS} (h : bad c = false) : strC c = c:=by
 unfold bad at h
 unfold strC
 split at h <;> simp_all
def putD (sg : Sig) (n lo hi : Nat) : Sig:=fun x y=>if x = n /\ lo <= y /\ y < hi then (sg x y).map strC else sg x y
theorem putD_sits {sg : Sig} {n lo hi b o nm : Nat} (h : Sits sg b o (zTab nm)) : Sits (putD sg n lo hi) b o (zTab nm):=fun j c hc=>by
 unfold putD
 split
 ·rw [h j c hc,Option.map_some,strC_ok (noBad_get hc)]
 ·exact h j c hc
theorem putD_sitsN {sg : Sig} {n lo hi m nm : Nat} {a : Option Addr} (h : SitsN sg a m (zTab nm)) : SitsN (putD sg n lo hi) a m (zTab nm):=fun hm=>by
 obtain ⟨b,o,h1,h2⟩:=h hm
 exact ⟨b,o,h1,fun i hi=>putD_sits (h2 i hi)⟩
theorem putD_ok {sg : Sig} {n lo hi : Nat} {c : CS} {v : Value} (h : c.ok sg v) : c.ok (putD sg n lo hi) v:=by
 cases c with
 | ptr g nm nn=>
  rcases h with h | ⟨b,o,h1,h2⟩
  ·exact .inl h
  ·exact .inr ⟨b,o,h1,putD_sits h2⟩
 | sli g nm mx=>
  obtain ⟨a,n',c',h1,h2,h3,h4,h5⟩:=h
  exact ⟨a,n',c',h1,h2,h3,h4,putD_sitsN h5⟩
 | _=>exact h
end
end VtTop
