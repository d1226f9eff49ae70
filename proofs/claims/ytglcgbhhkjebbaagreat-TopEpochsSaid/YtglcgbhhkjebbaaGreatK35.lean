/- A part of the proof: lemmas. No condition of its own. -/
import Derived.Test.YtglcgbhhkjebbaaGreatK17
import Derived.Test.YtglcgbhhkjebbaaGreatK21
import Derived.Test.YtglcgbhhkjebbaaGreatK24
import Derived.Test.YtglcgbhhkjebbaaGreatK25
import Derived.Test.YtglcgbhhkjebbaaGreatK26
import Derived.Test.YtglcgbhhkjebbaaGreatK34
set_option linter.unusedVariables false
set_option linter.unusedSimpArgs false
namespace VtTop
open Go Zx Vx
noncomputable section
noncomputable def cut24 : LA:={ sh:={ n:=0,P:=[(10,.s (.c (.int .i64 ⟨0,[(7,1)]⟩)))],C:=[],adr:=[] },keep:=[0,3,4,5,7,8,11],W:=[],Wo:=[22,23,24,61,62,96,97,98,99,100,101,108,109,110,111,112,115,116,117,118,119,120,121,122,123,124,125,126,132,133,143,162,163,208,230,231,237,238,239,240,241,267,275,276,277,281,282,283,291,292,293,294,295,296,297,306,307,308,310,328,329,334,338,339,341],r:=8,refs:=[(7,.s (.c (cI .i64 0))),(11,.s (.c (cI .i64 1)))],rF:=[⟨76,[cI .i64 0,cI .i64 1,cB 2,cB 3,cI .i64 4,cI .i64 5,cI .i64 6,cI .i64 7]⟩] }
noncomputable def clJ : Cl:={ fuel:=10,lem:=fun i sl=>match Nat.beq i 25 with | true=>[(lem_sl (numS sl 7) (numS sl 11),[5,8,7,11])] | false=>[],cut:=fun i=>match Nat.beq i 24 with | true=>some cut24 | false=>none }
noncomputable def clR (k : Nat) : Cl:={ lem:=fun i sl=>match Nat.beq i 19 with | true=>[(lem_law (numS sl 7),[5,8,7])] | false=>[],pcs:=[⟨pJ,pcJ k⟩] }
noncomputable def lp7 : LA:={ sh:={ n:=158,P:=[(4,.s (.c (cI .i64 4)))],C:=rI 4 0 1048576 ++ (rI 161 (-9223372036854775808) 9223372036854775807 ++ ([⟨0,[(4,-1),(1,1)]⟩])),adr:=[],M:=rM 3 0 5 ++ (rM 3 367 44 ++ (rM 3 734 83 ++ (rM 3 1101 122 ++ ([⟨3,⟨1468,[(3,1)]⟩,.int 132 .i64 (-9223372036854775808) 9223372036854775807,cI .i64 161⟩])))),F:=[⟨303,rC 5⟩,⟨303,rC 44⟩,⟨303,rC 83⟩,⟨303,rC 122⟩],G:=[⟨2180,[cS 33 0,.num .i64 2000]⟩] },keep:=[0,3],W:=[22,23,24,61,62,96,97,98,99,100,101,108,109,110,111,112,115,116,117,118,119,120,121,122,123,124,125,126,132,133,143,162,163,208,230,231,237,238,239,240,241,267,275,276,277,281,282,283,291,292,293,294,295,296,297,306,307,308,310,328,329,334,338,339,341],Wo:=[22,23,24,61,62,96,97,98,99,100,101,108,109,110,111,112,115,116,117,118,119,120,121,122,123,124,125,126,132,133,143,162,163,208,230,231,237,238,239,240,241,267,275,276,277,281,282,283,291,292,293,294,295,296,297,306,307,308,310,328,329,334,338,339,341],r:=4,refs:=[(0,.s (.c (cS 33 0))),(3,.s (.c (cP 92 3)))],dec:=⟨0,[(4,-1),(1,1)]⟩ }
noncomputable def cl4 : Cl:={ lp:=fun i=>match Nat.beq i 7 with | true=>some lp7 | false=>none,fuel:=6,lem:=fun i sl=>match Nat.beq i 15 with | true=>[(lem_gd 0,[3]),(lem_gd 1,[3]),(lem_gd 2,[3]),(lem_gd 3,[3])] | false=>match Nat.beq i 14 with | true=>[(lem_use218,[0,4])] | false=>[],pcs:=[⟨pR,pcR 0⟩,⟨pR,pcR 1⟩,⟨pR,pcR 2⟩,⟨pR,pcR 3⟩] }
theorem okJ (k : Nat) (hk : k < 4) : ∃ c,bodyAt P 4 pJ = some c /\ PCok P c (pcJ k):=by
 match k,hk with
 | 0,_=>exact pcT_ok (envL_nil _) mixed (C:=clJ) (fun e he=>by cases he) (by kernel_rfl)
 | 1,_=>exact pcT_ok (envL_nil _) mixed (C:=clJ) (fun e he=>by cases he) (by kernel_rfl)
 | 2,_=>exact pcT_ok (envL_nil _) mixed (C:=clJ) (fun e he=>by cases he) (by kernel_rfl)
 | 3,_=>exact pcT_ok (envL_nil _) mixed (C:=clJ) (fun e he=>by cases he) (by kernel_rfl)
theorem okR (k : Nat) (hk : k < 4) : ∃ c,bodyAt P 4 pR = some c /\ PCok P c (pcR k):=by
 match k,hk with
 | 0,_=>exact pcT_ok (envL_cons ok14_0 (envL_cons ok15g (envL_cons ok16c (envL_nil _)))) mixed (C:=clR 0) (fun e he=>by rw [List.mem_singleton.1 he];exact okJ 0 (by decide)) (by kernel_rfl)
 | 1,_=>exact pcT_ok (envL_cons ok14_1 (envL_cons ok15g (envL_cons ok16c (envL_nil _)))) mixed (C:=clR 1) (fun e he=>by rw [List.mem_singleton.1 he];exact okJ 1 (by decide)) (by kernel_rfl)
 | 2,_=>exact pcT_ok (envL_cons ok14_2 (envL_cons ok15g (envL_cons ok16c (envL_nil _)))) mixed (C:=clR 2) (fun e he=>by rw [List.mem_singleton.1 he];exact okJ 2 (by decide)) (by kernel_rfl)
 | 3,_=>exact pcT_ok (envL_cons ok14_3 (envL_cons ok15g (envL_cons ok16c (envL_nil _)))) mixed (C:=clR 3) (fun e he=>by rw [List.mem_singleton.1 he];exact okJ 3 (by decide)) (by kernel_rfl)
def tc4 : TC:={ k:=1,pre:={ n:=3,P:=[(0,.s (.c (cS 33 0)))],C:=rS 0 9223372036854775807,adr:=[(0,0)] },W:=[22,23,24,61,62,96,97,98,99,100,101,108,109,110,111,112,115,116,117,118,119,120,121,122,123,124,125,126,132,133,143,162,163,208,230,231,237,238,239,240,241,267,275,276,277,281,282,283,291,292,293,294,295,296,297,306,307,308,310,328,329,334,338,339,341],post:=[{ n:=0,P:=[(0,.s (.c (.tru true)))],C:=[],adr:=[] }] }
theorem ok4 : TCok P 4 tc4:=tcT_pcs (envL_cons ok8 (envL_cons ok9 (envL_cons ok10 (envL_cons ok11 (envL_cons ok14_0 (envL_cons ok14_1 (envL_cons ok14_2 (envL_cons ok14_3 (envL_nil _))))))))) mixed (C:=cl4) (fun e he=>by
 simp only [cl4,List.mem_cons,List.not_mem_nil,or_false] at he
 rcases he with rfl | rfl | rfl | rfl
 ·exact okR 0 (by decide)
 ·exact okR 1 (by decide)
 ·exact okR 2 (by decide)
 ·exact okR 3 (by decide)) (by kernel_rfl)
end
end VtTop
