/- A part of the proof: lemmas. No condition of its own. -/
import Derived.Test.YtglcgbhhkjebbaaGreatK17
import Derived.Test.YtglcgbhhkjebbaaGreatK19
import Derived.Test.YtglcgbhhkjebbaaGreatK20
import Derived.Test.YtglcgbhhkjebbaaGreatK23
import Derived.Test.YtglcgbhhkjebbaaGreatK24
import Derived.Test.YtglcgbhhkjebbaaGreatK25
import Derived.Test.YtglcgbhhkjebbaaGreatK26
import Derived.Test.YtglcgbhhkjebbaaGreatK27
import Derived.Test.YtglcgbhhkjebbaaGreatK28
import Derived.Test.YtglcgbhhkjebbaaGreatK29
import Derived.Test.YtglcgbhhkjebbaaGreatK30
set_option linter.unusedVariables false
set_option linter.unusedSimpArgs false
namespace VtTop
open Go Zx Vx
noncomputable section
set_option maxRecDepth 1000000
def pT6 : List Nat:=[1,1,1,1,1,1,1,0,0,1,0,0,1,0,1,1,1,1]
def p15_6 : List Nat:=[1,1,1,0,0,1,0,0,1,0,1,1,1,1]
def P06 : List (Nat × DV):=[(0,.s (.c (cS 33 0))),(3,.s (.c (cP 92 3))),(4,.s (.c (cI .i64 4))),(5,.s (.c (cP 50 5)))]
def was6 (a b c d : Nat) (r : List Cell) : List Cell:=rmG 5 0 (zTab 49) (rC a) ++ (rmG 5 39 (zTab 49) (rC b) ++ (rmG 5 78 (zTab 49) (rC c) ++ (rmG 5 117 (zTab 49) (rC d) ++ r)))
def hal6 (a b c d : Nat) (r : List Cell) : List Cell:=rM 3 0 a ++ (rM 3 367 b ++ (rM 3 734 c ++ (rM 3 1101 d ++ r)))
def pcT6 (n : Nat) (e q p : DC) (C : List Lin) (a b c d : Nat) (F : List Atom) : PC:={ nt:=199,pre:={ n:=n,P:=P06 ++ [(9,.s (.c e)),(12,.s (.c q)),(13,.s (.c p))],C:=rP 3 ++ (rP 5 ++ (rgI 0 1048576 4 1 ++ C)),adr:=[(0,0),(3,0),(5,0)],M:=was6 8 47 86 125 (hal6 a b c d []),F:=F },W:=[],post:=[{ n:=0,P:=P06,C:=[] }] }
def Wt6 : List Nat:=[22,23,24,61,62,96,97,98,99,100,101,108,109,110,111,112,115,116,117,118,119,120,121,122,123,124,125,126,132,133,143,162,163,208,230,231,237,238,239,240,241,267,275,276,277,281,282,283,291,292,293,294,295,296,297,306,307,308,310,328,329,334,338,339,341]
def pcD6 (k ins : DC) (C : List Lin) (F : List Atom) : PC:={ nt:=199,pre:={ n:=166,P:=P06 ++ [(7,.s (.c ins)),(47,.s (.c (.zp 0 ⟨0,[(4,4),(0,1)]⟩ (zTab 33))))],C:=rS 0 9223372036854775807 ++ (rP 3 ++ (rP 5 ++ (rgI 0 1048576 4 1 ++ (⟨-1,[(4,-1),(1,1)]⟩ :: C ++ rI 165 (-9223372036854775808) 9223372036854775807)))),adr:=[(0,0),(3,0),(5,0)],M:=⟨0,⟨0,[(4,4),(0,1)]⟩,(zTab 33).getD 0 (.bool 0),k⟩ :: ⟨0,⟨1,[(4,4),(0,1)]⟩,(zTab 33).getD 1 (.bool 0),cI .i64 6⟩ :: ⟨3,⟨1468,[(3,1)]⟩,.int 132 .i64 (-9223372036854775808) 9223372036854775807,cI .i64 165⟩ :: was6 9 48 87 126 (hal6 9 48 87 126 []),F:=F,G:=[⟨2180,[cS 33 0,.num .i64 2000]⟩] },W:=Wt6,post:=[{ n:=157,P:=P06,C:=rI 322 (-9223372036854775808) 9223372036854775807,M:=hal6 166 205 244 283 [⟨3,⟨1468,[(3,1)]⟩,.int 132 .i64 (-9223372036854775808) 9223372036854775807,cI .i64 322⟩] }] }
def pcT6_0 : PC:=pcT6 164 (.num .i64 0) (cB 7) (cB 6) (rgI 0 1 6 2) 8 47 86 125 []
def pcT6_1 : PC:=pcT6 164 (.num .i64 1) (cB 7) (cB 6) (rgI 0 1 6 2) 8 47 86 125 []
def pcT6_2 : PC:=pcT6 164 (.num .i64 5) (cB 7) (cB 6) (rgI 0 1 6 2) 8 47 86 125 []
def pcT6_3 : PC:=pcT6 203 (.num .i64 0) (.tru false) (cB 6) (rgI 0 1 6 1) 164 47 86 125 [⟨300,rC 8 ++ rC 164⟩]
def pcT6_4 : PC:=pcT6 203 (.num .i64 0) (.tru false) (cB 6) (rgI 0 1 6 1) 8 164 86 125 [⟨300,rC 47 ++ rC 164⟩]
def pcT6_5 : PC:=pcT6 203 (.num .i64 0) (.tru false) (cB 6) (rgI 0 1 6 1) 8 47 164 125 [⟨300,rC 86 ++ rC 164⟩]
def pcT6_6 : PC:=pcT6 203 (.num .i64 0) (.tru false) (cB 6) (rgI 0 1 6 1) 8 47 86 164 [⟨300,rC 125 ++ rC 164⟩]
def pcT6_7 : PC:=pcT6 320 (.num .i64 0) (.tru false) (.tru false) [] 164 203 242 281 []
def pcD6_1_0 : PC:=pcD6 (.num .i64 1) (.tru true) [] [⟨611,r17 9 6⟩]
def pcD6_1_1 : PC:=pcD6 (.num .i64 1) (.tru true) [] [⟨610,r17 9 6⟩,⟨611,r17 48 6⟩]
def pcD6_1_2 : PC:=pcD6 (.num .i64 1) (.tru true) [] [⟨610,r17 9 6⟩,⟨610,r17 48 6⟩,⟨611,r17 87 6⟩]
def pcD6_1_3 : PC:=pcD6 (.num .i64 1) (.tru true) [] [⟨610,r17 9 6⟩,⟨610,r17 48 6⟩,⟨610,r17 87 6⟩,⟨611,r17 126 6⟩]
def pcD6_1_4 : PC:=pcD6 (.num .i64 1) (cB 7) [] [⟨610,r17 9 6⟩,⟨610,r17 48 6⟩,⟨610,r17 87 6⟩,⟨610,r17 126 6⟩]
def pcD6_2_0 : PC:=pcD6 (.num .i64 2) (.tru true) [] [⟨611,r17 9 6⟩]
def pcD6_2_1 : PC:=pcD6 (.num .i64 2) (.tru true) [] [⟨610,r17 9 6⟩,⟨611,r17 48 6⟩]
def pcD6_2_2 : PC:=pcD6 (.num .i64 2) (.tru true) [] [⟨610,r17 9 6⟩,⟨610,r17 48 6⟩,⟨611,r17 87 6⟩]
def pcD6_2_3 : PC:=pcD6 (.num .i64 2) (.tru true) [] [⟨610,r17 9 6⟩,⟨610,r17 48 6⟩,⟨610,r17 87 6⟩,⟨611,r17 126 6⟩]
def pcD6_2_4 : PC:=pcD6 (.num .i64 2) (cB 7) [] [⟨610,r17 9 6⟩,⟨610,r17 48 6⟩,⟨610,r17 87 6⟩,⟨610,r17 126 6⟩]
def pcD6_3 : PC:=pcD6 (.num .i64 3) (cB 7) [] []
def pcD6_4 : PC:=pcD6 (.num .i64 4) (cB 7) [] []
def pcD6_5 : PC:=pcD6 (.num .i64 5) (cB 7) [] []
def pcD6_0 : PC:=pcD6 (cI .i64 8) (cB 7) [⟨0,[(8,-1)]⟩] []
def pcD6_6 : PC:=pcD6 (cI .i64 8) (cB 7) [⟨-6,[(8,1)]⟩] []
noncomputable def clD6 : Cl:={ fuel:=6,lem:=fun i sl=>match Nat.beq i 15 with | true=>[(lem_use218,[0,4])] | false=>[],pcs:=[⟨pT6,pcT6_0⟩,⟨pT6,pcT6_1⟩,⟨pT6,pcT6_2⟩,⟨pT6,pcT6_3⟩,⟨pT6,pcT6_4⟩,⟨pT6,pcT6_5⟩,⟨pT6,pcT6_6⟩,⟨pT6,pcT6_7⟩] }
noncomputable def lp7 : LA:={ sh:={ n:=158,P:=[(4,.s (.c (cI .i64 4)))],C:=rI 4 0 1048576 ++ (rI 161 (-9223372036854775808) 9223372036854775807 ++ ([⟨0,[(4,-1),(1,1)]⟩])),adr:=[],M:=rM 3 0 5 ++ (rM 3 367 44 ++ (rM 3 734 83 ++ (rM 3 1101 122 ++ ([⟨3,⟨1468,[(3,1)]⟩,.int 132 .i64 (-9223372036854775808) 9223372036854775807,cI .i64 161⟩])))),G:=[⟨2180,[cS 33 0,.num .i64 2000]⟩] },keep:=[0,3],W:=Wt6,Wo:=Wt6,r:=4,refs:=[(0,.s (.c (cS 33 0))),(3,.s (.c (cP 92 3)))],dec:=⟨0,[(4,-1),(1,1)]⟩ }
noncomputable def cl6 : Cl:={ lp:=fun i=>match Nat.beq i 7 with | true=>some lp7 | false=>none,fuel:=6,lem:=fun i sl=>match Nat.beq i 14 with | true=>[(lem_kind,[0,4]),(lem_addr,[0,4]),(lem_wh3,[3,0,4])] | false=>[],pcs:=[⟨p15_6,pcD6_1_0⟩,⟨p15_6,pcD6_1_1⟩,⟨p15_6,pcD6_1_2⟩,⟨p15_6,pcD6_1_3⟩,⟨p15_6,pcD6_1_4⟩,⟨p15_6,pcD6_2_0⟩,⟨p15_6,pcD6_2_1⟩,⟨p15_6,pcD6_2_2⟩,⟨p15_6,pcD6_2_3⟩,⟨p15_6,pcD6_2_4⟩,⟨p15_6,pcD6_3⟩,⟨p15_6,pcD6_4⟩,⟨p15_6,pcD6_5⟩,⟨p15_6,pcD6_0⟩,⟨p15_6,pcD6_6⟩] }
def tc6 : TC:={ k:=1,pre:={ n:=3,P:=[(0,.s (.c (cS 33 0)))],C:=rS 0 9223372036854775807,adr:=[(0,0)] },W:=Wt6,post:=[{ n:=0,P:=[(0,.s (.c (.tru true)))],C:=[],adr:=[] }] }
theorem eT6 : EnvTOk P (envL [(14,tc14_0),(14,tc14_1),(14,tc14_2),(14,tc14_3)]):=envL_cons ok14_0 (envL_cons ok14_1 (envL_cons ok14_2 (envL_cons ok14_3 (envL_nil _))))
theorem okT6_0 : ∃ c,bodyAt P 6 pT6 = some c /\ PCok P c pcT6_0:=pcT_ok eT6 mixed (C:={ fuel:=6,lem:=fun i sl=>match Nat.beq i 23 with | true=>[] | false=>[] }) (fun e he=>by cases he) (by kernel_rfl)
theorem okT6_1 : ∃ c,bodyAt P 6 pT6 = some c /\ PCok P c pcT6_1:=pcT_ok eT6 mixed (C:={ fuel:=6,lem:=fun i sl=>match Nat.beq i 23 with | true=>[] | false=>[] }) (fun e he=>by cases he) (by kernel_rfl)
theorem okT6_2 : ∃ c,bodyAt P 6 pT6 = some c /\ PCok P c pcT6_2:=pcT_ok eT6 mixed (C:={ fuel:=6,lem:=fun i sl=>match Nat.beq i 23 with | true=>[] | false=>[] }) (fun e he=>by cases he) (by kernel_rfl)
theorem okT6_3 : ∃ c,bodyAt P 6 pT6 = some c /\ PCok P c pcT6_3:=pcT_ok eT6 mixed (C:={ fuel:=6,lem:=fun i sl=>match Nat.beq i 23 with | true=>[(lem_s300 0,[15,5])] | false=>[] }) (fun e he=>by cases he) (by kernel_rfl)
theorem okT6_4 : ∃ c,bodyAt P 6 pT6 = some c /\ PCok P c pcT6_4:=pcT_ok eT6 mixed (C:={ fuel:=6,lem:=fun i sl=>match Nat.beq i 23 with | true=>[(lem_s300 1,[15,5])] | false=>[] }) (fun e he=>by cases he) (by kernel_rfl)
theorem okT6_5 : ∃ c,bodyAt P 6 pT6 = some c /\ PCok P c pcT6_5:=pcT_ok eT6 mixed (C:={ fuel:=6,lem:=fun i sl=>match Nat.beq i 23 with | true=>[(lem_s300 2,[15,5])] | false=>[] }) (fun e he=>by cases he) (by kernel_rfl)
theorem okT6_6 : ∃ c,bodyAt P 6 pT6 = some c /\ PCok P c pcT6_6:=pcT_ok eT6 mixed (C:={ fuel:=6,lem:=fun i sl=>match Nat.beq i 23 with | true=>[(lem_s300 3,[15,5])] | false=>[] }) (fun e he=>by cases he) (by kernel_rfl)
theorem okT6_7 : ∃ c,bodyAt P 6 pT6 = some c /\ PCok P c pcT6_7:=pcT_ok eT6 mixed (C:={ fuel:=6,lem:=fun i sl=>match Nat.beq i 23 with | true=>[] | false=>[] }) (fun e he=>by cases he) (by kernel_rfl)
theorem pcs6 : ∀ e ∈ clD6.pcs,∃ c,bodyAt P 6 e.path = some c /\ PCok P c e.pc:=fun e he=>by
 simp only [clD6,List.mem_cons,List.not_mem_nil,or_false] at he
 rcases he with rfl | rfl | rfl | rfl | rfl | rfl | rfl | rfl
 ·exact okT6_0
 ·exact okT6_1
 ·exact okT6_2
 ·exact okT6_3
 ·exact okT6_4
 ·exact okT6_5
 ·exact okT6_6
 ·exact okT6_7
theorem eD6 : EnvTOk P (envL [(8,tc8),(9,tc9),(10,tc10),(11,tc11q1_0),(11,tc11q1_1),(11,tc11q1_2),(11,tc11q1_3),(11,tc11q1_4),(11,tc11q2_0),(11,tc11q2_1),(11,tc11q2_2),(11,tc11q2_3),(11,tc11q2_4),(11,tc11q3),(11,tc11q4),(11,tc11q5),(11,tc11q0),(11,tc11q6),(13,tc13_1),(13,tc13_2),(13,tc13_3),(13,tc13_8),(13,tc13g),(14,tc14_0),(14,tc14_1),(14,tc14_2),(14,tc14_3)]):=envL_cons ok8 (envL_cons ok9 (envL_cons ok10 (envL_cons ok11q1_0 (envL_cons ok11q1_1 (envL_cons ok11q1_2 (envL_cons ok11q1_3 (envL_cons ok11q1_4 (envL_cons ok11q2_0 (envL_cons ok11q2_1 (envL_cons ok11q2_2 (envL_cons ok11q2_3 (envL_cons ok11q2_4 (envL_cons ok11q3 (envL_cons ok11q4 (envL_cons ok11q5 (envL_cons ok11q0 (envL_cons ok11q6 (envL_cons ok13_1 (envL_cons ok13_2 (envL_cons ok13_3 (envL_cons ok13_8 (envL_cons ok13g (envL_cons ok14_0 (envL_cons ok14_1 (envL_cons ok14_2 (envL_cons ok14_3 (envL_nil _)))))))))))))))))))))))))))
end
end VtTop
