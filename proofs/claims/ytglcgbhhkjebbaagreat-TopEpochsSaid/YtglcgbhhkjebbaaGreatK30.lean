/- A part of the proof: lemmas. No condition of its own. -/
import Derived.Test.YtglcgbhhkjebbaaGreatK21
import Derived.Test.YtglcgbhhkjebbaaGreatK24
import Derived.Test.YtglcgbhhkjebbaaGreatK25
import Derived.Test.YtglcgbhhkjebbaaGreatK26
import Derived.Test.YtglcgbhhkjebbaaGreatK29
set_option linter.unusedVariables false
set_option linter.unusedSimpArgs false
namespace VtTop
open Go Zx Vx
noncomputable section
set_option maxRecDepth 1000000
def tc16 : TC:=tC 1 (sH 6 [aQ 0 [cW 0,cB 1,cW 2,cW 3,cW 4,cW 5]] (cT [rW 0,rW 2,rW 3,rW 4]) []) [] [(sH 1 [aW 0 6] (rW 6) [])]
theorem ok16 : TCok P 16 tc16:=tK eN {}
def tc85 : TC:=tC 1 (sH 1 [aP 0 87 0] (rP 0) [(0,0)]) [] [(sH 1 [aW 0 1] (rW 1) [])]
theorem ok85 : TCok P 85 tc85:=tK (eC ok16c (eC ok16 eN)) {}
def tc86 : TC:=tC 4 (sH 12 [aP 0 92 0,aP 1 87 1,aW 2 2,aQ 3 [cW 3,cW 4,cW 5,cW 6,cW 7,cW 8,cS 5 9]] (cT [rP 0,rP 1,rW 2,rW 3,rW 4,rW 5,rW 6,rW 7,rW 8,rS 9 1048576]) [(0,0),(1,0),(9,0)]) W6 [(sH 0 [(0,.t [])] [] [])]
theorem ok86 : TCok P 86 tc86:=tK (eC ok83 eN) (l1 2 { sh:=(sH 1 [aW 16 0] (rI 0 0 8) []),keep:=[0,1,2,7,15],W:=[22,23,24,143,208],Wo:=[22,23,24,143,208],dec:=⟨8,[(0,-1)]⟩ })
def tc49_0 : TC:=t11 0 168 49 88 127 10
theorem ok49_0 : TCok P 49 tc49_0:=tK (eC ok34 (eC ok83 (eC ok84 (eC ok85 (eC ok86 eN))))) { lp:=lp1 9 { sh:=(sH 4 [aS 12 5 0,aW 48 3] (cT [rS 0 8,rI 3 0 8,[⟨0,[(3,1),(1,-1)]⟩]]) [(0,1)]),keep:=[0,1,5,7,8,9,11,47],W:=[4],Wo:=[22,23,24,115,116,117,118,119,120,121,122,123,124,125,143,208],dec:=⟨8,[(3,-1)]⟩ } <| lp0,lx:=[(lem_s84,[]),(lem_j305,[])] }
def tc95 : TC:=tC 1 (sH 1 [aP 0 116 0] (rP 0) [(0,0)]) [143] [(sH 0 [(0,.t [])] [] [])]
theorem ok95 : TCok P 95 tc95:=tK eN {}
def tc52 : TC:=tC 3 (sH 41 [aP 0 92 0,aP 1 87 1,(2,.s (.a (rC 2)))] (cT [rP 0,rP 1,rR 2]) [(0,0),(1,0)]) W4 [(sH 0 [(0,.t [])] [] [])]
theorem ok52 : TCok P 52 tc52:=tK (eC ok34 (eC ok83 (eC ok85 (eC ok86 (eC ok95 eN))))) { lp:=lp1 3 { sh:=(sH 4 [(6,.s (.c (.zs 0 (.var 0) [.int 2 .i64 0 7] (.var 1) (.var 2)))),aW 18 3] (cT [rS 0 8,rI 3 0 8,[⟨0,[(3,1),(1,-1)]⟩]]) [(0,1)]),keep:=[0,1,5,17],W:=[22,23,24,96,97,98,99,100,101,108,109,110,111,112,126,143,208],Wo:=[22,23,24,96,97,98,99,100,101,108,109,110,111,112,126,143,208],dec:=⟨8,[(3,-1)]⟩ } <| lp1 22 (laK (sH 1 [aW 88 1] (rI 1 0 1048576 ++ ([⟨0,[(1,-1),(0,1)]⟩])) []) [0,1,86,87] W4 W4 1 [aW 87 0] (⟨0,[(1,-1),(0,1)]⟩)) <| lp1 12 { sh:=(sH 1 [aW 45 0] (rI 0 0 8) []),keep:=[0,1,5,6,10,39,40,41],W:=[22,23,24,96,97,98,99,100,101,108,109,110,111,112,126,143,208],Wo:=[22,23,24,96,97,98,99,100,101,108,109,110,111,112,126,143,208],dec:=⟨8,[(0,-1)]⟩ } <| lp1 9 (laK (sH 1 [aW 41 1] (rI 1 0 1048576 ++ ([⟨0,[(1,-1),(0,1)]⟩])) []) [0,1,5,6,39,40] W4 W4 1 [aW 40 0] (⟨0,[(1,-1),(0,1)]⟩)) <| lp0,lem:=fun i sl=>match Nat.beq i 17 with | true=>[(lem_ad8,[5,10])] | false=>[] }
def tc89 : TC:=tC 3 (sH 11 [aP 0 87 0,aW 1 1,aQ 2 [cW 2,cW 3,cW 4,cW 5,cW 6,cW 7,cS 5 8]] (cT [rP 0,rI 1 0 7,rW 2,rW 3,rW 4,rW 5,rI 6 0 2,rW 7,rS 8 4,[(Lin.var 9).addc (-4)]]) [(0,0),(8,0)]) [96,97,98,99,100,101,108,109,110,111,112] [(sH 1 [aW 0 11] (rW 11) [])]
theorem ok89 : TCok P 89 tc89:=tK (eC ok69 eN) {}
def tc199 : TC:=tC 3 (sM 5 [(0,d1 (cI .u32 0)),aP 1 118 1,aP 2 3 2] (cT [rI 0 0 4294967295,rP 1,rP 2,rP 3,rI 4 0 7]) [(1,0),(2,0),(3,0)] [mq 1 0 (.ptr 144 87 false) (cP 87 3),mq 2 0 (iW 2) (cW 4)]) [] [(sH 1 [(0,d1 (cB 5))] (rB 5) [])]
theorem ok199 : TCok P 199 tc199:=tK (eC ok99 eN) {}
def tc198 : TC:=tC 2 (sM 7 [aS 0 57 0,(1,.s (.c (.clo 199 [(3,.var 3,zTab 118),(4,.var 4,zTab 3)])))] (cT [rS 0 1048576,rP 3,rP 4,rP 5,rI 6 0 7]) [(0,0),(3,0),(4,0),(5,0)] [mq 3 0 (.ptr 144 87 false) (cP 87 5),mq 4 0 (iW 2) (cW 6)]) [] [(sH 1 [aW 0 7] (rW 7 ++ ([⟨1,[(7,1)]⟩,⟨-1,[(7,-1),(1,1)]⟩])) [])]
theorem ok198 : TCok P 198 tc198:=tK (eC ok199 eN) (l1 2 (laK (sH 1 [aW 8 1] (rI 1 0 1048576 ++ ([⟨0,[(1,-1),(0,1)]⟩])) []) [0,1,7] [] [] 1 [aW 7 0] (⟨0,[(1,-1),(0,1)]⟩)))
def tc200 : TC:=tC 3 (sH 5 [aS 0 57 0,aW 1 3,aW 2 4] (cT [rS 0 1048576,rW 3,rW 4,[⟨0,[(3,1)]⟩,⟨0,[(4,1),(3,-1)]⟩,⟨0,[(4,-1),(1,1)]⟩]]) [(0,0)]) [62] [(sH 3 [aS 0 57 5] (rS 5 1048576 ++ ([⟨0,[(6,1),(4,1),(3,-1),(1,-1)]⟩,⟨0,[(6,-1),(4,-1),(3,1),(1,1)]⟩])) [(5,0)])]
theorem ok200 : TCok P 200 tc200:=tK eN {}
def tc143 : TC:=tC 3 (sH 3 [aP 0 92 0,aP 1 87 1,aW 2 2] (cT [rP 0,rP 1,rI 2 0 7]) [(0,0),(1,0)]) [62,133] [(sH 2 [(0,.t [.c (cI .u32 3),.c (cB 4)])] (rI 3 0 4294967295 ++ (rB 4)) [])]
theorem ok143 : TCok P 143 tc143:=tK (eC ok198 (eC ok199 (eC ok200 eN))) {}
def tc201 : TC:=tC 0 (sH 0 [] [] []) [] [(sH 1 [aP 0 326 0] (rP 0) [(0,0)])]
theorem ok201 : TCok P 201 tc201:=tK eN {}
def tc144 : TC:=tC 1 (sH 1 [(0,d1 (cI .u32 0))] (rI 0 0 4294967295) []) [] [(sH 1 [aP 0 249 1] (rP 1) [(1,0)])]
theorem ok144 : TCok P 144 tc144:=tK (eC ok201 eN) {}
def tc145 : TC:=tC 3 (sH 3 [aP 0 249 0,aW 1 1,aW 2 2] (cT [rP 0,rW 1,rW 2]) [(0,0)]) [306,307] [(sH 1 [aW 0 3] (rW 3) [])]
theorem ok145 : TCok P 145 tc145:=tK eN {}
end
end VtTop
