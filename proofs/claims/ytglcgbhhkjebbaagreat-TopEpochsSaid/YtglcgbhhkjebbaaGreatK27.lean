/- A part of the proof: lemmas. No condition of its own. -/
import Derived.Test.YtglcgbhhkjebbaaGreatK21
import Derived.Test.YtglcgbhhkjebbaaGreatK24
import Derived.Test.YtglcgbhhkjebbaaGreatK25
import Derived.Test.YtglcgbhhkjebbaaGreatK26
set_option linter.unusedVariables false
set_option linter.unusedSimpArgs false
namespace VtTop
open Go Zx Vx
noncomputable section
set_option maxRecDepth 1000000
def tc164c : TC:=t9 1 255 511
theorem ok164c : TCok P 164 tc164c:=tK (eC ok206c (eC ok206 eN)) {}
def tc164 : TC:=tC 2 (sM 3 [aP 0 225 0,aW 1 1] (cT [rP 0,rW 1,rI 2 0 100]) [(0,0)] [mK (iW 267) 0 1 (cW 2)]) W9 [(sM 2 [aW 0 3] (rW 3 ++ (rI 4 0 100)) [] [mK (iW 267) 0 1 (cW 4)])]
theorem ok164 : TCok P 164 tc164:=tK (eC ok206c (eC ok206 eN)) {}
def tc165 : TC:=tC 1 (sH 12 [aQ 0 [cW 0,cW 1,cS 230 2,cW 5,cS 3 6,cS 301 9]] (cT [rW 0,rW 1,rS 2 128,rW 5,rS 6 1024,rS 9 1024]) [(2,0),(6,0),(9,0)]) [] [(sH 1 [aW 0 12] (rI 12 0 5) [])]
theorem ok165 : TCok P 165 tc165:=tK eN (l1 3 (laK (sH 2 [aW 3 1,aW 9 2] (cT [rI 1 0 5,rI 2 0 1048576,[⟨0,[(2,-1),(0,1)]⟩]]) []) [7,8] [] [] 1 [aW 8 0] (⟨0,[(2,-1),(0,1)]⟩)))
def tc114 : TC:=tC 1 (sM 2 [aP 0 225 0] (rP 0 ++ (rI 1 0 100)) [(0,0)] [mK (iW 267) 0 1 (cW 1)]) W8 [(sM 13 [aQ 0 [cW 2,cW 3,cS 230 4,cW 7,cS 3 8,cS 301 11]] (cT [rI 2 0 63,rI 3 1 32,rS 4 65,rI 7 0 511,rS 8 1024,rS 11 1024,rI 14 0 100]) [(4,1),(8,1),(11,1)] [mK (iW 267) 0 1 (cW 14)])]
theorem ok114 : TCok P 114 tc114:=tK (eC ok112t (eC ok112 (eC ok113t (eC ok113e (eC ok113b (eC ok113c (eC ok113 (eC ok119 (eC ok162 (eC ok163 (eC ok164c (eC ok164 (eC ok165 eN))))))))))))) { lp:=lp1 4 (laK (sM 2 [aW 19 2] (cT [rI 2 0 65,rI 3 0 100,[⟨0,[(2,-1),(1,1)]⟩]]) [] [mK (iW 267) 0 1 (cW 3)]) [0,2,3,18] W10 W8 2 [aP 0 225 0,aW 18 1] (⟨0,[(2,-1),(1,1)]⟩)) <| lp1 9 (laK (sM 2 [aW 35 2] (cT [rI 2 0 65,rI 3 0 100,[⟨0,[(2,-1),(1,1)]⟩]]) [] [mK (iW 267) 0 1 (cW 3)]) [0,2,3,34] W10 W8 2 [aP 0 225 0,aW 34 1] (⟨0,[(2,-1),(1,1)]⟩)) <| lp1 16 (laK (sM 5 [aW 57 3] (cT [rI 3 0 256,rI 4 0 100,rS 5 256,[⟨0,[(6,-1),(3,1)]⟩,⟨0,[(3,-1),(2,1)]⟩]]) [(5,1)] [mK (iW 267) 0 1 (cW 4),mK (.sli 100 3 1024) 1 4 (cS 3 5)]) [0,2,3,56] [334,267,100,2] W8 3 [aP 0 225 0,aP 3 77 1,aW 56 2] (⟨0,[(3,-1),(2,1)]⟩)) <| lp1 20 (laK (sM 2 [aW 72 2] (cT [rI 2 0 65,rI 3 0 100,[⟨0,[(2,-1),(1,1)]⟩]]) [] [mK (iW 267) 0 1 (cW 3)]) [0,2,3,71] W10 W8 2 [aP 0 225 0,aW 71 1] (⟨0,[(2,-1),(1,1)]⟩)) <| lp1 26 (laK (sM 5 [aW 89 3] (cT [rI 3 0 5,rI 4 0 100,rS 5 5,[⟨0,[(6,-1),(3,1)]⟩,⟨0,[(3,-1),(2,1)]⟩]]) [(5,1)] [mK (iW 267) 0 1 (cW 4),mK (.sli 101 301 1024) 1 5 (cS 301 5)]) [0,2,3,88] [334,267,101,2] W8 3 [aP 0 225 0,aP 3 77 1,aW 88 2] (⟨0,[(3,-1),(2,1)]⟩)) <| lp0 }
def tc208 : TC:=tC 3 (sH 3 [aW 0 0,aP 1 3 1,aP 2 3 2] (cT [rW 0,rP 1,rP 2]) [(1,0),(2,0)]) [] [(sH 1 [(0,d1 (cB 3))] (rB 3) [])]
theorem ok208 : TCok P 208 tc208:=tK eN {}
def tc229 : TC:=tC 2 (sH 5 [aS 0 3 0,(1,.s (.c (.clo 208 [(3,.var 3,zTab 3),(4,.var 4,zTab 3)])))] (cT [rS 0 1048576,rP 3,rP 4]) [(0,0),(3,0),(4,0)]) [] [(sH 1 [aW 0 5] (rW 5 ++ ([⟨1,[(5,1)]⟩,⟨-1,[(5,-1),(1,1)]⟩])) [])]
theorem ok229 : TCok P 229 tc229:=tK (eC ok208 eN) (l1 2 (laK (sH 1 [aW 8 1] (rI 1 0 1048576 ++ ([⟨0,[(1,-1),(0,1)]⟩])) []) [0,1,7] [] [] 1 [aW 7 0] (⟨0,[(1,-1),(0,1)]⟩)))
def tc207 : TC:=tC 2 (sH 5 [aS 0 3 0,(1,.s (.c (.clo 208 [(3,.var 3,zTab 3),(4,.var 4,zTab 3)])))] (cT [rS 0 1048576,rP 3,rP 4]) [(0,0),(3,0),(4,0)]) [] [(sH 0 [(0,d1 (.tru true))] [] []),(sH 0 [(0,d1 (.tru false))] [] [])]
theorem ok207 : TCok P 207 tc207:=tK (eC ok229 eN) {}
def tc166 : TC:=tC 4 (sH 6 [aS 0 3 0,aW 1 3,aW 2 4,aW 3 5] (cT [rS 0 1048576,rW 3,rW 4,rW 5]) [(0,0)]) [] [(sH 0 [(0,d1 (.tru true))] [⟨0,[(3,-1),(1,1)]⟩,⟨0,[(3,1),(1,-1)]⟩] []),(sH 0 [(0,d1 (.tru false))] [] [])]
theorem ok166 : TCok P 166 tc166:=tK (eC ok207 (eC ok208 eN)) {}
def tc209 : TC:=tC 2 (sH 22 [aQ 0 [cW 0,cW 1,cS 3 2,cS 3 5,cS 3 8],aQ 1 [cW 11,cW 12,cS 3 13,cS 3 16,cS 3 19]] (cT [rI 0 0 4,rI 1 0 8,rS 2 1024,rS 5 1024,rS 8 1024,rI 11 0 4,rI 12 0 8,rS 13 1024,rS 16 1024,rS 19 1024]) [(2,0),(5,0),(8,0),(13,0),(16,0),(19,0)]) [] [(sH 2 [(0,.t [.c (cW 22),.c (cB 23)])] (rW 22 ++ (rB 23)) [])]
theorem ok209 : TCok P 209 tc209:=tK eN {}
def tc167 : TC:=tC 1 (sH 12 [aQ 0 [cW 0,cW 1,cS 230 2,cW 5,cS 3 6,cS 301 9]] (cT [rW 0,rW 1,rS 2 128,rW 5,rS 6 1024,rS 9 1024]) [(2,0),(6,0),(9,0)]) [] [(sH 0 [(0,d1 (.tru true))] [⟨64,[(3,-1)]⟩,⟨-1,[(3,1)]⟩] []),(sH 0 [(0,d1 (.tru false))] [] [])]
theorem ok167 : TCok P 167 tc167:=tK (eC ok209 eN) (l1 3 (laK (sH 1 [aW 12 1] (rI 1 0 128 ++ ([⟨0,[(1,-1),(0,1)]⟩])) []) [1,3,10,11] [273,274,275,276,277] [] 1 [aW 11 0] (⟨0,[(1,-1),(0,1)]⟩)))
def tc180 : TC:=tC 3 (sH 5 [aS 0 3 0,aW 1 3,aW 2 4] (cT [rS 0 1048576,rW 3,rW 4]) [(0,0)]) [] [(sH 0 [(0,d1 (.tru true))] [⟨0,[(3,1),(1,-1)]⟩] []),(sH 0 [(0,d1 (.tru false))] [] [])]
theorem ok180 : TCok P 180 tc180:=tK (eC ok166 eN) {}
def tc170 : TC:=tC 2 (sH 23 [aQ 0 [cW 0,cW 1,cS 230 2,cW 5,cS 3 6,cS 301 9],aQ 1 [cW 12,cW 13,cS 3 14,cS 3 17,cS 3 20]] (cT [rW 0,rW 1,rS 2 128,rW 5,rS 6 1024,rS 9 1024,rI 12 0 4,rI 13 0 8,rS 14 1024,rS 17 1024,rS 20 1024]) [(2,0),(6,0),(9,0),(14,0),(17,0),(20,0)]) [] [(sH 0 [(0,d1 (.tru true))] [⟨0,[(15,1),(1,-1)]⟩,⟨0,[(15,-1),(1,1)]⟩,⟨0,[(21,1),(5,-1)]⟩,⟨0,[(21,-1),(5,1)]⟩,⟨8,[(18,-1)]⟩] []),(sH 0 [(0,d1 (.tru false))] [] [])]
theorem ok170 : TCok P 170 tc170:=tK (eC ok166 (eC ok180 eN)) {}
def tc169 : TC:=tC 2 (sM 13 [aQ 0 [cW 0,cW 1,cS 3 2,cS 3 5,cS 3 8],aP 1 77 11] (cT [rI 0 0 4,rI 1 0 8,rS 2 1024,rS 5 1024,rS 8 1024,rP 11,rW 12]) [(2,0),(5,0),(8,0),(11,0)] [mq 11 1 (iW 97) (cW 12)]) [] [(sH 0 [(0,d1 (.tru true))] [] []),(sH 0 [(0,d1 (.tru false))] [⟨0,[(12,-1),(3,1)]⟩,⟨0,[(12,1),(3,-1)]⟩] [])]
theorem ok169 : TCok P 169 tc169:=tK (eC ok170 eN) {}
def tc210 : TC:=tC 2 (sM 5 [aS 0 230 0,(1,.s (.c (.clo 169 [(3,.var 3,zTab 77)])))] (cT [rS 0 1048576,rP 3,rW 4]) [(0,0),(3,0)] [mq 3 1 (iW 97) (cW 4)]) [] [(sH 1 [aW 0 5] (rW 5 ++ ([⟨0,[(5,1)]⟩,⟨-1,[(5,-1),(1,1)]⟩])) []),{ n:=0,P:=[(0,.s (.c (.num .i64 (-1))))],C:=[],adr:=[],G:=[⟨2170,[cS 230 0,cW 4]⟩] }]
theorem ok210 : TCok P 210 tc210:=tK (eC ok169 eN) { lp:=lp1 2 { sh:={ n:=1,P:=[aW 8 6],C:=rI 6 0 1048576 ++ ([⟨0,[(6,-1),(0,1)]⟩,⟨0,[(2,-1),(0,1)]⟩,⟨0,[(2,1),(0,-1)]⟩]),adr:=[],G:=[⟨217,[cS 230 1,cW 5,cW 6]⟩] },keep:=[0,1,7],W:=[],Wo:=[],r:=6,refs:=[aW 7 0,aS 0 230 1,(1,.s (.c (.clo 169 [(4,.var 4,zTab 77)])))],rM:=[mq 4 1 (iW 97) (cW 5)],lem:=[(lem_start217,[0,1])],dec:=⟨0,[(6,-1),(0,1)]⟩ } <| lp0,lem:=fun i sl=>match Nat.beq i 6 with | true=>[(lem_step217,[0,1,8])] | false=>match Nat.beq i 7 with | true=>[(lem_end217,[0,1,8])] | false=>[] }
end
end VtTop
namespace VtTop
open Go Zx Vx
noncomputable section
set_option maxRecDepth 1000000
def tc168 : TC:=tC 2 (sM 5 [aS 0 230 0,(1,.s (.c (.clo 169 [(3,.var 3,zTab 77)])))] (cT [rS 0 1048576,rP 3,rW 4]) [(0,0),(3,0)] [mq 3 1 (iW 97) (cW 4)]) [] [(sH 0 [(0,d1 (.tru true))] [] []),{ n:=0,P:=[(0,d1 (.tru false))],C:=[],adr:=[],G:=[⟨2170,[cS 230 0,cW 4]⟩] }]
theorem ok168 : TCok P 168 tc168:=tK (eC ok210 eN) {}
def tc115 : TC:=tC 1 (sH 12 [aQ 0 [cW 0,cW 1,cS 230 2,cW 5,cS 3 6,cS 301 9]] (cT [rW 0,rW 1,rS 2 128,rW 5,rS 6 1024,rS 9 1024]) [(2,0),(6,0),(9,0)]) [] [{ n:=0,P:=[(0,d1 (.tru true))],C:=[⟨0,[(0,1)]⟩,⟨63,[(0,-1)]⟩,⟨-1,[(1,1)]⟩,⟨32,[(1,-1)]⟩,⟨0,[(5,1)]⟩,⟨32,[(5,-1)]⟩,⟨64,[(3,-1)]⟩],adr:=[],G:=[⟨2170,[cS 230 2,cW 1]⟩] },(sH 0 [(0,d1 (.tru false))] [] [])]
theorem ok115 : TCok P 115 tc115:=tK (eC ok165 (eC ok166 (eC ok167 (eC ok168 (eC ok169 eN))))) (l1 10 (laK (sH 1 [aW 71 1] (rI 1 0 1048576 ++ ([⟨0,[(1,-1),(0,1)]⟩])) []) [1,69,70] [] [] 1 [aW 70 0] (⟨0,[(1,-1),(0,1)]⟩)))
def tc116c : TC:=tC 2 (sH 42 [aQ 0 [cB 0,cB 1,cW 2,cI .u16 3,.tru false,cW 4,cW 5,cS 230 6,cW 9,cS 3 10,cS 301 13,cB 16,cI .u32 17,cB 18,cB 19,cB 20,cS 3 21,cS 3 24,cS 3 27],aQ 1 [cW 30,cW 31,cS 230 32,cW 35,cS 3 36,cS 301 39]] (cT [rB 0,rB 1,rW 2,rI 3 0 65535,rW 4,rW 5,rS 6 128,rW 9,rS 10 1024,rS 13 1024,rB 16,rI 17 0 4294967295,rB 18,rB 19,rB 20,rS 21 1024,rS 24 1024,rS 27 1024,rI 30 0 63,rI 31 1 32,rS 32 128,rI 35 0 511,rS 36 1024,rS 39 1024]) [(6,0),(10,0),(13,0),(21,0),(24,0),(27,0),(32,0),(36,0),(39,0)]) [] [(sH 12 [aQ 0 [cW 42,cW 43,cS 230 44,cW 47,cS 3 48,cS 301 51]] (cT [rI 42 0 63,rI 43 1 32,rS 44 128,rI 47 0 511,rS 48 1024,rS 51 1024]) [(44,0),(48,0),(51,0)])]
theorem ok116c : TCok P 116 tc116c:=tK eN {}
def tc116b : TC:=tC 2 (sH 42 [aQ 0 [cB 0,cB 1,cW 2,cI .u16 3,.tru true,cW 4,cW 5,cS 230 6,cW 9,cS 3 10,cS 301 13,cB 16,cI .u32 17,cB 18,cB 19,cB 20,cS 3 21,cS 3 24,cS 3 27],aQ 1 [cW 30,cW 31,cS 230 32,cW 35,cS 3 36,cS 301 39]] (cT [rB 0,rB 1,rW 2,rI 3 0 65535,rI 4 0 63,rI 5 1 32,rS 6 128,rI 9 0 511,rS 10 1024,rS 13 1024,rB 16,rI 17 0 4294967295,rB 18,rB 19,rB 20,rS 21 1024,rS 24 1024,rS 27 1024,rW 30,rW 31,rS 32 128,rW 35,rS 36 1024,rS 39 1024]) [(6,0),(10,0),(13,0),(21,0),(24,0),(27,0),(32,0),(36,0),(39,0)]) [] [(sH 12 [aQ 0 [cW 42,cW 43,cS 230 44,cW 47,cS 3 48,cS 301 51]] (cT [rI 42 0 63,rI 43 1 32,rS 44 128,rI 47 0 511,rS 48 1024,rS 51 1024]) [(44,0),(48,0),(51,0)])]
theorem ok116b : TCok P 116 tc116b:=tK eN {}
def tc116 : TC:=tC 2 (sH 43 [aQ 0 [cB 0,cB 1,cW 2,cI .u16 3,cB 4,cW 5,cW 6,cS 230 7,cW 10,cS 3 11,cS 301 14,cB 17,cI .u32 18,cB 19,cB 20,cB 21,cS 3 22,cS 3 25,cS 3 28],aQ 1 [cW 31,cW 32,cS 230 33,cW 36,cS 3 37,cS 301 40]] (cT [rB 0,rB 1,rW 2,rI 3 0 65535,rB 4,rW 5,rW 6,rS 7 128,rW 10,rS 11 1024,rS 14 1024,rB 17,rI 18 0 4294967295,rB 19,rB 20,rB 21,rS 22 1024,rS 25 1024,rS 28 1024,rW 31,rW 32,rS 33 128,rW 36,rS 37 1024,rS 40 1024]) [(7,0),(11,0),(14,0),(22,0),(25,0),(28,0),(33,0),(37,0),(40,0)]) [] [(sH 12 [aQ 0 [cW 43,cW 44,cS 230 45,cW 48,cS 3 49,cS 301 52]] (cT [rW 43,rW 44,rS 45 128,rW 48,rS 49 1024,rS 52 1024,[⟨-1,[(4,1)]⟩,⟨0,[(43,1),(5,-1)]⟩,⟨0,[(43,-1),(5,1)]⟩,⟨0,[(44,1),(6,-1)]⟩,⟨0,[(44,-1),(6,1)]⟩,⟨0,[(48,1),(10,-1)]⟩,⟨0,[(48,-1),(10,1)]⟩,⟨0,[(46,1),(8,-1)]⟩,⟨0,[(46,-1),(8,1)]⟩]]) [(45,0),(49,0),(52,0)]),(sH 12 [aQ 0 [cW 43,cW 44,cS 230 45,cW 48,cS 3 49,cS 301 52]] (cT [rW 43,rW 44,rS 45 128,rW 48,rS 49 1024,rS 52 1024,[⟨0,[(4,-1)]⟩,⟨0,[(43,1),(31,-1)]⟩,⟨0,[(43,-1),(31,1)]⟩,⟨0,[(44,1),(32,-1)]⟩,⟨0,[(44,-1),(32,1)]⟩,⟨0,[(48,1),(36,-1)]⟩,⟨0,[(48,-1),(36,1)]⟩,⟨0,[(46,1),(34,-1)]⟩,⟨0,[(46,-1),(34,1)]⟩]]) [(45,0),(49,0),(52,0)])]
theorem ok116 : TCok P 116 tc116:=tK eN {}
def tc211 : TC:=t0 3 1099511627776
theorem ok211 : TCok P 211 tc211:=tK eN {}
def tc171 : TC:=tC 1 (sH 11 [aQ 0 [cW 0,cW 1,cS 3 2,cS 3 5,cS 3 8]] (cT [rI 0 0 4,rI 1 0 8,rS 2 1024,rS 5 1024,rS 8 1024]) [(2,0),(5,0),(8,0)]) [] [(sH 11 [aQ 0 [cW 11,cW 12,cS 3 13,cS 3 16,cS 3 19]] (cT [rI 11 0 4,rI 12 0 8,rS 13 1024,rS 16 1024,rS 19 1024]) [(13,0),(16,0),(19,0)])]
theorem ok171 : TCok P 171 tc171:=tK (eC ok211 eN) {}
def tc117 : TC:=tC 2 (sH 13 [aQ 0 [cW 0,cW 1,cS 230 2,cW 5,cS 3 6,cS 301 9],aW 1 12] (cT [rI 0 0 63,rW 1,rS 2 128,rW 5,rS 6 1024,rS 9 1024,rW 12]) [(2,0),(6,0),(9,0)]) [] [(sH 12 [(0,.t [.a [cW 13,cW 14,cS 3 15,cS 3 18,cS 3 21],.c (cB 24)])] (cT [rI 13 0 4,rI 14 0 8,rS 15 1024,rS 18 1024,rS 21 1024,rB 24]) [(15,0),(18,0),(21,0)])]
theorem ok117 : TCok P 117 tc117:=tK (eC ok171 eN) {}
def tc120 : TC:=t10 16
theorem ok120 : TCok P 120 tc120:=tK (eC ok113t (eC ok113e (eC ok113b (eC ok113c (eC ok113 (eC ok118t (eC ok118 eN))))))) (l1 3 (laK (sM 5 [aS 3 3 1,aW 4 4] (cT [rS 1 16,rW 4,rI 5 0 100]) [(1,1)] [mK (iW 267) 0 1 (cW 5)]) [0] W9 W9 1 [aP 0 225 0] (⟨17,[(2,-1)]⟩)))
def tc73 : TC:=tC 2 (sH 15 [aS 0 5 0,aQ 1 [cW 3,cW 4,cS 230 5,cW 8,cS 3 9,cS 301 12]] (cT [rS 0 8192,rW 3,rW 4,rS 5 128,rW 8,rS 9 1024,rS 12 1024]) [(0,0),(5,0),(9,0),(12,0)]) W8 [(sH 32 [(0,.t [.a [cB 15,cB 16,cW 17,cI .u16 18,cB 19,cW 20,cW 21,cS 230 22,cW 25,cS 3 26,cS 301 29,cB 32,cI .u32 33,cB 34,cB 35,cB 36,cS 3 37,cS 3 40,cS 3 43],.c (cW 46)])] (cT [rB 15,rB 16,rW 17,rI 18 0 65535,rB 19,rW 20,rW 21,rS 22 128,rW 25,rS 26 1024,rS 29 1024,rB 32,rI 33 0 4294967295,rB 34,rB 35,rB 36,rS 37 1024,rS 40 1024,rS 43 1024,rW 46]) [(22,0),(26,0),(29,0),(37,0),(40,0),(43,0)])]
theorem ok73 : TCok P 73 tc73:=tK (eC ok111 (eC ok112t (eC ok112 (eC ok113t (eC ok113e (eC ok113b (eC ok113c (eC ok113 (eC ok114 (eC ok115 (eC ok116c (eC ok116b (eC ok116 (eC ok117 (eC ok118t (eC ok118 (eC ok119 (eC ok120 (eC ok121 eN))))))))))))))))))) { lp:=lp1 25 { sh:=(sM 5 [] (cT [rI 2 0 100,rI 3 0 8589934592,rS 4 1048576]) [(4,0)] [mK (iW 267) 0 1 (cW 2),mq 1 1 (.int 334 .i64 0 8589934592) (cW 3),mq 1 0 (.sli 333 5 1048576) (cS 5 4)]),keep:=[4,6,7],W:=[334,267,333],Wo:=[267,275,276,277,334],r:=2,refs:=[aP 6 225 0,aP 12 296 1],gh:=[6,1006],dec:=⟨100,[(5,8),(3,-1),(2,-1)]⟩ } <| lp0,cut:=lp1 6 { sh:=(sM 1 [] (rI 1 0 100) [] [mK (iW 267) 0 1 (cW 1)]),keep:=[3,4,6,7,12],W:=[334,267,183,184,186,187,188],Wo:=[267,275,276,277,334],r:=1,refs:=[aP 6 225 0] } <| lp1 15 { sh:=(sM 1 [] (rI 1 0 100) [] [mK (iW 267) 0 1 (cW 1)]),keep:=[4,6,7,8,12],W:=[334,267,185],Wo:=[267,275,276,277,334],r:=1,refs:=[aP 6 225 0] } <| lp1 18 { sh:=(sM 1 [] (rI 1 0 100) [] [mK (iW 267) 0 1 (cW 1)]),keep:=[4,6,7,8,9,12],W:=[334,267],Wo:=[267,275,276,277,334],r:=1,refs:=[aP 6 225 0] } <| lp1 21 { sh:=(sM 1 [] (rI 1 0 100) [] [mK (iW 267) 0 1 (cW 1)]),keep:=[4,6,7,8,12],W:=[334,267,189],Wo:=[267,275,276,277,334],r:=1,refs:=[aP 6 225 0] } <| lp1 23 { sh:=(sM 1 [] (rI 1 0 100) [] [mK (iW 267) 0 1 (cW 1)]),keep:=[4,6,7,8,12],W:=[334,267,190],Wo:=[267,275,276,277,334],r:=1,refs:=[aP 6 225 0] } <| lp1 25 { sh:=(sM 1 [] (rI 1 0 100) [] [mK (iW 267) 0 1 (cW 1)]),keep:=[4,6,7,12],W:=[334,267,191],Wo:=[267,275,276,277,334],r:=1,refs:=[aP 6 225 0] } <| lp0 }
def tc172 : TC:=tC 2 (sH 4 [aS 0 56 0,(1,d1 (cI .u16 3))] (rS 0 1048576 ++ (rI 3 0 65535)) [(0,0)]) [] [(sH 1 [aW 0 4] (rW 4) [])]
theorem ok172 : TCok P 172 tc172:=tK eN (l1 2 (laK (sH 1 [aW 8 1] (rI 1 0 1048576 ++ ([⟨0,[(1,-1),(0,1)]⟩])) []) [0,1,7] [] [] 1 [aW 7 0] (⟨0,[(1,-1),(0,1)]⟩)))
def tc122 : TC:=tC 2 (sH 4 [aS 0 56 0,(1,d1 (cI .u16 3))] (rS 0 1048576 ++ (rI 3 0 65535)) [(0,0)]) [] [(sH 1 [(0,d1 (cB 4))] (rB 4) [])]
theorem ok122 : TCok P 122 tc122:=tK (eC ok172 eN) {}
def tc74 : TC:=tC 2 (sH 4 [aS 0 56 0,(1,d1 (cI .u16 3))] (rS 0 1048576 ++ (rI 3 0 65535)) [(0,0)]) [] [(sH 1 [(0,d1 (cB 4))] (rB 4) [])]
theorem ok74 : TCok P 74 tc74:=tK (eC ok122 eN) {}
def tc45 : TC:=tC 3 (sH 5 [aP 0 87 0,aW 1 1,aS 2 5 2] (cT [rP 0,rI 1 0 7,rS 2 1200]) [(0,0),(2,0)]) [162,163,267,275,276,277,334] [(sH 50 [(0,.t [.a [cB 5,cW 6,cI .u16 7,cI .u32 8,cI .u32 9,cS 57 10,cW 13,cS 220 14,cW 17,cS 5 18,cW 21,cW 22,cB 23,cB 24,cW 25,cI .u16 26,cB 27,cW 28,cW 29,cS 230 30,cW 33,cS 3 34,cS 301 37,cB 40,cI .u32 41,cB 42,cB 43,cB 44,cS 3 45,cS 3 48,cS 3 51],.c (cW 54)])] (cT [rB 5,rW 6,rI 7 0 65535,rI 8 0 4294967295,rI 9 0 4294967295,rS 10 256,rW 13,rS 14 4096,rI 17 0 255,rS 18 8192,rI 21 0 2,rW 22,rB 23,rB 24,rW 25,rI 26 0 65535,rB 27,rW 28,rW 29,rS 30 128,rW 33,rS 34 1024,rS 37 1024,rB 40,rI 41 0 4294967295,rB 42,rB 43,rB 44,rS 45 1024,rS 48 1024,rS 51 1024,rI 54 0 10]) [(10,0),(14,0),(18,0),(30,0),(34,0),(37,0),(45,0),(48,0),(51,0)])]
theorem ok45 : TCok P 45 tc45:=tK (eC ok68 (eC ok69 (eC ok70 (eC ok71 (eC ok72 (eC ok73 (eC ok74 eN))))))) {}
end
end VtTop
namespace VtTop
open Go Zx Vx
noncomputable section
set_option maxRecDepth 1000000
def tc123 : TC:=t0 56 1099511627776
theorem ok123 : TCok P 123 tc123:=tK eN {}
def tc124 : TC:=tC 1 (sH 3 [aS 0 56 0] (rS 0 1048576) [(0,0)]) [61] [(sH 0 [(0,.t [])] [] [])]
theorem ok124 : TCok P 124 tc124:=tK eN (l1 1 (laK (sH 2 [aW 2 3,aW 3 4] (cT [rI 3 0 1048576,rI 4 (-1) 1048576,[⟨-1,[(4,-1),(1,1)]⟩]]) []) [0] [61] [61] 3 [aS 0 56 0] (⟨0,[(4,1),(3,-1)]⟩)))
def tc75 : TC:=tC 2 (sH 4 [aS 0 56 0,(1,d1 (cI .u16 3))] (rS 0 4096 ++ (rI 3 0 65535)) [(0,0)]) [61] [(sH 3 [aS 0 56 4] (rS 4 256) [(4,0)])]
theorem ok75 : TCok P 75 tc75:=tK (eC ok122 (eC ok123 (eC ok124 eN))) (l1 4 (laK (sH 4 [aS 6 56 3,aW 7 6] (cT [rS 3 256,rI 6 (-1) 8192,[⟨-1,[(6,-1),(1,1)]⟩]]) [(3,1)]) [5] [61] [61] 3 [aS 5 56 0] (⟨1,[(6,1)]⟩)))
def tc212 : TC:=tC 2 (sH 4 [aS 0 220 0,(1,.s (.c (.clo 213 [(3,.var 3,zTab 125)])))] (rS 0 1048576 ++ (rP 3)) [(0,0),(3,0)]) [] [(sH 0 [(0,d1 (.tru true))] [] []),(sH 0 [(0,d1 (.tru false))] [] [])]
theorem ok212 : TCok P 212 tc212:=tK (eC ok159b (eC ok159 eN)) {}
def tc173 : TC:=tC 1 (sH 16 [aQ 0 [cB 0,cW 1,cI .u16 2,cI .u32 3,cI .u32 4,cS 57 5,cW 8,cS 220 9,cW 12,cS 5 13]] (cT [rB 0,rW 1,rI 2 0 65535,rI 3 0 4294967295,rI 4 0 4294967295,rS 5 256,rW 8,rS 9 4096,rI 12 0 255,rS 13 8192]) [(5,0),(9,0),(13,0)]) [] [(sH 0 [(0,d1 (.tru true))] [⟨15,[(6,-1)]⟩,⟨0,[(12,1)]⟩,⟨255,[(12,-1)]⟩] []),(sH 0 [(0,d1 (.tru false))] [] [])]
theorem ok173 : TCok P 173 tc173:=tK (eC ok212 (eC ok213 eN)) {}
def tc174 : TC:={ k:=3,pre:=(sH 5 [aS 0 5 0,(1,d1 (cI .u32 3)),aW 2 4] (cT [rS 0 134217728,rI 3 0 4294967295,rI 4 1 4]) [(0,1)]),W:=[],post:=[(sH 3 [aS 0 5 5] (rS 5 268435456 ++ ([⟨0,[(6,1),(4,-1),(1,-1)]⟩,⟨0,[(6,-1),(4,1),(1,1)]⟩])) [(5,1)])],Y:=some [4] }
theorem ok174 : TCok P 174 tc174:=tK eN (l1 2 (laK (sH 4 [aS 0 5 4,aW 7 7] (cT [rS 4 268435456,rI 7 (-1) 4,[⟨1,[(7,1),(5,1),(3,-1),(1,-1)]⟩,⟨-1,[(7,-1),(5,-1),(3,1),(1,1)]⟩]]) [(4,1)]) [1] [] [] 4 [aS 0 5 0,aW 2 3] (⟨1,[(7,1)]⟩)))
def tc175 : TC:=tC 1 (sH 16 [aQ 0 [cB 0,cW 1,cI .u16 2,cI .u32 3,cI .u32 4,cS 57 5,cW 8,cS 220 9,cW 12,cS 5 13]] (cT [rB 0,rW 1,rI 2 0 65535,rI 3 0 4294967295,rI 4 0 4294967295,rS 5 256,rW 8,rS 9 4096,rI 12 0 255,rS 13 8192]) [(5,0),(9,0),(13,0)]) [] [(sH 3 [aS 0 5 16] (rS 16 2 ++ ([⟨-2,[(17,1)]⟩,⟨2,[(17,-1)]⟩])) [(16,1)])]
theorem ok175 : TCok P 175 tc175:=tK eN {}
def tc176 : TC:=tC 1 (sH 16 [aQ 0 [cB 0,cW 1,cI .u16 2,cI .u32 3,cI .u32 4,cS 57 5,cW 8,cS 220 9,cW 12,cS 5 13]] (cT [rB 0,rW 1,rI 2 0 65535,rI 3 0 4294967295,rI 4 0 4294967295,rS 5 256,rW 8,rS 9 4096,rI 12 0 255,rS 13 8192]) [(5,0),(9,0),(13,0)]) [] [(sH 3 [aS 0 5 16] (rS 16 67108867) [(16,1)])]
theorem ok176 : TCok P 176 tc176:=tK eN { lp:=lp1 3 (laK (sH 4 [aS 3 5 1,aW 9 4] (cT [rS 1 67108864,rI 4 0 4096,[⟨0,[(4,8194),(2,-1)]⟩,⟨0,[(4,-1),(0,1)]⟩]]) [(1,1)]) [1,7,8] [] [] 1 [aW 8 0] (⟨0,[(4,-1),(0,1)]⟩)) <| lp1 10 { sh:=(sH 3 [aS 3 5 0] (rS 0 9223372036854775807) [(0,1)]),keep:=[],W:=[],Wo:=[],md:=4,dec:=⟨0,[(1,1)]⟩ } <| lp0 }
def tc125 : TC:=tC 1 (sH 16 [aQ 0 [cB 0,cW 1,cI .u16 2,cI .u32 3,cI .u32 4,cS 57 5,cW 8,cS 220 9,cW 12,cS 5 13]] (cT [rB 0,rW 1,rI 2 0 65535,rI 3 0 4294967295,rI 4 0 4294967295,rS 5 256,rW 8,rS 9 4096,rI 12 0 255,rS 13 8192]) [(5,0),(9,0),(13,0)]) [] [(sH 4 [(0,.t [.c (cS 5 16),.c (cW 19)])] (rS 16 1200 ++ (rI 19 0 100)) [(16,0)])]
theorem ok125 : TCok P 125 tc125:=tK (eC ok173 (eC ok174 (eC ok175 (eC ok176 eN)))) (l1 6 (laK (sH 4 [aS 4 5 1,aW 27 4] (cT [rS 1 4096,rI 4 0 256,[⟨-12,[(4,-4),(2,1)]⟩,⟨12,[(4,4),(2,-1)]⟩,⟨0,[(4,-1),(0,1)]⟩]]) [(1,1)]) [1,25,26] [] [] 1 [aW 26 0] (⟨0,[(4,-1),(0,1)]⟩)))
def tc177 : TC:=tC 2 (sH 43 [aQ 0 [cB 0,cB 1,cW 2,cI .u16 3,cB 4,cW 5,cW 6,cS 230 7,cW 10,cS 3 11,cS 301 14,cB 17,cI .u32 18,cB 19,cB 20,cB 21,cS 3 22,cS 3 25,cS 3 28],aQ 1 [cW 31,cW 32,cS 230 33,cW 36,cS 3 37,cS 301 40]] (cT [rB 0,rB 1,rW 2,rI 3 0 65535,rB 4,rW 5,rW 6,rS 7 128,rW 10,rS 11 1024,rS 14 1024,rB 17,rI 18 0 4294967295,rB 19,rB 20,rB 21,rS 22 1024,rS 25 1024,rS 28 1024,rW 31,rW 32,rS 33 128,rW 36,rS 37 1024,rS 40 1024]) [(7,0),(11,0),(14,0),(22,0),(25,0),(28,0),(33,0),(37,0),(40,0)]) [] [(sH 12 [(0,.t [.a [cW 43,cW 44,cS 3 45,cS 3 48,cS 3 51],.c (cB 54)])] (cT [rI 43 0 4,rI 44 0 8,rS 45 1024,rS 48 1024,rS 51 1024,rB 54,[⟨-1,[(4,1)]⟩,⟨-1,[(6,1)]⟩]]) [(45,0),(48,0),(51,0)]),(sH 12 [(0,.t [.a [cW 43,cW 44,cS 3 45,cS 3 48,cS 3 51],.c (cB 54)])] (cT [rI 43 0 4,rI 44 0 8,rS 45 1024,rS 48 1024,rS 51 1024,rB 54,[⟨0,[(4,-1)]⟩,⟨-1,[(32,1)]⟩]]) [(45,0),(48,0),(51,0)]),(sH 11 [(0,.t [.a [cW 43,cW 44,cS 3 45,cS 3 48,cS 3 51],.c (.tru false)])] (cT [rI 43 0 4,rI 44 0 8,rS 45 1024,rS 48 1024,rS 51 1024]) [(45,0),(48,0),(51,0)])]
theorem ok177 : TCok P 177 tc177:=tK (eC ok115 (eC ok116c (eC ok116b (eC ok116 (eC ok117 eN))))) {}
def tc178 : TC:=tC 1 (sH 12 [aQ 0 [cW 0,cW 1,cS 230 2,cW 5,cS 3 6,cS 301 9]] (cT [rW 0,rW 1,rS 2 128,rW 5,rS 6 1024,rS 9 1024]) [(2,0),(6,0),(9,0)]) [] [(sH 1 [(0,d1 (cB 12))] (rB 12) [])]
theorem ok178 : TCok P 178 tc178:=tK eN {}
def tc179 : TC:=tC 2 (sH 6 [aS 0 3 0,aS 1 3 3] (rS 0 1048576 ++ (rS 3 1048576)) [(0,0),(3,0)]) [] [(sH 1 [(0,d1 (cB 6))] (rB 6) [])]
theorem ok179 : TCok P 179 tc179:=tK eN (l1 4 (laK (sH 1 [aW 13 1] (rI 1 0 1048576 ++ ([⟨0,[(1,-1),(0,1)]⟩])) []) [0,1,12] [] [] 1 [aW 12 0] (⟨0,[(1,-1),(0,1)]⟩)))
def tc126 : TC:=tC 2 (sH 43 [aQ 0 [cB 0,cB 1,cW 2,cI .u16 3,cB 4,cW 5,cW 6,cS 230 7,cW 10,cS 3 11,cS 301 14,cB 17,cI .u32 18,cB 19,cB 20,cB 21,cS 3 22,cS 3 25,cS 3 28],aQ 1 [cW 31,cW 32,cS 230 33,cW 36,cS 3 37,cS 301 40]] (cT [rB 0,rB 1,rW 2,rI 3 0 65535,rB 4,rW 5,rW 6,rS 7 128,rW 10,rS 11 1024,rS 14 1024,rB 17,rI 18 0 4294967295,rB 19,rB 20,rB 21,rS 22 1024,rS 25 1024,rS 28 1024,rW 31,rW 32,rS 33 128,rW 36,rS 37 1024,rS 40 1024]) [(7,0),(11,0),(14,0),(22,0),(25,0),(28,0),(33,0),(37,0),(40,0)]) [] [(sH 1 [(0,d1 (cB 43))] (rB 43) [])]
theorem ok126 : TCok P 126 tc126:=tK (eC ok116c (eC ok116b (eC ok116 (eC ok166 (eC ok177 (eC ok178 (eC ok179 (eC ok180 eN)))))))) { cut:=lp1 6 (laC (sH 1 [(31,d1 (cB 0))] (rB 0) []) [2,5,7] [] []) <| lp1 8 (laC (sH 1 [(49,d1 (cB 0))] (rB 0) []) [2,5,7] [] []) <| lp1 10 (laC (sH 1 [(73,d1 (cB 0))] (rB 0) []) [2,5,7] [] []) <| lp0 }
def tc181 : TC:=tC 3 (sH 5 [aQ 0 [cB 0,cW 1,cW 2],aW 1 3,(2,d1 (cB 4))] (cT [rB 0,rI 1 0 2,rI 2 0 2,rW 3,rB 4]) []) [] [(sH 5 [(0,.t [.a [cB 5,cW 6,cW 7],.c (cB 8),.c (cB 9)])] (cT [rB 5,rI 6 0 2,rI 7 0 2,rB 8,rB 9]) [])]
theorem ok181 : TCok P 181 tc181:=tK (eC ok203 (eC ok215 eN)) {}
end
end VtTop
namespace VtTop
open Go Zx Vx
noncomputable section
set_option maxRecDepth 1000000
def tc182 : TC:=tC 1 (sH 1 [aP 0 249 0] (rP 0) [(0,0)]) [308,310] [(sH 0 [(0,.t [])] [] [])]
theorem ok182 : TCok P 182 tc182:=tK eN {}
def tc216 : TC:=tC 2 (sH 2 [aW 0 0,aW 1 1] (rW 0 ++ (rW 1)) []) [] [(sH 1 [(0,d1 (cI .u32 2))] (rI 2 0 4294967295) [])]
theorem ok216 : TCok P 216 tc216:=tK eN {}
def tc183 : TC:=tC 4 (sH 10 [aQ 0 [cB 0,cI .u16 1,cI .u32 2,cI .u32 3,cI .u16 4,cI .u16 5,cW 6],(1,d1 (cI .u32 7)),(2,d1 (cI .u16 8)),aW 3 9] (cT [rB 0,rI 1 0 65535,rI 2 0 4294967295,rI 3 0 4294967295,rI 4 0 65535,rI 5 0 65535,rW 6,rI 7 0 4294967295,rI 8 0 65535,rW 9]) []) [] [(sH 7 [aQ 0 [cB 10,cI .u16 11,cI .u32 12,cI .u32 13,cI .u16 14,cI .u16 15,cW 16]] (cT [rB 10,rI 11 0 65535,rI 12 0 4294967295,rI 13 0 4294967295,rI 14 0 65535,rI 15 0 65535,rW 16]) [])]
theorem ok183 : TCok P 183 tc183:=tK (eC ok216 eN) {}
def tc127 : TC:=tC 5 (sH 50 [aP 0 249 0,aW 1 1,aQ 2 [cB 2,cW 3,cI .u16 4,cI .u32 5,cI .u32 6,cS 57 7,cW 10,cS 220 11,cW 14,cS 5 15],aQ 3 [cB 18,cB 19,cW 20,cI .u16 21,cB 22,cW 23,cW 24,cS 230 25,cW 28,cS 3 29,cS 301 32,cB 35,cI .u32 36,cB 37,cB 38,cB 39,cS 3 40,cS 3 43,cS 3 46],aW 4 49] (cT [rP 0,rW 1,rB 2,rW 3,rI 4 0 65535,rI 5 0 4294967295,rI 6 0 4294967295,rS 7 256,rW 10,rS 11 4096,rI 14 0 255,rS 15 8192,rB 18,rB 19,rW 20,rI 21 0 65535,rB 22,rW 23,rW 24,rS 25 128,rW 28,rS 29 1024,rS 32 1024,rB 35,rI 36 0 4294967295,rB 37,rB 38,rB 39,rS 40 1024,rS 43 1024,rS 46 1024,rW 49]) [(0,0),(7,0),(11,0),(15,0),(25,0),(29,0),(32,0),(40,0),(43,0),(46,0)]) [281,282,283,291,292,293,294,295,296,297,308,310] [(sH 1 [(0,d1 (cB 50))] (rB 50) [])]
theorem ok127 : TCok P 127 tc127:=tK (eC ok181 (eC ok182 (eC ok183 eN))) {}
def tc217 : TC:=tC 2 (sH 13 [aQ 0 [cW 0,cW 1,cS 230 2,cW 5,cS 3 6,cS 301 9],aW 1 12] (cT [rW 0,rW 1,rS 2 128,rW 5,rS 6 1024,rS 9 1024,rW 12]) [(2,0),(6,0),(9,0)]) [] [(sH 3 [(0,.t [.c (cW 13),.c (cW 14),.c (cB 15)])] (cT [rW 13,rW 14,rB 15]) [])]
theorem ok217 : TCok P 217 tc217:=tK (eC ok115 eN) { lp:=lp1 4 { sh:={ n:=4,P:=[aW 4 7,aW 5 8,(6,d1 (cB 9)),aW 25 10],C:=rW 7 ++ (rW 8 ++ (rB 9 ++ (rI 10 0 64 ++ ([⟨0,[(10,-1),(3,1)]⟩,⟨0,[(3,1),(1,-1)]⟩,⟨0,[(3,-1),(1,1)]⟩,⟨-1,[(6,1),(5,-1)]⟩])))),adr:=[],G:=[⟨2170,[cS 230 0,cW 6]⟩] },keep:=[1,23,24],W:=[],Wo:=[],r:=7,refs:=[aS 23 230 0,aW 24 3,aP 2 77 4,aW 1 5],rM:=[mq 4 1 (iW 97) (cW 6)],dec:=⟨0,[(10,-1),(3,1)]⟩ } <| lp0,lem:=fun i sl=>match Nat.beq i 5 with | true=>[(lem_use217,[23,25])] | false=>[] }
def tc184 : TC:=tC 4 (sH 15 [aQ 0 [cW 0,cW 1,cS 230 2,cW 5,cS 3 6,cS 301 9],(1,d1 (cI .u32 12)),aW 2 13,aW 3 14] (cT [rW 0,rW 1,rS 2 128,rW 5,rS 6 1024,rS 9 1024,rI 12 0 4294967295,rW 13,rW 14]) [(2,0),(6,0),(9,0)]) [] [(sH 2 [(0,.t [.c (cW 15),.c (cB 16)])] (rW 15 ++ (rB 16)) [])]
theorem ok184 : TCok P 184 tc184:=tK (eC ok115 (eC ok217 eN)) (l1 5 (laK (sH 5 [aW 10 1,aW 11 2,aW 12 3,(13,d1 (cB 4)),aW 23 5] (cT [rW 1,rW 2,rW 3,rB 4,rI 5 0 1048576,[⟨0,[(5,-1),(0,1)]⟩]]) []) [1,2,3,4,22] [] [] 1 [aW 22 0] (⟨0,[(5,-1),(0,1)]⟩)))
def tc185 : TC:=tC 2 (sH 32 [aQ 0 [cB 0,cB 1,cW 2,cI .u16 3,cB 4,cW 5,cW 6,cS 230 7,cW 10,cS 3 11,cS 301 14,cB 17,cI .u32 18,cB 19,cB 20,cB 21,cS 3 22,cS 3 25,cS 3 28],aW 1 31] (cT [rB 0,rB 1,rW 2,rI 3 0 65535,rB 4,rW 5,rW 6,rS 7 128,rW 10,rS 11 1024,rS 14 1024,rB 17,rI 18 0 4294967295,rB 19,rB 20,rB 21,rS 22 1024,rS 25 1024,rS 28 1024,rW 31]) [(7,0),(11,0),(14,0),(22,0),(25,0),(28,0)]) [] [(sH 1 [(0,d1 (cB 32))] (rB 32) [])]
theorem ok185 : TCok P 185 tc185:=tK eN {}
def tc186 : TC:=tC 3 (sH 7 [aS 0 56 0,(1,d1 (cI .u16 3)),aS 2 3 4] (cT [rS 0 1048576,rI 3 0 65535,rS 4 1048576]) [(0,0),(4,0)]) [] [(sH 1 [(0,d1 (cB 7))] (rB 7) [])]
theorem ok186 : TCok P 186 tc186:=tK (eC ok74 eN) (l1 2 (laK (sH 1 [aW 11 1] (rI 1 0 1048576 ++ ([⟨0,[(1,-1),(0,1)]⟩])) []) [0,1,9,10] [] [] 1 [aW 10 0] (⟨0,[(1,-1),(0,1)]⟩)))
def tc128 : TC:=tC 4 (sH 45 [aP 0 249 0,aQ 1 [cB 1,cB 2,cW 3,cI .u16 4,cB 5,cW 6,cW 7,cS 230 8,cW 11,cS 3 12,cS 301 15,cB 18,cI .u32 19,cB 20,cB 21,cB 22,cS 3 23,cS 3 26,cS 3 29],aQ 2 [cW 32,cW 33,cS 230 34,cW 37,cS 3 38,cS 301 41],(3,d1 (cI .u32 44))] (cT [rP 0,rB 1,rB 2,rW 3,rI 4 0 65535,rB 5,rW 6,rW 7,rS 8 128,rW 11,rS 12 1024,rS 15 1024,rB 18,rI 19 0 4294967295,rB 20,rB 21,rB 22,rS 23 1024,rS 26 1024,rS 29 1024,rW 32,rW 33,rS 34 128,rW 37,rS 38 1024,rS 41 1024,rI 44 0 4294967295]) [(0,0),(8,0),(12,0),(15,0),(23,0),(26,0),(29,0),(34,0),(38,0),(41,0)]) [310] [(sH 1 [aW 0 45] (rW 45) [])]
theorem ok128 : TCok P 128 tc128:=tK (eC ok74 (eC ok184 (eC ok185 (eC ok186 eN)))) {}
def tc129 : TC:=tC 4 (sH 10 [aQ 0 [cB 0,cI .u16 1,cI .u32 2,cI .u32 3,cI .u16 4,cI .u16 5,cW 6],(1,d1 (cI .u32 7)),(2,d1 (cI .u16 8)),aW 3 9] (cT [rB 0,rI 1 0 65535,rI 2 0 4294967295,rI 3 0 4294967295,rI 4 0 65535,rI 5 0 65535,rW 6,rI 7 0 4294967295,rI 8 0 65535,rW 9]) []) [] [(sH 10 [(0,.t [.a [cB 10,cI .u16 11,cI .u32 12,cI .u32 13,cI .u16 14,cI .u16 15,cW 16],.c (cI .u16 17),.c (cI .u32 18),.c (cI .u16 19)])] (cT [rB 10,rI 11 0 65535,rI 12 0 4294967295,rI 13 0 4294967295,rI 14 0 65535,rI 15 0 65535,rW 16,rI 17 0 65535,rI 18 0 4294967295,rI 19 0 65535]) [])]
theorem ok129 : TCok P 129 tc129:=tK eN {}
def tc218 : TC:=t0 57 1099511627776
theorem ok218 : TCok P 218 tc218:=tK eN {}
def tc219 : TC:=t0 220 1099511627776
theorem ok219 : TCok P 219 tc219:=tK eN {}
def tc187 : TC:=tC 1 (sH 16 [aQ 0 [cB 0,cW 1,cI .u16 2,cI .u32 3,cI .u32 4,cS 57 5,cW 8,cS 220 9,cW 12,cS 5 13]] (cT [rB 0,rW 1,rI 2 0 65535,rI 3 0 4294967295,rI 4 0 4294967295,rS 5 256,rW 8,rS 9 4096,rI 12 0 255,rS 13 8192]) [(5,0),(9,0),(13,0)]) [] [(sH 16 [aQ 0 [cB 16,cW 17,cI .u16 18,cI .u32 19,cI .u32 20,cS 57 21,cW 24,cS 220 25,cW 28,cS 5 29]] (cT [rB 16,rW 17,rI 18 0 65535,rI 19 0 4294967295,rI 20 0 4294967295,rS 21 256,rW 24,rS 25 4096,rI 28 0 255,rS 29 8192,[⟨0,[(26,1),(10,-1)]⟩,⟨0,[(26,-1),(10,1)]⟩,⟨0,[(22,1),(6,-1)]⟩,⟨0,[(22,-1),(6,1)]⟩,⟨0,[(30,1),(14,-1)]⟩,⟨0,[(30,-1),(14,1)]⟩,⟨0,[(28,1),(12,-1)]⟩,⟨0,[(28,-1),(12,1)]⟩]]) [(21,1),(25,1),(29,1)])]
theorem ok187 : TCok P 187 tc187:=tK (eC ok81 (eC ok218 (eC ok219 eN))) (l1 3 (laK (sH 1 [aW 19 1] (rI 1 0 4096 ++ ([⟨0,[(1,-1),(0,1)]⟩])) []) [1,2,18] [261] [] 1 [aW 18 0] (⟨0,[(1,-1),(0,1)]⟩)))
def tc130 : TC:=tC 3 (sH 20 [aQ 0 [cB 0,cW 1,cI .u16 2,cI .u32 3,cI .u32 4,cS 57 5,cW 8,cS 220 9,cW 12,cS 5 13],aW 1 16,aS 2 5 17] (cT [rB 0,rW 1,rI 2 0 65535,rI 3 0 4294967295,rI 4 0 4294967295,rS 5 256,rW 8,rS 9 4096,rI 12 0 255,rS 13 8192,rW 16,rS 17 8192]) [(5,0),(9,0),(13,0),(17,0)]) [] [(sH 17 [(0,.t [.a [cB 20,cW 21,cI .u16 22,cI .u32 23,cI .u32 24,cS 57 25,cW 28,cS 220 29,cW 32,cS 5 33],.c (cB 36)])] (cT [rB 20,rW 21,rI 22 0 65535,rI 23 0 4294967295,rI 24 0 4294967295,rS 25 256,rW 28,rS 29 4096,rI 32 0 255,rS 33 8192,rB 36,[⟨0,[(32,1),(12,-1)]⟩,⟨0,[(32,-1),(12,1)]⟩]]) [(25,1),(29,1),(33,1)])]
theorem ok130 : TCok P 130 tc130:=tK (eC ok81 (eC ok110 (eC ok187 eN))) {}
end
end VtTop
