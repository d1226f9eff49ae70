/- A part of the proof: lemmas. No condition of its own. -/
import Derived.Test.YtglcgbhhkjebbaaGreatK24
import Derived.Test.YtglcgbhhkjebbaaGreatK25
import Derived.Test.YtglcgbhhkjebbaaGreatK26
import Derived.Test.YtglcgbhhkjebbaaGreatK27
import Derived.Test.YtglcgbhhkjebbaaGreatK28
set_option linter.unusedVariables false
set_option linter.unusedSimpArgs false
namespace VtTop
open Go Zx Vx
noncomputable section
set_option maxRecDepth 1000000
def tc26_4 : TC:=tC 3 (sF 162 [aP 0 92 0,aW 1 1,aS 2 5 2] (cT [rP 0,rI 1 0 63,rS 2 1048576,rW 161]) [(0,0),(2,0)] (rM 0 0 5 ++ (rM 0 367 44 ++ (rM 0 734 83 ++ (rM 0 1101 122 ++ ([mq 0 1468 (iW 132) (cW 161)]))))) [⟨610,[cB 5,cB 6,cB 7,cB 8,cB 9,cB 10,cB 11,cB 12,cW 13,cW 14,cW 15,cW 16,cW 17,cW 18,cW 19,cW 20,cW 1]⟩,⟨610,[cB 44,cB 45,cB 46,cB 47,cB 48,cB 49,cB 50,cB 51,cW 52,cW 53,cW 54,cW 55,cW 56,cW 57,cW 58,cW 59,cW 1]⟩,⟨610,[cB 83,cB 84,cB 85,cB 86,cB 87,cB 88,cB 89,cB 90,cW 91,cW 92,cW 93,cW 94,cW 95,cW 96,cW 97,cW 98,cW 1]⟩,⟨610,[cB 122,cB 123,cB 124,cB 125,cB 126,cB 127,cB 128,cB 129,cW 130,cW 131,cW 132,cW 133,cW 134,cW 135,cW 136,cW 137,cW 1]⟩]) W0 [(sM 0 [(0,.t [])] [] [] (rM 0 0 5 ++ (rM 0 367 44 ++ (rM 0 734 83 ++ (rM 0 1101 122)))))]
theorem ok26_4 : TCok P 26 tc26_4:=tK (eC ok40 (eC ok41_4 (eC ok42_3 (eC ok43 (eC ok44 (eC ok45 (eC ok46 eN))))))) {}
def tc80 : TC:=tC 2 (sM 5 [aW 0 0,aP 1 31 1] (cT [rI 0 0 9,rP 1,rS 2 1048576,[(Lin.var 3).addc (-11)]]) [(1,0),(2,0)] [mq 1 0 (.sli 10 5 1048576) (cS 5 2)]) [] [(sH 1 [aW 0 5] (rI 5 0 65535) [])]
theorem ok80 : TCok P 80 tc80:=tK eN {}
def tc135 : TC:=tC 1 (sH 1 [aW 0 0] (rW 0) []) [] [(sH 4 [(0,.t [.a [cW 1,cW 2,cW 3,.num .i64 2,cW 4,.num .i64 4,.num .i64 4],.c (.tru true)])] (cT [rI 1 0 3,rI 2 0 7,rI 3 0 65535,rI 4 0 65535,[⟨-4,[(0,1)]⟩,⟨4,[(0,-1)]⟩]]) []),(sH 8 [(0,.t [.a [cW 1,cW 2,cW 3,cW 4,cW 5,cW 6,cW 7],.c (cB 8)])] (cT [rI 1 0 3,rI 2 0 7,rI 3 0 65535,rI 4 0 255,rI 5 0 65535,rI 6 0 8,rI 7 0 200,rB 8,[⟨3,[(0,-1)]⟩,⟨-1,[(0,1)]⟩]]) []),(sH 8 [(0,.t [.a [cW 1,cW 2,cW 3,cW 4,cW 5,cW 6,cW 7],.c (cB 8)])] (cT [rI 1 0 3,rI 2 0 7,rI 3 0 65535,rI 4 0 255,rI 5 0 65535,rI 6 0 8,rI 7 0 200,rB 8,[⟨-5,[(0,1)]⟩]]) []),(sH 7 [(0,.t [.a [cW 1,cW 2,cW 3,cW 4,cW 5,cW 6,cW 7],.c (.tru false)])] (cT [rI 1 0 3,rI 2 0 7,rI 3 0 65535,rI 4 0 255,rI 5 0 65535,rI 6 0 8,rI 7 0 200]) [])]
theorem ok135 : TCok P 135 tc135:=tK eN {}
def tc136 : TC:=tC 2 (sH 2 [aW 0 0,aW 1 1] (rW 0 ++ (rW 1)) []) [] [(sH 0 [(0,d1 (.tru true))] [⟨0,[(0,1)]⟩,⟨0,[(1,1),(0,-1)]⟩] []),(sH 0 [(0,d1 (.tru false))] [] [])]
theorem ok136 : TCok P 136 tc136:=tK eN {}
def tc137 : TC:=tC 1 (sH 9 [aQ 0 [cW 0,cW 1,cW 2,cW 3,cW 4,cW 5,cS 5 6]] (cT [rW 0,rI 1 0 3,rI 2 0 7,rI 3 0 65535,rI 4 0 255,rI 5 0 65535,rS 6 200]) [(6,0)]) [] [(sH 1 [(0,d1 (cB 9))] (rB 9) [])]
theorem ok137 : TCok P 137 tc137:=tK eN (l1 2 (laK (sH 1 [aW 9 1] (rI 1 0 1048576 ++ ([⟨0,[(1,-1),(0,1)]⟩])) []) [1,7,8] [] [] 1 [aW 8 0] (⟨0,[(1,-1),(0,1)]⟩)))
def tc82 : TC:=tC 1 (sH 9 [aQ 0 [cW 0,cW 1,cW 2,cW 3,cW 4,cW 5,cS 5 6]] (cT [rW 0,rW 1,rW 2,rW 3,rW 4,rW 5,rS 6 1048576]) [(6,0)]) [] [(sH 0 [(0,d1 (.tru false))] [] []),(sH 1 [(0,d1 (cB 9))] (rB 9 ++ ([⟨-4,[(0,1)]⟩,⟨4,[(0,-1)]⟩,⟨2,[(4,-1)]⟩,⟨-4,[(7,1)]⟩,⟨4,[(7,-1)]⟩,⟨0,[(1,1)]⟩,⟨3,[(1,-1)]⟩,⟨0,[(2,1)]⟩,⟨7,[(2,-1)]⟩,⟨0,[(3,1)]⟩,⟨65535,[(3,-1)]⟩,⟨0,[(4,1)]⟩,⟨255,[(4,-1)]⟩,⟨0,[(5,1)]⟩,⟨65535,[(5,-1)]⟩,⟨200,[(7,-1)]⟩])) []),(sH 1 [(0,d1 (cB 9))] (rB 9 ++ ([⟨3,[(0,-1)]⟩,⟨-1,[(0,1)]⟩,⟨0,[(1,1)]⟩,⟨3,[(1,-1)]⟩,⟨0,[(2,1)]⟩,⟨7,[(2,-1)]⟩,⟨0,[(3,1)]⟩,⟨65535,[(3,-1)]⟩,⟨0,[(4,1)]⟩,⟨255,[(4,-1)]⟩,⟨0,[(5,1)]⟩,⟨65535,[(5,-1)]⟩,⟨200,[(7,-1)]⟩])) []),(sH 1 [(0,d1 (cB 9))] (rB 9 ++ ([⟨-5,[(0,1)]⟩,⟨0,[(1,1)]⟩,⟨3,[(1,-1)]⟩,⟨0,[(2,1)]⟩,⟨7,[(2,-1)]⟩,⟨0,[(3,1)]⟩,⟨65535,[(3,-1)]⟩,⟨0,[(4,1)]⟩,⟨255,[(4,-1)]⟩,⟨0,[(5,1)]⟩,⟨65535,[(5,-1)]⟩,⟨200,[(7,-1)]⟩])) [])]
theorem ok82 : TCok P 82 tc82:=tK (eC ok135 (eC ok136 (eC ok137 eN))) {}
def tc47 : TC:=tC 1 (sH 3 [aS 0 5 0] (rS 0 1048576) [(0,0)]) [] [(sH 8 [(0,.t [.a [.num .i64 4,cW 3,cW 4,cW 5,cW 6,cW 7,cS 5 8],.c (.num .i64 0)])] (cT [rI 3 0 3,rI 4 0 7,rI 5 0 65535,rI 6 0 2,rI 7 0 65535,rS 8 4,[(Lin.var 9).addc (-4)]]) [(8,0)]),(sH 9 [(0,.t [.a [cW 3,cW 4,cW 5,cW 6,cW 7,cW 8,cS 5 9],.c (.num .i64 0)])] (cT [rW 3,rI 4 0 3,rI 5 0 7,rI 6 0 65535,rI 7 0 255,rI 8 0 65535,rS 9 200,[⟨3,[(3,-1)]⟩,⟨-1,[(3,1)]⟩]]) [(9,0)]),(sH 9 [(0,.t [.a [cW 3,cW 4,cW 5,cW 6,cW 7,cW 8,cS 5 9],.c (.num .i64 0)])] (cT [rW 3,rI 4 0 3,rI 5 0 7,rI 6 0 65535,rI 7 0 255,rI 8 0 65535,rS 9 200,[⟨-5,[(3,1)]⟩]]) [(9,0)]),(sH 10 [(0,.t [.a [cW 3,cW 4,cW 5,cW 6,cW 7,cW 8,cS 5 9],.c (cW 12)])] (cT [rW 3,rW 4,rW 5,rW 6,rW 7,rW 8,rS 9 1048576,rI 12 1 100]) [(9,0)])]
theorem ok47 : TCok P 47 tc47:=tK (eC ok80 (eC ok81 (eC ok82 eN))) {}
def tc138 : TC:=tC 1 (sH 9 [aQ 0 [cW 0,cW 1,cW 2,cW 3,cW 4,cW 5,cS 5 6]] (cT [rW 0,rW 1,rW 2,rW 3,rW 4,rW 5,rS 6 1048576]) [(6,0)]) [] [(sH 4 [(0,.t [.c (cS 5 9),.c (cW 12)])] (rS 9 219 ++ (rI 12 0 100)) [(9,1)])]
theorem ok138 : TCok P 138 tc138:=tK (eC ok82 eN) (l1 5 (laK (sH 4 [aS 4 5 1,aW 31 4] (cT [rS 1 11,rI 4 0 4,[⟨-3,[(4,-2),(2,1)]⟩,⟨3,[(4,2),(2,-1)]⟩,⟨0,[(4,-1),(0,1)]⟩]]) [(1,1)]) [1,29,30] [4] [] 1 [aW 30 0] (⟨0,[(4,-1),(0,1)]⟩)))
def tc83 : TC:=tC 3 (sH 11 [aP 0 92 0,aW 1 1,aQ 2 [cW 2,cW 3,cW 4,cW 5,cW 6,cW 7,cS 5 8]] (cT [rP 0,rI 1 0 63,rW 2,rW 3,rW 4,rW 5,rW 6,rW 7,rS 8 1048576]) [(0,0),(8,0)]) W6 [(sH 0 [(0,.t [])] [] [])]
theorem ok83 : TCok P 83 tc83:=tK (eC ok77 (eC ok138 eN)) {}
def tc48 : TC:=tC 4 (sH 4 [aP 0 92 0,aW 1 1,aW 2 2,aW 3 3] (cT [rP 0,rI 1 0 63,rW 2,rW 3]) [(0,0)]) W6 [(sH 0 [(0,.t [])] [] [])]
theorem ok48 : TCok P 48 tc48:=tK (eC ok83 eN) {}
def tc58 : TC:=tC 2 (sH 17 [aQ 0 [cB 0,cB 1,cB 2,cB 3,cB 4,cB 5,cB 6,cB 7,cW 8,cW 9,cW 10,cW 11,cW 12,cW 13,cW 14,cW 15],aW 1 16] (cT [rW 8,rW 9,rW 10,rW 11,rW 12,rW 13,rW 14,rW 15,rW 16]) []) [] [(sH 1 [(0,.t [.c (cW 17),.c (.tru true)])] (rI 17 0 7) []),(sH 1 [(0,.t [.c (cW 17),.c (.tru false)])] (rW 17) [])]
theorem ok58 : TCok P 58 tc58:=tK eN (l1 2 { sh:=(sH 1 [aW 10 0] (rI 0 0 8) []),keep:=[1,2,9],W:=[],Wo:=[],dec:=⟨8,[(0,-1)]⟩ })
def tc59 : TC:=tC 1 (sH 1 [aW 0 0] (rW 0) []) [] [(sH 1 [(0,d1 (cB 1))] (rB 1) [])]
theorem ok59 : TCok P 59 tc59:=tK eN {}
def tc32 : TC:=tC 1 (sH 16 [aQ 0 [cB 0,cB 1,cB 2,cB 3,cB 4,cB 5,cB 6,cB 7,cW 8,cW 9,cW 10,cW 11,cW 12,cW 13,cW 14,cW 15]] (cT [rW 8,rW 9,rW 10,rW 11,rW 12,rW 13,rW 14,rW 15]) []) [] [(sH 1 [(0,d1 (cB 16))] (rB 16) [])]
theorem ok32 : TCok P 32 tc32:=tK (eC ok58 (eC ok59 eN)) (l1 2 { sh:=(sH 1 [aW 9 0] (rI 0 0 8) []),keep:=[1,8],W:=[],Wo:=[],dec:=⟨8,[(0,-1)]⟩ })
def tc34 : TC:=tC 1 (sH 16 [aQ 0 [cB 0,cB 1,cB 2,cB 3,cB 4,cB 5,cB 6,cB 7,cW 8,cW 9,cW 10,cW 11,cW 12,cW 13,cW 14,cW 15]] (cT [rW 8,rW 9,rW 10,rW 11,rW 12,rW 13,rW 14,rW 15]) []) [] [(sH 1 [aW 0 16] (rW 16) [])]
theorem ok34 : TCok P 34 tc34:=tK (eC ok32 eN) (l1 5 { sh:=(sH 2 [aW 3 0,aW 11 1] (rW 0 ++ (rI 1 0 8)) []),keep:=[10],W:=[],Wo:=[],dec:=⟨8,[(1,-1)]⟩ })
end
end VtTop
