/- A part of the proof: lemmas. No condition of its own. -/
import Derived.Test.YtglcgbhhkjebbaaGreatK21
import Derived.Test.YtglcgbhhkjebbaaGreatK24
import Derived.Test.YtglcgbhhkjebbaaGreatK25
import Derived.Test.YtglcgbhhkjebbaaGreatK28
import Derived.Test.YtglcgbhhkjebbaaGreatK29
import Derived.Test.YtglcgbhhkjebbaaGreatK30
import Derived.Test.YtglcgbhhkjebbaaGreatK31
import Derived.Test.YtglcgbhhkjebbaaGreatK32
set_option linter.unusedVariables false
set_option linter.unusedSimpArgs false
namespace VtTop
open Go Zx Vx
noncomputable section
set_option maxRecDepth 1000000
def tc27_2 : TC:=tC 3 (sF 162 [aP 0 92 0,aW 1 1,aS 2 5 2] (cT [rP 0,rI 1 0 63,rS 2 1048576,rW 161]) [(0,0),(2,0)] (rM 0 0 5 ++ (rM 0 367 44 ++ (rM 0 734 83 ++ (rM 0 1101 122 ++ ([mq 0 1468 (iW 132) (cW 161)]))))) [⟨610,[cB 5,cB 6,cB 7,cB 8,cB 9,cB 10,cB 11,cB 12,cW 13,cW 14,cW 15,cW 16,cW 17,cW 18,cW 19,cW 20,cW 1]⟩,⟨610,[cB 44,cB 45,cB 46,cB 47,cB 48,cB 49,cB 50,cB 51,cW 52,cW 53,cW 54,cW 55,cW 56,cW 57,cW 58,cW 59,cW 1]⟩,⟨611,[cB 83,cB 84,cB 85,cB 86,cB 87,cB 88,cB 89,cB 90,cW 91,cW 92,cW 93,cW 94,cW 95,cW 96,cW 97,cW 98,cW 1]⟩]) W1 [(sF 39 [(0,.t [])] [] [] (rM 0 0 5 ++ (rM 0 367 44 ++ (rM 0 734 162 ++ (rM 0 1101 122)))) [⟨301,rC 83 ++ (rC 162)⟩])]
theorem ok27_2 : TCok P 27 tc27_2:=tK (eC ok41_2 (eC ok42_2 (eC ok47 (eC ok48 (eC ok49_0 (eC ok50_2_2 (eC ok50_2_3 (eC ok50_2_4 (eC ok50_2_5 (eC ok50_2_6 (eC ok50_2_7 (eC ok50_2_8 (eC ok50_2_9 eN))))))))))))) { lem:=fun i sl=>match Nat.beq i 8 with | true=>[(lem_kind9,[6])] | false=>[],lx:=[(lem_r3002,[0])] }
def tc50_3_2 : TC:=t12 1101 2 127 10 49 88 207
theorem ok50_3_2 : TCok P 50 tc50_3_2:=tK (eC ok52 (eC ok86 (eC ok87 (eC ok88 (eC ok89 (eC ok90 (eC ok91 (eC ok92 eN)))))))) { lx:=[(lem_s87,[]),(lem_s88,[]),(lem_s92,[]),(lem_g305,[])] }
def tc50_3_3 : TC:=t12 1101 3 127 10 49 88 207
theorem ok50_3_3 : TCok P 50 tc50_3_3:=tK (eC ok52 (eC ok86 (eC ok87 (eC ok88 (eC ok89 (eC ok90 (eC ok91 (eC ok92 eN)))))))) { lx:=[(lem_s87,[]),(lem_s88,[]),(lem_s92,[]),(lem_g305,[])] }
def tc50_3_4 : TC:=t13 1101 127
theorem ok50_3_4 : TCok P 50 tc50_3_4:=tK (eC ok52 (eC ok86 (eC ok87 (eC ok88 (eC ok89 (eC ok90 (eC ok91 (eC ok92 eN)))))))) { lx:=[(lem_s87,[]),(lem_s88,[]),(lem_s92,[]),(lem_g305,[])] }
def tc50_3_5 : TC:=t14 1101 5 127
theorem ok50_3_5 : TCok P 50 tc50_3_5:=tK (eC ok52 (eC ok86 (eC ok87 (eC ok88 (eC ok89 (eC ok90 (eC ok91 (eC ok92 eN)))))))) { lx:=[(lem_s87,[]),(lem_s88,[]),(lem_s92,[]),(lem_g305,[])] }
def tc50_3_6 : TC:=t14 1101 6 127
theorem ok50_3_6 : TCok P 50 tc50_3_6:=tK (eC ok52 (eC ok86 (eC ok87 (eC ok88 (eC ok89 (eC ok90 (eC ok91 (eC ok92 eN)))))))) { lx:=[(lem_s87,[]),(lem_s88,[]),(lem_s92,[]),(lem_g305,[])] }
def tc50_3_7 : TC:=t14 1101 7 127
theorem ok50_3_7 : TCok P 50 tc50_3_7:=tK (eC ok52 (eC ok86 (eC ok87 (eC ok88 (eC ok89 (eC ok90 (eC ok91 (eC ok92 eN)))))))) { lx:=[(lem_s87,[]),(lem_s88,[]),(lem_s92,[]),(lem_g305,[])] }
def tc50_3_8 : TC:=t12 1101 8 127 10 49 88 207
theorem ok50_3_8 : TCok P 50 tc50_3_8:=tK (eC ok52 (eC ok86 (eC ok87 (eC ok88 (eC ok89 (eC ok90 (eC ok91 (eC ok92 eN)))))))) { lx:=[(lem_s87,[]),(lem_s88,[]),(lem_s92,[]),(lem_g305,[])] }
def tc50_3_9 : TC:=t14 1101 9 127
theorem ok50_3_9 : TCok P 50 tc50_3_9:=tK (eC ok52 (eC ok86 (eC ok87 (eC ok88 (eC ok89 (eC ok90 (eC ok91 (eC ok92 eN)))))))) { lx:=[(lem_s87,[]),(lem_s88,[]),(lem_s92,[]),(lem_g305,[])] }
def tc27_3 : TC:=tC 3 (sF 162 [aP 0 92 0,aW 1 1,aS 2 5 2] (cT [rP 0,rI 1 0 63,rS 2 1048576,rW 161]) [(0,0),(2,0)] (rM 0 0 5 ++ (rM 0 367 44 ++ (rM 0 734 83 ++ (rM 0 1101 122 ++ ([mq 0 1468 (iW 132) (cW 161)]))))) [⟨610,[cB 5,cB 6,cB 7,cB 8,cB 9,cB 10,cB 11,cB 12,cW 13,cW 14,cW 15,cW 16,cW 17,cW 18,cW 19,cW 20,cW 1]⟩,⟨610,[cB 44,cB 45,cB 46,cB 47,cB 48,cB 49,cB 50,cB 51,cW 52,cW 53,cW 54,cW 55,cW 56,cW 57,cW 58,cW 59,cW 1]⟩,⟨610,[cB 83,cB 84,cB 85,cB 86,cB 87,cB 88,cB 89,cB 90,cW 91,cW 92,cW 93,cW 94,cW 95,cW 96,cW 97,cW 98,cW 1]⟩,⟨611,[cB 122,cB 123,cB 124,cB 125,cB 126,cB 127,cB 128,cB 129,cW 130,cW 131,cW 132,cW 133,cW 134,cW 135,cW 136,cW 137,cW 1]⟩]) W1 [(sF 39 [(0,.t [])] [] [] (rM 0 0 5 ++ (rM 0 367 44 ++ (rM 0 734 83 ++ (rM 0 1101 162)))) [⟨301,rC 122 ++ (rC 162)⟩])]
theorem ok27_3 : TCok P 27 tc27_3:=tK (eC ok41_3 (eC ok42_3 (eC ok47 (eC ok48 (eC ok49_0 (eC ok50_3_2 (eC ok50_3_3 (eC ok50_3_4 (eC ok50_3_5 (eC ok50_3_6 (eC ok50_3_7 (eC ok50_3_8 (eC ok50_3_9 eN))))))))))))) { lem:=fun i sl=>match Nat.beq i 8 with | true=>[(lem_kind9,[6])] | false=>[],lx:=[(lem_r3003,[0])] }
def tc49_1 : TC:=t11 1 10 168 88 127 49
theorem ok49_1 : TCok P 49 tc49_1:=tK (eC ok34 (eC ok83 (eC ok84 (eC ok85 (eC ok86 eN))))) { lp:=lp1 9 { sh:=(sH 4 [aS 12 5 0,aW 48 3] (cT [rS 0 8,rI 3 0 8,[⟨0,[(3,1),(1,-1)]⟩]]) [(0,1)]),keep:=[0,1,5,7,8,9,11,47],W:=[4],Wo:=[22,23,24,115,116,117,118,119,120,121,122,123,124,125,143,208],dec:=⟨8,[(3,-1)]⟩ } <| lp0,lx:=[(lem_s84,[]),(lem_j305,[])] }
def tc49_2 : TC:=t11 2 10 49 168 127 88
theorem ok49_2 : TCok P 49 tc49_2:=tK (eC ok34 (eC ok83 (eC ok84 (eC ok85 (eC ok86 eN))))) { lp:=lp1 9 { sh:=(sH 4 [aS 12 5 0,aW 48 3] (cT [rS 0 8,rI 3 0 8,[⟨0,[(3,1),(1,-1)]⟩]]) [(0,1)]),keep:=[0,1,5,7,8,9,11,47],W:=[4],Wo:=[22,23,24,115,116,117,118,119,120,121,122,123,124,125,143,208],dec:=⟨8,[(3,-1)]⟩ } <| lp0,lx:=[(lem_s84,[]),(lem_j305,[])] }
def tc49_3 : TC:=t11 3 10 49 88 168 127
theorem ok49_3 : TCok P 49 tc49_3:=tK (eC ok34 (eC ok83 (eC ok84 (eC ok85 (eC ok86 eN))))) { lp:=lp1 9 { sh:=(sH 4 [aS 12 5 0,aW 48 3] (cT [rS 0 8,rI 3 0 8,[⟨0,[(3,1),(1,-1)]⟩]]) [(0,1)]),keep:=[0,1,5,7,8,9,11,47],W:=[4],Wo:=[22,23,24,115,116,117,118,119,120,121,122,123,124,125,143,208],dec:=⟨8,[(3,-1)]⟩ } <| lp0,lx:=[(lem_s84,[]),(lem_j305,[])] }
def tc27_4 : TC:=tC 3 (sF 162 [aP 0 92 0,aW 1 1,aS 2 5 2] (cT [rP 0,rI 1 0 63,rS 2 1048576,rW 161]) [(0,0),(2,0)] (rM 0 0 5 ++ (rM 0 367 44 ++ (rM 0 734 83 ++ (rM 0 1101 122 ++ ([mq 0 1468 (iW 132) (cW 161)]))))) [⟨610,[cB 5,cB 6,cB 7,cB 8,cB 9,cB 10,cB 11,cB 12,cW 13,cW 14,cW 15,cW 16,cW 17,cW 18,cW 19,cW 20,cW 1]⟩,⟨610,[cB 44,cB 45,cB 46,cB 47,cB 48,cB 49,cB 50,cB 51,cW 52,cW 53,cW 54,cW 55,cW 56,cW 57,cW 58,cW 59,cW 1]⟩,⟨610,[cB 83,cB 84,cB 85,cB 86,cB 87,cB 88,cB 89,cB 90,cW 91,cW 92,cW 93,cW 94,cW 95,cW 96,cW 97,cW 98,cW 1]⟩,⟨610,[cB 122,cB 123,cB 124,cB 125,cB 126,cB 127,cB 128,cB 129,cW 130,cW 131,cW 132,cW 133,cW 134,cW 135,cW 136,cW 137,cW 1]⟩]) W1 [(sF 39 [(0,.t [])] [] [] (rM 0 0 162 ++ (rM 0 367 44 ++ (rM 0 734 83 ++ (rM 0 1101 122)))) [⟨301,rC 5 ++ (rC 162)⟩]),(sF 39 [(0,.t [])] [] [] (rM 0 0 5 ++ (rM 0 367 162 ++ (rM 0 734 83 ++ (rM 0 1101 122)))) [⟨301,rC 44 ++ (rC 162)⟩]),(sF 39 [(0,.t [])] [] [] (rM 0 0 5 ++ (rM 0 367 44 ++ (rM 0 734 162 ++ (rM 0 1101 122)))) [⟨301,rC 83 ++ (rC 162)⟩]),(sF 39 [(0,.t [])] [] [] (rM 0 0 5 ++ (rM 0 367 44 ++ (rM 0 734 83 ++ (rM 0 1101 162)))) [⟨301,rC 122 ++ (rC 162)⟩])]
theorem ok27_4 : TCok P 27 tc27_4:=tK (eC ok41_4 (eC ok42_3 (eC ok47 (eC ok48 (eC ok49_0 (eC ok49_1 (eC ok49_2 (eC ok49_3 (eC ok50_3_9 eN))))))))) { lem:=fun i sl=>match Nat.beq i 12 with | true=>[(lem_room4,[6])] | false=>[] }
end
end VtTop
