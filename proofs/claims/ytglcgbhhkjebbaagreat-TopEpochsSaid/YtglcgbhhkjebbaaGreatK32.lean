/- A part of the proof: lemmas. No condition of its own. -/
import Derived.Test.YtglcgbhhkjebbaaGreatK21
import Derived.Test.YtglcgbhhkjebbaaGreatK24
import Derived.Test.YtglcgbhhkjebbaaGreatK25
import Derived.Test.YtglcgbhhkjebbaaGreatK28
import Derived.Test.YtglcgbhhkjebbaaGreatK29
import Derived.Test.YtglcgbhhkjebbaaGreatK30
import Derived.Test.YtglcgbhhkjebbaaGreatK31
set_option linter.unusedVariables false
set_option linter.unusedSimpArgs false
namespace VtTop
open Go Zx Vx
noncomputable section
set_option maxRecDepth 1000000
def tc50_1_5 : TC:=t14 367 5 49
theorem ok50_1_5 : TCok P 50 tc50_1_5:=tK (eC ok52 (eC ok86 (eC ok87 (eC ok88 (eC ok89 (eC ok90 (eC ok91 (eC ok92 eN)))))))) { lx:=[(lem_s87,[]),(lem_s88,[]),(lem_s92,[]),(lem_g305,[])] }
def tc50_1_6 : TC:=t14 367 6 49
theorem ok50_1_6 : TCok P 50 tc50_1_6:=tK (eC ok52 (eC ok86 (eC ok87 (eC ok88 (eC ok89 (eC ok90 (eC ok91 (eC ok92 eN)))))))) { lx:=[(lem_s87,[]),(lem_s88,[]),(lem_s92,[]),(lem_g305,[])] }
def tc50_1_7 : TC:=t14 367 7 49
theorem ok50_1_7 : TCok P 50 tc50_1_7:=tK (eC ok52 (eC ok86 (eC ok87 (eC ok88 (eC ok89 (eC ok90 (eC ok91 (eC ok92 eN)))))))) { lx:=[(lem_s87,[]),(lem_s88,[]),(lem_s92,[]),(lem_g305,[])] }
def tc50_1_8 : TC:=t12 367 8 49 10 207 88 127
theorem ok50_1_8 : TCok P 50 tc50_1_8:=tK (eC ok52 (eC ok86 (eC ok87 (eC ok88 (eC ok89 (eC ok90 (eC ok91 (eC ok92 eN)))))))) { lx:=[(lem_s87,[]),(lem_s88,[]),(lem_s92,[]),(lem_g305,[])] }
def tc50_1_9 : TC:=t14 367 9 49
theorem ok50_1_9 : TCok P 50 tc50_1_9:=tK (eC ok52 (eC ok86 (eC ok87 (eC ok88 (eC ok89 (eC ok90 (eC ok91 (eC ok92 eN)))))))) { lx:=[(lem_s87,[]),(lem_s88,[]),(lem_s92,[]),(lem_g305,[])] }
def tc27_1 : TC:=tC 3 (sF 162 [aP 0 92 0,aW 1 1,aS 2 5 2] (cT [rP 0,rI 1 0 63,rS 2 1048576,rW 161]) [(0,0),(2,0)] (rM 0 0 5 ++ (rM 0 367 44 ++ (rM 0 734 83 ++ (rM 0 1101 122 ++ ([mq 0 1468 (iW 132) (cW 161)]))))) [⟨610,[cB 5,cB 6,cB 7,cB 8,cB 9,cB 10,cB 11,cB 12,cW 13,cW 14,cW 15,cW 16,cW 17,cW 18,cW 19,cW 20,cW 1]⟩,⟨611,[cB 44,cB 45,cB 46,cB 47,cB 48,cB 49,cB 50,cB 51,cW 52,cW 53,cW 54,cW 55,cW 56,cW 57,cW 58,cW 59,cW 1]⟩]) W1 [(sF 39 [(0,.t [])] [] [] (rM 0 0 5 ++ (rM 0 367 162 ++ (rM 0 734 83 ++ (rM 0 1101 122)))) [⟨301,rC 44 ++ (rC 162)⟩])]
theorem ok27_1 : TCok P 27 tc27_1:=tK (eC ok41_1 (eC ok42_1 (eC ok47 (eC ok48 (eC ok49_0 (eC ok50_1_2 (eC ok50_1_3 (eC ok50_1_4 (eC ok50_1_5 (eC ok50_1_6 (eC ok50_1_7 (eC ok50_1_8 (eC ok50_1_9 eN))))))))))))) { lem:=fun i sl=>match Nat.beq i 8 with | true=>[(lem_kind9,[6])] | false=>[],lx:=[(lem_r3001,[0])] }
def tc50_2_2 : TC:=t12 734 2 88 10 49 207 127
theorem ok50_2_2 : TCok P 50 tc50_2_2:=tK (eC ok52 (eC ok86 (eC ok87 (eC ok88 (eC ok89 (eC ok90 (eC ok91 (eC ok92 eN)))))))) { lx:=[(lem_s87,[]),(lem_s88,[]),(lem_s92,[]),(lem_g305,[])] }
def tc50_2_3 : TC:=t12 734 3 88 10 49 207 127
theorem ok50_2_3 : TCok P 50 tc50_2_3:=tK (eC ok52 (eC ok86 (eC ok87 (eC ok88 (eC ok89 (eC ok90 (eC ok91 (eC ok92 eN)))))))) { lx:=[(lem_s87,[]),(lem_s88,[]),(lem_s92,[]),(lem_g305,[])] }
def tc50_2_4 : TC:=t13 734 88
theorem ok50_2_4 : TCok P 50 tc50_2_4:=tK (eC ok52 (eC ok86 (eC ok87 (eC ok88 (eC ok89 (eC ok90 (eC ok91 (eC ok92 eN)))))))) { lx:=[(lem_s87,[]),(lem_s88,[]),(lem_s92,[]),(lem_g305,[])] }
def tc50_2_5 : TC:=t14 734 5 88
theorem ok50_2_5 : TCok P 50 tc50_2_5:=tK (eC ok52 (eC ok86 (eC ok87 (eC ok88 (eC ok89 (eC ok90 (eC ok91 (eC ok92 eN)))))))) { lx:=[(lem_s87,[]),(lem_s88,[]),(lem_s92,[]),(lem_g305,[])] }
def tc50_2_6 : TC:=t14 734 6 88
theorem ok50_2_6 : TCok P 50 tc50_2_6:=tK (eC ok52 (eC ok86 (eC ok87 (eC ok88 (eC ok89 (eC ok90 (eC ok91 (eC ok92 eN)))))))) { lx:=[(lem_s87,[]),(lem_s88,[]),(lem_s92,[]),(lem_g305,[])] }
def tc50_2_7 : TC:=t14 734 7 88
theorem ok50_2_7 : TCok P 50 tc50_2_7:=tK (eC ok52 (eC ok86 (eC ok87 (eC ok88 (eC ok89 (eC ok90 (eC ok91 (eC ok92 eN)))))))) { lx:=[(lem_s87,[]),(lem_s88,[]),(lem_s92,[]),(lem_g305,[])] }
def tc50_2_8 : TC:=t12 734 8 88 10 49 207 127
theorem ok50_2_8 : TCok P 50 tc50_2_8:=tK (eC ok52 (eC ok86 (eC ok87 (eC ok88 (eC ok89 (eC ok90 (eC ok91 (eC ok92 eN)))))))) { lx:=[(lem_s87,[]),(lem_s88,[]),(lem_s92,[]),(lem_g305,[])] }
def tc50_2_9 : TC:=t14 734 9 88
theorem ok50_2_9 : TCok P 50 tc50_2_9:=tK (eC ok52 (eC ok86 (eC ok87 (eC ok88 (eC ok89 (eC ok90 (eC ok91 (eC ok92 eN)))))))) { lx:=[(lem_s87,[]),(lem_s88,[]),(lem_s92,[]),(lem_g305,[])] }
end
end VtTop
