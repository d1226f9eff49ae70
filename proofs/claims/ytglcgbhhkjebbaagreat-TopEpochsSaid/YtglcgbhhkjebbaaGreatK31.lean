/- A part of the proof: lemmas. No condition of its own. -/
import Derived.Test.YtglcgbhhkjebbaaGreatK21
import Derived.Test.YtglcgbhhkjebbaaGreatK24
import Derived.Test.YtglcgbhhkjebbaaGreatK25
import Derived.Test.YtglcgbhhkjebbaaGreatK26
import Derived.Test.YtglcgbhhkjebbaaGreatK29
import Derived.Test.YtglcgbhhkjebbaaGreatK30
set_option linter.unusedVariables false
set_option linter.unusedSimpArgs false
namespace VtTop
open Go Zx Vx
noncomputable section
set_option maxRecDepth 1000000
def tc90 : TC:=tC 4 (sH 12 [aP 0 92 0,aP 1 87 1,aW 2 2,aQ 3 [cW 3,cW 4,cW 5,cW 6,cW 7,cW 8,cS 5 9]] (cT [rP 0,rP 1,rI 2 0 7,rW 3,rI 4 0 3,rI 5 0 7,rI 6 0 65535,rI 7 0 255,rI 8 0 65535,rS 9 200]) [(0,0),(1,0),(9,0)]) [22,23,24,62,126,133,143,208,306,307] [(sH 1 [aW 0 12] (rW 12) [])]
theorem ok90 : TCok P 90 tc90:=tK (eC ok83 (eC ok104 (eC ok143 (eC ok144 (eC ok145 eN))))) {}
def tc91 : TC:=tC 4 (sH 12 [aP 0 92 0,aP 1 87 1,aW 2 2,aQ 3 [cW 3,cW 4,cW 5,cW 6,cW 7,cW 8,cS 5 9]] (cT [rP 0,rP 1,rI 2 0 7,rW 3,rI 4 0 3,rI 5 0 7,rI 6 0 65535,rI 7 0 255,rI 8 0 65535,rS 9 200]) [(0,0),(1,0),(9,0)]) W6 [(sH 1 [aW 0 12] (rW 12) [])]
theorem ok91 : TCok P 91 tc91:=tK (eC ok83 (eC ok85 eN)) {}
def tc50_0_2 : TC:=t12 0 2 10 207 49 88 127
theorem ok50_0_2 : TCok P 50 tc50_0_2:=tK (eC ok52 (eC ok86 (eC ok87 (eC ok88 (eC ok89 (eC ok90 (eC ok91 (eC ok92 eN)))))))) { lx:=[(lem_s87,[]),(lem_s88,[]),(lem_s92,[]),(lem_g305,[])] }
def tc50_0_3 : TC:=t12 0 3 10 207 49 88 127
theorem ok50_0_3 : TCok P 50 tc50_0_3:=tK (eC ok52 (eC ok86 (eC ok87 (eC ok88 (eC ok89 (eC ok90 (eC ok91 (eC ok92 eN)))))))) { lx:=[(lem_s87,[]),(lem_s88,[]),(lem_s92,[]),(lem_g305,[])] }
def tc50_0_4 : TC:=t13 0 10
theorem ok50_0_4 : TCok P 50 tc50_0_4:=tK (eC ok52 (eC ok86 (eC ok87 (eC ok88 (eC ok89 (eC ok90 (eC ok91 (eC ok92 eN)))))))) { lx:=[(lem_s87,[]),(lem_s88,[]),(lem_s92,[]),(lem_g305,[])] }
def tc50_0_5 : TC:=t14 0 5 10
theorem ok50_0_5 : TCok P 50 tc50_0_5:=tK (eC ok52 (eC ok86 (eC ok87 (eC ok88 (eC ok89 (eC ok90 (eC ok91 (eC ok92 eN)))))))) { lx:=[(lem_s87,[]),(lem_s88,[]),(lem_s92,[]),(lem_g305,[])] }
def tc50_0_6 : TC:=t14 0 6 10
theorem ok50_0_6 : TCok P 50 tc50_0_6:=tK (eC ok52 (eC ok86 (eC ok87 (eC ok88 (eC ok89 (eC ok90 (eC ok91 (eC ok92 eN)))))))) { lx:=[(lem_s87,[]),(lem_s88,[]),(lem_s92,[]),(lem_g305,[])] }
def tc50_0_7 : TC:=t14 0 7 10
theorem ok50_0_7 : TCok P 50 tc50_0_7:=tK (eC ok52 (eC ok86 (eC ok87 (eC ok88 (eC ok89 (eC ok90 (eC ok91 (eC ok92 eN)))))))) { lx:=[(lem_s87,[]),(lem_s88,[]),(lem_s92,[]),(lem_g305,[])] }
def tc50_0_8 : TC:=t12 0 8 10 207 49 88 127
theorem ok50_0_8 : TCok P 50 tc50_0_8:=tK (eC ok52 (eC ok86 (eC ok87 (eC ok88 (eC ok89 (eC ok90 (eC ok91 (eC ok92 eN)))))))) { lx:=[(lem_s87,[]),(lem_s88,[]),(lem_s92,[]),(lem_g305,[])] }
def tc50_0_9 : TC:=t14 0 9 10
theorem ok50_0_9 : TCok P 50 tc50_0_9:=tK (eC ok52 (eC ok86 (eC ok87 (eC ok88 (eC ok89 (eC ok90 (eC ok91 (eC ok92 eN)))))))) { lx:=[(lem_s87,[]),(lem_s88,[]),(lem_s92,[]),(lem_g305,[])] }
def tc27_0 : TC:=tC 3 (sF 162 [aP 0 92 0,aW 1 1,aS 2 5 2] (cT [rP 0,rI 1 0 63,rS 2 1048576,rW 161]) [(0,0),(2,0)] (rM 0 0 5 ++ (rM 0 367 44 ++ (rM 0 734 83 ++ (rM 0 1101 122 ++ ([mq 0 1468 (iW 132) (cW 161)]))))) [⟨611,[cB 5,cB 6,cB 7,cB 8,cB 9,cB 10,cB 11,cB 12,cW 13,cW 14,cW 15,cW 16,cW 17,cW 18,cW 19,cW 20,cW 1]⟩]) W1 [(sF 39 [(0,.t [])] [] [] (rM 0 0 162 ++ (rM 0 367 44 ++ (rM 0 734 83 ++ (rM 0 1101 122)))) [⟨301,rC 5 ++ (rC 162)⟩])]
theorem ok27_0 : TCok P 27 tc27_0:=tK (eC ok41_0 (eC ok42_0 (eC ok47 (eC ok48 (eC ok49_0 (eC ok50_0_2 (eC ok50_0_3 (eC ok50_0_4 (eC ok50_0_5 (eC ok50_0_6 (eC ok50_0_7 (eC ok50_0_8 (eC ok50_0_9 eN))))))))))))) { lem:=fun i sl=>match Nat.beq i 8 with | true=>[(lem_kind9,[6])] | false=>[],lx:=[(lem_r3000,[0])] }
def tc50_1_2 : TC:=t12 367 2 49 10 207 88 127
theorem ok50_1_2 : TCok P 50 tc50_1_2:=tK (eC ok52 (eC ok86 (eC ok87 (eC ok88 (eC ok89 (eC ok90 (eC ok91 (eC ok92 eN)))))))) { lx:=[(lem_s87,[]),(lem_s88,[]),(lem_s92,[]),(lem_g305,[])] }
def tc50_1_3 : TC:=t12 367 3 49 10 207 88 127
theorem ok50_1_3 : TCok P 50 tc50_1_3:=tK (eC ok52 (eC ok86 (eC ok87 (eC ok88 (eC ok89 (eC ok90 (eC ok91 (eC ok92 eN)))))))) { lx:=[(lem_s87,[]),(lem_s88,[]),(lem_s92,[]),(lem_g305,[])] }
def tc50_1_4 : TC:=t13 367 49
theorem ok50_1_4 : TCok P 50 tc50_1_4:=tK (eC ok52 (eC ok86 (eC ok87 (eC ok88 (eC ok89 (eC ok90 (eC ok91 (eC ok92 eN)))))))) { lx:=[(lem_s87,[]),(lem_s88,[]),(lem_s92,[]),(lem_g305,[])] }
end
end VtTop
