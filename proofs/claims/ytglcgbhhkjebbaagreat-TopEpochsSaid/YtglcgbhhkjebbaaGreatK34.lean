/- A part of the proof: lemmas. No condition of its own. -/
import Derived.Test.YtglcgbhhkjebbaaGreatK21
import Derived.Test.YtglcgbhhkjebbaaGreatK24
import Derived.Test.YtglcgbhhkjebbaaGreatK25
import Derived.Test.YtglcgbhhkjebbaaGreatK26
import Derived.Test.YtglcgbhhkjebbaaGreatK28
import Derived.Test.YtglcgbhhkjebbaaGreatK29
import Derived.Test.YtglcgbhhkjebbaaGreatK30
import Derived.Test.YtglcgbhhkjebbaaGreatK31
import Derived.Test.YtglcgbhhkjebbaaGreatK32
import Derived.Test.YtglcgbhhkjebbaaGreatK33
set_option linter.unusedVariables false
set_option linter.unusedSimpArgs false
namespace VtTop
open Go Zx Vx
noncomputable section
set_option maxRecDepth 1000000
def tc28 : TC:=tC 2 (sM 159 [aP 0 92 0,aW 1 1] (cT [rP 0,rI 1 0 100000,rW 158]) [(0,0)] (rM 0 0 2 ++ (rM 0 367 41 ++ (rM 0 734 80 ++ (rM 0 1101 119 ++ ([mq 0 1468 (iW 132) (cW 158)])))))) [22,23,24,96,97,98,99,100,101,108,109,110,111,112,115,116,117,118,119,120,121,122,123,124,125,126,132,143,208] [(sF 157 [(0,.t [])] (rW 315) [] (rM 0 0 159 ++ (rM 0 367 198 ++ (rM 0 734 237 ++ (rM 0 1101 276 ++ ([mq 0 1468 (iW 132) (cW 315)]))))) [⟨301,rC 2 ++ (rC 159)⟩,⟨301,rC 41 ++ (rC 198)⟩,⟨301,rC 80 ++ (rC 237)⟩,⟨301,rC 119 ++ (rC 276)⟩])]
theorem ok28 : TCok P 28 tc28:=tK (eC ok51 (eC ok52 eN)) { fuel:=5,lx:=[(lem_r510,[0]),(lem_r511,[0]),(lem_r512,[0]),(lem_r513,[0])] }
def tc53 : TC:=tC 1 (sH 1 [aP 0 116 0] (rP 0) [(0,0)]) [22,23,24,143] [(sH 6 [(0,.t [.a [cW 1,cW 2,cS 5 3],.c (cB 6)])] (cT [rW 1,rW 2,rS 3 1048576,rB 6]) [(3,0)])]
theorem ok53 : TCok P 53 tc53:=tK eN {}
def tc29 : TC:=tC 3 (sH 3 [aP 0 92 0,aW 1 1,aW 2 2] (cT [rP 0,rI 1 0 63,rI 2 0 65536]) [(0,0)]) [22,23,24,143] [(sH 3 [aS 0 35 3] (rS 3 65536 ++ ([⟨0,[(4,-1),(2,1)]⟩])) [(3,0)])]
theorem ok29 : TCok P 29 tc29:=tK (eC ok53 eN) (l1 3 (laK (sH 4 [aS 7 35 1,aW 11 4] (cT [rS 1 65536,rI 4 0 65536,[⟨0,[(4,1),(2,-1)]⟩,⟨0,[(4,-1),(0,1)]⟩]]) [(1,1)]) [0,1,10] [22,23,24,143] [22,23,24,143] 1 [aW 10 0] (⟨0,[(4,-1),(0,1)]⟩)))
def tc11 : TC:=tC 2 (sM 164 [aP 0 92 0,aQ 1 [cW 1,cW 2,cW 3,cS 5 4]] (cT [rP 0,rW 1,rW 2,rW 3,rS 4 1048576,rW 163]) [(0,0),(4,0)] (rM 0 0 7 ++ (rM 0 367 46 ++ (rM 0 734 85 ++ (rM 0 1101 124 ++ ([mq 0 1468 (iW 132) (cW 163)])))))) [22,23,24,61,62,96,97,98,99,100,101,108,109,110,111,112,115,116,117,118,119,120,121,122,123,124,125,126,132,133,143,162,163,208,230,231,237,238,239,240,241,267,275,276,277,281,282,283,291,292,293,294,295,296,297,306,307,308,310,328,329,334,338,339,341] [(sF 161 [(0,.t [.c (cS 35 164),.c (cW 167)])] (cT [rS 164 65536,rW 167,rW 324]) [(164,0)] (rM 0 0 168 ++ (rM 0 367 207 ++ (rM 0 734 246 ++ (rM 0 1101 285 ++ ([mq 0 1468 (iW 132) (cW 324)]))))) [⟨301,rC 7 ++ (rC 168)⟩,⟨301,rC 46 ++ (rC 207)⟩,⟨301,rC 85 ++ (rC 246)⟩,⟨301,rC 124 ++ (rC 285)⟩])]
theorem ok11 : TCok P 11 tc11:=tK (eC ok25 (eC ok26_0 (eC ok26_1 (eC ok26_2 (eC ok26_3 (eC ok26_4 (eC ok27_0 (eC ok27_1 (eC ok27_2 (eC ok27_3 (eC ok27_4 (eC ok28 (eC ok29 eN))))))))))))) { lem:=fun i sl=>match Nat.beq i 8 with | true=>[(lem_wh,[0,2003])] | false=>match Nat.beq i 10 with | true=>[(lem_wh,[0,2003])] | false=>[] }
def tc14_0 : TC:=t15 0 0
theorem ok14_0 : TCok P 14 tc14_0:=tK eN {}
def tc14_1 : TC:=t15 1 367
theorem ok14_1 : TCok P 14 tc14_1:=tK eN {}
def tc14_2 : TC:=t15 2 734
theorem ok14_2 : TCok P 14 tc14_2:=tK eN {}
def tc14_3 : TC:=t15 3 1101
theorem ok14_3 : TCok P 14 tc14_3:=tK eN {}
end
end VtTop
