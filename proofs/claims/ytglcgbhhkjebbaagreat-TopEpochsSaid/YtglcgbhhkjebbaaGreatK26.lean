/- A part of the proof: lemmas. No condition of its own. -/
import Derived.Test.YtglcgbhhkjebbaaGreatK21
import Derived.Test.YtglcgbhhkjebbaaGreatK24
import Derived.Test.YtglcgbhhkjebbaaGreatK25
set_option linter.unusedVariables false
set_option linter.unusedSimpArgs false
namespace VtTop
open Go Zx Vx
noncomputable section
set_option maxRecDepth 1000000
def tc25a : TC:=tC 1 (sH 0 [(0,d1 (.num .i64 5))] [] []) [] [(sH 0 [(0,d1 (.tru true))] [] [])]
theorem ok25a : TCok P 25 tc25a:=tK eN {}
def tc41a : TC:=tC 2 (sM 1 [aP 0 92 0,(1,d1 (.num .i64 5))] (rP 0) [(0,0)] (rn 0 0 8 (.bool 115) (.tru false) (rn 0 8 8 (.int 116 .i64 0 63) (.num .i64 0) (mq 0 16 (iW 117) (.num .i64 0) :: (mq 0 17 (.bool 118) (.tru false) :: (mq 0 18 (iW 119) (.num .i64 0) :: (mq 0 19 (iW 120) (.num .i64 0) :: (mq 0 20 (iW 121) (.num .i64 0) :: (mq 0 21 (.int 122 .i64 1 0) (.num .i64 0) :: (rn 0 22 8 (.int 123 .i64 1 0) (.num .i64 0) (rn 0 30 8 (.int 124 .i64 1 0) (.num .i64 0) (mq 0 38 (.bool 125) (.tru false) :: (rn 0 367 8 (.bool 115) (.tru false) (rn 0 375 8 (.int 116 .i64 0 63) (.num .i64 0) (mq 0 383 (iW 117) (.num .i64 0) :: (mq 0 384 (.bool 118) (.tru false) :: (mq 0 385 (iW 119) (.num .i64 0) :: (mq 0 386 (iW 120) (.num .i64 0) :: (mq 0 387 (iW 121) (.num .i64 0) :: (mq 0 388 (.int 122 .i64 1 0) (.num .i64 0) :: (rn 0 389 8 (.int 123 .i64 1 0) (.num .i64 0) (rn 0 397 8 (.int 124 .i64 1 0) (.num .i64 0) (mq 0 405 (.bool 125) (.tru false) :: (rn 0 734 8 (.bool 115) (.tru false) (rn 0 742 8 (.int 116 .i64 0 63) (.num .i64 0) (mq 0 750 (iW 117) (.num .i64 0) :: (mq 0 751 (.bool 118) (.tru false) :: (mq 0 752 (iW 119) (.num .i64 0) :: (mq 0 753 (iW 120) (.num .i64 0) :: (mq 0 754 (iW 121) (.num .i64 0) :: (mq 0 755 (.int 122 .i64 1 0) (.num .i64 0) :: (rn 0 756 8 (.int 123 .i64 1 0) (.num .i64 0) (rn 0 764 8 (.int 124 .i64 1 0) (.num .i64 0) (mq 0 772 (.bool 125) (.tru false) :: (rn 0 1101 8 (.bool 115) (.tru false) (rn 0 1109 8 (.int 116 .i64 0 63) (.num .i64 0) (mq 0 1117 (iW 117) (.num .i64 0) :: (mq 0 1118 (.bool 118) (.tru false) :: (mq 0 1119 (iW 119) (.num .i64 0) :: (mq 0 1120 (iW 120) (.num .i64 0) :: (mq 0 1121 (iW 121) (.num .i64 0) :: (mq 0 1122 (.int 122 .i64 1 0) (.num .i64 0) :: (rn 0 1123 8 (.int 123 .i64 1 0) (.num .i64 0) (rn 0 1131 8 (.int 124 .i64 1 0) (.num .i64 0) [mq 0 1139 (.bool 125) (.tru false)])))))))))))))))))))))))))))))))))))))))))))) [] [(sH 0 [(0,.t [.c (.nil),.c (.num .i64 0),.c (.tru false)])] [] [])]
theorem ok41a : TCok P 41 tc41a:=tK (eC ok61z eN) { fuel:=5 }
def tc80_3 : TC:=t2 3
theorem ok80_3 : TCok P 80 tc80_3:=tK eN {}
def tc80_5 : TC:=t2 5
theorem ok80_5 : TCok P 80 tc80_5:=tK eN {}
def tc80_7 : TC:=t2 7
theorem ok80_7 : TCok P 80 tc80_7:=tK eN {}
def tc80_9 : TC:=t2 9
theorem ok80_9 : TCok P 80 tc80_9:=tK eN {}
def tc81_0 : TC:=tC 1 (sH 2 [(0,.s (.c (.zs 0 (.var 0) (zTab 5) (Lin.num 0) (.var 1))))] [.var 0,(Lin.var 1).addc (-0),(Lin.num maxLen).sub (.var 1)] [(0,0)]) [] [(sH 2 [(0,.s (.c (.zs 2 (.var 2) (zTab 5) (Lin.num 0) (.var 3))))] [.var 2,(Lin.var 3).addc (-0),(Lin.num maxLen).sub (.var 3)] [(2,1)])]
theorem ok81_0 : TCok P 81 tc81_0:=tK eN {}
def tc135_1 : TC:=tC 1 (sH 0 [(0,d1 (.num .i64 1))] [] []) [] [(sH 0 [(0,.t [.a [.num .i64 3,.num .i64 0,.num .i64 0,.num .i64 0,.num .i64 0,.num .i64 0,.num .i64 0],.c (.tru true)])] [] [])]
theorem ok135_1 : TCok P 135 tc135_1:=tK eN {}
def tc136t : TC:=tC 2 (sH 1 [(0,d1 (.num .i64 0)),aW 1 0] (rI 0 0 65535) []) [] [(sH 0 [(0,d1 (.tru true))] [] [])]
theorem ok136t : TCok P 136 tc136t:=tK eN {}
def tc82_1 : TC:=tC 1 (sH 2 [aQ 0 [.num .i64 1,.num .i64 0,.num .i64 0,.num .i64 0,.num .i64 0,.num .i64 0,.zs 0 (.var 0) (zTab 5) (Lin.num 0) (.var 1)]] [.var 0,(Lin.var 1).addc (-0),(Lin.num maxLen).sub (.var 1)] [(0,0)]) [] [(sH 0 [(0,d1 (.tru true))] [] [])]
theorem ok82_1 : TCok P 82 tc82_1:=tK (eC ok135_1 (eC ok136t eN)) {}
def tc47a : TC:=tC 1 (sM 2 [(0,.s (.c (.zs 0 (.var 0) (zTab 5) (Lin.num 11) (.var 1))))] [.var 0,(Lin.var 1).addc (-11),(Lin.num maxLen).sub (.var 1)] [(0,0)] (mq 0 0 (.int 4 .u8 0 255) (.num .u8 1) :: (rn 0 1 10 (.int 4 .u8 0 255) (.num .u8 0) []))) [] [(sH 2 [(0,.t [.a [.num .i64 1,.num .i64 0,.num .i64 0,.num .i64 0,.num .i64 0,.num .i64 0,.zs 2 (.var 2) (zTab 5) (Lin.num 0) (.var 3)],.c (.num .i64 0)])] [.var 2,(Lin.var 3).addc (-0),(Lin.num maxLen).sub (.var 3)] [(2,0)])]
theorem ok47a : TCok P 47 tc47a:=tK (eC ok80_3 (eC ok80_5 (eC ok80_7 (eC ok80_9 (eC ok81_0 (eC ok82_1 eN)))))) {}
def tc133a : TC:={ k:=2,pre:=(sM 3 [aP 0 116 0,aQ 1 [.num .i64 5,.num .i64 2,.zs 1 (.var 1) (zTab 5) (Lin.num 19) (.var 2)]] (rP 0 ++ ([.var 1,(Lin.var 2).addc (-19),(Lin.num maxLen).sub (.var 2)])) [(0,1),(1,0)] [mq 0 0 (.int 142 .i64 0 65536) (.num .i64 32),mq 0 1 (.sli 143 35 131072) (.nos)]),W:=[],post:=[(sM 4 [(0,d1 (.tru true))] ([.var 3,(Lin.var 4).addc (-1),(Lin.num maxLen).sub (.var 4)] ++ ([.var 5,(Lin.var 6).addc (-19),(Lin.num maxLen).sub (.var 6)])) [(3,0),(5,0)] [mq 0 1 (.sli 143 35 131072) (.zs 3 (.var 3) (zTab 35) (Lin.num 1) (.var 4)),mq 3 0 (iW 22) (.num .i64 5),mq 3 1 (iW 23) (.num .i64 2),mq 3 2 (.sli 24 5 1048576) (.zs 5 (.var 5) (zTab 5) (Lin.num 19) (.var 6))])],Y:=some W11 }
theorem ok133a : TCok P 133 tc133a:=tK eN {}
def tc77a : TC:={ k:=4,pre:=(sM 4 [aP 0 92 0,(1,d1 (.num .i64 5)),(2,d1 (.num .i64 2)),(3,.s (.c (.zs 1 (.var 1) (zTab 5) (Lin.num 19) (.var 2))))] (cT [rP 0,[.var 1,(Lin.var 2).addc (-19),(Lin.num maxLen).sub (.var 2)],rP 3]) [(0,1),(1,0),(3,1)] [mq 0 1475 (.ptr 134 116 true) (cP 116 3),mq 3 0 (.int 142 .i64 0 65536) (.num .i64 32),mq 3 1 (.sli 143 35 131072) (.nos)]),W:=[],post:=[(sM 4 [(0,.t [])] ([.var 4,(Lin.var 5).addc (-1),(Lin.num maxLen).sub (.var 5)] ++ ([.var 6,(Lin.var 7).addc (-19),(Lin.num maxLen).sub (.var 7)])) [(4,0),(6,0)] [mq 3 1 (.sli 143 35 131072) (.zs 4 (.var 4) (zTab 35) (Lin.num 1) (.var 5)),mq 4 0 (iW 22) (.num .i64 5),mq 4 1 (iW 23) (.num .i64 2),mq 4 2 (.sli 24 5 1048576) (.zs 6 (.var 6) (zTab 5) (Lin.num 19) (.var 7))])],Y:=some W11 }
theorem ok77a : TCok P 77 tc77a:=tK (eC ok81 (eC ok133a eN)) {}
def tc135_17 : TC:=tC 1 (sH 0 [(0,d1 (.num .i64 17))] [] []) [] [(sH 0 [(0,.t [.a [.num .i64 3,.num .i64 7,.num .i64 65535,.num .i64 255,.num .i64 65535,.num .i64 8,.num .i64 8],.c (.tru true)])] [] [])]
theorem ok135_17 : TCok P 135 tc135_17:=tK eN {}
end
end VtTop
namespace VtTop
open Go Zx Vx
noncomputable section
set_option maxRecDepth 1000000
def tc136u : TC:=tC 2 (sH 1 [(0,d1 (.num .i64 1)),aW 1 0] (rI 0 1 65535) []) [] [(sH 0 [(0,d1 (.tru true))] [] [])]
theorem ok136u : TCok P 136 tc136u:=tK eN {}
def tc137a : TC:=tC 1 (sM 2 [aQ 0 [.num .i64 17,.num .i64 0,.num .i64 0,.num .i64 0,.num .i64 1,.num .i64 0,.zs 0 (.var 0) (zTab 5) (Lin.num 8) (.var 1)]] [.var 0,(Lin.var 1).addc (-8),(Lin.num maxLen).sub (.var 1)] [(0,0)] (mq 0 0 (.int 4 .u8 0 255) (.num .u8 5) :: (rn 0 1 7 (.int 4 .u8 0 255) (.num .u8 255) []))) [] [(sH 0 [(0,d1 (.tru true))] [] [])]
theorem ok137a : TCok P 137 tc137a:=tK eN { fuel:=9 }
def tc82w : TC:=tC 1 (sM 2 [aQ 0 [.num .i64 17,.num .i64 0,.num .i64 0,.num .i64 0,.num .i64 1,.num .i64 0,.zs 0 (.var 0) (zTab 5) (Lin.num 8) (.var 1)]] [.var 0,(Lin.var 1).addc (-8),(Lin.num maxLen).sub (.var 1)] [(0,0)] (mq 0 0 (.int 4 .u8 0 255) (.num .u8 5) :: (rn 0 1 7 (.int 4 .u8 0 255) (.num .u8 255) []))) [] [(sH 0 [(0,d1 (.tru true))] [] [])]
theorem ok82w : TCok P 82 tc82w:=tK (eC ok135_17 (eC ok136t (eC ok136u (eC ok137a eN)))) {}
def tc138a : TC:=tC 1 (sM 2 [aQ 0 [.num .i64 17,.num .i64 0,.num .i64 0,.num .i64 0,.num .i64 1,.num .i64 0,.zs 0 (.var 0) (zTab 5) (Lin.num 8) (.var 1)]] [.var 0,(Lin.var 1).addc (-8),(Lin.num maxLen).sub (.var 1)] [(0,0)] (mq 0 0 (.int 4 .u8 0 255) (.num .u8 5) :: (rn 0 1 7 (.int 4 .u8 0 255) (.num .u8 255) []))) [] [(sH 2 [(0,.t [.c (.zs 2 (.var 2) (zTab 5) (Lin.num 19) (.var 3)),.c (.num .i64 0)])] [.var 2,(Lin.var 3).addc (-19),(Lin.num maxLen).sub (.var 3)] [(2,1)])]
theorem ok138a : TCok P 138 tc138a:=tK (eC ok82w eN) { fuel:=5 }
def tc83a : TC:={ k:=3,pre:=(sM 4 [aP 0 92 0,(1,d1 (.num .i64 5)),aQ 2 [.num .i64 17,.num .i64 0,.num .i64 0,.num .i64 0,.num .i64 1,.num .i64 0,.zs 1 (.var 1) (zTab 5) (Lin.num 8) (.var 2)]] (cT [rP 0,[.var 1,(Lin.var 2).addc (-8),(Lin.num maxLen).sub (.var 2)],rP 3]) [(0,1),(1,0),(3,1)] (mq 1 0 (.int 4 .u8 0 255) (.num .u8 5) :: (rn 1 1 7 (.int 4 .u8 0 255) (.num .u8 255) [mq 0 1475 (.ptr 134 116 true) (cP 116 3),mq 3 0 (.int 142 .i64 0 65536) (.num .i64 32),mq 3 1 (.sli 143 35 131072) (.nos)]))),W:=[],post:=[(sM 4 [(0,.t [])] ([.var 4,(Lin.var 5).addc (-1),(Lin.num maxLen).sub (.var 5)] ++ ([.var 6,(Lin.var 7).addc (-19),(Lin.num maxLen).sub (.var 7)])) [(4,0),(6,0)] [mq 3 1 (.sli 143 35 131072) (.zs 4 (.var 4) (zTab 35) (Lin.num 1) (.var 5)),mq 4 0 (iW 22) (.num .i64 5),mq 4 1 (iW 23) (.num .i64 2),mq 4 2 (.sli 24 5 1048576) (.zs 6 (.var 6) (zTab 5) (Lin.num 19) (.var 7))])],Y:=some W11 }
theorem ok83a : TCok P 83 tc83a:=tK (eC ok77a (eC ok138a eN)) {}
def tc16z : TC:=tC 1 (sH 0 [aQ 0 [.num .i64 0,.tru false,.num .i64 0,.num .i64 0,.num .i64 0,.num .i64 0]] [] []) [] [(sH 0 [(0,d1 (.num .i64 0))] [] [])]
theorem ok16z : TCok P 16 tc16z:=tK eN {}
def tc85a : TC:=tC 1 (sM 1 [aP 0 87 0] (rP 0) [(0,0)] (mq 0 0 (.bool 115) (.tru true) :: (rn 0 1 7 (.bool 115) (.tru false) (mq 0 8 (.int 116 .i64 0 63) (.num .i64 5) :: (rn 0 9 7 (.int 116 .i64 0 63) (.num .i64 0) (mq 0 16 (iW 117) (.num .i64 0) :: (mq 0 17 (.bool 118) (.tru false) :: (mq 0 18 (iW 119) (.num .i64 0) :: (mq 0 19 (iW 120) (.num .i64 0) :: (mq 0 20 (iW 121) (.num .i64 0) :: (mq 0 21 (.int 122 .i64 1 0) (.num .i64 0) :: (rn 0 22 8 (.int 123 .i64 1 0) (.num .i64 0) (rn 0 30 8 (.int 124 .i64 1 0) (.num .i64 0) [mq 0 38 (.bool 125) (.tru false)]))))))))))))) [] [(sH 0 [(0,d1 (.num .i64 0))] [] [])]
theorem ok85a : TCok P 85 tc85a:=tK (eC ok16z eN) {}
def tc86a : TC:=tC 4 (sM 11 [aP 0 92 0,aP 1 87 1,(2,d1 (.num .i64 0)),aQ 3 [cW 2,cW 3,cW 4,cW 5,cW 6,cW 7,cS 5 8]] (cT [rP 0,rP 1,rW 2,rW 3,rW 4,rW 5,rW 6,rW 7,rS 8 1048576]) [(0,0),(1,0),(8,0)] (mq 1 0 (.bool 115) (.tru true) :: (rn 1 1 7 (.bool 115) (.tru false) (mq 1 8 (.int 116 .i64 0 63) (.num .i64 5) :: (rn 1 9 7 (.int 116 .i64 0 63) (.num .i64 0) (mq 1 16 (iW 117) (.num .i64 0) :: (mq 1 17 (.bool 118) (.tru false) :: (mq 1 18 (iW 119) (.num .i64 0) :: (mq 1 19 (iW 120) (.num .i64 0) :: (mq 1 20 (iW 121) (.num .i64 0) :: (mq 1 21 (.int 122 .i64 1 0) (.num .i64 0) :: (rn 1 22 8 (.int 123 .i64 1 0) (.num .i64 0) (rn 1 30 8 (.int 124 .i64 1 0) (.num .i64 0) [mq 1 38 (.bool 125) (.tru false)]))))))))))))) [] [(sH 0 [(0,.t [])] [] [])]
theorem ok86a : TCok P 86 tc86a:=tK eN { fuel:=9 }
def tc49a : TC:={ k:=3,pre:=(sM 4 [aP 0 92 0,(1,d1 (.num .i64 5)),aQ 2 [.num .i64 1,.num .i64 0,.num .i64 0,.num .i64 0,.num .i64 0,.num .i64 0,.zs 1 (.var 1) (zTab 5) (Lin.num 0) (.var 2)]] (cT [rP 0,[.var 1,(Lin.var 2).addc (-0),(Lin.num maxLen).sub (.var 2)],rP 3]) [(0,1),(1,0),(3,1)] (rn 0 0 8 (.bool 115) (.tru false) (rn 0 8 8 (.int 116 .i64 0 63) (.num .i64 0) (mq 0 16 (iW 117) (.num .i64 0) :: (mq 0 17 (.bool 118) (.tru false) :: (mq 0 18 (iW 119) (.num .i64 0) :: (mq 0 19 (iW 120) (.num .i64 0) :: (mq 0 20 (iW 121) (.num .i64 0) :: (mq 0 21 (.int 122 .i64 1 0) (.num .i64 0) :: (rn 0 22 8 (.int 123 .i64 1 0) (.num .i64 0) (rn 0 30 8 (.int 124 .i64 1 0) (.num .i64 0) [mq 0 38 (.bool 125) (.tru false),mq 0 1468 (iW 132) (.num .i64 0),mq 0 1475 (.ptr 134 116 true) (cP 116 3),mq 3 0 (.int 142 .i64 0 65536) (.num .i64 32),mq 3 1 (.sli 143 35 131072) (.nos)]))))))))))),W:=[],post:=[(sM 4 [(0,d1 (.num .i64 0))] ([.var 4,(Lin.var 5).addc (-1),(Lin.num maxLen).sub (.var 5)] ++ ([.var 6,(Lin.var 7).addc (-19),(Lin.num maxLen).sub (.var 7)])) [(4,0),(6,0)] [mq 3 1 (.sli 143 35 131072) (.zs 4 (.var 4) (zTab 35) (Lin.num 1) (.var 5)),mq 4 0 (iW 22) (.num .i64 5),mq 4 1 (iW 23) (.num .i64 2),mq 4 2 (.sli 24 5 1048576) (.zs 6 (.var 6) (zTab 5) (Lin.num 19) (.var 7))])],Y:=some W3 }
theorem ok49a : TCok P 49 tc49a:=tK (eC ok34a (eC ok83a (eC ok84a (eC ok85a (eC ok86a eN))))) { fuel:=9 }
def tc27a : TC:={ k:=3,pre:=(sM 4 [aP 0 92 0,(1,d1 (.num .i64 5)),(2,.s (.c (.zs 1 (.var 1) (zTab 5) (Lin.num 11) (.var 2))))] (cT [rP 0,[.var 1,(Lin.var 2).addc (-11),(Lin.num maxLen).sub (.var 2)],rP 3]) [(0,1),(1,0),(3,1)] (mq 1 0 (.int 4 .u8 0 255) (.num .u8 1) :: (rn 1 1 10 (.int 4 .u8 0 255) (.num .u8 0) (rn 0 0 8 (.bool 115) (.tru false) (rn 0 8 8 (.int 116 .i64 0 63) (.num .i64 0) (mq 0 16 (iW 117) (.num .i64 0) :: (mq 0 17 (.bool 118) (.tru false) :: (mq 0 18 (iW 119) (.num .i64 0) :: (mq 0 19 (iW 120) (.num .i64 0) :: (mq 0 20 (iW 121) (.num .i64 0) :: (mq 0 21 (.int 122 .i64 1 0) (.num .i64 0) :: (rn 0 22 8 (.int 123 .i64 1 0) (.num .i64 0) (rn 0 30 8 (.int 124 .i64 1 0) (.num .i64 0) (mq 0 38 (.bool 125) (.tru false) :: (rn 0 367 8 (.bool 115) (.tru false) (rn 0 375 8 (.int 116 .i64 0 63) (.num .i64 0) (mq 0 383 (iW 117) (.num .i64 0) :: (mq 0 384 (.bool 118) (.tru false) :: (mq 0 385 (iW 119) (.num .i64 0) :: (mq 0 386 (iW 120) (.num .i64 0) :: (mq 0 387 (iW 121) (.num .i64 0) :: (mq 0 388 (.int 122 .i64 1 0) (.num .i64 0) :: (rn 0 389 8 (.int 123 .i64 1 0) (.num .i64 0) (rn 0 397 8 (.int 124 .i64 1 0) (.num .i64 0) (mq 0 405 (.bool 125) (.tru false) :: (rn 0 734 8 (.bool 115) (.tru false) (rn 0 742 8 (.int 116 .i64 0 63) (.num .i64 0) (mq 0 750 (iW 117) (.num .i64 0) :: (mq 0 751 (.bool 118) (.tru false) :: (mq 0 752 (iW 119) (.num .i64 0) :: (mq 0 753 (iW 120) (.num .i64 0) :: (mq 0 754 (iW 121) (.num .i64 0) :: (mq 0 755 (.int 122 .i64 1 0) (.num .i64 0) :: (rn 0 756 8 (.int 123 .i64 1 0) (.num .i64 0) (rn 0 764 8 (.int 124 .i64 1 0) (.num .i64 0) (mq 0 772 (.bool 125) (.tru false) :: (rn 0 1101 8 (.bool 115) (.tru false) (rn 0 1109 8 (.int 116 .i64 0 63) (.num .i64 0) (mq 0 1117 (iW 117) (.num .i64 0) :: (mq 0 1118 (.bool 118) (.tru false) :: (mq 0 1119 (iW 119) (.num .i64 0) :: (mq 0 1120 (iW 120) (.num .i64 0) :: (mq 0 1121 (iW 121) (.num .i64 0) :: (mq 0 1122 (.int 122 .i64 1 0) (.num .i64 0) :: (rn 0 1123 8 (.int 123 .i64 1 0) (.num .i64 0) (rn 0 1131 8 (.int 124 .i64 1 0) (.num .i64 0) [mq 0 1139 (.bool 125) (.tru false),mq 0 1468 (iW 132) (.num .i64 0),mq 0 1475 (.ptr 134 116 true) (cP 116 3),mq 3 0 (.int 142 .i64 0 65536) (.num .i64 32),mq 3 1 (.sli 143 35 131072) (.nos)])))))))))))))))))))))))))))))))))))))))))))))),W:=[],post:=[(sM 4 [(0,.t [])] ([.var 4,(Lin.var 5).addc (-1),(Lin.num maxLen).sub (.var 5)] ++ ([.var 6,(Lin.var 7).addc (-19),(Lin.num maxLen).sub (.var 7)])) [(4,0),(6,0)] [mq 3 1 (.sli 143 35 131072) (.zs 4 (.var 4) (zTab 35) (Lin.num 1) (.var 5)),mq 4 0 (iW 22) (.num .i64 5),mq 4 1 (iW 23) (.num .i64 2),mq 4 2 (.sli 24 5 1048576) (.zs 6 (.var 6) (zTab 5) (Lin.num 19) (.var 7))])],Y:=some W3 }
theorem ok27a : TCok P 27 tc27a:=tK (eC ok41a (eC ok47a (eC ok49a eN))) {}
def tc11a : TC:={ k:=2,pre:=(sM 4 [aP 0 92 0,aQ 1 [.num .i64 2,.num .i64 5,.num .i64 0,.zs 1 (.var 1) (zTab 5) (Lin.num 11) (.var 2)]] (cT [rP 0,[.var 1,(Lin.var 2).addc (-11),(Lin.num maxLen).sub (.var 2)],rP 3]) [(0,1),(1,0),(3,1)] (mq 1 0 (.int 4 .u8 0 255) (.num .u8 1) :: (rn 1 1 10 (.int 4 .u8 0 255) (.num .u8 0) (rn 0 0 8 (.bool 115) (.tru false) (rn 0 8 8 (.int 116 .i64 0 63) (.num .i64 0) (mq 0 16 (iW 117) (.num .i64 0) :: (mq 0 17 (.bool 118) (.tru false) :: (mq 0 18 (iW 119) (.num .i64 0) :: (mq 0 19 (iW 120) (.num .i64 0) :: (mq 0 20 (iW 121) (.num .i64 0) :: (mq 0 21 (.int 122 .i64 1 0) (.num .i64 0) :: (rn 0 22 8 (.int 123 .i64 1 0) (.num .i64 0) (rn 0 30 8 (.int 124 .i64 1 0) (.num .i64 0) (mq 0 38 (.bool 125) (.tru false) :: (rn 0 367 8 (.bool 115) (.tru false) (rn 0 375 8 (.int 116 .i64 0 63) (.num .i64 0) (mq 0 383 (iW 117) (.num .i64 0) :: (mq 0 384 (.bool 118) (.tru false) :: (mq 0 385 (iW 119) (.num .i64 0) :: (mq 0 386 (iW 120) (.num .i64 0) :: (mq 0 387 (iW 121) (.num .i64 0) :: (mq 0 388 (.int 122 .i64 1 0) (.num .i64 0) :: (rn 0 389 8 (.int 123 .i64 1 0) (.num .i64 0) (rn 0 397 8 (.int 124 .i64 1 0) (.num .i64 0) (mq 0 405 (.bool 125) (.tru false) :: (rn 0 734 8 (.bool 115) (.tru false) (rn 0 742 8 (.int 116 .i64 0 63) (.num .i64 0) (mq 0 750 (iW 117) (.num .i64 0) :: (mq 0 751 (.bool 118) (.tru false) :: (mq 0 752 (iW 119) (.num .i64 0) :: (mq 0 753 (iW 120) (.num .i64 0) :: (mq 0 754 (iW 121) (.num .i64 0) :: (mq 0 755 (.int 122 .i64 1 0) (.num .i64 0) :: (rn 0 756 8 (.int 123 .i64 1 0) (.num .i64 0) (rn 0 764 8 (.int 124 .i64 1 0) (.num .i64 0) (mq 0 772 (.bool 125) (.tru false) :: (rn 0 1101 8 (.bool 115) (.tru false) (rn 0 1109 8 (.int 116 .i64 0 63) (.num .i64 0) (mq 0 1117 (iW 117) (.num .i64 0) :: (mq 0 1118 (.bool 118) (.tru false) :: (mq 0 1119 (iW 119) (.num .i64 0) :: (mq 0 1120 (iW 120) (.num .i64 0) :: (mq 0 1121 (iW 121) (.num .i64 0) :: (mq 0 1122 (.int 122 .i64 1 0) (.num .i64 0) :: (rn 0 1123 8 (.int 123 .i64 1 0) (.num .i64 0) (rn 0 1131 8 (.int 124 .i64 1 0) (.num .i64 0) [mq 0 1139 (.bool 125) (.tru false),mq 0 1468 (iW 132) (.num .i64 0),mq 0 1475 (.ptr 134 116 true) (cP 116 3),mq 3 0 (.int 142 .i64 0 65536) (.num .i64 32),mq 3 1 (.sli 143 35 131072) (.nos)])))))))))))))))))))))))))))))))))))))))))))))),W:=[],post:=[(sM 4 [(0,.t [.c (.nos),.c (.num .i64 0)])] ([.var 4,(Lin.var 5).addc (-1),(Lin.num maxLen).sub (.var 5)] ++ ([.var 6,(Lin.var 7).addc (-19),(Lin.num maxLen).sub (.var 7)])) [(4,0),(6,0)] [mq 3 1 (.sli 143 35 131072) (.zs 4 (.var 4) (zTab 35) (Lin.num 1) (.var 5)),mq 4 0 (iW 22) (.num .i64 5),mq 4 1 (iW 23) (.num .i64 2),mq 4 2 (.sli 24 5 1048576) (.zs 6 (.var 6) (zTab 5) (Lin.num 19) (.var 7))])],Y:=some W3 }
theorem ok11a : TCok P 11 tc11a:=tK (eC ok25a (eC ok27a eN)) {}
def tc53a : TC:={ k:=1,pre:=(sM 5 [aP 0 116 0] (cT [rP 0,[.var 1,(Lin.var 2).addc (-1),(Lin.num maxLen).sub (.var 2)],[.var 3,(Lin.var 4).addc (-19),(Lin.num maxLen).sub (.var 4)]]) [(0,1),(1,0),(3,0)] [mq 0 1 (.sli 143 35 131072) (.zs 1 (.var 1) (zTab 35) (Lin.num 1) (.var 2)),mq 1 0 (iW 22) (.num .i64 5),mq 1 1 (iW 23) (.num .i64 2),mq 1 2 (.sli 24 5 1048576) (.zs 3 (.var 3) (zTab 5) (Lin.num 19) (.var 4))]),W:=[],post:=[(sH 2 [(0,.t [.a [.num .i64 5,.num .i64 2,.zs 5 (.var 5) (zTab 5) (Lin.num 19) (.var 6)],.c (.tru true)])] [.var 5,(Lin.var 6).addc (-19),(Lin.num maxLen).sub (.var 6)] [(5,0)])],Y:=some W11 }
theorem ok53a : TCok P 53 tc53a:=tK eN {}
def tc29a : TC:={ k:=3,pre:=(sM 6 [aP 0 92 0,(1,d1 (.num .i64 5)),(2,d1 (.num .i64 1))] (cT [rP 0,rP 1,[.var 2,(Lin.var 3).addc (-1),(Lin.num maxLen).sub (.var 3)],[.var 4,(Lin.var 5).addc (-19),(Lin.num maxLen).sub (.var 5)]]) [(0,1),(1,1),(2,0),(4,0)] [mq 0 1475 (.ptr 134 116 true) (cP 116 1),mq 1 1 (.sli 143 35 131072) (.zs 2 (.var 2) (zTab 35) (Lin.num 1) (.var 3)),mq 2 0 (iW 22) (.num .i64 5),mq 2 1 (iW 23) (.num .i64 2),mq 2 2 (.sli 24 5 1048576) (.zs 4 (.var 4) (zTab 5) (Lin.num 19) (.var 5))]),W:=[],post:=[(sM 4 [(0,.s (.c (.zs 6 (.var 6) (zTab 35) (Lin.num 1) (.var 7))))] ([.var 6,(Lin.var 7).addc (-1),(Lin.num maxLen).sub (.var 7)] ++ ([.var 8,(Lin.var 9).addc (-19),(Lin.num maxLen).sub (.var 9)])) [(6,0),(8,0)] [mq 6 0 (iW 22) (.num .i64 5),mq 6 2 (.sli 24 5 1048576) (.zs 8 (.var 8) (zTab 5) (Lin.num 19) (.var 9))])],Y:=some W11 }
theorem ok29a : TCok P 29 tc29a:=tK (eC ok53a eN) { fuel:=2 }
def tc11b : TC:={ k:=2,pre:=(sM 6 [aP 0 92 0,aQ 1 [.num .i64 5,.num .i64 5,.num .i64 1,.nos]] (cT [rP 0,rP 1,[.var 2,(Lin.var 3).addc (-1),(Lin.num maxLen).sub (.var 3)],[.var 4,(Lin.var 5).addc (-19),(Lin.num maxLen).sub (.var 5)]]) [(0,1),(1,1),(2,0),(4,0)] [mq 0 1475 (.ptr 134 116 true) (cP 116 1),mq 1 1 (.sli 143 35 131072) (.zs 2 (.var 2) (zTab 35) (Lin.num 1) (.var 3)),mq 2 0 (iW 22) (.num .i64 5),mq 2 1 (iW 23) (.num .i64 2),mq 2 2 (.sli 24 5 1048576) (.zs 4 (.var 4) (zTab 5) (Lin.num 19) (.var 5))]),W:=[],post:=[(sM 4 [(0,.t [.c (.zs 6 (.var 6) (zTab 35) (Lin.num 1) (.var 7)),.c (.num .i64 0)])] ([.var 6,(Lin.var 7).addc (-1),(Lin.num maxLen).sub (.var 7)] ++ ([.var 8,(Lin.var 9).addc (-19),(Lin.num maxLen).sub (.var 9)])) [(6,0),(8,0)] [mq 6 0 (iW 22) (.num .i64 5),mq 6 2 (.sli 24 5 1048576) (.zs 8 (.var 8) (zTab 5) (Lin.num 19) (.var 9))])],Y:=some W11 }
theorem ok11b : TCok P 11 tc11b:=tK (eC ok25a (eC ok29a eN)) {}
end
end VtTop
namespace VtTop
open Go Zx Vx
noncomputable section
set_option maxRecDepth 1000000
def tc54a : TC:=tC 1 (sH 0 [(0,d1 (.num .i64 1))] [] []) [] [(sH 0 [(0,.s (.c (.strL (ByteArray.mk #[114]))))] [] [])]
theorem ok54a : TCok P 54 tc54a:=tK eN {}
def tc55_3 : TC:=t3 3
theorem ok55_3 : TCok P 55 tc55_3:=tK eN {}
def tc55_7 : TC:=t3 7
theorem ok55_7 : TCok P 55 tc55_7:=tK eN {}
def tc55_65535 : TC:=t3 65535
theorem ok55_65535 : TCok P 55 tc55_65535:=tK eN {}
def tc56_r : TC:=t4 114
theorem ok56_r : TCok P 56 tc56_r:=tK eN { fuel:=3 }
def tc56_s : TC:=tC 2 (sH 0 [(0,.s (.c (.strL (ByteArray.mk #[114])))),(1,d1 (.num .u8 115))] [] []) [] [(sH 0 [(0,d1 (.tru false))] [] [])]
theorem ok56_s : TCok P 56 tc56_s:=tK eN { fuel:=3 }
def tc56_e : TC:=t4 101
theorem ok56_e : TCok P 56 tc56_e:=tK eN { fuel:=3 }
def tc56_n : TC:=t4 110
theorem ok56_n : TCok P 56 tc56_n:=tK eN { fuel:=3 }
def tc56_m : TC:=t4 109
theorem ok56_m : TCok P 56 tc56_m:=tK eN { fuel:=3 }
def tc56_b : TC:=t4 98
theorem ok56_b : TCok P 56 tc56_b:=tK eN { fuel:=3 }
def tc31a : TC:=tC 1 (sH 0 [aQ 0 [.num .i64 1,.num .i64 0,.num .i64 0,.num .i64 0,.num .i64 0,.num .i64 0,.nos]] [] []) [] [(sH 0 [(0,d1 (.tru true))] [] [])]
theorem ok31a : TCok P 31 tc31a:=tK (eC ok54a (eC ok55_3 (eC ok55_7 (eC ok55_65535 (eC ok56_r (eC ok56_s (eC ok56_e (eC ok56_n (eC ok56_m (eC ok56_b eN)))))))))) {}
def tc39_3 : TC:=tC 3 (sM 2 [(0,.s (.c (.zs 0 (.var 0) (zTab 5) (Lin.num 3) (.var 1)))),(1,d1 (.num .u64 0)),(2,d1 (.num .i64 2))] [.var 0,(Lin.var 1).addc (-3),(Lin.num maxLen).sub (.var 1)] [(0,0)] [mq 0 0 (.int 4 .u8 0 255) (.num .u8 1),mq 0 1 (.int 4 .u8 0 255) (.num .u8 0),mq 0 2 (.int 4 .u8 0 255) (.num .u8 0)]) [] [(sM 2 [(0,.s (.c (.zs 2 (.var 2) (zTab 5) (Lin.num 5) (.var 3))))] [.var 2,(Lin.var 3).addc (-5),(Lin.num maxLen).sub (.var 3)] [(2,1)] (mq 2 0 (.int 4 .u8 0 255) (.num .u8 1) :: (rn 2 1 4 (.int 4 .u8 0 255) (.num .u8 0) [])))]
theorem ok39_3 : TCok P 39 tc39_3:=tK eN { fuel:=4 }
def tc39_5 : TC:=t5 5 (-5) 4 7 (-7) 6
theorem ok39_5 : TCok P 39 tc39_5:=tK eN { fuel:=4 }
def tc39_7 : TC:=t5 7 (-7) 6 9 (-9) 8
theorem ok39_7 : TCok P 39 tc39_7:=tK eN { fuel:=4 }
end
end VtTop
namespace VtTop
open Go Zx Vx
noncomputable section
set_option maxRecDepth 1000000
def tc39_9 : TC:=t5 9 (-9) 8 11 (-11) 10
theorem ok39_9 : TCok P 39 tc39_9:=tK eN { fuel:=4 }
def tc24a : TC:=tC 1 (sH 0 [aQ 0 [.num .i64 1,.num .i64 0,.num .i64 0,.num .i64 0,.num .i64 0,.num .i64 0,.nos]] [] []) [] [(sM 2 [(0,.t [.c (.zs 0 (.var 0) (zTab 5) (Lin.num 11) (.var 1)),.c (.num .i64 0)])] [.var 0,(Lin.var 1).addc (-11),(Lin.num maxLen).sub (.var 1)] [(0,1)] (mq 0 0 (.int 4 .u8 0 255) (.num .u8 1) :: (rn 0 1 10 (.int 4 .u8 0 255) (.num .u8 0) [])))]
theorem ok24a : TCok P 24 tc24a:=tK (eC ok31a (eC ok39_3 (eC ok39_5 (eC ok39_7 (eC ok39_9 eN))))) {}
def tc9 : TC:=tC 0 (sH 0 [] [] []) [] [(sH 0 [(0,d1 (.tru true))] [] [])]
theorem ok9 : TCok P 9 tc9:=tK (eC ok8 (eC ok11a (eC ok11b (eC ok24a eN)))) {}
def tc10 : TC:=tC 1 (sH 3 [aS 0 33 0] (rS 0 9223372036854775807) [(0,0)]) [] [(sH 0 [(0,d1 (.tru true))] [] []),{ n:=0,P:=[(0,d1 (.tru false))],C:=[⟨200,[(1,-1)]⟩],adr:=[],G:=[⟨2180,[cS 33 0,.num .i64 2000]⟩] }]
theorem ok10 : TCok P 10 tc10:=tK eN { lp:=lp1 2 { sh:={ n:=1,P:=[aW 3 3],C:=rI 3 0 200 ++ ([⟨0,[(3,-1),(1,1)]⟩]),adr:=[],G:=[⟨218,[cS 33 0,.num .i64 2000,cW 3]⟩] },keep:=[0],W:=[],Wo:=[],r:=3,refs:=[aS 0 33 0],lem:=[(lem_start218,[0])],dec:=⟨200,[(3,-1)]⟩ } <| lp0,lem:=fun i sl=>match Nat.beq i 3 with | true=>[(lem_step218,[0,3])] | false=>match Nat.beq i 6 with | true=>[(lem_end218,[0,3]),(lem_far218,[0,3])] | false=>[] }
def tc25 : TC:=tC 1 (sH 1 [aW 0 0] (rW 0) []) [] [(sH 0 [(0,d1 (.tru true))] [⟨0,[(0,1)]⟩,⟨63,[(0,-1)]⟩] []),(sH 0 [(0,d1 (.tru false))] [] [])]
theorem ok25 : TCok P 25 tc25:=tK eN {}
def tc40 : TC:=tC 2 (sH 2 [aP 0 114 0,aW 1 1] (rP 0 ++ (rW 1)) [(0,0)]) [208] [(sH 0 [(0,.t [])] [] [])]
theorem ok40 : TCok P 40 tc40:=tK (eC ok60 eN) {}
def tc41_0 : TC:=tC 2 (sF 158 [aP 0 92 0,aW 1 1] (rP 0 ++ (rW 1)) [(0,0)] (rM 0 0 2 ++ (rM 0 367 41 ++ (rM 0 734 80 ++ (rM 0 1101 119)))) [⟨611,[cB 2,cB 3,cB 4,cB 5,cB 6,cB 7,cB 8,cB 9,cW 10,cW 11,cW 12,cW 13,cW 14,cW 15,cW 16,cW 17,cW 1]⟩]) [] [{ n:=1,P:=[(0,.t [.c (.zp 0 ⟨0,[(0,1)]⟩ (zTab 87)),.c (cW 158),.c (.tru true)])],C:=rI 158 0 7,adr:=[],F:=[⟨61,[cB 2,cB 3,cB 4,cB 5,cB 6,cB 7,cB 8,cB 9,cW 10,cW 11,cW 12,cW 13,cW 14,cW 15,cW 16,cW 17,cW 1,cW 158]⟩] }]
theorem ok41_0 : TCok P 41 tc41_0:=tK (eC ok61f (eC ok61n eN)) { fuel:=5 }
def tc42_0 : TC:=t6 0 159 41 80 119 2
theorem ok42_0 : TCok P 42 tc42_0:=tK (eC ok62 eN) { lx:=[(lem_h62,[])] }
def tc43 : TC:=tC 1 (sH 3 [aS 0 5 0] (rS 0 1048576) [(0,0)]) [] [(sH 1 [(0,d1 (cB 3))] (rB 3) [])]
theorem ok43 : TCok P 43 tc43:=tK eN {}
def tc148 : TC:=tC 3 (sH 5 [aW 0 0,aW 1 1,aS 2 5 2] (cT [rW 0,rW 1,rS 2 1048576]) [(2,0)]) [] [(sH 1 [aW 0 5] (rW 5) [])]
theorem ok148 : TCok P 148 tc148:=tK eN {}
def tc150 : TC:=tC 2 (sM 5 [aP 0 281 0,aW 1 1] (cT [rP 0,rI 1 1 8,rS 2 1200]) [(0,0),(2,0)] [mK (.sli 328 5 8192) 0 0 (cS 5 2)]) [328,329] [(sM 4 [(0,d1 (cI .u64 5))] (cT [rI 5 0 18446744073709551615,rS 6 1200,[⟨0,[(3,1),(1,-1)]⟩,⟨0,[(7,1),(3,-1),(1,1)]⟩,⟨0,[(7,-1),(3,1),(1,-1)]⟩,⟨-18446744073709551361,[(5,-1),(1,18446744073709551616)]⟩]]) [(6,0)] [mK (.sli 328 5 8192) 0 0 (cS 5 6)]),(sM 3 [(0,d1 (.num .u64 0))] (rS 5 0 ++ ([⟨-1,[(3,-1),(1,1)]⟩])) [(5,0)] [mK (.sli 328 5 8192) 0 0 (cS 5 5)])]
theorem ok150 : TCok P 150 tc150:=tK eN { fuel:=10 }
def tc149 : TC:=tC 1 (sM 4 [aP 0 281 0] (rP 0 ++ (rS 1 1200)) [(0,0),(1,0)] [mK (.sli 328 5 8192) 0 0 (cS 5 1)]) [328,329] [(sM 4 [(0,d1 (cI .u32 4))] (cT [rI 4 0 4294967295,rS 5 1200,[⟨-4,[(2,1)]⟩,⟨4,[(6,1),(2,-1)]⟩,⟨-4,[(6,-1),(2,1)]⟩]]) [(5,0)] [mK (.sli 328 5 8192) 0 0 (cS 5 5)]),(sM 4 [(0,d1 (cI .u32 4))] (cT [rI 4 0 4294967295,rS 5 0,[⟨3,[(2,-1)]⟩]]) [(5,0)] [mK (.sli 328 5 8192) 0 0 (cS 5 5)])]
theorem ok149 : TCok P 149 tc149:=tK (eC ok150 eN) {}
def tc151 : TC:=tC 2 (sM 5 [aP 0 281 0,aW 1 1] (cT [rP 0,rI 1 0 31,rS 2 1200]) [(0,0),(2,0)] [mK (.sli 328 5 8192) 0 0 (cS 5 2)]) [328,329] [(sM 6 [aS 0 338 5] (rS 5 31 ++ (rS 8 1200)) [(5,1),(8,0)] [mK (.sli 328 5 8192) 0 0 (cS 5 8)])]
theorem ok151 : TCok P 151 tc151:=tK (eC ok149 (eC ok150 eN)) (l1 3 (laK (sM 7 [aS 5 338 2,aW 8 5] (cT [rS 2 31,rI 5 0 31,rS 6 1200,[⟨0,[(5,-1),(3,1)]⟩,⟨0,[(5,1),(3,-1)]⟩,⟨0,[(5,-1),(1,1)]⟩]]) [(2,1),(6,0)] [mK (.sli 328 5 8192) 0 0 (cS 5 6)]) [0,7] [328,329] [328,329] 2 [aP 0 281 0,aW 7 1] (⟨0,[(5,-1),(1,1)]⟩)))
def tc152 : TC:=tC 2 (sM 5 [aP 0 281 0,aP 1 166 1] (cT [rP 0,rP 1,rS 2 1200]) [(0,0),(1,0),(2,0)] [mK (.sli 328 5 8192) 0 0 (cS 5 2),mK (.sli 237 340 16384) 1 8 (.nos),mK (.sli 238 170 16384) 1 9 (.nos),mK (.sli 241 57 16384) 1 12 (.nos)]) W5 [(sM 3 [(0,.t [])] (rS 5 1200) [(5,0)] [mK (.sli 328 5 8192) 0 0 (cS 5 5)])]
theorem ok152 : TCok P 152 tc152:=tK (eC ok149 (eC ok150 eN)) { lp:=lp1 4 (laK (sM 7 [(4,d1 (cB 2))] (cT [rB 2,rS 3 1200,rS 6 1201,[⟨1201,[(7,-1),(4,-1),(2,-1)]⟩]]) [(3,0),(6,1)] [mK (.sli 328 5 8192) 0 0 (cS 5 3),mK (.sli 237 340 16384) 1 8 (cS 340 6)]) [0,1] W5 W5 2 [aP 0 281 0,aP 1 166 1] (⟨0,[(4,2),(2,1)]⟩)) <| lp1 9 (laK (sM 7 [(5,d1 (cB 2))] (cT [rB 2,rS 3 1200,rS 6 1201,[⟨1201,[(7,-1),(4,-1),(2,-1)]⟩]]) [(3,0),(6,1)] [mK (.sli 328 5 8192) 0 0 (cS 5 3),mK (.sli 238 170 16384) 1 9 (cS 170 6)]) [0,1] W5 W5 2 [aP 0 281 0,aP 1 166 1] (⟨0,[(4,2),(2,1)]⟩)) <| lp1 20 (laK (sM 7 [aW 94 3] (cT [rI 3 0 255,rS 4 1200,rS 7 255,[⟨0,[(8,1),(3,-1)]⟩,⟨0,[(8,-1),(3,1)]⟩,⟨0,[(3,-1),(2,1)]⟩]]) [(4,0),(7,1)] [mK (.sli 328 5 8192) 0 0 (cS 5 4),mK (.sli 241 57 16384) 1 12 (cS 57 7)]) [0,1,93] W5 W5 3 [aP 0 281 0,aP 1 166 1,aW 93 2] (⟨0,[(3,-1),(2,1)]⟩)) <| lp0 }
end
end VtTop
namespace VtTop
open Go Zx Vx
noncomputable section
set_option maxRecDepth 1000000
def tc98 : TC:=tC 3 (sH 5 [aW 0 0,aW 1 1,aS 2 5 2] (cT [rI 0 0 255,rI 1 0 31,rS 2 1196]) [(2,0)]) [230,231,237,238,239,240,241,328,329] [(sH 27 [(0,.t [.a [cW 5,cI .u32 6,cI .u32 7,cI .u64 8,cI .u32 9,cI .u32 10,cI .u32 11,cS 338 12,cS 340 15,cS 170 18,cW 21,cI .u32 22,cS 57 23,cW 26,cW 27,cS 5 28],.c (cB 31)])] (cT [rW 5,rI 6 0 4294967295,rI 7 0 4294967295,rI 8 0 18446744073709551615,rI 9 0 4294967295,rI 10 0 4294967295,rI 11 0 4294967295,rS 12 16384,rS 15 16384,rS 18 16384,rW 21,rI 22 0 4294967295,rS 23 16384,rW 26,rW 27,rS 28 65536,rB 31]) [(12,0),(15,0),(18,0),(23,0),(28,0)])]
theorem ok98 : TCok P 98 tc98:=tK (eC ok81 (eC ok148 (eC ok149 (eC ok150 (eC ok151 (eC ok152 eN)))))) {}
def tc63 : TC:=tC 1 (sH 3 [aS 0 5 0] (rS 0 1048576) [(0,0)]) [230,231,237,238,239,240,241,328,329] [(sH 4 [(0,.t [.c (cS 166 3),.c (cW 6)])] (rS 3 300 ++ (rW 6)) [(3,1)])]
theorem ok63 : TCok P 63 tc63:=tK (eC ok43 (eC ok98 eN)) (l1 6 { sh:=(sH 6 [aS 0 5 0,aS 4 166 3] (cT [rS 0 1200,rS 3 300,[⟨1200,[(4,-4),(1,-1)]⟩]]) [(0,0),(3,1)]),keep:=[],W:=[230,231,237,238,239,240,241,328,329],Wo:=[230,231,237,238,239,240,241,328,329],dec:=⟨0,[(1,1)]⟩ })
def tc133 : TC:=tC 2 (sH 6 [aP 0 116 0,aQ 1 [cW 1,cW 2,cS 5 3]] (cT [rP 0,rW 1,rW 2,rS 3 1048576]) [(0,0),(3,0)]) [22,23,24,143] [(sH 1 [(0,d1 (cB 6))] (rB 6) [])]
theorem ok133 : TCok P 133 tc133:=tK eN {}
def tc77 : TC:=tC 4 (sH 6 [aP 0 92 0,aW 1 1,aW 2 2,aS 3 5 3] (cT [rP 0,rI 1 0 63,rW 2,rS 3 1048576]) [(0,0),(3,0)]) W6 [(sH 0 [(0,.t [])] [] [])]
theorem ok77 : TCok P 77 tc77:=tK (eC ok40 (eC ok81 (eC ok133 eN))) {}
def tc79 : TC:=tC 1 (sH 1 [aP 0 249 0] (rP 0) [(0,0)]) [] [(sH 1 [(0,d1 (cI .u32 1))] (rI 1 0 4294967295) [])]
theorem ok79 : TCok P 79 tc79:=tK eN {}
def tc99 : TC:=tC 3 (sH 3 [aP 0 87 0,aW 1 1,(2,d1 (cI .u32 2))] (cT [rP 0,rI 1 0 7,rI 2 0 4294967295]) [(0,0)]) [] [(sM 2 [(0,.t [.c (cW 3),.c (.tru true)])] (rI 3 0 7 ++ (rP 4)) [(4,0)] [⟨0,⟨303,[(3,1),(1,8),(0,1)]⟩,.ptr 126 249 false,cP 249 4⟩]),(sH 1 [(0,.t [.c (cW 3),.c (.tru false)])] (rI 3 0 0) [])]
theorem ok99 : TCok P 99 tc99:=tK (eC ok79 eN) { cut:=lp1 6 (laC (sH 0 [] [] []) [2,15,16] [] []) <| lp0,fuel:=10 }
def tc153 : TC:=tC 1 (sH 3 [aS 0 340 0] (rS 0 16384) [(0,0)]) [] [(sH 3 [aS 0 56 3] (rS 3 524288) [(3,1)])]
theorem ok153 : TCok P 153 tc153:=tK eN { lp:=lp1 3 (laK (sH 4 [aS 3 56 1,aW 9 4] (cT [rS 1 524288,rI 4 0 16384,[⟨0,[(4,17),(2,-1)]⟩,⟨0,[(4,-1),(0,1)]⟩]]) [(1,1)]) [7,8] [] [] 1 [aW 8 0] (⟨0,[(4,-1),(0,1)]⟩)) <| lp1 7 (laK (sH 4 [aS 3 56 1,(18,d1 (cI .u16 4))] (cT [rS 1 524288,rI 4 0 16,[⟨1,[(4,1),(2,-1),(0,17)]⟩]]) [(1,1)]) [5,7,8,9] [61] [] 1 [aW 9 0] (⟨16,[(4,-1)]⟩)) <| lp0 }
def tc188 : TC:=tC 2 (sM 5 [aP 0 326 0,(1,d1 (cI .u16 1))] (cT [rP 0,rI 1 0 65535,rS 2 4096]) [(0,0),(2,0)] [mK (.sli 341 324 4096) 0 0 (cS 324 2)]) [] [(sH 1 [aW 0 5] (rW 5 ++ ([⟨1,[(5,1)]⟩,⟨-1,[(5,-1),(3,1)]⟩])) [])]
theorem ok188 : TCok P 188 tc188:=tK (eC ok220 (eC ok221 eN)) {}
def tc154 : TC:=tC 2 (sH 2 [aP 0 326 0,(1,d1 (cI .u16 1))] (rP 0 ++ (rI 1 0 65535)) [(0,0)]) [] [(sH 4 [(0,.t [.c (cS 5 2),.c (cB 5)])] (rS 2 131072 ++ (rB 5)) [(2,0)])]
theorem ok154 : TCok P 154 tc154:=tK (eC ok81 (eC ok188 eN)) { gh:=[0] }
def tc100 : TC:=tC 2 (sH 4 [aP 0 249 0,aS 1 340 1] (rP 0 ++ (rS 1 16384)) [(0,0),(1,0)]) [] [(sH 3 [aS 0 31 4] (rS 4 64) [(4,1)])]
theorem ok100 : TCok P 100 tc100:=tK (eC ok153 (eC ok154 eN)) (l1 3 (laK (sH 4 [aS 5 31 1,aW 13 4] (cT [rS 1 64,rI 4 0 524288,[⟨0,[(4,-1),(0,1)]⟩]]) [(1,1)]) [0,11,12] [] [] 1 [aW 12 0] (⟨0,[(4,-1),(0,1)]⟩)))
def tc64 : TC:=tC 4 (sH 29 [aP 0 92 0,aP 1 87 1,aW 2 2,aQ 3 [cW 3,cI .u32 4,cI .u32 5,cI .u64 6,cI .u32 7,cI .u32 8,cI .u32 9,cS 338 10,cS 340 13,cS 170 16,cW 19,cI .u32 20,cS 57 21,cW 24,cW 25,cS 5 26]] (cT [rP 0,rP 1,rI 2 0 7,rW 3,rI 4 0 4294967295,rI 5 0 4294967295,rI 6 0 18446744073709551615,rI 7 0 4294967295,rI 8 0 4294967295,rI 9 0 4294967295,rS 10 16384,rS 13 16384,rS 16 16384,rW 19,rI 20 0 4294967295,rS 21 16384,rW 24,rW 25,rS 26 65536]) [(0,0),(1,0),(10,0),(13,0),(16,0),(21,0),(26,0)]) W6 [(sH 0 [(0,.t [])] [] [])]
theorem ok64 : TCok P 64 tc64:=tK (eC ok40 (eC ok77 (eC ok99 (eC ok100 eN)))) (l1 5 (laK (sH 1 [aW 39 1] (rI 1 0 1048576 ++ ([⟨0,[(1,-1),(0,1)]⟩])) []) [0,1,2,37,38] W6 W6 1 [aW 38 0] (⟨0,[(1,-1),(0,1)]⟩)))
def tc223 : TC:=tC 2 (sH 52 [aQ 0 [cW 0,cI .u32 1,cI .u32 2,cI .u64 3,cI .u32 4,cI .u32 5,cI .u32 6,cS 338 7,cS 340 10,cS 170 13,cW 16,cI .u32 17,cS 57 18,cW 21,cW 22,cS 5 23],aQ 1 [cW 26,cI .u32 27,cI .u32 28,cI .u64 29,cI .u32 30,cI .u32 31,cI .u32 32,cS 338 33,cS 340 36,cS 170 39,cW 42,cI .u32 43,cS 57 44,cW 47,cW 48,cS 5 49]] (cT [rW 0,rI 1 0 4294967295,rI 2 0 4294967295,rI 3 0 18446744073709551615,rI 4 0 4294967295,rI 5 0 4294967295,rI 6 0 4294967295,rS 7 16384,rS 10 16384,rS 13 16384,rW 16,rI 17 0 4294967295,rS 18 16384,rW 21,rW 22,rS 23 65536,rW 26,rI 27 0 4294967295,rI 28 0 4294967295,rI 29 0 18446744073709551615,rI 30 0 4294967295,rI 31 0 4294967295,rI 32 0 4294967295,rS 33 16384,rS 36 16384,rS 39 16384,rW 42,rI 43 0 4294967295,rS 44 16384,rW 47,rW 48,rS 49 65536]) [(7,0),(10,0),(13,0),(18,0),(23,0),(33,0),(36,0),(39,0),(44,0),(49,0)]) [] [(sH 1 [(0,d1 (cB 52))] (rB 52) [])]
theorem ok223 : TCok P 223 tc223:=tK eN {}
def tc224 : TC:=tC 1 (sH 26 [aQ 0 [cW 0,cI .u32 1,cI .u32 2,cI .u64 3,cI .u32 4,cI .u32 5,cI .u32 6,cS 338 7,cS 340 10,cS 170 13,cW 16,cI .u32 17,cS 57 18,cW 21,cW 22,cS 5 23]] (cT [rW 0,rI 1 0 4294967295,rI 2 0 4294967295,rI 3 0 18446744073709551615,rI 4 0 4294967295,rI 5 0 4294967295,rI 6 0 4294967295,rS 7 16384,rS 10 16384,rS 13 16384,rW 16,rI 17 0 4294967295,rS 18 16384,rW 21,rW 22,rS 23 65536]) [(7,0),(10,0),(13,0),(18,0),(23,0)]) [] [(sH 26 [aQ 0 [cW 26,cI .u32 27,cI .u32 28,cI .u64 29,cI .u32 30,cI .u32 31,cI .u32 32,cS 338 33,cS 340 36,cS 170 39,cW 42,cI .u32 43,cS 57 44,cW 47,cW 48,cS 5 49]] (cT [rW 26,rI 27 0 4294967295,rI 28 0 4294967295,rI 29 0 18446744073709551615,rI 30 0 4294967295,rI 31 0 4294967295,rI 32 0 4294967295,rS 33 16384,rS 36 16384,rS 39 16384,rW 42,rI 43 0 4294967295,rS 44 16384,rW 47,rW 48,rS 49 65536]) [(33,0),(36,0),(39,0),(44,0),(49,0)])]
theorem ok224 : TCok P 224 tc224:=tK eN {}
def tc226 : TC:=tC 1 (sH 7 [aQ 0 [cI .u32 0,cI .u8 1,cI .u32 2,cI .u32 3,cI .u32 4,cI .u32 5,cI .u32 6]] (cT [rI 0 0 4294967295,rI 1 0 255,rI 2 0 4294967295,rI 3 0 4294967295,rI 4 0 4294967295,rI 5 0 4294967295,rI 6 0 4294967295]) []) [] [(sH 1 [(0,d1 (cB 7))] (rB 7) [])]
theorem ok226 : TCok P 226 tc226:=tK eN {}
end
end VtTop
namespace VtTop
open Go Zx Vx
noncomputable section
set_option maxRecDepth 1000000
def tc230 : TC:=tC 2 (sH 3 [aS 0 338 0,(1,d1 (.fn 226))] (rS 0 1048576) [(0,0)]) [] [(sH 1 [aW 0 3] (rW 3 ++ ([⟨1,[(3,1)]⟩,⟨-1,[(3,-1),(1,1)]⟩])) [])]
theorem ok230 : TCok P 230 tc230:=tK (eC ok226 eN) (l1 2 (laK (sH 1 [aW 8 1] (rI 1 0 1048576 ++ ([⟨0,[(1,-1),(0,1)]⟩])) []) [0,1,7] [] [] 1 [aW 7 0] (⟨0,[(1,-1),(0,1)]⟩)))
def tc225 : TC:=tC 2 (sH 3 [aS 0 338 0,(1,d1 (.fn 226))] (rS 0 1048576) [(0,0)]) [] [(sH 0 [(0,d1 (.tru true))] [] []),(sH 0 [(0,d1 (.tru false))] [] [])]
theorem ok225 : TCok P 225 tc225:=tK (eC ok230 eN) {}
def tc192 : TC:=tC 1 (sH 26 [aQ 0 [cW 0,cI .u32 1,cI .u32 2,cI .u64 3,cI .u32 4,cI .u32 5,cI .u32 6,cS 338 7,cS 340 10,cS 170 13,cW 16,cI .u32 17,cS 57 18,cW 21,cW 22,cS 5 23]] (cT [rW 0,rI 1 0 4294967295,rI 2 0 4294967295,rI 3 0 18446744073709551615,rI 4 0 4294967295,rI 5 0 4294967295,rI 6 0 4294967295,rS 7 16384,rS 10 16384,rS 13 16384,rW 16,rI 17 0 4294967295,rS 18 16384,rW 21,rW 22,rS 23 65536]) [(7,0),(10,0),(13,0),(18,0),(23,0)]) [] [(sH 1 [(0,d1 (cB 26))] (rB 26) [])]
theorem ok192 : TCok P 192 tc192:=tK (eC ok148 (eC ok223 (eC ok224 (eC ok225 (eC ok226 eN))))) {}
def tc191 : TC:=tC 1 (sH 26 [aQ 0 [cW 0,cI .u32 1,cI .u32 2,cI .u64 3,cI .u32 4,cI .u32 5,cI .u32 6,cS 338 7,cS 340 10,cS 170 13,cW 16,cI .u32 17,cS 57 18,cW 21,cW 22,cS 5 23]] (cT [rW 0,rI 1 0 4294967295,rI 2 0 4294967295,rI 3 0 18446744073709551615,rI 4 0 4294967295,rI 5 0 4294967295,rI 6 0 4294967295,rS 7 16384,rS 10 16384,rS 13 16384,rW 16,rI 17 0 4294967295,rS 18 16384,rW 21,rW 22,rS 23 65536]) [(7,0),(10,0),(13,0),(18,0),(23,0)]) [] [(sH 1 [(0,d1 (cB 26))] (rB 26) [])]
theorem ok191 : TCok P 191 tc191:=tK (eC ok192 eN) {}
def tc222 : TC:=tC 2 (sH 3 [aS 0 166 0,(1,d1 (.fn 191))] (rS 0 1048576) [(0,0)]) [] [(sH 1 [aW 0 3] (rW 3 ++ ([⟨1,[(3,1)]⟩,⟨-1,[(3,-1),(1,1)]⟩])) [])]
theorem ok222 : TCok P 222 tc222:=tK (eC ok191 eN) (l1 2 (laK (sH 1 [aW 8 1] (rI 1 0 1048576 ++ ([⟨0,[(1,-1),(0,1)]⟩])) []) [0,1,7] [] [] 1 [aW 7 0] (⟨0,[(1,-1),(0,1)]⟩)))
def tc190 : TC:=tC 2 (sH 3 [aS 0 166 0,(1,d1 (.fn 191))] (rS 0 1048576) [(0,0)]) [] [(sH 0 [(0,d1 (.tru true))] [] []),(sH 0 [(0,d1 (.tru false))] [] [])]
theorem ok190 : TCok P 190 tc190:=tK (eC ok222 eN) {}
def tc194 : TC:={ k:=3,pre:=(sH 5 [aS 0 5 0,(1,d1 (cI .u64 3)),aW 2 4] (cT [rS 0 524288,rI 3 0 18446744073709551615,rI 4 1 8]) [(0,1)]),W:=[],post:=[(sH 3 [aS 0 5 5] (rS 5 1048576 ++ ([⟨0,[(6,1),(4,-1),(1,-1)]⟩,⟨0,[(6,-1),(4,1),(1,1)]⟩])) [(5,1)])],Y:=some [4] }
theorem ok194 : TCok P 194 tc194:=tK eN (l1 2 (laK (sH 4 [aS 0 5 4,aW 7 7] (cT [rS 4 1048576,rI 7 (-1) 8,[⟨1,[(7,1),(5,1),(3,-1),(1,-1)]⟩,⟨-1,[(7,-1),(5,-1),(3,1),(1,1)]⟩]]) [(4,1)]) [1] [] [] 4 [aS 0 5 0,aW 2 3] (⟨1,[(7,1)]⟩)))
def tc227 : TC:={ k:=2,pre:=(sH 6 [aS 0 5 0,aS 1 338 3] (rS 0 100 ++ (rS 3 16384)) [(0,1),(3,0)]),W:=[],post:=[(sH 3 [aS 0 5 6] (rS 6 524288 ++ ([⟨0,[(7,1),(4,-24),(1,-1)]⟩,⟨0,[(7,-1),(4,24),(1,1)]⟩])) [(6,1)])],Y:=some [4,63,343,344,345,346,347,348,349,350,351,352,353,354,355,356] }
theorem ok227 : TCok P 227 tc227:=tK (eC ok194 eN) { lp:=lp1 2 (laK (sH 4 [aS 0 5 4,aW 11 7] (cT [rS 4 524288,rI 7 0 16384,[⟨0,[(7,-24),(5,1),(1,-1)]⟩,⟨0,[(7,24),(5,-1),(1,1)]⟩,⟨100,[(5,-1),(3,24)]⟩,⟨0,[(7,-1),(3,1)]⟩]]) [(4,1)]) [9,10] [] [] 4 [aS 0 5 0,aW 10 3] (⟨0,[(7,-1),(3,1)]⟩)) <| lp1 8 (laK (sH 4 [aS 0 5 4,aW 40 7] (cT [rS 4 524288,rI 7 0 4,[⟨0,[(7,-4),(5,1),(1,-1)]⟩,⟨0,[(7,4),(5,-1),(1,1)]⟩,⟨16,[(5,-1),(1,1)]⟩,⟨0,[(7,-1),(3,1)]⟩]]) [(4,1)]) [9,10,11,38,39] [] [] 4 [aS 0 5 0,aW 39 3] (⟨0,[(7,-1),(3,1)]⟩)) <| lp0 }
def tc193 : TC:=tC 1 (sH 26 [aQ 0 [cW 0,cI .u32 1,cI .u32 2,cI .u64 3,cI .u32 4,cI .u32 5,cI .u32 6,cS 338 7,cS 340 10,cS 170 13,cW 16,cI .u32 17,cS 57 18,cW 21,cW 22,cS 5 23]] (cT [rW 0,rI 1 0 4294967295,rI 2 0 4294967295,rI 3 0 18446744073709551615,rI 4 0 4294967295,rI 5 0 4294967295,rI 6 0 4294967295,rS 7 16384,rS 10 16384,rS 13 16384,rW 16,rI 17 0 4294967295,rS 18 16384,rW 21,rW 22,rS 23 65536]) [(7,0),(10,0),(13,0),(18,0),(23,0)]) [] [(sH 5 [(0,.t [.c (cS 5 26),.c (cW 29),.c (cW 30)])] (cT [rS 26 524288,rW 29,rW 30]) [(26,0)])]
theorem ok193 : TCok P 193 tc193:=tK (eC ok194 (eC ok227 eN)) { lp:=lp1 19 (laK (sH 4 [aS 2 5 1,aW 78 4] (cT [rS 1 524288,rI 4 0 16384,[⟨-8,[(4,-4),(2,1)]⟩,⟨8,[(4,4),(2,-1)]⟩,⟨0,[(4,-1),(0,1)]⟩]]) [(1,1)]) [76,77] [] [] 1 [aW 77 0] (⟨0,[(4,-1),(0,1)]⟩)) <| lp1 26 (laK (sH 4 [aS 2 5 1,aW 98 4] (cT [rS 1 524288,rI 4 0 16384,[⟨-8,[(4,-8),(2,1)]⟩,⟨8,[(4,8),(2,-1)]⟩,⟨0,[(4,-1),(0,1)]⟩]]) [(1,1)]) [96,97] [] [] 1 [aW 97 0] (⟨0,[(4,-1),(0,1)]⟩)) <| lp1 35 (laK (sH 4 [aS 2 5 1,aW 136 4] (cT [rS 1 524288,rI 4 0 16384,[⟨-16,[(4,-4),(2,1)]⟩,⟨16,[(4,4),(2,-1)]⟩,⟨0,[(4,-1),(0,1)]⟩]]) [(1,1)]) [134,135] [] [] 1 [aW 135 0] (⟨0,[(4,-1),(0,1)]⟩)) <| lp0,fuel:=5 }
def tc134 : TC:=tC 1 (sH 3 [aS 0 166 0] (rS 0 1024) [(0,0)]) [] [(sH 4 [(0,.t [.c (cS 5 3),.c (cW 6)])] (rS 3 131072 ++ (rW 6)) [(3,0)])]
theorem ok134 : TCok P 134 tc134:=tK (eC ok190 (eC ok191 (eC ok193 (eC ok194 eN)))) (l1 5 (laK (sH 4 [aS 4 5 1,aW 19 4] (cT [rS 1 1200,rI 4 0 1024,[⟨0,[(4,-1),(0,1)]⟩]]) [(1,1)]) [17,18] [] [] 1 [aW 18 0] (⟨0,[(4,-1),(0,1)]⟩)))
def tc78 : TC:=tC 5 (sH 5 [aP 0 92 0,aP 1 87 1,aW 2 2,aW 3 3,(4,d1 (cI .u32 4))] (cT [rP 0,rP 1,rI 2 0 7,rI 3 0 2,rI 4 0 4294967295]) [(0,0),(1,0)]) W6 [(sH 0 [(0,.t [])] [] [])]
theorem ok78 : TCok P 78 tc78:=tK (eC ok77 (eC ok134 eN)) {}
def tc204 : TC:=tC 1 (sH 1 [aW 0 0] (rW 0) []) [] [(sH 0 [(0,d1 (.tru true))] [⟨0,[(0,1)]⟩,⟨2,[(0,-1)]⟩] []),(sH 0 [(0,d1 (.tru false))] [] [])]
theorem ok204 : TCok P 204 tc204:=tK eN {}
def tc203 : TC:=tC 1 (sH 3 [aQ 0 [cB 0,cW 1,cW 2]] (cT [rB 0,rI 1 0 2,rI 2 0 2]) []) [] [(sH 1 [(0,d1 (cB 3))] (rB 3) [])]
theorem ok203 : TCok P 203 tc203:=tK (eC ok204 eN) {}
def tc215 : TC:=tC 2 (sH 4 [aQ 0 [cB 0,cW 1,cW 2],aW 1 3] (cT [rB 0,rI 1 0 2,rI 2 0 2,rW 3]) []) [] [(sH 1 [(0,d1 (cB 4))] (rB 4) [])]
theorem ok215 : TCok P 215 tc215:=tK eN {}
end
end VtTop
namespace VtTop
open Go Zx Vx
noncomputable section
set_option maxRecDepth 1000000
def tc202 : TC:=tC 1 (sH 3 [aQ 0 [cB 0,cW 1,cW 2]] (cT [rB 0,rI 1 0 2,rI 2 0 2]) []) [] [(sH 2 [(0,.t [.c (cW 3),.c (cB 4)])] (rI 3 0 2 ++ (rB 4)) [])]
theorem ok202 : TCok P 202 tc202:=tK (eC ok203 (eC ok215 eN)) {}
def tc155 : TC:=tC 1 (sH 1 [aP 0 249 0] (rP 0) [(0,0)]) [] [(sH 2 [(0,.t [.c (cW 1),.c (cB 2)])] (rI 1 0 2 ++ (rB 2)) [])]
theorem ok155 : TCok P 155 tc155:=tK (eC ok202 eN) {}
def tc156 : TC:=tC 1 (sH 1 [aP 0 249 0] (rP 0) [(0,0)]) [] [(sH 2 [(0,.t [.c (cW 1),.c (cB 2)])] (rI 1 0 2 ++ (rB 2)) [])]
theorem ok156 : TCok P 156 tc156:=tK eN {}
def tc101 : TC:=tC 4 (sM 5 [aP 0 92 0,aP 1 87 1,aW 2 2,aW 3 3] (cT [rP 0,rP 1,rI 2 0 7,rI 3 0 7,rP 4]) [(0,0),(1,0),(4,0)] [⟨1,⟨303,[(3,1),(2,8),(1,1)]⟩,.ptr 126 249 false,cP 249 4⟩]) W6 [(sH 0 [(0,.t [])] [] [])]
theorem ok101 : TCok P 101 tc101:=tK (eC ok78 (eC ok79 (eC ok155 (eC ok156 eN)))) {}
def tc65 : TC:=tC 4 (sH 4 [aP 0 92 0,aP 1 87 1,aW 2 2,(3,d1 (cI .u32 3))] (cT [rP 0,rP 1,rI 2 0 7,rI 3 0 4294967295]) [(0,0),(1,0)]) W6 [(sH 0 [(0,.t [])] [] [])]
theorem ok65 : TCok P 65 tc65:=tK (eC ok40 (eC ok99 (eC ok101 eN))) {}
def tc157 : TC:=tC 2 (sH 4 [aQ 0 [cB 0,cW 1,cW 2],aW 1 3] (cT [rB 0,rI 1 0 2,rI 2 0 2,rW 3]) []) [] [(sH 4 [(0,.t [.a [cB 4,cW 5,cW 6],.c (cW 7)])] (cT [rB 4,rI 5 0 2,rI 6 0 2,rW 7]) [])]
theorem ok157 : TCok P 157 tc157:=tK (eC ok203 (eC ok204 eN)) {}
def tc102 : TC:=tC 2 (sH 2 [aP 0 249 0,aW 1 1] (rP 0 ++ (rW 1)) [(0,0)]) [281,282,283] [(sH 1 [aW 0 2] (rW 2) [])]
theorem ok102 : TCok P 102 tc102:=tK (eC ok157 eN) {}
def tc103 : TC:=tC 2 (sH 4 [(0,d1 (cI .u64 0)),aS 1 3 1] (rI 0 0 18446744073709551615 ++ (rS 1 1024)) [(1,0)]) [] [(sH 1 [aW 0 4] (rW 4) [])]
theorem ok103 : TCok P 103 tc103:=tK eN (l1 3 (laK (sH 3 [aW 5 1,aW 6 2,aW 11 3] (cT [rI 1 (-1) 1024,rI 2 (-1) 1024,rI 3 0 1024,[⟨0,[(3,-1),(0,1)]⟩]]) []) [0,9,10] [] [] 1 [aW 10 0] (⟨0,[(3,-1),(0,1)]⟩)))
def tc104 : TC:=tC 4 (sM 5 [aP 0 92 0,aP 1 87 1,aW 2 2,aW 3 3] (cT [rP 0,rP 1,rI 2 0 7,rI 3 0 7,rP 4]) [(0,0),(1,0),(4,0)] [⟨1,⟨303,[(3,1),(2,8),(1,1)]⟩,.ptr 126 249 false,cP 249 4⟩]) W6 [(sH 0 [(0,.t [])] [] [])]
theorem ok104 : TCok P 104 tc104:=tK (eC ok101 (eC ok155 eN)) {}
def tc66 : TC:=tC 5 (sH 5 [aP 0 92 0,aP 1 87 1,aW 2 2,(3,d1 (cI .u32 3)),(4,d1 (cI .u64 4))] (cT [rP 0,rP 1,rI 2 0 7,rI 3 0 4294967295,rI 4 0 18446744073709551615]) [(0,0),(1,0)]) [22,23,24,143,208,281,282,283] [(sH 0 [(0,.t [])] [] [])]
theorem ok66 : TCok P 66 tc66:=tK (eC ok40 (eC ok99 (eC ok102 (eC ok103 (eC ok104 eN))))) { fuel:=5 }
def tc105c : TC:=tC 1 (sH 1 [(0,d1 (cI .u64 0))] (rI 0 0 255) []) [] [(sH 1 [aW 0 1] (rI 1 0 8) [])]
theorem ok105c : TCok P 105 tc105c:=tK eN {}
def tc105 : TC:=tC 1 (sH 1 [(0,d1 (cI .u64 0))] (rI 0 0 18446744073709551615) []) [] [(sH 1 [aW 0 1] (rI 1 0 64) [])]
theorem ok105 : TCok P 105 tc105:=tK eN {}
def tc67 : TC:=tC 1 (sH 26 [aQ 0 [cW 0,cI .u32 1,cI .u32 2,cI .u64 3,cI .u32 4,cI .u32 5,cI .u32 6,cS 338 7,cS 340 10,cS 170 13,cW 16,cI .u32 17,cS 57 18,cW 21,cW 22,cS 5 23]] (cT [rW 0,rI 1 0 4294967295,rI 2 0 4294967295,rI 3 0 18446744073709551615,rI 4 0 4294967295,rI 5 0 4294967295,rI 6 0 4294967295,rS 7 16384,rS 10 16384,rS 13 16384,rW 16,rI 17 0 4294967295,rS 18 16384,rW 21,rW 22,rS 23 65536]) [(7,0),(10,0),(13,0),(18,0),(23,0)]) [] [(sH 1 [(0,d1 (cI .u64 26))] (rI 26 0 18446744073709551615) [])]
theorem ok67 : TCok P 67 tc67:=tK (eC ok105c (eC ok105 eN)) {}
def tc44 : TC:=tC 4 (sH 6 [aP 0 92 0,aP 1 87 1,aW 2 2,aS 3 5 3] (cT [rP 0,rP 1,rI 2 0 7,rS 3 1048576]) [(0,0),(1,0),(3,0)]) W2 [(sH 0 [(0,.t [])] [] [])]
theorem ok44 : TCok P 44 tc44:=tK (eC ok40 (eC ok63 (eC ok64 (eC ok65 (eC ok66 (eC ok67 eN)))))) { lp:=lp1 4 (laK (sH 1 [aW 30 1] (rI 1 0 1048576 ++ ([⟨0,[(1,-1),(0,1)]⟩])) []) [0,1,2,28,29] W2 W2 1 [aW 29 0] (⟨0,[(1,-1),(0,1)]⟩)) <| lp1 13 (laK (sH 1 [aW 56 1] (rI 1 0 1048576 ++ ([⟨0,[(1,-1),(0,1)]⟩])) []) [0,1,2,28,29,30,54,55] W2 W2 1 [aW 55 0] (⟨0,[(1,-1),(0,1)]⟩)) <| lp1 19 (laK (sH 1 [aW 72 1] (rI 1 0 1048576 ++ ([⟨0,[(1,-1),(0,1)]⟩])) []) [0,1,2,11,28,29,30,70,71] W2 W2 1 [aW 71 0] (⟨0,[(1,-1),(0,1)]⟩)) <| lp0 }
end
end VtTop
namespace VtTop
open Go Zx Vx
noncomputable section
set_option maxRecDepth 1000000
def tc106 : TC:=tC 1 (sH 3 [aS 0 5 0] (rS 0 131072) [(0,0)]) [] [(sH 1 [(0,d1 (cI .u32 3))] (rI 3 0 4294967295) [])]
theorem ok106 : TCok P 106 tc106:=tK eN (l1 3 (laK (sH 2 [(3,d1 (cI .u32 1)),aW 8 2] (cT [rI 1 0 4294967295,rI 2 0 1048576,[⟨0,[(2,-1),(0,1)]⟩]]) []) [6,7] [] [] 1 [aW 7 0] (⟨0,[(2,-1),(0,1)]⟩)))
def tc205 : TC:=tC 2 (sH 4 [aW 0 0,aS 1 5 1] (cT [rW 0,rS 1 1200,[(Lin.var 2).addc (-1)]]) [(1,0)]) [] [(sH 5 [(0,.t [.a [cW 4,cS 5 5],.c (cW 8),.c (.tru true)])] (cT [rW 4,rS 5 300,rI 8 1 1200,[⟨0,[(8,-1),(2,1)]⟩]]) [(5,1)]),(sH 4 [(0,.t [.a [cW 4,cS 5 5],.c (.num .i64 0),.c (.tru false)])] (rW 4 ++ (rS 5 8192)) [(5,1)])]
theorem ok205 : TCok P 205 tc205:=tK (eC ok81 eN) {}
def tc158 : TC:=tC 2 (sH 4 [aW 0 0,aS 1 5 1] (rW 0 ++ (rS 1 1200)) [(1,0)]) [] [(sH 4 [(0,.t [.c (cS 220 4),.c (cB 7)])] (rS 4 1200 ++ (rB 7)) [(4,0)])]
theorem ok158 : TCok P 158 tc158:=tK (eC ok205 eN) (l1 2 { sh:=(sH 6 [aS 1 5 0,aS 6 220 3] (cT [rS 0 1200,rS 3 1200,[⟨1200,[(4,-1),(1,-1)]⟩]]) [(0,0),(3,1)]),keep:=[0],W:=[],Wo:=[],dec:=⟨0,[(1,1)]⟩ })
def tc107 : TC:=tC 2 (sH 4 [aP 0 125 0,aS 1 5 1] (rP 0 ++ (rS 1 1200)) [(0,0),(1,0)]) [162,163] [(sH 1 [(0,.t [.c (cW 4),.c (.num .i64 0)])] (rI 4 4 1200 ++ ([⟨0,[(4,-1),(2,1)]⟩])) []),(sH 2 [(0,.t [.c (cW 4),.c (cW 5)])] (rW 4 ++ (rI 5 1 100)) [])]
theorem ok107 : TCok P 107 tc107:=tK (eC ok106 (eC ok158 eN)) {}
def tc68 : TC:=tC 1 (sH 3 [aS 0 5 0] (rS 0 1048576) [(0,0)]) [162,163] [(sH 17 [(0,.t [.a [cB 3,cW 4,cI .u16 5,cI .u32 6,cI .u32 7,cS 57 8,cW 11,cS 220 12,cW 15,cS 5 16],.c (cW 19)])] (cT [rB 3,rW 4,rI 5 0 65535,rI 6 0 4294967295,rI 7 0 4294967295,rS 8 256,rW 11,rS 12 4096,rI 15 0 255,rS 16 1200,rI 19 0 100]) [(8,0),(12,0),(16,0)])]
theorem ok68 : TCok P 68 tc68:=tK (eC ok81 (eC ok106 (eC ok107 eN))) { lp:=lp1 12 (laK (sM 3 [(6,.s (.c (.int .i64 ⟨12,[(6,4)]⟩)))] (rS 5 16 ++ ([⟨-12,[(6,-4),(4,1)]⟩])) [(5,1)] [mK (.sli 161 57 256) 3 5 (cS 57 5)]) [0,2,4,5] [161,62] [162,163] 5 [aS 0 5 0,aP 4 125 3,aW 5 4] (⟨-12,[(6,-4),(4,1)]⟩)) <| lp0,cut:=lp1 20 { sh:=(sH 1 [aW 5 3] (rI 3 12 1200 ++ ([⟨0,[(3,-1),(1,1)]⟩])) []),keep:=[0,2,4],W:=[162,163],Wo:=[162,163],r:=3,refs:=[aS 0 5 0] } <| lp1 25 { sh:=(sM 1 [] (rI 4 0 255 ++ ([⟨0,[(4,-1),(2,1)]⟩])) [] [mK (.int 164 .i64 0 255) 0 8 (cW 4)]),keep:=[2,4,9],W:=[164],Wo:=[162,163],r:=4,refs:=[aP 4 125 0,aS 9 5 1] } <| lp0 }
def tc69 : TC:=tC 3 (sH 3 [aP 0 87 0,aW 1 1,(2,d1 (cI .u32 2))] (cT [rP 0,rI 1 0 7,rI 2 0 4294967295]) [(0,0)]) [] [(sH 1 [(0,.t [.c (cW 3),.c (.tru true)])] (rI 3 0 2) []),(sH 1 [(0,.t [.c (cW 3),.c (.tru false)])] (rI 3 0 0) [])]
theorem ok69 : TCok P 69 tc69:=tK eN (l1 2 { sh:=(sH 1 [aW 16 0] (rI 0 0 3) []),keep:=[2,15],W:=[],Wo:=[],dec:=⟨3,[(0,-1)]⟩ })
def tc108 : TC:=tC 1 (sH 1 [(0,d1 (cI .u8 0))] (rI 0 0 15) []) [] [(sH 0 [(0,d1 (.num .i64 0))] [⟨7,[(0,-1)]⟩] []),(sH 1 [aW 0 1] (rI 1 1 8 ++ ([⟨-8,[(0,1)]⟩])) [])]
theorem ok108 : TCok P 108 tc108:=tK eN {}
def tc109 : TC:=tC 2 (sH 4 [(0,d1 (cI .u8 0)),aS 1 5 1] (cT [rI 0 0 15,rS 1 1048576,[⟨7,[(2,8),(0,-1)]⟩]]) [(1,0)]) [] [(sH 2 [(0,.t [.c (cI .u64 4),.c (cB 5)])] (rI 4 0 18446744073709551615 ++ (rB 5)) [])]
theorem ok109 : TCok P 109 tc109:=tK eN (l1 5 (laK (sH 2 [(6,d1 (cI .u64 1)),aW 16 2] (cT [rI 1 0 18446744073709551615,rI 2 0 1048576,[⟨0,[(2,-1),(0,1)]⟩]]) []) [1,14,15] [] [] 1 [aW 15 0] (⟨0,[(2,-1),(0,1)]⟩)))
def tc70 : TC:=tC 1 (sH 3 [aS 0 5 0] (rS 0 1048576) [(0,0)]) [] [(sH 4 [(0,.t [.c (cI .u64 3),.c (cI .u64 4),.c (cW 5),.c (cW 6)])] (cT [rI 3 0 18446744073709551615,rI 4 0 18446744073709551615,rW 5,rW 6]) [])]
theorem ok70 : TCok P 70 tc70:=tK (eC ok108 (eC ok109 eN)) {}
def tc71 : TC:=tC 1 (sH 1 [(0,d1 (cI .u64 0))] (rI 0 0 18446744073709551615) []) [] [(sH 4 [(0,.t [.c (cW 1),.c (cW 2),.c (cW 3),.c (cB 4)])] (cT [rW 1,rW 2,rW 3,rB 4]) [])]
theorem ok71 : TCok P 71 tc71:=tK eN {}
def tc214 : TC:=tC 2 (sH 5 [aW 0 0,aQ 1 [cW 1,cS 5 2]] (cT [rW 0,rW 1,rS 2 8192]) [(2,0)]) [] [(sH 1 [(0,d1 (cB 5))] (rB 5) [])]
theorem ok214 : TCok P 214 tc214:=tK eN {}
def tc213 : TC:=tC 2 (sH 5 [aQ 0 [cW 0,cS 5 1],aP 1 125 4] (cT [rW 0,rS 1 8192,rP 4]) [(1,0),(4,0)]) [] [(sH 1 [(0,d1 (cB 5))] (rB 5) [])]
theorem ok213 : TCok P 213 tc213:=tK (eC ok214 eN) {}
def tc159b : TC:=t1 220 213 125
theorem ok159b : TCok P 159 tc159b:=tK (eC ok213 eN) (l1 2 (laK (sH 1 [aW 8 1] (rI 1 0 1048576 ++ ([⟨0,[(1,-1),(0,1)]⟩])) []) [0,1,7] [] [] 1 [aW 7 0] (⟨0,[(1,-1),(0,1)]⟩)))
def tc160 : TC:=tC 2 (sH 5 [aQ 0 [cW 0,cS 5 1],aP 1 3 4] (cT [rW 0,rS 1 8192,rP 4]) [(1,0),(4,0)]) [] [(sH 1 [(0,d1 (cB 5))] (rB 5) [])]
theorem ok160 : TCok P 160 tc160:=tK eN {}
end
end VtTop
namespace VtTop
open Go Zx Vx
noncomputable section
set_option maxRecDepth 1000000
def tc159 : TC:=t1 220 160 3
theorem ok159 : TCok P 159 tc159:=tK (eC ok160 eN) (l1 2 (laK (sH 1 [aW 8 1] (rI 1 0 1048576 ++ ([⟨0,[(1,-1),(0,1)]⟩])) []) [0,1,7] [] [] 1 [aW 7 0] (⟨0,[(1,-1),(0,1)]⟩)))
def tc110 : TC:=tC 2 (sH 17 [aQ 0 [cB 0,cW 1,cI .u16 2,cI .u32 3,cI .u32 4,cS 57 5,cW 8,cS 220 9,cW 12,cS 5 13],aW 1 16] (cT [rB 0,rW 1,rI 2 0 65535,rI 3 0 4294967295,rI 4 0 4294967295,rS 5 256,rW 8,rS 9 4096,rI 12 0 255,rS 13 8192,rW 16]) [(5,0),(9,0),(13,0)]) [] [(sH 1 [aW 0 17] (rW 17 ++ ([⟨1,[(17,1)]⟩,⟨-1,[(17,-1),(10,1)]⟩])) [])]
theorem ok110 : TCok P 110 tc110:=tK (eC ok159b (eC ok159 (eC ok160 eN))) {}
def tc72 : TC:=tC 2 (sH 17 [aQ 0 [cB 0,cW 1,cI .u16 2,cI .u32 3,cI .u32 4,cS 57 5,cW 8,cS 220 9,cW 12,cS 5 13],aW 1 16] (cT [rB 0,rW 1,rI 2 0 65535,rI 3 0 4294967295,rI 4 0 4294967295,rS 5 256,rW 8,rS 9 4096,rI 12 0 255,rS 13 8192,rW 16]) [(5,0),(9,0),(13,0)]) [] [(sH 4 [(0,.t [.c (cS 5 17),.c (cB 20)])] (rS 17 8192 ++ (rB 20)) [(17,1)])]
theorem ok72 : TCok P 72 tc72:=tK (eC ok81 (eC ok110 eN)) {}
def tc111 : TC:=tC 1 (sH 3 [aS 0 5 0] (rS 0 131072) [(0,0)]) [] [(sH 1 [aP 0 296 3] (rP 3) [(3,1)])]
theorem ok111 : TCok P 111 tc111:=tK eN {}
def tc121 : TC:=tC 1 (sM 5 [aP 0 296 0] (cT [rP 0,rS 1 1048576,rI 4 0 8589934592]) [(0,0),(1,0)] [mK (.sli 333 5 1048576) 0 0 (cS 5 1),mK (.int 334 .i64 0 8589934592) 0 1 (cW 4)]) [] [(sH 1 [aW 0 5] (rW 5 ++ ([⟨0,[(5,1),(4,1),(2,-8)]⟩,⟨0,[(5,-1),(4,-1),(2,8)]⟩])) [])]
theorem ok121 : TCok P 121 tc121:=tK eN {}
def tc161t : TC:=tC 2 (sM 5 [aP 0 296 0,(1,d1 (.num .i64 1))] (cT [rP 0,rS 1 1048576,rI 4 0 8589934592]) [(0,0),(1,0)] [mK (.sli 333 5 1048576) 0 0 (cS 5 1),mK (.int 334 .i64 0 8589934592) 0 1 (cW 4)]) [334] [(sM 2 [(0,.t [.c (cI .u64 5),.c (.num .i64 0)])] (cT [rI 5 0 1,rI 6 0 8589934592,[⟨-1,[(6,1),(4,-1)]⟩,⟨1,[(6,-1),(4,1)]⟩]]) [] [mK (.int 334 .i64 0 8589934592) 0 1 (cW 6)]),(sM 3 [(0,.t [.c (cI .u64 5),.c (cW 6)])] (cT [rI 5 0 18446744073709551615,rI 6 1 3,rI 7 0 8589934592,[⟨0,[(7,1),(4,-1)]⟩,⟨0,[(7,-1),(4,1)]⟩]]) [] [mK (.int 334 .i64 0 8589934592) 0 1 (cW 7)])]
theorem ok161t : TCok P 161 tc161t:=tK (eC ok121 eN) { fuel:=3 }
def tc113t : TC:=tC 2 (sM 6 [aP 0 225 0,(1,d1 (.num .i64 1))] (cT [rP 0,rP 1,rI 2 0 8589934592,rS 3 1048576]) [(0,0),(1,0),(3,0)] [mK (iW 267) 0 1 (.num .i64 0),mK (.ptr 266 296 true) 0 0 (cP 296 1),mq 1 1 (.int 334 .i64 0 8589934592) (cW 2),mq 1 0 (.sli 333 5 1048576) (cS 5 3)]) W9 [(sM 2 [aW 0 6] (cT [rI 6 0 1,rI 7 0 8589934592,[⟨-1,[(7,1),(2,-1)]⟩,⟨1,[(7,-1),(2,1)]⟩]]) [] [mK (iW 267) 0 1 (.num .i64 0),mq 1 1 (.int 334 .i64 0 8589934592) (cW 7)]),(sM 3 [aW 0 6] (cT [rW 6,rI 7 1 100,rI 8 0 8589934592,[⟨0,[(8,1),(2,-1)]⟩,⟨0,[(8,-1),(2,1)]⟩]]) [] [mK (iW 267) 0 1 (cW 7),mq 1 1 (.int 334 .i64 0 8589934592) (cW 8)])]
theorem ok113t : TCok P 113 tc113t:=tK (eC ok161t eN) {}
def tc112t : TC:=tC 1 (sM 6 [aP 0 225 0] (cT [rP 0,rP 1,rI 2 0 8589934592,rS 3 1048576]) [(0,0),(1,0),(3,0)] [mK (iW 267) 0 1 (.num .i64 0),mK (.ptr 266 296 true) 0 0 (cP 296 1),mq 1 1 (.int 334 .i64 0 8589934592) (cW 2),mq 1 0 (.sli 333 5 1048576) (cS 5 3)]) W9 [(sM 2 [(0,d1 (cB 6))] (cT [rB 6,rI 7 0 8589934592,[⟨-1,[(7,1),(2,-1)]⟩,⟨1,[(7,-1),(2,1)]⟩]]) [] [mK (iW 267) 0 1 (.num .i64 0),mq 1 1 (.int 334 .i64 0 8589934592) (cW 7)]),(sM 3 [(0,d1 (cB 6))] (cT [rB 6,rI 7 1 100,rI 8 0 8589934592,[⟨0,[(8,1),(2,-1)]⟩,⟨0,[(8,-1),(2,1)]⟩]]) [] [mK (iW 267) 0 1 (cW 7),mq 1 1 (.int 334 .i64 0 8589934592) (cW 8)])]
theorem ok112t : TCok P 112 tc112t:=tK (eC ok113t eN) {}
def tc161d : TC:=t7 2 3
theorem ok161d : TCok P 161 tc161d:=tK (eC ok121 eN) { fuel:=10,gh:=[0] }
def tc161g : TC:=t7 1 1
theorem ok161g : TCok P 161 tc161g:=tK (eC ok121 eN) { fuel:=10,gh:=[0] }
def tc161e : TC:=t7 5 31
theorem ok161e : TCok P 161 tc161e:=tK (eC ok121 eN) { fuel:=10,gh:=[0] }
def tc161b : TC:=t7 6 63
theorem ok161b : TCok P 161 tc161b:=tK (eC ok121 eN) { fuel:=10,gh:=[0] }
def tc161c : TC:=tC 2 (sH 2 [aP 0 296 0,aW 1 1] (rP 0 ++ (rI 1 (-1) 8)) [(0,0)]) [334] [(sH 2 [(0,.t [.c (cI .u64 2),.c (cW 3)])] (rI 2 0 255 ++ (rI 3 0 3)) [])]
theorem ok161c : TCok P 161 tc161c:=tK (eC ok121 eN) { fuel:=10,gh:=[0] }
def tc161 : TC:=tC 2 (sH 2 [aP 0 296 0,aW 1 1] (rP 0 ++ (rW 1)) [(0,0)]) [334] [(sH 2 [(0,.t [.c (cI .u64 2),.c (cW 3)])] (rI 2 0 18446744073709551615 ++ (rI 3 0 3)) [])]
theorem ok161 : TCok P 161 tc161:=tK (eC ok121 eN) { lp:=lp1 7 (laK (sM 6 [(6,d1 (cI .u64 2)),aW 20 3] (cT [rI 2 0 18446744073709551615,rI 3 0 64,rS 4 1048576,rI 7 0 8589934592,[⟨0,[(3,-1),(1,1)]⟩,⟨0,[(7,-1),(5,8),(3,1),(1,-1)]⟩]]) [(4,0)] [mK (.sli 333 5 1048576) 0 0 (cS 5 4),mK (.int 334 .i64 0 8589934592) 0 1 (cW 7)]) [0,19] [334,333] [334] 2 [aP 0 296 0,aW 19 1] (⟨0,[(3,-1),(1,1)]⟩)) <| lp0,gh:=[0] }
end
end VtTop
namespace VtTop
open Go Zx Vx
noncomputable section
set_option maxRecDepth 1000000
def tc113e : TC:=t8 5 31
theorem ok113e : TCok P 113 tc113e:=tK (eC ok161t (eC ok161d (eC ok161g (eC ok161e (eC ok161b (eC ok161c (eC ok161 eN))))))) {}
def tc113b : TC:=t8 6 63
theorem ok113b : TCok P 113 tc113b:=tK (eC ok161t (eC ok161d (eC ok161g (eC ok161e (eC ok161b (eC ok161c (eC ok161 eN))))))) {}
def tc113c : TC:=t9 (-1) 8 255
theorem ok113c : TCok P 113 tc113c:=tK (eC ok161t (eC ok161d (eC ok161g (eC ok161e (eC ok161b (eC ok161c (eC ok161 eN))))))) {}
def tc113 : TC:=tC 2 (sM 3 [aP 0 225 0,aW 1 1] (cT [rP 0,rW 1,rI 2 0 100]) [(0,0)] [mK (iW 267) 0 1 (cW 2)]) W9 [(sM 2 [aW 0 3] (rW 3 ++ (rI 4 0 100)) [] [mK (iW 267) 0 1 (cW 4)])]
theorem ok113 : TCok P 113 tc113:=tK (eC ok161t (eC ok161d (eC ok161g (eC ok161e (eC ok161b (eC ok161c (eC ok161 eN))))))) {}
def tc112 : TC:=tC 1 (sM 2 [aP 0 225 0] (rP 0 ++ (rI 1 0 100)) [(0,0)] [mK (iW 267) 0 1 (cW 1)]) W9 [(sM 2 [(0,d1 (cB 2))] (rB 2 ++ (rI 3 0 100)) [] [mK (iW 267) 0 1 (cW 3)])]
theorem ok112 : TCok P 112 tc112:=tK (eC ok113t (eC ok113e (eC ok113b (eC ok113c (eC ok113 eN))))) {}
def tc119 : TC:=tC 3 (sM 4 [aP 0 225 0,aW 1 1,aW 2 2] (cT [rP 0,rI 1 0 4096,rW 2,rI 3 0 100]) [(0,0)] [mK (iW 267) 0 1 (cW 3)]) W9 [(sM 4 [aS 0 3 4] (cT [rS 4 4096,rI 7 0 100,[⟨0,[(5,-1),(1,1)]⟩]]) [(4,1)] [mK (iW 267) 0 1 (cW 7)])]
theorem ok119 : TCok P 119 tc119:=tK (eC ok113t (eC ok113e (eC ok113b (eC ok113c (eC ok113 eN))))) (l1 3 (laK (sM 5 [aS 7 3 2,aW 9 5] (cT [rS 2 4096,rI 5 0 4096,rI 6 0 100,[⟨0,[(5,-1),(1,1)]⟩,⟨0,[(5,1),(3,-1)]⟩]]) [(2,1)] [mK (iW 267) 0 1 (cW 6)]) [0,2,8] W9 W9 2 [aP 0 225 0,aW 8 1] (⟨0,[(5,-1),(1,1)]⟩)))
def tc118t : TC:=tC 2 (sM 1 [aP 0 225 0,(1,d1 (.num .i64 2))] (rP 0) [(0,0)] [mK (iW 267) 0 1 (.num .i64 0)]) [267] [(sM 0 [(0,.t [])] [] [] [mK (iW 267) 0 1 (.num .i64 2)])]
theorem ok118t : TCok P 118 tc118t:=tK eN {}
def tc118 : TC:=tC 2 (sM 3 [aP 0 225 0,aW 1 1] (cT [rP 0,rI 1 1 100,rI 2 0 100]) [(0,0)] [mK (iW 267) 0 1 (cW 2)]) [267] [(sM 1 [(0,.t [])] (rI 3 0 100 ++ ([⟨-1,[(3,1)]⟩])) [] [mK (iW 267) 0 1 (cW 3)])]
theorem ok118 : TCok P 118 tc118:=tK eN {}
def tc162 : TC:=tC 1 (sM 2 [aP 0 225 0] (rP 0 ++ (rI 1 0 100)) [(0,0)] [mK (iW 267) 0 1 (cW 1)]) W9 [(sM 4 [aS 0 230 2] (cT [rS 2 65,rI 5 0 100,[⟨-1,[(3,1)]⟩]]) [(2,1)] [mK (iW 267) 0 1 (cW 5)])]
theorem ok162 : TCok P 162 tc162:=tK (eC ok113t (eC ok113e (eC ok113b (eC ok113c (eC ok113 (eC ok118t (eC ok118 eN))))))) (l1 2 (laK (sM 6 [aS 3 230 1] (cT [rS 1 65,[(Lin.var 2).addc (-1)],rI 4 0 100,rI 5 0 4,rI 6 0 8,[⟨64,[(4,1),(2,-1)]⟩,⟨3,[(5,-1),(4,1)]⟩,⟨7,[(6,-1),(4,1)]⟩]]) [(1,1)] [mK (iW 267) 0 1 (cW 4),⟨1,⟨-5,[(2,5),(1,1)]⟩,.int 273 .i64 0 4,cW 5⟩,⟨1,⟨-4,[(2,5),(1,1)]⟩,.int 274 .i64 0 8,cW 6⟩]) [0] W10 W9 1 [aP 0 225 0] (⟨66,[(2,-1)]⟩)))
def tc163 : TC:=t10 8
theorem ok163 : TCok P 163 tc163:=tK (eC ok112t (eC ok112 (eC ok113t (eC ok113e (eC ok113b (eC ok113c (eC ok113 (eC ok118t (eC ok118 eN))))))))) (l1 2 (laK (sM 4 [aS 3 3 1] (rS 1 8 ++ (rI 4 0 100)) [(1,1)] [mK (iW 267) 0 1 (cW 4)]) [0] W9 W9 1 [aP 0 225 0] (⟨9,[(2,-1)]⟩)))
def tc228c : TC:=tC 1 (sH 1 [(0,d1 (cI .u64 0))] (rI 0 1 255) []) [] [(sH 2 [(0,.t [.c (cW 1),.c (cI .u64 2)])] (rI 1 0 8 ++ (rI 2 0 18446744073709551615)) [])]
theorem ok228c : TCok P 228 tc228c:=tK (eC ok105c (eC ok105 eN)) {}
def tc228 : TC:=tC 1 (sH 1 [(0,d1 (cI .u64 0))] (rI 0 1 4294967296) []) [] [(sH 2 [(0,.t [.c (cW 1),.c (cI .u64 2)])] (rI 1 0 64 ++ (rI 2 0 18446744073709551615)) [])]
theorem ok228 : TCok P 228 tc228:=tK (eC ok105c (eC ok105 eN)) {}
def tc206c : TC:=tC 2 (sH 2 [aP 0 296 0,(1,d1 (cI .u64 1))] (rP 0 ++ (rI 1 1 255)) [(0,0)]) [334] [(sH 2 [(0,.t [.c (cI .u64 2),.c (cW 3)])] (rI 2 0 511 ++ (rI 3 0 3)) [])]
theorem ok206c : TCok P 206 tc206c:=tK (eC ok161t (eC ok161d (eC ok161g (eC ok161e (eC ok161b (eC ok161c (eC ok161 (eC ok228c (eC ok228 eN))))))))) {}
def tc206 : TC:=tC 2 (sH 2 [aP 0 296 0,(1,d1 (cI .u64 1))] (rP 0 ++ (rI 1 0 18446744073709551615)) [(0,0)]) [334] [(sH 2 [(0,.t [.c (cI .u64 2),.c (cW 3)])] (rI 2 0 18446744073709551615 ++ (rI 3 0 3)) [])]
theorem ok206 : TCok P 206 tc206:=tK (eC ok161t (eC ok161d (eC ok161g (eC ok161e (eC ok161b (eC ok161c (eC ok161 (eC ok228c (eC ok228 eN))))))))) {}
end
end VtTop
