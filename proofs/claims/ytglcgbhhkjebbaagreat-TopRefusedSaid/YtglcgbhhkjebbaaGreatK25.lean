/- A part of the proof: lemmas. No condition of its own. -/
import Derived.Test.YtglcgbhhkjebbaaGreatK19
import Derived.Test.YtglcgbhhkjebbaaGreatK20
import Derived.Test.YtglcgbhhkjebbaaGreatK23
import Derived.Test.YtglcgbhhkjebbaaGreatK24
set_option linter.unusedVariables false
set_option linter.unusedSimpArgs false
namespace VtTop
open Go Zx Vx
noncomputable section
set_option maxRecDepth 1000000
def tc13_3 : TC:={ k:=1,pre:={ n:=3,P:=[(0,.s (.c (.zs 0 (.var 0) (zTab 5) (Lin.num 11) (.var 1))))],C:=[.var 0,(Lin.var 1).addc (-11),(Lin.num maxLen).sub (.var 1)] ++ (rI 2 0 7),adr:=[(0,0)],M:=[⟨0,⟨0,[(0,1)]⟩,.int 4 .u8 0 255,.num .u8 3⟩,⟨0,⟨1,[(0,1)]⟩,.int 4 .u8 0 255,.num .u8 0⟩,⟨0,⟨2,[(0,1)]⟩,.int 4 .u8 0 255,cI .u8 2⟩,⟨0,⟨3,[(0,1)]⟩,.int 4 .u8 0 255,.num .u8 0⟩,⟨0,⟨4,[(0,1)]⟩,.int 4 .u8 0 255,.num .u8 0⟩,⟨0,⟨5,[(0,1)]⟩,.int 4 .u8 0 255,.num .u8 0⟩,⟨0,⟨6,[(0,1)]⟩,.int 4 .u8 0 255,.num .u8 0⟩,⟨0,⟨7,[(0,1)]⟩,.int 4 .u8 0 255,.num .u8 0⟩,⟨0,⟨8,[(0,1)]⟩,.int 4 .u8 0 255,.num .u8 0⟩,⟨0,⟨9,[(0,1)]⟩,.int 4 .u8 0 255,.num .u8 0⟩,⟨0,⟨10,[(0,1)]⟩,.int 4 .u8 0 255,.num .u8 0⟩] },W:=[],post:=[{ n:=8,P:=[(0,.t [.a [.num .i64 3,cI .i64 3,cI .i64 4,cI .i64 5,cI .i64 6,cI .i64 7,cS 5 8],.c (.num .i64 0)])],C:=rI 3 (-9223372036854775808) 9223372036854775807 ++ (rI 4 (-9223372036854775808) 9223372036854775807 ++ (rI 5 (-9223372036854775808) 9223372036854775807 ++ (rI 6 (-9223372036854775808) 9223372036854775807 ++ (rI 7 (-9223372036854775808) 9223372036854775807 ++ (rS 8 1048576))))),adr:=[(8,0)] }] }
theorem ok13_3 : TCok P 13 tc13_3:=tK (eC ok30z3 (eC ok30z5 (eC ok30z7 (eC ok30z9 (eC ok31_3 eN))))) {}
def tc30e : TC:=tC 2 (sM 4 [(0,.s (.c (.zs 0 (.var 0) (zTab 5) (Lin.num 11) (.var 1)))),(1,d1 (.num .i64 3))] (cT [[.var 0,(Lin.var 1).addc (-11),(Lin.num maxLen).sub (.var 1)],rI 2 0 255,rI 3 0 255]) [(0,0)] [mq 0 3 (.int 4 .u8 0 255) (cI .u8 2),mq 0 4 (.int 4 .u8 0 255) (cI .u8 3)]) [] [(sH 1 [aW 0 4] (rI 4 0 65535) [])]
theorem ok30e : TCok P 30 tc30e:=tK eN {}
def tc54_8 : TC:=tC 1 (sH 0 [(0,d1 (.num .i64 8))] [] []) [] [(sH 0 [(0,.s (.c (.strL (ByteArray.mk #[101]))))] [] [])]
theorem ok54_8 : TCok P 54 tc54_8:=tK eN {}
def tc56b_r : TC:=t5 101 114
theorem ok56b_r : TCok P 56 tc56b_r:=tK eN { fuel:=8 }
def tc56b_s : TC:=t5 101 115
theorem ok56b_s : TCok P 56 tc56b_s:=tK eN { fuel:=8 }
def tc56b_e : TC:=t10 101 101
theorem ok56b_e : TCok P 56 tc56b_e:=tK eN { fuel:=8 }
def tc56b_n : TC:=t5 101 110
theorem ok56b_n : TCok P 56 tc56b_n:=tK eN { fuel:=8 }
def tc56b_m : TC:=t5 101 109
theorem ok56b_m : TCok P 56 tc56b_m:=tK eN { fuel:=8 }
def tc56b_b : TC:=t5 101 98
theorem ok56b_b : TCok P 56 tc56b_b:=tK eN { fuel:=8 }
def tc31_8 : TC:=tC 1 (sH 4 [aQ 0 [.num .i64 8,.num .i64 0,.num .i64 0,cW 0,.num .i64 0,.num .i64 0,cS 5 1]] (rI 0 0 65535 ++ (rS 1 0)) [(1,0)]) [] [(sH 0 [(0,d1 (.tru true))] [] [])]
theorem ok31_8 : TCok P 31 tc31_8:=tK (eC ok54_8 (eC ok55v_3 (eC ok55v_7 (eC ok55v_65535 (eC ok56b_r (eC ok56b_s (eC ok56b_e (eC ok56b_n (eC ok56b_m (eC ok56b_b eN)))))))))) {}
def tc13_8 : TC:={ k:=1,pre:={ n:=4,P:=[(0,.s (.c (.zs 0 (.var 0) (zTab 5) (Lin.num 11) (.var 1))))],C:=[.var 0,(Lin.var 1).addc (-11),(Lin.num maxLen).sub (.var 1)] ++ (rI 2 0 255 ++ (rI 3 0 255)),adr:=[(0,0)],M:=[⟨0,⟨0,[(0,1)]⟩,.int 4 .u8 0 255,.num .u8 8⟩,⟨0,⟨1,[(0,1)]⟩,.int 4 .u8 0 255,.num .u8 0⟩,⟨0,⟨2,[(0,1)]⟩,.int 4 .u8 0 255,.num .u8 0⟩,⟨0,⟨3,[(0,1)]⟩,.int 4 .u8 0 255,cI .u8 2⟩,⟨0,⟨4,[(0,1)]⟩,.int 4 .u8 0 255,cI .u8 3⟩,⟨0,⟨5,[(0,1)]⟩,.int 4 .u8 0 255,.num .u8 0⟩,⟨0,⟨6,[(0,1)]⟩,.int 4 .u8 0 255,.num .u8 0⟩,⟨0,⟨7,[(0,1)]⟩,.int 4 .u8 0 255,.num .u8 0⟩,⟨0,⟨8,[(0,1)]⟩,.int 4 .u8 0 255,.num .u8 0⟩,⟨0,⟨9,[(0,1)]⟩,.int 4 .u8 0 255,.num .u8 0⟩,⟨0,⟨10,[(0,1)]⟩,.int 4 .u8 0 255,.num .u8 0⟩] },W:=[],post:=[{ n:=8,P:=[(0,.t [.a [.num .i64 8,cI .i64 4,cI .i64 5,cI .i64 6,cI .i64 7,cI .i64 8,cS 5 9],.c (.num .i64 0)])],C:=rI 4 (-9223372036854775808) 9223372036854775807 ++ (rI 5 (-9223372036854775808) 9223372036854775807 ++ (rI 6 (-9223372036854775808) 9223372036854775807 ++ (rI 7 (-9223372036854775808) 9223372036854775807 ++ (rI 8 (-9223372036854775808) 9223372036854775807 ++ (rS 9 1048576))))),adr:=[(9,0)] }] }
theorem ok13_8 : TCok P 13 tc13_8:=tK (eC ok30e (eC ok30z5 (eC ok30z7 (eC ok30z9 (eC ok31_8 eN))))) {}
def tc30g : TC:=tC 2 (sH 4 [aS 0 5 0,aW 1 3] (cT [rS 0 1048576,[(Lin.var 1).addc (-11)],rI 3 0 9]) [(0,0)]) [] [(sH 1 [aW 0 4] (rI 4 0 65535) [])]
theorem ok30g : TCok P 30 tc30g:=tK eN {}
def tc54g : TC:=tC 1 (sH 1 [aW 0 0] (rW 0) []) [] [(sH 0 [(0,.s (.c (.strL (ByteArray.mk #[114]))))] [⟨-1,[(0,1)]⟩,⟨1,[(0,-1)]⟩] []),(sH 0 [(0,.s (.c (.strL (ByteArray.mk #[45]))))] [⟨-2,[(0,1)]⟩,⟨2,[(0,-1)]⟩] []),(sH 0 [(0,.s (.c (.strL (ByteArray.mk #[115]))))] [⟨-3,[(0,1)]⟩,⟨3,[(0,-1)]⟩] []),(sH 0 [(0,.s (.c (.strL (ByteArray.mk #[110,109,98]))))] [⟨-4,[(0,1)]⟩,⟨4,[(0,-1)]⟩] []),(sH 0 [(0,.s (.c (.strL (ByteArray.mk #[115,110,109]))))] [⟨-5,[(0,1)]⟩,⟨5,[(0,-1)]⟩] []),(sH 0 [(0,.s (.c (.strL (ByteArray.mk #[115]))))] [⟨-6,[(0,1)]⟩,⟨6,[(0,-1)]⟩] []),(sH 0 [(0,.s (.c (.strL (ByteArray.mk #[115,101,110,98]))))] [⟨-7,[(0,1)]⟩,⟨7,[(0,-1)]⟩] []),(sH 0 [(0,.s (.c (.strL (ByteArray.mk #[101]))))] [⟨-8,[(0,1)]⟩,⟨8,[(0,-1)]⟩] []),(sH 0 [(0,.s (.c (.strL (ByteArray.mk #[45]))))] [⟨-9,[(0,1)]⟩,⟨9,[(0,-1)]⟩] []),(sH 0 [(0,.s (.c (.strL (ByteArray.mk #[114,115,101,110,109,98]))))] [⟨-17,[(0,1)]⟩,⟨17,[(0,-1)]⟩] []),(sH 0 [(0,.s (.c (.strL (ByteArray.mk #[110,109]))))] [⟨-18,[(0,1)]⟩,⟨18,[(0,-1)]⟩] []),(sH 0 [(0,.s (.c (.strL (ByteArray.mk #[115,101,110,109]))))] [⟨-19,[(0,1)]⟩,⟨19,[(0,-1)]⟩] []),(sH 0 [(0,.s (.c (.strL (ByteArray.mk #[115,101,110]))))] [⟨-20,[(0,1)]⟩,⟨20,[(0,-1)]⟩] []),(sH 0 [(0,.s (.c (.strL (ByteArray.mk #[115,101,110,98]))))] [⟨-21,[(0,1)]⟩,⟨21,[(0,-1)]⟩] []),(sH 0 [(0,.s (.c (.strL (ByteArray.mk #[101]))))] [⟨-22,[(0,1)]⟩,⟨22,[(0,-1)]⟩] []),(sH 0 [(0,.s (.c (.strL (ByteArray.mk #[45]))))] [⟨-23,[(0,1)]⟩,⟨23,[(0,-1)]⟩] []),(sH 0 [(0,.s (.c (.strL (ByteArray.mk #[115,98]))))] [⟨-24,[(0,1)]⟩,⟨24,[(0,-1)]⟩] []),(sH 0 [(0,.s (.c (.strL (ByteArray.mk #[]))))] [] [])]
theorem ok54g : TCok P 54 tc54g:=tK eN {}
def tc55g : TC:=tC 3 (sH 3 [aW 0 0,aW 1 1,aW 2 2] (cT [rW 0,rW 1,rW 2]) []) [] [(sH 0 [(0,d1 (.tru true))] [⟨0,[(1,-1),(0,1)]⟩,⟨0,[(2,1),(0,-1)]⟩] []),(sH 0 [(0,d1 (.tru false))] [] [])]
theorem ok55g : TCok P 55 tc55g:=tK eN {}
end
end VtTop
namespace VtTop
open Go Zx Vx
noncomputable section
set_option maxRecDepth 1000000
def tc56c_r : TC:=t13 110 109 114
theorem ok56c_r : TCok P 56 tc56c_r:=tK eN { fuel:=8 }
def tc56c_s : TC:=t13 110 109 115
theorem ok56c_s : TCok P 56 tc56c_s:=tK eN { fuel:=8 }
def tc56c_e : TC:=t13 110 109 101
theorem ok56c_e : TCok P 56 tc56c_e:=tK eN { fuel:=8 }
def tc56c_n : TC:=t14 110 109 110
theorem ok56c_n : TCok P 56 tc56c_n:=tK eN { fuel:=8 }
def tc56c_m : TC:=t14 110 109 109
theorem ok56c_m : TCok P 56 tc56c_m:=tK eN { fuel:=8 }
def tc56c_b : TC:=t13 110 109 98
theorem ok56c_b : TCok P 56 tc56c_b:=tK eN { fuel:=8 }
def tc56d_r : TC:=t15 110 109 98 114
theorem ok56d_r : TCok P 56 tc56d_r:=tK eN { fuel:=8 }
def tc56d_s : TC:=t15 110 109 98 115
theorem ok56d_s : TCok P 56 tc56d_s:=tK eN { fuel:=8 }
def tc56d_e : TC:=t15 110 109 98 101
theorem ok56d_e : TCok P 56 tc56d_e:=tK eN { fuel:=8 }
def tc56d_n : TC:=t16 110 109 98 110
theorem ok56d_n : TCok P 56 tc56d_n:=tK eN { fuel:=8 }
def tc56d_m : TC:=t16 110 109 98 109
theorem ok56d_m : TCok P 56 tc56d_m:=tK eN { fuel:=8 }
def tc56d_b : TC:=t16 110 109 98 98
theorem ok56d_b : TCok P 56 tc56d_b:=tK eN { fuel:=8 }
def tc56f_r : TC:=t17 114
theorem ok56f_r : TCok P 56 tc56f_r:=tK eN { fuel:=8 }
def tc56f_s : TC:=t17 115
theorem ok56f_s : TCok P 56 tc56f_s:=tK eN { fuel:=8 }
end
end VtTop
namespace VtTop
open Go Zx Vx
noncomputable section
set_option maxRecDepth 1000000
def tc56f_e : TC:=t17 101
theorem ok56f_e : TCok P 56 tc56f_e:=tK eN { fuel:=8 }
def tc56f_n : TC:=t17 110
theorem ok56f_n : TCok P 56 tc56f_n:=tK eN { fuel:=8 }
def tc56f_m : TC:=t17 109
theorem ok56f_m : TCok P 56 tc56f_m:=tK eN { fuel:=8 }
def tc56f_b : TC:=t17 98
theorem ok56f_b : TCok P 56 tc56f_b:=tK eN { fuel:=8 }
def tc56h_r : TC:=t13 115 98 114
theorem ok56h_r : TCok P 56 tc56h_r:=tK eN { fuel:=8 }
def tc56h_s : TC:=t14 115 98 115
theorem ok56h_s : TCok P 56 tc56h_s:=tK eN { fuel:=8 }
def tc56h_e : TC:=t13 115 98 101
theorem ok56h_e : TCok P 56 tc56h_e:=tK eN { fuel:=8 }
def tc56h_n : TC:=t13 115 98 110
theorem ok56h_n : TCok P 56 tc56h_n:=tK eN { fuel:=8 }
def tc56h_m : TC:=t13 115 98 109
theorem ok56h_m : TCok P 56 tc56h_m:=tK eN { fuel:=8 }
def tc56h_b : TC:=t14 115 98 98
theorem ok56h_b : TCok P 56 tc56h_b:=tK eN { fuel:=8 }
def tc56i_r : TC:=t15 115 101 110 114
theorem ok56i_r : TCok P 56 tc56i_r:=tK eN { fuel:=8 }
def tc56i_s : TC:=t16 115 101 110 115
theorem ok56i_s : TCok P 56 tc56i_s:=tK eN { fuel:=8 }
def tc56i_e : TC:=t16 115 101 110 101
theorem ok56i_e : TCok P 56 tc56i_e:=tK eN { fuel:=8 }
def tc56i_n : TC:=t16 115 101 110 110
theorem ok56i_n : TCok P 56 tc56i_n:=tK eN { fuel:=8 }
end
end VtTop
namespace VtTop
open Go Zx Vx
noncomputable section
set_option maxRecDepth 1000000
def tc56i_m : TC:=t15 115 101 110 109
theorem ok56i_m : TCok P 56 tc56i_m:=tK eN { fuel:=8 }
def tc56i_b : TC:=t15 115 101 110 98
theorem ok56i_b : TCok P 56 tc56i_b:=tK eN { fuel:=8 }
def tc56j_r : TC:=t18 98 114
theorem ok56j_r : TCok P 56 tc56j_r:=tK eN { fuel:=8 }
def tc56j_s : TC:=t19 98 115
theorem ok56j_s : TCok P 56 tc56j_s:=tK eN { fuel:=8 }
def tc56j_e : TC:=t19 98 101
theorem ok56j_e : TCok P 56 tc56j_e:=tK eN { fuel:=8 }
def tc56j_n : TC:=t19 98 110
theorem ok56j_n : TCok P 56 tc56j_n:=tK eN { fuel:=8 }
def tc56j_m : TC:=t18 98 109
theorem ok56j_m : TCok P 56 tc56j_m:=tK eN { fuel:=8 }
def tc56j_b : TC:=t19 98 98
theorem ok56j_b : TCok P 56 tc56j_b:=tK eN { fuel:=8 }
def tc56k_r : TC:=t18 109 114
theorem ok56k_r : TCok P 56 tc56k_r:=tK eN { fuel:=8 }
def tc56k_s : TC:=t19 109 115
theorem ok56k_s : TCok P 56 tc56k_s:=tK eN { fuel:=8 }
def tc56k_e : TC:=t19 109 101
theorem ok56k_e : TCok P 56 tc56k_e:=tK eN { fuel:=8 }
def tc56k_n : TC:=t19 109 110
theorem ok56k_n : TCok P 56 tc56k_n:=tK eN { fuel:=8 }
def tc56k_m : TC:=t19 109 109
theorem ok56k_m : TCok P 56 tc56k_m:=tK eN { fuel:=8 }
def tc56k_b : TC:=t18 109 98
theorem ok56k_b : TCok P 56 tc56k_b:=tK eN { fuel:=8 }
end
end VtTop
namespace VtTop
open Go Zx Vx
noncomputable section
set_option maxRecDepth 1000000
def tc56l_r : TC:=t15 115 110 109 114
theorem ok56l_r : TCok P 56 tc56l_r:=tK eN { fuel:=8 }
def tc56l_s : TC:=t16 115 110 109 115
theorem ok56l_s : TCok P 56 tc56l_s:=tK eN { fuel:=8 }
def tc56l_e : TC:=t15 115 110 109 101
theorem ok56l_e : TCok P 56 tc56l_e:=tK eN { fuel:=8 }
def tc56l_n : TC:=t16 115 110 109 110
theorem ok56l_n : TCok P 56 tc56l_n:=tK eN { fuel:=8 }
def tc56l_m : TC:=t16 115 110 109 109
theorem ok56l_m : TCok P 56 tc56l_m:=tK eN { fuel:=8 }
def tc56l_b : TC:=t15 115 110 109 98
theorem ok56l_b : TCok P 56 tc56l_b:=tK eN { fuel:=8 }
def tc56m_r : TC:=t20 114
theorem ok56m_r : TCok P 56 tc56m_r:=tK eN { fuel:=8 }
def tc56m_s : TC:=t20 115
theorem ok56m_s : TCok P 56 tc56m_s:=tK eN { fuel:=8 }
def tc56m_e : TC:=t20 101
theorem ok56m_e : TCok P 56 tc56m_e:=tK eN { fuel:=8 }
def tc56m_n : TC:=t20 110
theorem ok56m_n : TCok P 56 tc56m_n:=tK eN { fuel:=8 }
def tc56m_m : TC:=t20 109
theorem ok56m_m : TCok P 56 tc56m_m:=tK eN { fuel:=8 }
def tc56m_b : TC:=t20 98
theorem ok56m_b : TCok P 56 tc56m_b:=tK eN { fuel:=8 }
def tc57g : TC:=tC 1 (sH 9 [aQ 0 [cW 0,cW 1,cW 2,cW 3,cW 4,cW 5,cS 5 6]] (cT [rW 0,rW 1,rW 2,rW 3,rI 4 0 255,rW 5,rS 6 1048576]) [(6,0)]) [] [(sH 1 [(0,d1 (cB 9))] (rB 9) [])]
theorem ok57g : TCok P 57 tc57g:=tK eN (l1 4 { sh:=(sH 1 [aW 3 0] (rI 0 0 8) []),keep:=[1],W:=[],Wo:=[],dec:=⟨8,[(0,-1)]⟩ })
def tc31g : TC:=tC 1 (sH 9 [aQ 0 [cW 0,cW 1,cW 2,cW 3,cW 4,cW 5,cS 5 6]] (cT [rW 0,rW 1,rW 2,rW 3,rW 4,rW 5,rS 6 1048576]) [(6,0)]) [] [(sH 1 [(0,d1 (cB 9))] (rB 9) [])]
theorem ok31g : TCok P 31 tc31g:=tK (eC ok54g (eC ok55g (eC ok56a_r (eC ok56a_s (eC ok56a_e (eC ok56a_n (eC ok56a_m (eC ok56a_b (eC ok56b_r (eC ok56b_s (eC ok56b_e (eC ok56b_n (eC ok56b_m (eC ok56b_b (eC ok56c_r (eC ok56c_s (eC ok56c_e (eC ok56c_n (eC ok56c_m (eC ok56c_b (eC ok56d_r (eC ok56d_s (eC ok56d_e (eC ok56d_n (eC ok56d_m (eC ok56d_b (eC ok56e_r (eC ok56e_s (eC ok56e_e (eC ok56e_n (eC ok56e_m (eC ok56e_b (eC ok56f_r (eC ok56f_s (eC ok56f_e (eC ok56f_n (eC ok56f_m (eC ok56f_b (eC ok56g_r (eC ok56g_s (eC ok56g_e (eC ok56g_n (eC ok56g_m (eC ok56g_b (eC ok56h_r (eC ok56h_s (eC ok56h_e (eC ok56h_n (eC ok56h_m (eC ok56h_b (eC ok56i_r (eC ok56i_s (eC ok56i_e (eC ok56i_n (eC ok56i_m (eC ok56i_b (eC ok56j_r (eC ok56j_s (eC ok56j_e (eC ok56j_n (eC ok56j_m (eC ok56j_b (eC ok56k_r (eC ok56k_s (eC ok56k_e (eC ok56k_n (eC ok56k_m (eC ok56k_b (eC ok56l_r (eC ok56l_s (eC ok56l_e (eC ok56l_n (eC ok56l_m (eC ok56l_b (eC ok56m_r (eC ok56m_s (eC ok56m_e (eC ok56m_n (eC ok56m_m (eC ok56m_b (eC ok57g eN))))))))))))))))))))))))))))))))))))))))))))))))))))))))))))))))))))))))))))))))) {}
end
end VtTop
namespace VtTop
open Go Zx Vx
noncomputable section
set_option maxRecDepth 1000000
def tc13g : TC:={ k:=1,pre:={ n:=3,P:=[(0,.s (.c (cS 5 0)))],C:=rS 0 1048576,adr:=[(0,0)] },W:=[],post:=[{ n:=10,P:=[(0,.t [.a [cI .i64 3,cI .i64 4,cI .i64 5,cI .i64 6,cI .i64 7,cI .i64 8,cS 5 9],.c (cI .i64 12)])],C:=rI 3 (-9223372036854775808) 9223372036854775807 ++ (rI 4 (-9223372036854775808) 9223372036854775807 ++ (rI 5 (-9223372036854775808) 9223372036854775807 ++ (rI 6 (-9223372036854775808) 9223372036854775807 ++ (rI 7 (-9223372036854775808) 9223372036854775807 ++ (rI 8 (-9223372036854775808) 9223372036854775807 ++ (rS 9 1048576 ++ (rI 12 (-9223372036854775808) 9223372036854775807))))))),adr:=[(9,0)] }] }
theorem ok13g : TCok P 13 tc13g:=tK (eC ok30g (eC ok31g eN)) {}
def tc25 : TC:=tC 1 (sH 1 [aW 0 0] (rW 0) []) [] [(sH 0 [(0,d1 (.tru true))] [⟨0,[(0,1)]⟩,⟨63,[(0,-1)]⟩] []),(sH 0 [(0,d1 (.tru false))] [] [])]
theorem ok25 : TCok P 25 tc25:=tK eN {}
def tc40 : TC:=tC 2 (sH 2 [aP 0 114 0,aW 1 1] (rP 0 ++ (rW 1)) [(0,0)]) [208] [(sH 0 [(0,.t [])] [] [])]
theorem ok40 : TCok P 40 tc40:=tK (eC ok60 eN) {}
def tc41_0 : TC:=tC 2 (sF 158 [aP 0 92 0,aW 1 1] (rP 0 ++ (rW 1)) [(0,0)] (rM 0 0 2 ++ (rM 0 367 41 ++ (rM 0 734 80 ++ (rM 0 1101 119)))) [⟨611,[cB 2,cB 3,cB 4,cB 5,cB 6,cB 7,cB 8,cB 9,cW 10,cW 11,cW 12,cW 13,cW 14,cW 15,cW 16,cW 17,cW 1]⟩]) [] [{ n:=1,P:=[(0,.t [.c (.zp 0 ⟨0,[(0,1)]⟩ (zTab 87)),.c (cW 158),.c (.tru true)])],C:=rI 158 0 7,adr:=[],F:=[⟨61,[cB 2,cB 3,cB 4,cB 5,cB 6,cB 7,cB 8,cB 9,cW 10,cW 11,cW 12,cW 13,cW 14,cW 15,cW 16,cW 17,cW 1,cW 158]⟩] }]
theorem ok41_0 : TCok P 41 tc41_0:=tK (eC ok61f (eC ok61n eN)) { fuel:=5 }
def tc42_0 : TC:=t21 0 159 41 80 119 2
theorem ok42_0 : TCok P 42 tc42_0:=tK (eC ok62 eN) { lx:=[(lem_h62,[])] }
def tc43 : TC:=tC 1 (sH 3 [aS 0 5 0] (rS 0 1048576) [(0,0)]) [] [(sH 1 [(0,d1 (cB 3))] (rB 3) [])]
theorem ok43 : TCok P 43 tc43:=tK eN {}
def tc148 : TC:=tC 3 (sH 5 [aW 0 0,aW 1 1,aS 2 5 2] (cT [rW 0,rW 1,rS 2 1048576]) [(2,0)]) [] [(sH 1 [aW 0 5] (rW 5) [])]
theorem ok148 : TCok P 148 tc148:=tK eN {}
def tc150 : TC:=tC 2 (sM 5 [aP 0 281 0,aW 1 1] (cT [rP 0,rI 1 1 8,rS 2 1200]) [(0,0),(2,0)] [mK (.sli 328 5 8192) 0 0 (cS 5 2)]) [328,329] [(sM 4 [(0,d1 (cI .u64 5))] (cT [rI 5 0 18446744073709551615,rS 6 1200,[⟨0,[(3,1),(1,-1)]⟩,⟨0,[(7,1),(3,-1),(1,1)]⟩,⟨0,[(7,-1),(3,1),(1,-1)]⟩,⟨-18446744073709551361,[(5,-1),(1,18446744073709551616)]⟩]]) [(6,0)] [mK (.sli 328 5 8192) 0 0 (cS 5 6)]),(sM 3 [(0,d1 (.num .u64 0))] (rS 5 0 ++ ([⟨-1,[(3,-1),(1,1)]⟩])) [(5,0)] [mK (.sli 328 5 8192) 0 0 (cS 5 5)])]
theorem ok150 : TCok P 150 tc150:=tK eN { fuel:=10 }
def tc149 : TC:=tC 1 (sM 4 [aP 0 281 0] (rP 0 ++ (rS 1 1200)) [(0,0),(1,0)] [mK (.sli 328 5 8192) 0 0 (cS 5 1)]) [328,329] [(sM 4 [(0,d1 (cI .u32 4))] (cT [rI 4 0 4294967295,rS 5 1200,[⟨-4,[(2,1)]⟩,⟨4,[(6,1),(2,-1)]⟩,⟨-4,[(6,-1),(2,1)]⟩]]) [(5,0)] [mK (.sli 328 5 8192) 0 0 (cS 5 5)]),(sM 4 [(0,d1 (cI .u32 4))] (cT [rI 4 0 4294967295,rS 5 0,[⟨3,[(2,-1)]⟩]]) [(5,0)] [mK (.sli 328 5 8192) 0 0 (cS 5 5)])]
theorem ok149 : TCok P 149 tc149:=tK (eC ok150 eN) {}
def tc151 : TC:=tC 2 (sM 5 [aP 0 281 0,aW 1 1] (cT [rP 0,rI 1 0 31,rS 2 1200]) [(0,0),(2,0)] [mK (.sli 328 5 8192) 0 0 (cS 5 2)]) [328,329] [(sM 6 [aS 0 338 5] (rS 5 31 ++ (rS 8 1200)) [(5,1),(8,0)] [mK (.sli 328 5 8192) 0 0 (cS 5 8)])]
theorem ok151 : TCok P 151 tc151:=tK (eC ok149 (eC ok150 eN)) (l1 3 (laK (sM 7 [aS 5 338 2,aW 8 5] (cT [rS 2 31,rI 5 0 31,rS 6 1200,[⟨0,[(5,-1),(3,1)]⟩,⟨0,[(5,1),(3,-1)]⟩,⟨0,[(5,-1),(1,1)]⟩]]) [(2,1),(6,0)] [mK (.sli 328 5 8192) 0 0 (cS 5 6)]) [0,7] [328,329] [328,329] 2 [aP 0 281 0,aW 7 1] (⟨0,[(5,-1),(1,1)]⟩)))
def tc152 : TC:=tC 2 (sM 5 [aP 0 281 0,aP 1 166 1] (cT [rP 0,rP 1,rS 2 1200]) [(0,0),(1,0),(2,0)] [mK (.sli 328 5 8192) 0 0 (cS 5 2),mK (.sli 237 340 16384) 1 8 (.nos),mK (.sli 238 170 16384) 1 9 (.nos),mK (.sli 241 57 16384) 1 12 (.nos)]) W5 [(sM 3 [(0,.t [])] (rS 5 1200) [(5,0)] [mK (.sli 328 5 8192) 0 0 (cS 5 5)])]
theorem ok152 : TCok P 152 tc152:=tK (eC ok149 (eC ok150 eN)) { lp:=lp1 4 (laK (sM 7 [(4,d1 (cB 2))] (cT [rB 2,rS 3 1200,rS 6 1201,[⟨1201,[(7,-1),(4,-1),(2,-1)]⟩]]) [(3,0),(6,1)] [mK (.sli 328 5 8192) 0 0 (cS 5 3),mK (.sli 237 340 16384) 1 8 (cS 340 6)]) [0,1] W5 W5 2 [aP 0 281 0,aP 1 166 1] (⟨0,[(4,2),(2,1)]⟩)) <| lp1 9 (laK (sM 7 [(5,d1 (cB 2))] (cT [rB 2,rS 3 1200,rS 6 1201,[⟨1201,[(7,-1),(4,-1),(2,-1)]⟩]]) [(3,0),(6,1)] [mK (.sli 328 5 8192) 0 0 (cS 5 3),mK (.sli 238 170 16384) 1 9 (cS 170 6)]) [0,1] W5 W5 2 [aP 0 281 0,aP 1 166 1] (⟨0,[(4,2),(2,1)]⟩)) <| lp1 20 (laK (sM 7 [aW 94 3] (cT [rI 3 0 255,rS 4 1200,rS 7 255,[⟨0,[(8,1),(3,-1)]⟩,⟨0,[(8,-1),(3,1)]⟩,⟨0,[(3,-1),(2,1)]⟩]]) [(4,0),(7,1)] [mK (.sli 328 5 8192) 0 0 (cS 5 4),mK (.sli 241 57 16384) 1 12 (cS 57 7)]) [0,1,93] W5 W5 3 [aP 0 281 0,aP 1 166 1,aW 93 2] (⟨0,[(3,-1),(2,1)]⟩)) <| lp0 }
def tc98 : TC:=tC 3 (sH 5 [aW 0 0,aW 1 1,aS 2 5 2] (cT [rI 0 0 255,rI 1 0 31,rS 2 1196]) [(2,0)]) [230,231,237,238,239,240,241,328,329] [(sH 27 [(0,.t [.a [cW 5,cI .u32 6,cI .u32 7,cI .u64 8,cI .u32 9,cI .u32 10,cI .u32 11,cS 338 12,cS 340 15,cS 170 18,cW 21,cI .u32 22,cS 57 23,cW 26,cW 27,cS 5 28],.c (cB 31)])] (cT [rW 5,rI 6 0 4294967295,rI 7 0 4294967295,rI 8 0 18446744073709551615,rI 9 0 4294967295,rI 10 0 4294967295,rI 11 0 4294967295,rS 12 16384,rS 15 16384,rS 18 16384,rW 21,rI 22 0 4294967295,rS 23 16384,rW 26,rW 27,rS 28 65536,rB 31]) [(12,0),(15,0),(18,0),(23,0),(28,0)])]
theorem ok98 : TCok P 98 tc98:=tK (eC ok81 (eC ok148 (eC ok149 (eC ok150 (eC ok151 (eC ok152 eN)))))) {}
def tc63 : TC:=tC 1 (sH 3 [aS 0 5 0] (rS 0 1048576) [(0,0)]) [230,231,237,238,239,240,241,328,329] [(sH 4 [(0,.t [.c (cS 166 3),.c (cW 6)])] (rS 3 300 ++ (rW 6)) [(3,1)])]
theorem ok63 : TCok P 63 tc63:=tK (eC ok43 (eC ok98 eN)) (l1 6 { sh:=(sH 6 [aS 0 5 0,aS 4 166 3] (cT [rS 0 1200,rS 3 300,[⟨1200,[(4,-4),(1,-1)]⟩]]) [(0,0),(3,1)]),keep:=[],W:=[230,231,237,238,239,240,241,328,329],Wo:=[230,231,237,238,239,240,241,328,329],dec:=⟨0,[(1,1)]⟩ })
def tc133 : TC:=tC 2 (sH 6 [aP 0 116 0,aQ 1 [cW 1,cW 2,cS 5 3]] (cT [rP 0,rW 1,rW 2,rS 3 1048576]) [(0,0),(3,0)]) [22,23,24,143] [(sH 1 [(0,d1 (cB 6))] (rB 6) [])]
theorem ok133 : TCok P 133 tc133:=tK eN {}
end
end VtTop
namespace VtTop
open Go Zx Vx
noncomputable section
set_option maxRecDepth 1000000
def tc77 : TC:=tC 4 (sH 6 [aP 0 92 0,aW 1 1,aW 2 2,aS 3 5 3] (cT [rP 0,rI 1 0 63,rW 2,rS 3 1048576]) [(0,0),(3,0)]) W6 [(sH 0 [(0,.t [])] [] [])]
theorem ok77 : TCok P 77 tc77:=tK (eC ok40 (eC ok81 (eC ok133 eN))) {}
def tc79 : TC:=tC 1 (sH 1 [aP 0 249 0] (rP 0) [(0,0)]) [] [(sH 1 [(0,d1 (cI .u32 1))] (rI 1 0 4294967295) [])]
theorem ok79 : TCok P 79 tc79:=tK eN {}
def tc99 : TC:=tC 3 (sH 3 [aP 0 87 0,aW 1 1,(2,d1 (cI .u32 2))] (cT [rP 0,rI 1 0 7,rI 2 0 4294967295]) [(0,0)]) [] [(sM 2 [(0,.t [.c (cW 3),.c (.tru true)])] (rI 3 0 7 ++ (rP 4)) [(4,0)] [⟨0,⟨303,[(3,1),(1,8),(0,1)]⟩,.ptr 126 249 false,cP 249 4⟩]),(sH 1 [(0,.t [.c (cW 3),.c (.tru false)])] (rI 3 0 0) [])]
theorem ok99 : TCok P 99 tc99:=tK (eC ok79 eN) { cut:=lp1 6 (laC (sH 0 [] [] []) [2,15,16] [] []) <| lp0,fuel:=10 }
def tc153 : TC:=tC 1 (sH 3 [aS 0 340 0] (rS 0 16384) [(0,0)]) [] [(sH 3 [aS 0 56 3] (rS 3 524288) [(3,1)])]
theorem ok153 : TCok P 153 tc153:=tK eN { lp:=lp1 3 (laK (sH 4 [aS 3 56 1,aW 9 4] (cT [rS 1 524288,rI 4 0 16384,[⟨0,[(4,17),(2,-1)]⟩,⟨0,[(4,-1),(0,1)]⟩]]) [(1,1)]) [7,8] [] [] 1 [aW 8 0] (⟨0,[(4,-1),(0,1)]⟩)) <| lp1 7 (laK (sH 4 [aS 3 56 1,(18,d1 (cI .u16 4))] (cT [rS 1 524288,rI 4 0 16,[⟨1,[(4,1),(2,-1),(0,17)]⟩]]) [(1,1)]) [5,7,8,9] [61] [] 1 [aW 9 0] (⟨16,[(4,-1)]⟩)) <| lp0 }
def tc188 : TC:=tC 2 (sM 5 [aP 0 326 0,(1,d1 (cI .u16 1))] (cT [rP 0,rI 1 0 65535,rS 2 4096]) [(0,0),(2,0)] [mK (.sli 341 324 4096) 0 0 (cS 324 2)]) [] [(sH 1 [aW 0 5] (rW 5 ++ ([⟨1,[(5,1)]⟩,⟨-1,[(5,-1),(3,1)]⟩])) [])]
theorem ok188 : TCok P 188 tc188:=tK (eC ok220 (eC ok221 eN)) {}
def tc154 : TC:=tC 2 (sH 2 [aP 0 326 0,(1,d1 (cI .u16 1))] (rP 0 ++ (rI 1 0 65535)) [(0,0)]) [] [(sH 4 [(0,.t [.c (cS 5 2),.c (cB 5)])] (rS 2 131072 ++ (rB 5)) [(2,0)])]
theorem ok154 : TCok P 154 tc154:=tK (eC ok81 (eC ok188 eN)) { gh:=[0] }
def tc100 : TC:=tC 2 (sH 4 [aP 0 249 0,aS 1 340 1] (rP 0 ++ (rS 1 16384)) [(0,0),(1,0)]) [] [(sH 3 [aS 0 31 4] (rS 4 64) [(4,1)])]
theorem ok100 : TCok P 100 tc100:=tK (eC ok153 (eC ok154 eN)) (l1 3 (laK (sH 4 [aS 5 31 1,aW 13 4] (cT [rS 1 64,rI 4 0 524288,[⟨0,[(4,-1),(0,1)]⟩]]) [(1,1)]) [0,11,12] [] [] 1 [aW 12 0] (⟨0,[(4,-1),(0,1)]⟩)))
def tc64 : TC:=tC 4 (sH 29 [aP 0 92 0,aP 1 87 1,aW 2 2,aQ 3 [cW 3,cI .u32 4,cI .u32 5,cI .u64 6,cI .u32 7,cI .u32 8,cI .u32 9,cS 338 10,cS 340 13,cS 170 16,cW 19,cI .u32 20,cS 57 21,cW 24,cW 25,cS 5 26]] (cT [rP 0,rP 1,rI 2 0 7,rW 3,rI 4 0 4294967295,rI 5 0 4294967295,rI 6 0 18446744073709551615,rI 7 0 4294967295,rI 8 0 4294967295,rI 9 0 4294967295,rS 10 16384,rS 13 16384,rS 16 16384,rW 19,rI 20 0 4294967295,rS 21 16384,rW 24,rW 25,rS 26 65536]) [(0,0),(1,0),(10,0),(13,0),(16,0),(21,0),(26,0)]) W6 [(sH 0 [(0,.t [])] [] [])]
theorem ok64 : TCok P 64 tc64:=tK (eC ok40 (eC ok77 (eC ok99 (eC ok100 eN)))) (l1 5 (laK (sH 1 [aW 39 1] (rI 1 0 1048576 ++ ([⟨0,[(1,-1),(0,1)]⟩])) []) [0,1,2,37,38] W6 W6 1 [aW 38 0] (⟨0,[(1,-1),(0,1)]⟩)))
def tc223 : TC:=tC 2 (sH 52 [aQ 0 [cW 0,cI .u32 1,cI .u32 2,cI .u64 3,cI .u32 4,cI .u32 5,cI .u32 6,cS 338 7,cS 340 10,cS 170 13,cW 16,cI .u32 17,cS 57 18,cW 21,cW 22,cS 5 23],aQ 1 [cW 26,cI .u32 27,cI .u32 28,cI .u64 29,cI .u32 30,cI .u32 31,cI .u32 32,cS 338 33,cS 340 36,cS 170 39,cW 42,cI .u32 43,cS 57 44,cW 47,cW 48,cS 5 49]] (cT [rW 0,rI 1 0 4294967295,rI 2 0 4294967295,rI 3 0 18446744073709551615,rI 4 0 4294967295,rI 5 0 4294967295,rI 6 0 4294967295,rS 7 16384,rS 10 16384,rS 13 16384,rW 16,rI 17 0 4294967295,rS 18 16384,rW 21,rW 22,rS 23 65536,rW 26,rI 27 0 4294967295,rI 28 0 4294967295,rI 29 0 18446744073709551615,rI 30 0 4294967295,rI 31 0 4294967295,rI 32 0 4294967295,rS 33 16384,rS 36 16384,rS 39 16384,rW 42,rI 43 0 4294967295,rS 44 16384,rW 47,rW 48,rS 49 65536]) [(7,0),(10,0),(13,0),(18,0),(23,0),(33,0),(36,0),(39,0),(44,0),(49,0)]) [] [(sH 1 [(0,d1 (cB 52))] (rB 52) [])]
theorem ok223 : TCok P 223 tc223:=tK eN {}
def tc224 : TC:=tC 1 (sH 26 [aQ 0 [cW 0,cI .u32 1,cI .u32 2,cI .u64 3,cI .u32 4,cI .u32 5,cI .u32 6,cS 338 7,cS 340 10,cS 170 13,cW 16,cI .u32 17,cS 57 18,cW 21,cW 22,cS 5 23]] (cT [rW 0,rI 1 0 4294967295,rI 2 0 4294967295,rI 3 0 18446744073709551615,rI 4 0 4294967295,rI 5 0 4294967295,rI 6 0 4294967295,rS 7 16384,rS 10 16384,rS 13 16384,rW 16,rI 17 0 4294967295,rS 18 16384,rW 21,rW 22,rS 23 65536]) [(7,0),(10,0),(13,0),(18,0),(23,0)]) [] [(sH 26 [aQ 0 [cW 26,cI .u32 27,cI .u32 28,cI .u64 29,cI .u32 30,cI .u32 31,cI .u32 32,cS 338 33,cS 340 36,cS 170 39,cW 42,cI .u32 43,cS 57 44,cW 47,cW 48,cS 5 49]] (cT [rW 26,rI 27 0 4294967295,rI 28 0 4294967295,rI 29 0 18446744073709551615,rI 30 0 4294967295,rI 31 0 4294967295,rI 32 0 4294967295,rS 33 16384,rS 36 16384,rS 39 16384,rW 42,rI 43 0 4294967295,rS 44 16384,rW 47,rW 48,rS 49 65536]) [(33,0),(36,0),(39,0),(44,0),(49,0)])]
theorem ok224 : TCok P 224 tc224:=tK eN {}
def tc226 : TC:=tC 1 (sH 7 [aQ 0 [cI .u32 0,cI .u8 1,cI .u32 2,cI .u32 3,cI .u32 4,cI .u32 5,cI .u32 6]] (cT [rI 0 0 4294967295,rI 1 0 255,rI 2 0 4294967295,rI 3 0 4294967295,rI 4 0 4294967295,rI 5 0 4294967295,rI 6 0 4294967295]) []) [] [(sH 1 [(0,d1 (cB 7))] (rB 7) [])]
theorem ok226 : TCok P 226 tc226:=tK eN {}
def tc230 : TC:=tC 2 (sH 3 [aS 0 338 0,(1,d1 (.fn 226))] (rS 0 1048576) [(0,0)]) [] [(sH 1 [aW 0 3] (rW 3 ++ ([⟨1,[(3,1)]⟩,⟨-1,[(3,-1),(1,1)]⟩])) [])]
theorem ok230 : TCok P 230 tc230:=tK (eC ok226 eN) (l1 2 (laK (sH 1 [aW 8 1] (rI 1 0 1048576 ++ ([⟨0,[(1,-1),(0,1)]⟩])) []) [0,1,7] [] [] 1 [aW 7 0] (⟨0,[(1,-1),(0,1)]⟩)))
def tc225 : TC:=tC 2 (sH 3 [aS 0 338 0,(1,d1 (.fn 226))] (rS 0 1048576) [(0,0)]) [] [(sH 0 [(0,d1 (.tru true))] [] []),(sH 0 [(0,d1 (.tru false))] [] [])]
theorem ok225 : TCok P 225 tc225:=tK (eC ok230 eN) {}
def tc192 : TC:=tC 1 (sH 26 [aQ 0 [cW 0,cI .u32 1,cI .u32 2,cI .u64 3,cI .u32 4,cI .u32 5,cI .u32 6,cS 338 7,cS 340 10,cS 170 13,cW 16,cI .u32 17,cS 57 18,cW 21,cW 22,cS 5 23]] (cT [rW 0,rI 1 0 4294967295,rI 2 0 4294967295,rI 3 0 18446744073709551615,rI 4 0 4294967295,rI 5 0 4294967295,rI 6 0 4294967295,rS 7 16384,rS 10 16384,rS 13 16384,rW 16,rI 17 0 4294967295,rS 18 16384,rW 21,rW 22,rS 23 65536]) [(7,0),(10,0),(13,0),(18,0),(23,0)]) [] [(sH 1 [(0,d1 (cB 26))] (rB 26) [])]
theorem ok192 : TCok P 192 tc192:=tK (eC ok148 (eC ok223 (eC ok224 (eC ok225 (eC ok226 eN))))) {}
end
end VtTop
namespace VtTop
open Go Zx Vx
noncomputable section
set_option maxRecDepth 1000000
def tc191 : TC:=tC 1 (sH 26 [aQ 0 [cW 0,cI .u32 1,cI .u32 2,cI .u64 3,cI .u32 4,cI .u32 5,cI .u32 6,cS 338 7,cS 340 10,cS 170 13,cW 16,cI .u32 17,cS 57 18,cW 21,cW 22,cS 5 23]] (cT [rW 0,rI 1 0 4294967295,rI 2 0 4294967295,rI 3 0 18446744073709551615,rI 4 0 4294967295,rI 5 0 4294967295,rI 6 0 4294967295,rS 7 16384,rS 10 16384,rS 13 16384,rW 16,rI 17 0 4294967295,rS 18 16384,rW 21,rW 22,rS 23 65536]) [(7,0),(10,0),(13,0),(18,0),(23,0)]) [] [(sH 1 [(0,d1 (cB 26))] (rB 26) [])]
theorem ok191 : TCok P 191 tc191:=tK (eC ok192 eN) {}
def tc222 : TC:=tC 2 (sH 3 [aS 0 166 0,(1,d1 (.fn 191))] (rS 0 1048576) [(0,0)]) [] [(sH 1 [aW 0 3] (rW 3 ++ ([⟨1,[(3,1)]⟩,⟨-1,[(3,-1),(1,1)]⟩])) [])]
theorem ok222 : TCok P 222 tc222:=tK (eC ok191 eN) (l1 2 (laK (sH 1 [aW 8 1] (rI 1 0 1048576 ++ ([⟨0,[(1,-1),(0,1)]⟩])) []) [0,1,7] [] [] 1 [aW 7 0] (⟨0,[(1,-1),(0,1)]⟩)))
def tc190 : TC:=tC 2 (sH 3 [aS 0 166 0,(1,d1 (.fn 191))] (rS 0 1048576) [(0,0)]) [] [(sH 0 [(0,d1 (.tru true))] [] []),(sH 0 [(0,d1 (.tru false))] [] [])]
theorem ok190 : TCok P 190 tc190:=tK (eC ok222 eN) {}
def tc194 : TC:={ k:=3,pre:=(sH 5 [aS 0 5 0,(1,d1 (cI .u64 3)),aW 2 4] (cT [rS 0 524288,rI 3 0 18446744073709551615,rI 4 1 8]) [(0,1)]),W:=[],post:=[(sH 3 [aS 0 5 5] (rS 5 1048576 ++ ([⟨0,[(6,1),(4,-1),(1,-1)]⟩,⟨0,[(6,-1),(4,1),(1,1)]⟩])) [(5,1)])],Y:=some [4] }
theorem ok194 : TCok P 194 tc194:=tK eN (l1 2 (laK (sH 4 [aS 0 5 4,aW 7 7] (cT [rS 4 1048576,rI 7 (-1) 8,[⟨1,[(7,1),(5,1),(3,-1),(1,-1)]⟩,⟨-1,[(7,-1),(5,-1),(3,1),(1,1)]⟩]]) [(4,1)]) [1] [] [] 4 [aS 0 5 0,aW 2 3] (⟨1,[(7,1)]⟩)))
def tc227 : TC:={ k:=2,pre:=(sH 6 [aS 0 5 0,aS 1 338 3] (rS 0 100 ++ (rS 3 16384)) [(0,1),(3,0)]),W:=[],post:=[(sH 3 [aS 0 5 6] (rS 6 524288 ++ ([⟨0,[(7,1),(4,-24),(1,-1)]⟩,⟨0,[(7,-1),(4,24),(1,1)]⟩])) [(6,1)])],Y:=some [4,63,343,344,345,346,347,348,349,350,351,352,353,354,355,356] }
theorem ok227 : TCok P 227 tc227:=tK (eC ok194 eN) { lp:=lp1 2 (laK (sH 4 [aS 0 5 4,aW 11 7] (cT [rS 4 524288,rI 7 0 16384,[⟨0,[(7,-24),(5,1),(1,-1)]⟩,⟨0,[(7,24),(5,-1),(1,1)]⟩,⟨100,[(5,-1),(3,24)]⟩,⟨0,[(7,-1),(3,1)]⟩]]) [(4,1)]) [9,10] [] [] 4 [aS 0 5 0,aW 10 3] (⟨0,[(7,-1),(3,1)]⟩)) <| lp1 8 (laK (sH 4 [aS 0 5 4,aW 40 7] (cT [rS 4 524288,rI 7 0 4,[⟨0,[(7,-4),(5,1),(1,-1)]⟩,⟨0,[(7,4),(5,-1),(1,1)]⟩,⟨16,[(5,-1),(1,1)]⟩,⟨0,[(7,-1),(3,1)]⟩]]) [(4,1)]) [9,10,11,38,39] [] [] 4 [aS 0 5 0,aW 39 3] (⟨0,[(7,-1),(3,1)]⟩)) <| lp0 }
def tc193 : TC:=tC 1 (sH 26 [aQ 0 [cW 0,cI .u32 1,cI .u32 2,cI .u64 3,cI .u32 4,cI .u32 5,cI .u32 6,cS 338 7,cS 340 10,cS 170 13,cW 16,cI .u32 17,cS 57 18,cW 21,cW 22,cS 5 23]] (cT [rW 0,rI 1 0 4294967295,rI 2 0 4294967295,rI 3 0 18446744073709551615,rI 4 0 4294967295,rI 5 0 4294967295,rI 6 0 4294967295,rS 7 16384,rS 10 16384,rS 13 16384,rW 16,rI 17 0 4294967295,rS 18 16384,rW 21,rW 22,rS 23 65536]) [(7,0),(10,0),(13,0),(18,0),(23,0)]) [] [(sH 5 [(0,.t [.c (cS 5 26),.c (cW 29),.c (cW 30)])] (cT [rS 26 524288,rW 29,rW 30]) [(26,0)])]
theorem ok193 : TCok P 193 tc193:=tK (eC ok194 (eC ok227 eN)) { lp:=lp1 19 (laK (sH 4 [aS 2 5 1,aW 78 4] (cT [rS 1 524288,rI 4 0 16384,[⟨-8,[(4,-4),(2,1)]⟩,⟨8,[(4,4),(2,-1)]⟩,⟨0,[(4,-1),(0,1)]⟩]]) [(1,1)]) [76,77] [] [] 1 [aW 77 0] (⟨0,[(4,-1),(0,1)]⟩)) <| lp1 26 (laK (sH 4 [aS 2 5 1,aW 98 4] (cT [rS 1 524288,rI 4 0 16384,[⟨-8,[(4,-8),(2,1)]⟩,⟨8,[(4,8),(2,-1)]⟩,⟨0,[(4,-1),(0,1)]⟩]]) [(1,1)]) [96,97] [] [] 1 [aW 97 0] (⟨0,[(4,-1),(0,1)]⟩)) <| lp1 35 (laK (sH 4 [aS 2 5 1,aW 136 4] (cT [rS 1 524288,rI 4 0 16384,[⟨-16,[(4,-4),(2,1)]⟩,⟨16,[(4,4),(2,-1)]⟩,⟨0,[(4,-1),(0,1)]⟩]]) [(1,1)]) [134,135] [] [] 1 [aW 135 0] (⟨0,[(4,-1),(0,1)]⟩)) <| lp0,fuel:=5 }
def tc134 : TC:=tC 1 (sH 3 [aS 0 166 0] (rS 0 1024) [(0,0)]) [] [(sH 4 [(0,.t [.c (cS 5 3),.c (cW 6)])] (rS 3 131072 ++ (rW 6)) [(3,0)])]
theorem ok134 : TCok P 134 tc134:=tK (eC ok190 (eC ok191 (eC ok193 (eC ok194 eN)))) (l1 5 (laK (sH 4 [aS 4 5 1,aW 19 4] (cT [rS 1 1200,rI 4 0 1024,[⟨0,[(4,-1),(0,1)]⟩]]) [(1,1)]) [17,18] [] [] 1 [aW 18 0] (⟨0,[(4,-1),(0,1)]⟩)))
def tc78 : TC:=tC 5 (sH 5 [aP 0 92 0,aP 1 87 1,aW 2 2,aW 3 3,(4,d1 (cI .u32 4))] (cT [rP 0,rP 1,rI 2 0 7,rI 3 0 2,rI 4 0 4294967295]) [(0,0),(1,0)]) W6 [(sH 0 [(0,.t [])] [] [])]
theorem ok78 : TCok P 78 tc78:=tK (eC ok77 (eC ok134 eN)) {}
def tc204 : TC:=tC 1 (sH 1 [aW 0 0] (rW 0) []) [] [(sH 0 [(0,d1 (.tru true))] [⟨0,[(0,1)]⟩,⟨2,[(0,-1)]⟩] []),(sH 0 [(0,d1 (.tru false))] [] [])]
theorem ok204 : TCok P 204 tc204:=tK eN {}
def tc203 : TC:=tC 1 (sH 3 [aQ 0 [cB 0,cW 1,cW 2]] (cT [rB 0,rI 1 0 2,rI 2 0 2]) []) [] [(sH 1 [(0,d1 (cB 3))] (rB 3) [])]
theorem ok203 : TCok P 203 tc203:=tK (eC ok204 eN) {}
def tc215 : TC:=tC 2 (sH 4 [aQ 0 [cB 0,cW 1,cW 2],aW 1 3] (cT [rB 0,rI 1 0 2,rI 2 0 2,rW 3]) []) [] [(sH 1 [(0,d1 (cB 4))] (rB 4) [])]
theorem ok215 : TCok P 215 tc215:=tK eN {}
def tc202 : TC:=tC 1 (sH 3 [aQ 0 [cB 0,cW 1,cW 2]] (cT [rB 0,rI 1 0 2,rI 2 0 2]) []) [] [(sH 2 [(0,.t [.c (cW 3),.c (cB 4)])] (rI 3 0 2 ++ (rB 4)) [])]
theorem ok202 : TCok P 202 tc202:=tK (eC ok203 (eC ok215 eN)) {}
def tc155 : TC:=tC 1 (sH 1 [aP 0 249 0] (rP 0) [(0,0)]) [] [(sH 2 [(0,.t [.c (cW 1),.c (cB 2)])] (rI 1 0 2 ++ (rB 2)) [])]
theorem ok155 : TCok P 155 tc155:=tK (eC ok202 eN) {}
def tc156 : TC:=tC 1 (sH 1 [aP 0 249 0] (rP 0) [(0,0)]) [] [(sH 2 [(0,.t [.c (cW 1),.c (cB 2)])] (rI 1 0 2 ++ (rB 2)) [])]
theorem ok156 : TCok P 156 tc156:=tK eN {}
end
end VtTop
namespace VtTop
open Go Zx Vx
noncomputable section
set_option maxRecDepth 1000000
def tc101 : TC:=tC 4 (sM 5 [aP 0 92 0,aP 1 87 1,aW 2 2,aW 3 3] (cT [rP 0,rP 1,rI 2 0 7,rI 3 0 7,rP 4]) [(0,0),(1,0),(4,0)] [⟨1,⟨303,[(3,1),(2,8),(1,1)]⟩,.ptr 126 249 false,cP 249 4⟩]) W6 [(sH 0 [(0,.t [])] [] [])]
theorem ok101 : TCok P 101 tc101:=tK (eC ok78 (eC ok79 (eC ok155 (eC ok156 eN)))) {}
def tc65 : TC:=tC 4 (sH 4 [aP 0 92 0,aP 1 87 1,aW 2 2,(3,d1 (cI .u32 3))] (cT [rP 0,rP 1,rI 2 0 7,rI 3 0 4294967295]) [(0,0),(1,0)]) W6 [(sH 0 [(0,.t [])] [] [])]
theorem ok65 : TCok P 65 tc65:=tK (eC ok40 (eC ok99 (eC ok101 eN))) {}
def tc157 : TC:=tC 2 (sH 4 [aQ 0 [cB 0,cW 1,cW 2],aW 1 3] (cT [rB 0,rI 1 0 2,rI 2 0 2,rW 3]) []) [] [(sH 4 [(0,.t [.a [cB 4,cW 5,cW 6],.c (cW 7)])] (cT [rB 4,rI 5 0 2,rI 6 0 2,rW 7]) [])]
theorem ok157 : TCok P 157 tc157:=tK (eC ok203 (eC ok204 eN)) {}
def tc102 : TC:=tC 2 (sH 2 [aP 0 249 0,aW 1 1] (rP 0 ++ (rW 1)) [(0,0)]) [281,282,283] [(sH 1 [aW 0 2] (rW 2) [])]
theorem ok102 : TCok P 102 tc102:=tK (eC ok157 eN) {}
def tc103 : TC:=tC 2 (sH 4 [(0,d1 (cI .u64 0)),aS 1 3 1] (rI 0 0 18446744073709551615 ++ (rS 1 1024)) [(1,0)]) [] [(sH 1 [aW 0 4] (rW 4) [])]
theorem ok103 : TCok P 103 tc103:=tK eN (l1 3 (laK (sH 3 [aW 5 1,aW 6 2,aW 11 3] (cT [rI 1 (-1) 1024,rI 2 (-1) 1024,rI 3 0 1024,[⟨0,[(3,-1),(0,1)]⟩]]) []) [0,9,10] [] [] 1 [aW 10 0] (⟨0,[(3,-1),(0,1)]⟩)))
def tc104 : TC:=tC 4 (sM 5 [aP 0 92 0,aP 1 87 1,aW 2 2,aW 3 3] (cT [rP 0,rP 1,rI 2 0 7,rI 3 0 7,rP 4]) [(0,0),(1,0),(4,0)] [⟨1,⟨303,[(3,1),(2,8),(1,1)]⟩,.ptr 126 249 false,cP 249 4⟩]) W6 [(sH 0 [(0,.t [])] [] [])]
theorem ok104 : TCok P 104 tc104:=tK (eC ok101 (eC ok155 eN)) {}
def tc66 : TC:=tC 5 (sH 5 [aP 0 92 0,aP 1 87 1,aW 2 2,(3,d1 (cI .u32 3)),(4,d1 (cI .u64 4))] (cT [rP 0,rP 1,rI 2 0 7,rI 3 0 4294967295,rI 4 0 18446744073709551615]) [(0,0),(1,0)]) [22,23,24,143,208,281,282,283] [(sH 0 [(0,.t [])] [] [])]
theorem ok66 : TCok P 66 tc66:=tK (eC ok40 (eC ok99 (eC ok102 (eC ok103 (eC ok104 eN))))) { fuel:=5 }
def tc105c : TC:=tC 1 (sH 1 [(0,d1 (cI .u64 0))] (rI 0 0 255) []) [] [(sH 1 [aW 0 1] (rI 1 0 8) [])]
theorem ok105c : TCok P 105 tc105c:=tK eN {}
def tc105 : TC:=tC 1 (sH 1 [(0,d1 (cI .u64 0))] (rI 0 0 18446744073709551615) []) [] [(sH 1 [aW 0 1] (rI 1 0 64) [])]
theorem ok105 : TCok P 105 tc105:=tK eN {}
def tc67 : TC:=tC 1 (sH 26 [aQ 0 [cW 0,cI .u32 1,cI .u32 2,cI .u64 3,cI .u32 4,cI .u32 5,cI .u32 6,cS 338 7,cS 340 10,cS 170 13,cW 16,cI .u32 17,cS 57 18,cW 21,cW 22,cS 5 23]] (cT [rW 0,rI 1 0 4294967295,rI 2 0 4294967295,rI 3 0 18446744073709551615,rI 4 0 4294967295,rI 5 0 4294967295,rI 6 0 4294967295,rS 7 16384,rS 10 16384,rS 13 16384,rW 16,rI 17 0 4294967295,rS 18 16384,rW 21,rW 22,rS 23 65536]) [(7,0),(10,0),(13,0),(18,0),(23,0)]) [] [(sH 1 [(0,d1 (cI .u64 26))] (rI 26 0 18446744073709551615) [])]
theorem ok67 : TCok P 67 tc67:=tK (eC ok105c (eC ok105 eN)) {}
def tc44 : TC:=tC 4 (sH 6 [aP 0 92 0,aP 1 87 1,aW 2 2,aS 3 5 3] (cT [rP 0,rP 1,rI 2 0 7,rS 3 1048576]) [(0,0),(1,0),(3,0)]) W2 [(sH 0 [(0,.t [])] [] [])]
theorem ok44 : TCok P 44 tc44:=tK (eC ok40 (eC ok63 (eC ok64 (eC ok65 (eC ok66 (eC ok67 eN)))))) { lp:=lp1 4 (laK (sH 1 [aW 30 1] (rI 1 0 1048576 ++ ([⟨0,[(1,-1),(0,1)]⟩])) []) [0,1,2,28,29] W2 W2 1 [aW 29 0] (⟨0,[(1,-1),(0,1)]⟩)) <| lp1 13 (laK (sH 1 [aW 56 1] (rI 1 0 1048576 ++ ([⟨0,[(1,-1),(0,1)]⟩])) []) [0,1,2,28,29,30,54,55] W2 W2 1 [aW 55 0] (⟨0,[(1,-1),(0,1)]⟩)) <| lp1 19 (laK (sH 1 [aW 72 1] (rI 1 0 1048576 ++ ([⟨0,[(1,-1),(0,1)]⟩])) []) [0,1,2,11,28,29,30,70,71] W2 W2 1 [aW 71 0] (⟨0,[(1,-1),(0,1)]⟩)) <| lp0 }
def tc106 : TC:=tC 1 (sH 3 [aS 0 5 0] (rS 0 131072) [(0,0)]) [] [(sH 1 [(0,d1 (cI .u32 3))] (rI 3 0 4294967295) [])]
theorem ok106 : TCok P 106 tc106:=tK eN (l1 3 (laK (sH 2 [(3,d1 (cI .u32 1)),aW 8 2] (cT [rI 1 0 4294967295,rI 2 0 1048576,[⟨0,[(2,-1),(0,1)]⟩]]) []) [6,7] [] [] 1 [aW 7 0] (⟨0,[(2,-1),(0,1)]⟩)))
def tc205 : TC:=tC 2 (sH 4 [aW 0 0,aS 1 5 1] (cT [rW 0,rS 1 1200,[(Lin.var 2).addc (-1)]]) [(1,0)]) [] [(sH 5 [(0,.t [.a [cW 4,cS 5 5],.c (cW 8),.c (.tru true)])] (cT [rW 4,rS 5 300,rI 8 1 1200,[⟨0,[(8,-1),(2,1)]⟩]]) [(5,1)]),(sH 4 [(0,.t [.a [cW 4,cS 5 5],.c (.num .i64 0),.c (.tru false)])] (rW 4 ++ (rS 5 8192)) [(5,1)])]
theorem ok205 : TCok P 205 tc205:=tK (eC ok81 eN) {}
def tc158 : TC:=tC 2 (sH 4 [aW 0 0,aS 1 5 1] (rW 0 ++ (rS 1 1200)) [(1,0)]) [] [(sH 4 [(0,.t [.c (cS 220 4),.c (cB 7)])] (rS 4 1200 ++ (rB 7)) [(4,0)])]
theorem ok158 : TCok P 158 tc158:=tK (eC ok205 eN) (l1 2 { sh:=(sH 6 [aS 1 5 0,aS 6 220 3] (cT [rS 0 1200,rS 3 1200,[⟨1200,[(4,-1),(1,-1)]⟩]]) [(0,0),(3,1)]),keep:=[0],W:=[],Wo:=[],dec:=⟨0,[(1,1)]⟩ })
end
end VtTop
namespace VtTop
open Go Zx Vx
noncomputable section
set_option maxRecDepth 1000000
def tc107 : TC:=tC 2 (sH 4 [aP 0 125 0,aS 1 5 1] (rP 0 ++ (rS 1 1200)) [(0,0),(1,0)]) [162,163] [(sH 1 [(0,.t [.c (cW 4),.c (.num .i64 0)])] (rI 4 4 1200 ++ ([⟨0,[(4,-1),(2,1)]⟩])) []),(sH 2 [(0,.t [.c (cW 4),.c (cW 5)])] (rW 4 ++ (rI 5 1 100)) [])]
theorem ok107 : TCok P 107 tc107:=tK (eC ok106 (eC ok158 eN)) {}
def tc68 : TC:=tC 1 (sH 3 [aS 0 5 0] (rS 0 1048576) [(0,0)]) [162,163] [(sH 17 [(0,.t [.a [cB 3,cW 4,cI .u16 5,cI .u32 6,cI .u32 7,cS 57 8,cW 11,cS 220 12,cW 15,cS 5 16],.c (cW 19)])] (cT [rB 3,rW 4,rI 5 0 65535,rI 6 0 4294967295,rI 7 0 4294967295,rS 8 256,rW 11,rS 12 4096,rI 15 0 255,rS 16 1200,rI 19 0 100]) [(8,0),(12,0),(16,0)])]
theorem ok68 : TCok P 68 tc68:=tK (eC ok81 (eC ok106 (eC ok107 eN))) { lp:=lp1 12 (laK (sM 3 [(6,.s (.c (.int .i64 ⟨12,[(6,4)]⟩)))] (rS 5 16 ++ ([⟨-12,[(6,-4),(4,1)]⟩])) [(5,1)] [mK (.sli 161 57 256) 3 5 (cS 57 5)]) [0,2,4,5] [161,62] [162,163] 5 [aS 0 5 0,aP 4 125 3,aW 5 4] (⟨-12,[(6,-4),(4,1)]⟩)) <| lp0,cut:=lp1 20 { sh:=(sH 1 [aW 5 3] (rI 3 12 1200 ++ ([⟨0,[(3,-1),(1,1)]⟩])) []),keep:=[0,2,4],W:=[162,163],Wo:=[162,163],r:=3,refs:=[aS 0 5 0] } <| lp1 25 { sh:=(sM 1 [] (rI 4 0 255 ++ ([⟨0,[(4,-1),(2,1)]⟩])) [] [mK (.int 164 .i64 0 255) 0 8 (cW 4)]),keep:=[2,4,9],W:=[164],Wo:=[162,163],r:=4,refs:=[aP 4 125 0,aS 9 5 1] } <| lp0 }
def tc69 : TC:=tC 3 (sH 3 [aP 0 87 0,aW 1 1,(2,d1 (cI .u32 2))] (cT [rP 0,rI 1 0 7,rI 2 0 4294967295]) [(0,0)]) [] [(sH 1 [(0,.t [.c (cW 3),.c (.tru true)])] (rI 3 0 2) []),(sH 1 [(0,.t [.c (cW 3),.c (.tru false)])] (rI 3 0 0) [])]
theorem ok69 : TCok P 69 tc69:=tK eN (l1 2 { sh:=(sH 1 [aW 16 0] (rI 0 0 3) []),keep:=[2,15],W:=[],Wo:=[],dec:=⟨3,[(0,-1)]⟩ })
def tc108 : TC:=tC 1 (sH 1 [(0,d1 (cI .u8 0))] (rI 0 0 15) []) [] [(sH 0 [(0,d1 (.num .i64 0))] [⟨7,[(0,-1)]⟩] []),(sH 1 [aW 0 1] (rI 1 1 8 ++ ([⟨-8,[(0,1)]⟩])) [])]
theorem ok108 : TCok P 108 tc108:=tK eN {}
def tc109 : TC:=tC 2 (sH 4 [(0,d1 (cI .u8 0)),aS 1 5 1] (cT [rI 0 0 15,rS 1 1048576,[⟨7,[(2,8),(0,-1)]⟩]]) [(1,0)]) [] [(sH 2 [(0,.t [.c (cI .u64 4),.c (cB 5)])] (rI 4 0 18446744073709551615 ++ (rB 5)) [])]
theorem ok109 : TCok P 109 tc109:=tK eN (l1 5 (laK (sH 2 [(6,d1 (cI .u64 1)),aW 16 2] (cT [rI 1 0 18446744073709551615,rI 2 0 1048576,[⟨0,[(2,-1),(0,1)]⟩]]) []) [1,14,15] [] [] 1 [aW 15 0] (⟨0,[(2,-1),(0,1)]⟩)))
def tc70 : TC:=tC 1 (sH 3 [aS 0 5 0] (rS 0 1048576) [(0,0)]) [] [(sH 4 [(0,.t [.c (cI .u64 3),.c (cI .u64 4),.c (cW 5),.c (cW 6)])] (cT [rI 3 0 18446744073709551615,rI 4 0 18446744073709551615,rW 5,rW 6]) [])]
theorem ok70 : TCok P 70 tc70:=tK (eC ok108 (eC ok109 eN)) {}
def tc71 : TC:=tC 1 (sH 1 [(0,d1 (cI .u64 0))] (rI 0 0 18446744073709551615) []) [] [(sH 4 [(0,.t [.c (cW 1),.c (cW 2),.c (cW 3),.c (cB 4)])] (cT [rW 1,rW 2,rW 3,rB 4]) [])]
theorem ok71 : TCok P 71 tc71:=tK eN {}
def tc214 : TC:=tC 2 (sH 5 [aW 0 0,aQ 1 [cW 1,cS 5 2]] (cT [rW 0,rW 1,rS 2 8192]) [(2,0)]) [] [(sH 1 [(0,d1 (cB 5))] (rB 5) [])]
theorem ok214 : TCok P 214 tc214:=tK eN {}
def tc213 : TC:=tC 2 (sH 5 [aQ 0 [cW 0,cS 5 1],aP 1 125 4] (cT [rW 0,rS 1 8192,rP 4]) [(1,0),(4,0)]) [] [(sH 1 [(0,d1 (cB 5))] (rB 5) [])]
theorem ok213 : TCok P 213 tc213:=tK (eC ok214 eN) {}
def tc159b : TC:=t1 220 213 125
theorem ok159b : TCok P 159 tc159b:=tK (eC ok213 eN) (l1 2 (laK (sH 1 [aW 8 1] (rI 1 0 1048576 ++ ([⟨0,[(1,-1),(0,1)]⟩])) []) [0,1,7] [] [] 1 [aW 7 0] (⟨0,[(1,-1),(0,1)]⟩)))
def tc160 : TC:=tC 2 (sH 5 [aQ 0 [cW 0,cS 5 1],aP 1 3 4] (cT [rW 0,rS 1 8192,rP 4]) [(1,0),(4,0)]) [] [(sH 1 [(0,d1 (cB 5))] (rB 5) [])]
theorem ok160 : TCok P 160 tc160:=tK eN {}
def tc159 : TC:=t1 220 160 3
theorem ok159 : TCok P 159 tc159:=tK (eC ok160 eN) (l1 2 (laK (sH 1 [aW 8 1] (rI 1 0 1048576 ++ ([⟨0,[(1,-1),(0,1)]⟩])) []) [0,1,7] [] [] 1 [aW 7 0] (⟨0,[(1,-1),(0,1)]⟩)))
def tc110 : TC:=tC 2 (sH 17 [aQ 0 [cB 0,cW 1,cI .u16 2,cI .u32 3,cI .u32 4,cS 57 5,cW 8,cS 220 9,cW 12,cS 5 13],aW 1 16] (cT [rB 0,rW 1,rI 2 0 65535,rI 3 0 4294967295,rI 4 0 4294967295,rS 5 256,rW 8,rS 9 4096,rI 12 0 255,rS 13 8192,rW 16]) [(5,0),(9,0),(13,0)]) [] [(sH 1 [aW 0 17] (rW 17 ++ ([⟨1,[(17,1)]⟩,⟨-1,[(17,-1),(10,1)]⟩])) [])]
theorem ok110 : TCok P 110 tc110:=tK (eC ok159b (eC ok159 (eC ok160 eN))) {}
def tc72 : TC:=tC 2 (sH 17 [aQ 0 [cB 0,cW 1,cI .u16 2,cI .u32 3,cI .u32 4,cS 57 5,cW 8,cS 220 9,cW 12,cS 5 13],aW 1 16] (cT [rB 0,rW 1,rI 2 0 65535,rI 3 0 4294967295,rI 4 0 4294967295,rS 5 256,rW 8,rS 9 4096,rI 12 0 255,rS 13 8192,rW 16]) [(5,0),(9,0),(13,0)]) [] [(sH 4 [(0,.t [.c (cS 5 17),.c (cB 20)])] (rS 17 8192 ++ (rB 20)) [(17,1)])]
theorem ok72 : TCok P 72 tc72:=tK (eC ok81 (eC ok110 eN)) {}
end
end VtTop
namespace VtTop
open Go Zx Vx
noncomputable section
set_option maxRecDepth 1000000
def tc111 : TC:=tC 1 (sH 3 [aS 0 5 0] (rS 0 131072) [(0,0)]) [] [(sH 1 [aP 0 296 3] (rP 3) [(3,1)])]
theorem ok111 : TCok P 111 tc111:=tK eN {}
def tc121 : TC:=tC 1 (sM 5 [aP 0 296 0] (cT [rP 0,rS 1 1048576,rI 4 0 8589934592]) [(0,0),(1,0)] [mK (.sli 333 5 1048576) 0 0 (cS 5 1),mK (.int 334 .i64 0 8589934592) 0 1 (cW 4)]) [] [(sH 1 [aW 0 5] (rW 5 ++ ([⟨0,[(5,1),(4,1),(2,-8)]⟩,⟨0,[(5,-1),(4,-1),(2,8)]⟩])) [])]
theorem ok121 : TCok P 121 tc121:=tK eN {}
def tc161t : TC:=tC 2 (sM 5 [aP 0 296 0,(1,d1 (.num .i64 1))] (cT [rP 0,rS 1 1048576,rI 4 0 8589934592]) [(0,0),(1,0)] [mK (.sli 333 5 1048576) 0 0 (cS 5 1),mK (.int 334 .i64 0 8589934592) 0 1 (cW 4)]) [334] [(sM 2 [(0,.t [.c (cI .u64 5),.c (.num .i64 0)])] (cT [rI 5 0 1,rI 6 0 8589934592,[⟨-1,[(6,1),(4,-1)]⟩,⟨1,[(6,-1),(4,1)]⟩]]) [] [mK (.int 334 .i64 0 8589934592) 0 1 (cW 6)]),(sM 3 [(0,.t [.c (cI .u64 5),.c (cW 6)])] (cT [rI 5 0 18446744073709551615,rI 6 1 3,rI 7 0 8589934592,[⟨0,[(7,1),(4,-1)]⟩,⟨0,[(7,-1),(4,1)]⟩]]) [] [mK (.int 334 .i64 0 8589934592) 0 1 (cW 7)])]
theorem ok161t : TCok P 161 tc161t:=tK (eC ok121 eN) { fuel:=3 }
def tc113t : TC:=tC 2 (sM 6 [aP 0 225 0,(1,d1 (.num .i64 1))] (cT [rP 0,rP 1,rI 2 0 8589934592,rS 3 1048576]) [(0,0),(1,0),(3,0)] [mK (iW 267) 0 1 (.num .i64 0),mK (.ptr 266 296 true) 0 0 (cP 296 1),mq 1 1 (.int 334 .i64 0 8589934592) (cW 2),mq 1 0 (.sli 333 5 1048576) (cS 5 3)]) W9 [(sM 2 [aW 0 6] (cT [rI 6 0 1,rI 7 0 8589934592,[⟨-1,[(7,1),(2,-1)]⟩,⟨1,[(7,-1),(2,1)]⟩]]) [] [mK (iW 267) 0 1 (.num .i64 0),mq 1 1 (.int 334 .i64 0 8589934592) (cW 7)]),(sM 3 [aW 0 6] (cT [rW 6,rI 7 1 100,rI 8 0 8589934592,[⟨0,[(8,1),(2,-1)]⟩,⟨0,[(8,-1),(2,1)]⟩]]) [] [mK (iW 267) 0 1 (cW 7),mq 1 1 (.int 334 .i64 0 8589934592) (cW 8)])]
theorem ok113t : TCok P 113 tc113t:=tK (eC ok161t eN) {}
def tc112t : TC:=tC 1 (sM 6 [aP 0 225 0] (cT [rP 0,rP 1,rI 2 0 8589934592,rS 3 1048576]) [(0,0),(1,0),(3,0)] [mK (iW 267) 0 1 (.num .i64 0),mK (.ptr 266 296 true) 0 0 (cP 296 1),mq 1 1 (.int 334 .i64 0 8589934592) (cW 2),mq 1 0 (.sli 333 5 1048576) (cS 5 3)]) W9 [(sM 2 [(0,d1 (cB 6))] (cT [rB 6,rI 7 0 8589934592,[⟨-1,[(7,1),(2,-1)]⟩,⟨1,[(7,-1),(2,1)]⟩]]) [] [mK (iW 267) 0 1 (.num .i64 0),mq 1 1 (.int 334 .i64 0 8589934592) (cW 7)]),(sM 3 [(0,d1 (cB 6))] (cT [rB 6,rI 7 1 100,rI 8 0 8589934592,[⟨0,[(8,1),(2,-1)]⟩,⟨0,[(8,-1),(2,1)]⟩]]) [] [mK (iW 267) 0 1 (cW 7),mq 1 1 (.int 334 .i64 0 8589934592) (cW 8)])]
theorem ok112t : TCok P 112 tc112t:=tK (eC ok113t eN) {}
def tc161d : TC:=t22 2 3
theorem ok161d : TCok P 161 tc161d:=tK (eC ok121 eN) { fuel:=10,gh:=[0] }
def tc161g : TC:=t22 1 1
theorem ok161g : TCok P 161 tc161g:=tK (eC ok121 eN) { fuel:=10,gh:=[0] }
def tc161e : TC:=t22 5 31
theorem ok161e : TCok P 161 tc161e:=tK (eC ok121 eN) { fuel:=10,gh:=[0] }
def tc161b : TC:=t22 6 63
theorem ok161b : TCok P 161 tc161b:=tK (eC ok121 eN) { fuel:=10,gh:=[0] }
def tc161c : TC:=tC 2 (sH 2 [aP 0 296 0,aW 1 1] (rP 0 ++ (rI 1 (-1) 8)) [(0,0)]) [334] [(sH 2 [(0,.t [.c (cI .u64 2),.c (cW 3)])] (rI 2 0 255 ++ (rI 3 0 3)) [])]
theorem ok161c : TCok P 161 tc161c:=tK (eC ok121 eN) { fuel:=10,gh:=[0] }
def tc161 : TC:=tC 2 (sH 2 [aP 0 296 0,aW 1 1] (rP 0 ++ (rW 1)) [(0,0)]) [334] [(sH 2 [(0,.t [.c (cI .u64 2),.c (cW 3)])] (rI 2 0 18446744073709551615 ++ (rI 3 0 3)) [])]
theorem ok161 : TCok P 161 tc161:=tK (eC ok121 eN) { lp:=lp1 7 (laK (sM 6 [(6,d1 (cI .u64 2)),aW 20 3] (cT [rI 2 0 18446744073709551615,rI 3 0 64,rS 4 1048576,rI 7 0 8589934592,[⟨0,[(3,-1),(1,1)]⟩,⟨0,[(7,-1),(5,8),(3,1),(1,-1)]⟩]]) [(4,0)] [mK (.sli 333 5 1048576) 0 0 (cS 5 4),mK (.int 334 .i64 0 8589934592) 0 1 (cW 7)]) [0,19] [334,333] [334] 2 [aP 0 296 0,aW 19 1] (⟨0,[(3,-1),(1,1)]⟩)) <| lp0,gh:=[0] }
def tc113e : TC:=t23 5 31
theorem ok113e : TCok P 113 tc113e:=tK (eC ok161t (eC ok161d (eC ok161g (eC ok161e (eC ok161b (eC ok161c (eC ok161 eN))))))) {}
def tc113b : TC:=t23 6 63
theorem ok113b : TCok P 113 tc113b:=tK (eC ok161t (eC ok161d (eC ok161g (eC ok161e (eC ok161b (eC ok161c (eC ok161 eN))))))) {}
def tc113c : TC:=t24 (-1) 8 255
theorem ok113c : TCok P 113 tc113c:=tK (eC ok161t (eC ok161d (eC ok161g (eC ok161e (eC ok161b (eC ok161c (eC ok161 eN))))))) {}
end
end VtTop
namespace VtTop
open Go Zx Vx
noncomputable section
set_option maxRecDepth 1000000
def tc113 : TC:=tC 2 (sM 3 [aP 0 225 0,aW 1 1] (cT [rP 0,rW 1,rI 2 0 100]) [(0,0)] [mK (iW 267) 0 1 (cW 2)]) W9 [(sM 2 [aW 0 3] (rW 3 ++ (rI 4 0 100)) [] [mK (iW 267) 0 1 (cW 4)])]
theorem ok113 : TCok P 113 tc113:=tK (eC ok161t (eC ok161d (eC ok161g (eC ok161e (eC ok161b (eC ok161c (eC ok161 eN))))))) {}
def tc112 : TC:=tC 1 (sM 2 [aP 0 225 0] (rP 0 ++ (rI 1 0 100)) [(0,0)] [mK (iW 267) 0 1 (cW 1)]) W9 [(sM 2 [(0,d1 (cB 2))] (rB 2 ++ (rI 3 0 100)) [] [mK (iW 267) 0 1 (cW 3)])]
theorem ok112 : TCok P 112 tc112:=tK (eC ok113t (eC ok113e (eC ok113b (eC ok113c (eC ok113 eN))))) {}
def tc119 : TC:=tC 3 (sM 4 [aP 0 225 0,aW 1 1,aW 2 2] (cT [rP 0,rI 1 0 4096,rW 2,rI 3 0 100]) [(0,0)] [mK (iW 267) 0 1 (cW 3)]) W9 [(sM 4 [aS 0 3 4] (cT [rS 4 4096,rI 7 0 100,[⟨0,[(5,-1),(1,1)]⟩]]) [(4,1)] [mK (iW 267) 0 1 (cW 7)])]
theorem ok119 : TCok P 119 tc119:=tK (eC ok113t (eC ok113e (eC ok113b (eC ok113c (eC ok113 eN))))) (l1 3 (laK (sM 5 [aS 7 3 2,aW 9 5] (cT [rS 2 4096,rI 5 0 4096,rI 6 0 100,[⟨0,[(5,-1),(1,1)]⟩,⟨0,[(5,1),(3,-1)]⟩]]) [(2,1)] [mK (iW 267) 0 1 (cW 6)]) [0,2,8] W9 W9 2 [aP 0 225 0,aW 8 1] (⟨0,[(5,-1),(1,1)]⟩)))
def tc118t : TC:=tC 2 (sM 1 [aP 0 225 0,(1,d1 (.num .i64 2))] (rP 0) [(0,0)] [mK (iW 267) 0 1 (.num .i64 0)]) [267] [(sM 0 [(0,.t [])] [] [] [mK (iW 267) 0 1 (.num .i64 2)])]
theorem ok118t : TCok P 118 tc118t:=tK eN {}
def tc118 : TC:=tC 2 (sM 3 [aP 0 225 0,aW 1 1] (cT [rP 0,rI 1 1 100,rI 2 0 100]) [(0,0)] [mK (iW 267) 0 1 (cW 2)]) [267] [(sM 1 [(0,.t [])] (rI 3 0 100 ++ ([⟨-1,[(3,1)]⟩])) [] [mK (iW 267) 0 1 (cW 3)])]
theorem ok118 : TCok P 118 tc118:=tK eN {}
def tc162 : TC:=tC 1 (sM 2 [aP 0 225 0] (rP 0 ++ (rI 1 0 100)) [(0,0)] [mK (iW 267) 0 1 (cW 1)]) W9 [(sM 4 [aS 0 230 2] (cT [rS 2 65,rI 5 0 100,[⟨-1,[(3,1)]⟩]]) [(2,1)] [mK (iW 267) 0 1 (cW 5)])]
theorem ok162 : TCok P 162 tc162:=tK (eC ok113t (eC ok113e (eC ok113b (eC ok113c (eC ok113 (eC ok118t (eC ok118 eN))))))) (l1 2 (laK (sM 6 [aS 3 230 1] (cT [rS 1 65,[(Lin.var 2).addc (-1)],rI 4 0 100,rI 5 0 4,rI 6 0 8,[⟨64,[(4,1),(2,-1)]⟩,⟨3,[(5,-1),(4,1)]⟩,⟨7,[(6,-1),(4,1)]⟩]]) [(1,1)] [mK (iW 267) 0 1 (cW 4),⟨1,⟨-5,[(2,5),(1,1)]⟩,.int 273 .i64 0 4,cW 5⟩,⟨1,⟨-4,[(2,5),(1,1)]⟩,.int 274 .i64 0 8,cW 6⟩]) [0] W10 W9 1 [aP 0 225 0] (⟨66,[(2,-1)]⟩)))
def tc163 : TC:=t25 8
theorem ok163 : TCok P 163 tc163:=tK (eC ok112t (eC ok112 (eC ok113t (eC ok113e (eC ok113b (eC ok113c (eC ok113 (eC ok118t (eC ok118 eN))))))))) (l1 2 (laK (sM 4 [aS 3 3 1] (rS 1 8 ++ (rI 4 0 100)) [(1,1)] [mK (iW 267) 0 1 (cW 4)]) [0] W9 W9 1 [aP 0 225 0] (⟨9,[(2,-1)]⟩)))
def tc228c : TC:=tC 1 (sH 1 [(0,d1 (cI .u64 0))] (rI 0 1 255) []) [] [(sH 2 [(0,.t [.c (cW 1),.c (cI .u64 2)])] (rI 1 0 8 ++ (rI 2 0 18446744073709551615)) [])]
theorem ok228c : TCok P 228 tc228c:=tK (eC ok105c (eC ok105 eN)) {}
def tc228 : TC:=tC 1 (sH 1 [(0,d1 (cI .u64 0))] (rI 0 1 4294967296) []) [] [(sH 2 [(0,.t [.c (cW 1),.c (cI .u64 2)])] (rI 1 0 64 ++ (rI 2 0 18446744073709551615)) [])]
theorem ok228 : TCok P 228 tc228:=tK (eC ok105c (eC ok105 eN)) {}
def tc206c : TC:=tC 2 (sH 2 [aP 0 296 0,(1,d1 (cI .u64 1))] (rP 0 ++ (rI 1 1 255)) [(0,0)]) [334] [(sH 2 [(0,.t [.c (cI .u64 2),.c (cW 3)])] (rI 2 0 511 ++ (rI 3 0 3)) [])]
theorem ok206c : TCok P 206 tc206c:=tK (eC ok161t (eC ok161d (eC ok161g (eC ok161e (eC ok161b (eC ok161c (eC ok161 (eC ok228c (eC ok228 eN))))))))) {}
def tc206 : TC:=tC 2 (sH 2 [aP 0 296 0,(1,d1 (cI .u64 1))] (rP 0 ++ (rI 1 0 18446744073709551615)) [(0,0)]) [334] [(sH 2 [(0,.t [.c (cI .u64 2),.c (cW 3)])] (rI 2 0 18446744073709551615 ++ (rI 3 0 3)) [])]
theorem ok206 : TCok P 206 tc206:=tK (eC ok161t (eC ok161d (eC ok161g (eC ok161e (eC ok161b (eC ok161c (eC ok161 (eC ok228c (eC ok228 eN))))))))) {}
def tc164c : TC:=t24 1 255 511
theorem ok164c : TCok P 164 tc164c:=tK (eC ok206c (eC ok206 eN)) {}
def tc164 : TC:=tC 2 (sM 3 [aP 0 225 0,aW 1 1] (cT [rP 0,rW 1,rI 2 0 100]) [(0,0)] [mK (iW 267) 0 1 (cW 2)]) W9 [(sM 2 [aW 0 3] (rW 3 ++ (rI 4 0 100)) [] [mK (iW 267) 0 1 (cW 4)])]
theorem ok164 : TCok P 164 tc164:=tK (eC ok206c (eC ok206 eN)) {}
def tc165 : TC:=tC 1 (sH 12 [aQ 0 [cW 0,cW 1,cS 230 2,cW 5,cS 3 6,cS 301 9]] (cT [rW 0,rW 1,rS 2 128,rW 5,rS 6 1024,rS 9 1024]) [(2,0),(6,0),(9,0)]) [] [(sH 1 [aW 0 12] (rI 12 0 5) [])]
theorem ok165 : TCok P 165 tc165:=tK eN (l1 3 (laK (sH 2 [aW 3 1,aW 9 2] (cT [rI 1 0 5,rI 2 0 1048576,[⟨0,[(2,-1),(0,1)]⟩]]) []) [7,8] [] [] 1 [aW 8 0] (⟨0,[(2,-1),(0,1)]⟩)))
end
end VtTop
namespace VtTop
open Go Zx Vx
noncomputable section
set_option maxRecDepth 1000000
def tc114 : TC:=tC 1 (sM 2 [aP 0 225 0] (rP 0 ++ (rI 1 0 100)) [(0,0)] [mK (iW 267) 0 1 (cW 1)]) W8 [(sM 13 [aQ 0 [cW 2,cW 3,cS 230 4,cW 7,cS 3 8,cS 301 11]] (cT [rI 2 0 63,rI 3 1 32,rS 4 65,rI 7 0 511,rS 8 1024,rS 11 1024,rI 14 0 100]) [(4,1),(8,1),(11,1)] [mK (iW 267) 0 1 (cW 14)])]
theorem ok114 : TCok P 114 tc114:=tK (eC ok112t (eC ok112 (eC ok113t (eC ok113e (eC ok113b (eC ok113c (eC ok113 (eC ok119 (eC ok162 (eC ok163 (eC ok164c (eC ok164 (eC ok165 eN))))))))))))) { lp:=lp1 4 (laK (sM 2 [aW 19 2] (cT [rI 2 0 65,rI 3 0 100,[⟨0,[(2,-1),(1,1)]⟩]]) [] [mK (iW 267) 0 1 (cW 3)]) [0,2,3,18] W10 W8 2 [aP 0 225 0,aW 18 1] (⟨0,[(2,-1),(1,1)]⟩)) <| lp1 9 (laK (sM 2 [aW 35 2] (cT [rI 2 0 65,rI 3 0 100,[⟨0,[(2,-1),(1,1)]⟩]]) [] [mK (iW 267) 0 1 (cW 3)]) [0,2,3,34] W10 W8 2 [aP 0 225 0,aW 34 1] (⟨0,[(2,-1),(1,1)]⟩)) <| lp1 16 (laK (sM 5 [aW 57 3] (cT [rI 3 0 256,rI 4 0 100,rS 5 256,[⟨0,[(6,-1),(3,1)]⟩,⟨0,[(3,-1),(2,1)]⟩]]) [(5,1)] [mK (iW 267) 0 1 (cW 4),mK (.sli 100 3 1024) 1 4 (cS 3 5)]) [0,2,3,56] [334,267,100,2] W8 3 [aP 0 225 0,aP 3 77 1,aW 56 2] (⟨0,[(3,-1),(2,1)]⟩)) <| lp1 20 (laK (sM 2 [aW 72 2] (cT [rI 2 0 65,rI 3 0 100,[⟨0,[(2,-1),(1,1)]⟩]]) [] [mK (iW 267) 0 1 (cW 3)]) [0,2,3,71] W10 W8 2 [aP 0 225 0,aW 71 1] (⟨0,[(2,-1),(1,1)]⟩)) <| lp1 26 (laK (sM 5 [aW 89 3] (cT [rI 3 0 5,rI 4 0 100,rS 5 5,[⟨0,[(6,-1),(3,1)]⟩,⟨0,[(3,-1),(2,1)]⟩]]) [(5,1)] [mK (iW 267) 0 1 (cW 4),mK (.sli 101 301 1024) 1 5 (cS 301 5)]) [0,2,3,88] [334,267,101,2] W8 3 [aP 0 225 0,aP 3 77 1,aW 88 2] (⟨0,[(3,-1),(2,1)]⟩)) <| lp0 }
def tc208 : TC:=tC 3 (sH 3 [aW 0 0,aP 1 3 1,aP 2 3 2] (cT [rW 0,rP 1,rP 2]) [(1,0),(2,0)]) [] [(sH 1 [(0,d1 (cB 3))] (rB 3) [])]
theorem ok208 : TCok P 208 tc208:=tK eN {}
def tc229 : TC:=tC 2 (sH 5 [aS 0 3 0,(1,.s (.c (.clo 208 [(3,.var 3,zTab 3),(4,.var 4,zTab 3)])))] (cT [rS 0 1048576,rP 3,rP 4]) [(0,0),(3,0),(4,0)]) [] [(sH 1 [aW 0 5] (rW 5 ++ ([⟨1,[(5,1)]⟩,⟨-1,[(5,-1),(1,1)]⟩])) [])]
theorem ok229 : TCok P 229 tc229:=tK (eC ok208 eN) (l1 2 (laK (sH 1 [aW 8 1] (rI 1 0 1048576 ++ ([⟨0,[(1,-1),(0,1)]⟩])) []) [0,1,7] [] [] 1 [aW 7 0] (⟨0,[(1,-1),(0,1)]⟩)))
def tc207 : TC:=tC 2 (sH 5 [aS 0 3 0,(1,.s (.c (.clo 208 [(3,.var 3,zTab 3),(4,.var 4,zTab 3)])))] (cT [rS 0 1048576,rP 3,rP 4]) [(0,0),(3,0),(4,0)]) [] [(sH 0 [(0,d1 (.tru true))] [] []),(sH 0 [(0,d1 (.tru false))] [] [])]
theorem ok207 : TCok P 207 tc207:=tK (eC ok229 eN) {}
def tc166 : TC:=tC 4 (sH 6 [aS 0 3 0,aW 1 3,aW 2 4,aW 3 5] (cT [rS 0 1048576,rW 3,rW 4,rW 5]) [(0,0)]) [] [(sH 0 [(0,d1 (.tru true))] [⟨0,[(3,-1),(1,1)]⟩,⟨0,[(3,1),(1,-1)]⟩] []),(sH 0 [(0,d1 (.tru false))] [] [])]
theorem ok166 : TCok P 166 tc166:=tK (eC ok207 (eC ok208 eN)) {}
def tc209 : TC:=tC 2 (sH 22 [aQ 0 [cW 0,cW 1,cS 3 2,cS 3 5,cS 3 8],aQ 1 [cW 11,cW 12,cS 3 13,cS 3 16,cS 3 19]] (cT [rI 0 0 4,rI 1 0 8,rS 2 1024,rS 5 1024,rS 8 1024,rI 11 0 4,rI 12 0 8,rS 13 1024,rS 16 1024,rS 19 1024]) [(2,0),(5,0),(8,0),(13,0),(16,0),(19,0)]) [] [(sH 2 [(0,.t [.c (cW 22),.c (cB 23)])] (rW 22 ++ (rB 23)) [])]
theorem ok209 : TCok P 209 tc209:=tK eN {}
def tc167 : TC:=tC 1 (sH 12 [aQ 0 [cW 0,cW 1,cS 230 2,cW 5,cS 3 6,cS 301 9]] (cT [rW 0,rW 1,rS 2 128,rW 5,rS 6 1024,rS 9 1024]) [(2,0),(6,0),(9,0)]) [] [(sH 0 [(0,d1 (.tru true))] [⟨64,[(3,-1)]⟩,⟨-1,[(3,1)]⟩] []),(sH 0 [(0,d1 (.tru false))] [] [])]
theorem ok167 : TCok P 167 tc167:=tK (eC ok209 eN) (l1 3 (laK (sH 1 [aW 12 1] (rI 1 0 128 ++ ([⟨0,[(1,-1),(0,1)]⟩])) []) [1,3,10,11] [273,274,275,276,277] [] 1 [aW 11 0] (⟨0,[(1,-1),(0,1)]⟩)))
def tc180 : TC:=tC 3 (sH 5 [aS 0 3 0,aW 1 3,aW 2 4] (cT [rS 0 1048576,rW 3,rW 4]) [(0,0)]) [] [(sH 0 [(0,d1 (.tru true))] [⟨0,[(3,1),(1,-1)]⟩] []),(sH 0 [(0,d1 (.tru false))] [] [])]
theorem ok180 : TCok P 180 tc180:=tK (eC ok166 eN) {}
def tc170 : TC:=tC 2 (sH 23 [aQ 0 [cW 0,cW 1,cS 230 2,cW 5,cS 3 6,cS 301 9],aQ 1 [cW 12,cW 13,cS 3 14,cS 3 17,cS 3 20]] (cT [rW 0,rW 1,rS 2 128,rW 5,rS 6 1024,rS 9 1024,rI 12 0 4,rI 13 0 8,rS 14 1024,rS 17 1024,rS 20 1024]) [(2,0),(6,0),(9,0),(14,0),(17,0),(20,0)]) [] [(sH 0 [(0,d1 (.tru true))] [⟨0,[(15,1),(1,-1)]⟩,⟨0,[(15,-1),(1,1)]⟩,⟨0,[(21,1),(5,-1)]⟩,⟨0,[(21,-1),(5,1)]⟩,⟨8,[(18,-1)]⟩] []),(sH 0 [(0,d1 (.tru false))] [] [])]
theorem ok170 : TCok P 170 tc170:=tK (eC ok166 (eC ok180 eN)) {}
def tc169 : TC:=tC 2 (sM 13 [aQ 0 [cW 0,cW 1,cS 3 2,cS 3 5,cS 3 8],aP 1 77 11] (cT [rI 0 0 4,rI 1 0 8,rS 2 1024,rS 5 1024,rS 8 1024,rP 11,rW 12]) [(2,0),(5,0),(8,0),(11,0)] [mq 11 1 (iW 97) (cW 12)]) [] [(sH 0 [(0,d1 (.tru true))] [] []),(sH 0 [(0,d1 (.tru false))] [⟨0,[(12,-1),(3,1)]⟩,⟨0,[(12,1),(3,-1)]⟩] [])]
theorem ok169 : TCok P 169 tc169:=tK (eC ok170 eN) {}
def tc210 : TC:=tC 2 (sM 5 [aS 0 230 0,(1,.s (.c (.clo 169 [(3,.var 3,zTab 77)])))] (cT [rS 0 1048576,rP 3,rW 4]) [(0,0),(3,0)] [mq 3 1 (iW 97) (cW 4)]) [] [(sH 1 [aW 0 5] (rW 5 ++ ([⟨0,[(5,1)]⟩,⟨-1,[(5,-1),(1,1)]⟩])) []),{ n:=0,P:=[(0,.s (.c (.num .i64 (-1))))],C:=[],adr:=[],G:=[⟨2170,[cS 230 0,cW 4]⟩] }]
theorem ok210 : TCok P 210 tc210:=tK (eC ok169 eN) { lp:=lp1 2 { sh:={ n:=1,P:=[aW 8 6],C:=rI 6 0 1048576 ++ ([⟨0,[(6,-1),(0,1)]⟩,⟨0,[(2,-1),(0,1)]⟩,⟨0,[(2,1),(0,-1)]⟩]),adr:=[],G:=[⟨217,[cS 230 1,cW 5,cW 6]⟩] },keep:=[0,1,7],W:=[],Wo:=[],r:=6,refs:=[aW 7 0,aS 0 230 1,(1,.s (.c (.clo 169 [(4,.var 4,zTab 77)])))],rM:=[mq 4 1 (iW 97) (cW 5)],lem:=[(lem_start217,[0,1])],dec:=⟨0,[(6,-1),(0,1)]⟩ } <| lp0,lem:=fun i sl=>match Nat.beq i 6 with | true=>[(lem_step217,[0,1,8])] | false=>match Nat.beq i 7 with | true=>[(lem_end217,[0,1,8])] | false=>[] }
def tc168 : TC:=tC 2 (sM 5 [aS 0 230 0,(1,.s (.c (.clo 169 [(3,.var 3,zTab 77)])))] (cT [rS 0 1048576,rP 3,rW 4]) [(0,0),(3,0)] [mq 3 1 (iW 97) (cW 4)]) [] [(sH 0 [(0,d1 (.tru true))] [] []),{ n:=0,P:=[(0,d1 (.tru false))],C:=[],adr:=[],G:=[⟨2170,[cS 230 0,cW 4]⟩] }]
theorem ok168 : TCok P 168 tc168:=tK (eC ok210 eN) {}
def tc115 : TC:=tC 1 (sH 12 [aQ 0 [cW 0,cW 1,cS 230 2,cW 5,cS 3 6,cS 301 9]] (cT [rW 0,rW 1,rS 2 128,rW 5,rS 6 1024,rS 9 1024]) [(2,0),(6,0),(9,0)]) [] [{ n:=0,P:=[(0,d1 (.tru true))],C:=[⟨0,[(0,1)]⟩,⟨63,[(0,-1)]⟩,⟨-1,[(1,1)]⟩,⟨32,[(1,-1)]⟩,⟨0,[(5,1)]⟩,⟨32,[(5,-1)]⟩,⟨64,[(3,-1)]⟩],adr:=[],G:=[⟨2170,[cS 230 2,cW 1]⟩] },(sH 0 [(0,d1 (.tru false))] [] [])]
theorem ok115 : TCok P 115 tc115:=tK (eC ok165 (eC ok166 (eC ok167 (eC ok168 (eC ok169 eN))))) (l1 10 (laK (sH 1 [aW 71 1] (rI 1 0 1048576 ++ ([⟨0,[(1,-1),(0,1)]⟩])) []) [1,69,70] [] [] 1 [aW 70 0] (⟨0,[(1,-1),(0,1)]⟩)))
def tc116c : TC:=tC 2 (sH 42 [aQ 0 [cB 0,cB 1,cW 2,cI .u16 3,.tru false,cW 4,cW 5,cS 230 6,cW 9,cS 3 10,cS 301 13,cB 16,cI .u32 17,cB 18,cB 19,cB 20,cS 3 21,cS 3 24,cS 3 27],aQ 1 [cW 30,cW 31,cS 230 32,cW 35,cS 3 36,cS 301 39]] (cT [rB 0,rB 1,rW 2,rI 3 0 65535,rW 4,rW 5,rS 6 128,rW 9,rS 10 1024,rS 13 1024,rB 16,rI 17 0 4294967295,rB 18,rB 19,rB 20,rS 21 1024,rS 24 1024,rS 27 1024,rI 30 0 63,rI 31 1 32,rS 32 128,rI 35 0 511,rS 36 1024,rS 39 1024]) [(6,0),(10,0),(13,0),(21,0),(24,0),(27,0),(32,0),(36,0),(39,0)]) [] [(sH 12 [aQ 0 [cW 42,cW 43,cS 230 44,cW 47,cS 3 48,cS 301 51]] (cT [rI 42 0 63,rI 43 1 32,rS 44 128,rI 47 0 511,rS 48 1024,rS 51 1024]) [(44,0),(48,0),(51,0)])]
theorem ok116c : TCok P 116 tc116c:=tK eN {}
end
end VtTop
