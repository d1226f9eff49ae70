/- A part of the proof: lemmas. No condition of its own. -/
import Derived.Test.YtglcgbhhkjebbaaGreatK07
import Derived.Test.YtglcgbhhkjebbaaGreatK19
import Derived.Test.YtglcgbhhkjebbaaGreatK22
set_option linter.unusedVariables false
set_option linter.unusedSimpArgs false
namespace Zx.Zr
open Go Go.Proofs Go.RowKit
def roomK : List LK:=tabK ++ (stK ++ ([.i .i64,.i .i64,.i .i64,.i .i64,.i .i64,.i .i64,.i .i64,.i .i64] ++ ([.i .i64,.i .i64,.i .i64,.i .i64,.i .i64,.i .i64,.i .i64,.i .i64] ++ [.b])))
def gRm (L : List Leaf) : RV:=⟨gBs L 0 8,gIs L 8 8,gS L 16,gIs L 22 8,gIs L 30 8,gB L 38⟩
def i8L (l : List Int) : List SC:=[.int .i64 (l.getD 0 0),.int .i64 (l.getD 1 0),.int .i64 (l.getD 2 0),.int .i64 (l.getD 3 0),.int .i64 (l.getD 4 0),.int .i64 (l.getD 5 0),.int .i64 (l.getD 6 0),.int .i64 (l.getD 7 0)]
def roomL (r : RV) : List SC:=tabL (r.u,r.a) ++ (stL r.k ++ (i8L r.s ++ (i8L r.c ++ [.boo r.o])))
def goodRmC : Con0:={ pat:=[.a roomK],out:=fun L=>rB (goodRm (gRm L)) }
def findRmC : Con0:={ pat:=[.a roomK,.c (.i .i64)],out:=fun L=>.eqn (findRm (gRm L) (gI L 39)) fun r=>.ret (.t [.c (.int .i64 r.1),.c (.int .i64 r.2)]) }
def goneC : Con0:={ pat:=[.a roomK,.c (.i .i64),.c (.i .i64)],pre:=some fun L=>0 <= gI L 39 /\ gI L 39 < 8,out:=fun L=>.eqn (goneG (gRm L) (gI L 39) (gI L 40)) fun r=>.ret (.s (.a (roomL r))) }
def joinRmC : Con0:={ pat:=[.a roomK,.c (.i .i64),.c (.i .i64)],out:=fun L=>.eqn (joinRm (gRm L) (gI L 39) (gI L 40)) fun r=>.ret (.t [.a (roomL r.1),.c (.int .i64 r.2.1),.c (.int .i64 r.2.2)]) }
def leaveRmC : Con0:={ pat:=[.a roomK,.c (.i .i64),.c (.i .i64)],out:=fun L=>.eqn (leaveRm (gRm L) (gI L 39) (gI L 40)) fun r=>.ret (.t [.a (roomL r.1),.c (.int .i64 r.2)]) }
def kickRmC : Con0:={ pat:=[.a roomK,.c (.i .i64),.c (.i .i64),.c (.i .i64)],out:=fun L=>.eqn (kickRm (gRm L) (gI L 39) (gI L 40) (gI L 41)) fun r=>.ret (.t [.a (roomL r.1),.c (.int .i64 r.2)]) }
def aliveRmC : Con0:={ pat:=[.a roomK,.c (.i .i64),.c (.i .i64)],out:=fun L=>.eqn (aliveRm (gRm L) (gI L 39) (gI L 40)) fun r=>.ret (.t [.a (roomL r.1),.c (.int .i64 r.2)]) }
def haveRmC : Con0:={ pat:=[.a roomK,.c (.i .i64),.c (.i .i64)],out:=fun L=>.eqn (haveRm (gRm L) (gI L 39) (gI L 40)) fun r=>.ret (.t [.a (roomL r.1),.c (.boo r.2.1),.c (.int .i64 r.2.2)]) }
def goodRmAnn : Ann where
 A:=Unit
 names:=fun s=>[ptrN (s.slots.getD 1 .u)]
 st:=fun k _ s=>{ s with slots:=((keepS [1,18] 0 s.slots).set 19 (one (.num .i64 (Int.ofNat k)))) }
 inv:=fun s k _=>match cellsN (s.heap (ptrN (s.slots.getD 1 .u))) with
  | cs=>chkGo (cellI cs 16) (cBs cs 0 8) (cIs cs 22 8) (cIs cs 30 8) = chkGo (cellI cs 16) (cBs cs k (8 - k)) (cIs cs (22 + k) (8 - k)) (cIs cs (30 + k) (8 - k))
 wit:=fun _=>()
 lit:=some 8
def ctlP (i t : Nat) : Ctl:={ lp:=fun _=>none,cut:=fun _=>none,fuel:=0,spl:=fun j=>if j = i then some (t,0,8) else none }
def lateC : Con0:={ pat:=[.a stK,.c (.i .i64)],out:=fun L=>rI (lateF (gS L 0) (gI L 6)) }
def envM0 : List (FuncId × Spec):=[(147,raiseC.spec),(146,ackC.spec),(140,joinC.spec),(16,comC.spec),(33,goodC.spec),(93,lateC.spec),(142,freeC.spec),(139,takeC.spec),(32,goodTC.spec),(61,findGC.spec),(141,firstGC.spec),(34,maskGC.spec)]
def envM1 : List (FuncId × Spec):=(15,goodRmC.spec) :: (94,goneC.spec) :: envM0
def envM2 : List (FuncId × Spec):=(97,findRmC.spec) :: envM1
theorem fit_room {ks : List LK} {L : List Leaf} (h0 : fits (roomK ++ ks) L = true) : ∃ b0 b1 b2 b3 b4 b5 b6 b7 a0 a1 a2 a3 a4 a5 a6 a7 ep op nx nd hv bn s0 s1 s2 s3 s4 s5 s6 s7 c0 c1 c2 c3 c4 c5 c6 c7 o L',L = .B b0 :: .B b1 :: .B b2 :: .B b3 :: .B b4 :: .B b5 :: .B b6 :: .B b7 :: .I a0 :: .I a1 :: .I a2 :: .I a3 :: .I a4 :: .I a5 :: .I a6 :: .I a7 :: .I ep :: .B op :: .I nx :: .I nd :: .I hv :: .I bn :: .I s0 :: .I s1 :: .I s2 :: .I s3 :: .I s4 :: .I s5 :: .I s6 :: .I s7 :: .I c0 :: .I c1 :: .I c2 :: .I c3 :: .I c4 :: .I c5 :: .I c6 :: .I c7 :: .B o :: L' /\ fits ks L' = true:=by
 obtain ⟨b0,L0,rfl,h1⟩:=fit_b h0
 obtain ⟨b1,L1,rfl,h2⟩:=fit_b h1
 obtain ⟨b2,L2,rfl,h3⟩:=fit_b h2
 obtain ⟨b3,L3,rfl,h4⟩:=fit_b h3
 obtain ⟨b4,L4,rfl,h5⟩:=fit_b h4
 obtain ⟨b5,L5,rfl,h6⟩:=fit_b h5
 obtain ⟨b6,L6,rfl,h7⟩:=fit_b h6
 obtain ⟨b7,L7,rfl,h8⟩:=fit_b h7
 obtain ⟨a0,L8,rfl,h9⟩:=fit_i h8
 obtain ⟨a1,L9,rfl,h10⟩:=fit_i h9
 obtain ⟨a2,L10,rfl,h11⟩:=fit_i h10
 obtain ⟨a3,L11,rfl,h12⟩:=fit_i h11
 obtain ⟨a4,L12,rfl,h13⟩:=fit_i h12
 obtain ⟨a5,L13,rfl,h14⟩:=fit_i h13
 obtain ⟨a6,L14,rfl,h15⟩:=fit_i h14
 obtain ⟨a7,L15,rfl,h16⟩:=fit_i h15
 obtain ⟨ep,L16,rfl,h17⟩:=fit_i h16
 obtain ⟨op,L17,rfl,h18⟩:=fit_b h17
 obtain ⟨nx,L18,rfl,h19⟩:=fit_i h18
 obtain ⟨nd,L19,rfl,h20⟩:=fit_i h19
 obtain ⟨hv,L20,rfl,h21⟩:=fit_i h20
 obtain ⟨bn,L21,rfl,h22⟩:=fit_i h21
 obtain ⟨s0,L22,rfl,h23⟩:=fit_i h22
 obtain ⟨s1,L23,rfl,h24⟩:=fit_i h23
 obtain ⟨s2,L24,rfl,h25⟩:=fit_i h24
 obtain ⟨s3,L25,rfl,h26⟩:=fit_i h25
 obtain ⟨s4,L26,rfl,h27⟩:=fit_i h26
 obtain ⟨s5,L27,rfl,h28⟩:=fit_i h27
 obtain ⟨s6,L28,rfl,h29⟩:=fit_i h28
 obtain ⟨s7,L29,rfl,h30⟩:=fit_i h29
 obtain ⟨c0,L30,rfl,h31⟩:=fit_i h30
 obtain ⟨c1,L31,rfl,h32⟩:=fit_i h31
 obtain ⟨c2,L32,rfl,h33⟩:=fit_i h32
 obtain ⟨c3,L33,rfl,h34⟩:=fit_i h33
 obtain ⟨c4,L34,rfl,h35⟩:=fit_i h34
 obtain ⟨c5,L35,rfl,h36⟩:=fit_i h35
 obtain ⟨c6,L36,rfl,h37⟩:=fit_i h36
 obtain ⟨c7,L37,rfl,h38⟩:=fit_i h37
 obtain ⟨o,L38,rfl,h39⟩:=fit_b h38
 exact ⟨b0,b1,b2,b3,b4,b5,b6,b7,a0,a1,a2,a3,a4,a5,a6,a7,ep,op,nx,nd,hv,bn,s0,s1,s2,s3,s4,s5,s6,s7,c0,c1,c2,c3,c4,c5,c6,c7,o,L38,rfl,h39⟩
theorem late_ok : SpecOk Tryz.prog 93 lateC.spec:=lateC.of_calls fun L h _ w=>by
 obtain ⟨ep,op,nx,nd,hv,bn,_,rfl,h1⟩:=fit_st h
 obtain ⟨now,_,rfl,h2⟩:=fit_i h1
 obtain rfl:=fit_nil h2
 exact (late_any ep op nx nd hv bn now w).mono fun e w' ⟨h1,h2⟩=>⟨_,one (.int .i64 (lateF ⟨ep,op,nx,nd,hv,bn⟩ now)),h1,rfl,rfl,h2⟩
theorem envM0_ok : EnvOk Tryz.prog (envL envM0):=(envL_cons ⟨_,Tryz.func147,rfl,by kernel_rfl⟩ raise_ok (envL_cons ⟨_,Tryz.func146,rfl,by kernel_rfl⟩ ack_ok (envL_cons ⟨_,Tryz.func140,rfl,by kernel_rfl⟩ join_ok (envL_cons ⟨_,Tryz.func16,rfl,by kernel_rfl⟩ com_ok (envL_cons ⟨_,Tryz.func33,rfl,by kernel_rfl⟩ good_ok (envL_cons ⟨_,Tryz.func93,rfl,by kernel_rfl⟩ late_ok (envL_cons ⟨_,Tryz.func142,rfl,by kernel_rfl⟩ freeG_ok (envL_cons ⟨_,Tryz.func139,rfl,by kernel_rfl⟩ takeG_ok (envL_cons ⟨_,Tryz.func32,rfl,by kernel_rfl⟩ goodT_ok (envL_cons ⟨_,Tryz.func61,rfl,by kernel_rfl⟩ findG_ok (envL_cons ⟨_,Tryz.func141,rfl,by kernel_rfl⟩ firstG_ok (envL_cons ⟨_,Tryz.func34,rfl,by kernel_rfl⟩ maskG_ok (envL_nil _)))))))))))))
theorem chk_a {ep b s c} {bs : List Bool} {ss cs : List Int} (h0 : (!b) = true) (h1 : s = 0) (h2 : c = 0) (h3 : ¬c < 0) (h4 : ¬ep < c) : chkGo ep (b :: bs) (s :: ss) (c :: cs) = chkGo ep bs ss cs:=by simp [chkGo,h1,h2];omega
theorem chk_b {ep b s c} {bs : List Bool} {ss cs : List Int} (h0 : (!b) = false) (h3 : ¬c < 0) (h4 : ¬ep < c) : chkGo ep (b :: bs) (s :: ss) (c :: cs) = chkGo ep bs ss cs:=by
 have : b = true:=by simpa using h0
 simp [chkGo,this];omega
theorem chk_no {ep b s c} {bs : List Bool} {ss cs : List Int} (h : ((!b) = true /\ (¬s = 0 \/ ¬c = 0)) \/ c < 0 \/ ep < c) : chkGo ep (b :: bs) (s :: ss) (c :: cs) = false:=by
 simp only [chkGo]
 rcases h with ⟨h0,h | h⟩ | h | h <;> simp_all
theorem good_no {R : RV} {y : Bool} (hy : y = goodRm R) (h : chkGo R.k.ep R.u R.s R.c = false) : false = y:=by
 subst hy;simp [goodRm,h]
theorem good_end {u : List Bool} {a s c : List Int} {k : RS} {o x z y : Bool} (hy : y = goodRm ⟨u,a,k,s,c,o⟩) (hx : x = goodGo u a 0 u a) (hx' : (!x) = false) (hz : z = goodS k) (hz' : (!z) = false) (h : chkGo k.ep u s c = chkGo k.ep [] [] []) : y = endRm ⟨u,a,k,s,c,o⟩:=by
 subst hy;subst hx;subst hz
 have e1 : gdG u a = true:=by simpa [gdG] using hx'
 have e2 : goodS k = true:=by simpa using hz'
 simp [goodRm,h,chkGo,e1,e2]
theorem good_t {R : RV} {y x : Bool} (hy : y = goodRm R) (hx : x = goodGo R.u R.a 0 R.u R.a) (h : (!x) = true) : false = y:=by
 subst hy;subst hx;simp at h;simp [goodRm,gdG,h]
theorem good_s {R : RV} {y x : Bool} (hy : y = goodRm R) (hx : x = goodS R.k) (h : (!x) = true) : false = y:=by
 subst hy;subst hx;simp at h;simp [goodRm,h]
section
variable {u : List Bool} {a s c : List Int} {k : RS} {o y : Bool} {x z : Int}
theorem end_1 (h : y = endRm ⟨u,a,k,s,c,o⟩) (h1 : (!k.op) = true) (h2 : (!o) = true) : true = y:=by
 subst h;simp at h1 h2;simp [endRm,h1,h2]
theorem end_2 (h : y = endRm ⟨u,a,k,s,c,o⟩) (hm : x = maskG u a) (h1 : (!k.op) = true) (h3 : x = 0) : true = y:=by
 subst h;simp at h1;simp [endRm,h1,← hm,h3]
theorem end_3 (h : y = endRm ⟨u,a,k,s,c,o⟩) (hm : x = maskG u a) (h2 : (!o) = false) (h3 : ¬x = 0) : false = y:=by
 subst h;simp at h2;simp [endRm,h2,← hm,h3]
theorem end_4 (h : y = endRm ⟨u,a,k,s,c,o⟩) (hm : x = maskG u a) (hz : z = bits .andNot .i64 k.nd x) (h1 : z = 0) (h2 : (!o) = true) : true = y:=by
 subst h;simp at h2;simp [endRm,h2,← hm,← hz,h1]
theorem end_5 (h : y = endRm ⟨u,a,k,s,c,o⟩) (hm : x = maskG u a) (hz : z = bits .andNot .i64 k.nd x) (h1 : z = 0) (h3 : x = 0) : true = y:=by
 subst h
 have e1 : bits .andNot .i64 k.nd (maskG u a) = 0:=by rw [← hm,← hz];exact h1
 have e2 : maskG u a = 0:=by rw [← hm];exact h3
 simp only [endRm,decide_eq_true e1,decide_eq_true e2]
 simp
theorem end_7 (h : y = endRm ⟨u,a,k,s,c,o⟩) (hm : x = maskG u a) (hz : z = bits .andNot .i64 k.nd x) (h0 : (!k.op) = false) (h1 : ¬z = 0) : false = y:=by
 subst h;simp at h0;simp [endRm,h0,← hm,← hz,h1]
end
set_option maxHeartbeats 0 in
set_option maxRecDepth 100000 in
theorem goodRm_vc (b0 b1 b2 b3 b4 b5 b6 b7 : Bool) (a0 a1 a2 a3 a4 a5 a6 a7 : Int) (ep : Int) (op : Bool) (nx nd hv bn : Int) (s0 s1 s2 s3 s4 s5 s6 s7 c0 c1 c2 c3 c4 c5 c6 c7 : Int) (o : Bool) : goodRmC.vc Tryz.prog (envL envM0) (ctl1 4 goodRmAnn) Tryz.f15 [.B b0,.B b1,.B b2,.B b3,.B b4,.B b5,.B b6,.B b7,.I a0,.I a1,.I a2,.I a3,.I a4,.I a5,.I a6,.I a7,.I ep,.B op,.I nx,.I nd,.I hv,.I bn,.I s0,.I s1,.I s2,.I s3,.I s4,.I s5,.I s6,.I s7,.I c0,.I c1,.I c2,.I c3,.I c4,.I c5,.I c6,.I c7,.B o]:=of_eq (b:=let w7:=[c1,c2,c3,c4,c5,c6,c7];let w6:=[s1,s2,s3,s4,s5,s6,s7];let w5:=[b1,b2,b3,b4,b5,b6,b7];let w4:=[a0,a1,a2,a3,a4,a5,a6,a7];let w3:=[c0,c1,c2,c3,c4,c5,c6,c7];let w2:=[s0,s1,s2,s3,s4,s5,s6,s7];let w1:=[b0,b1,b2,b3,b4,b5,b6,b7];let w0:=(⟨w1,w4,⟨ep,op,nx,nd,hv,bn⟩,w2,w3,o⟩ : RV);let v0:=(b0 = b0 /\ b1 = b1 /\ b2 = b2 /\ b3 = b3 /\ b4 = b4 /\ b5 = b5 /\ b6 = b6 /\ b7 = b7 /\ a0 = a0 /\ a1 = a1 /\ a2 = a2 /\ a3 = a3 /\ a4 = a4 /\ a5 = a5 /\ a6 = a6 /\ a7 = a7 /\ ep = ep /\ op = op /\ nx = nx /\ nd = nd /\ hv = hv /\ bn = bn /\ s0 = s0 /\ s1 = s1 /\ s2 = s2 /\ s3 = s3 /\ s4 = s4 /\ s5 = s5 /\ s6 = s6 /\ s7 = s7 /\ c0 = c0 /\ c1 = c1 /\ c2 = c2 /\ c3 = c3 /\ c4 = c4 /\ c5 = c5 /\ c6 = c6 /\ c7 = c7 /\ o = o) /\ True;let v1:=b0 = b0 /\ b1 = b1 /\ b2 = b2 /\ b3 = b3 /\ b4 = b4 /\ b5 = b5 /\ b6 = b6 /\ b7 = b7;let v2:=(c1 < 0 -> ∀ (y : Bool),y = goodRm w0 -> false = y) /\ (¬c1 < 0 -> (ep < c1 -> ∀ (y : Bool),y = goodRm w0 -> false = y) /\ (¬ep < c1 -> ((((0 : Nat) = 0 /\ (0 : Nat) = 0) /\ (v1) /\ (2 : Int) = 2 /\ True) /\ v0) /\ Lf (chkGo ep w1 w2 w3 = chkGo ep [b2,b3,b4,b5,b6,b7] [s2,s3,s4,s5,s6,s7] [c2,c3,c4,c5,c6,c7])));let v3:=(c2 < 0 -> ∀ (y : Bool),y = goodRm w0 -> false = y) /\ (¬c2 < 0 -> (ep < c2 -> ∀ (y : Bool),y = goodRm w0 -> false = y) /\ (¬ep < c2 -> ((((0 : Nat) = 0 /\ (0 : Nat) = 0) /\ (v1) /\ (3 : Int) = 3 /\ True) /\ v0) /\ Lf (chkGo ep w1 w2 w3 = chkGo ep [b3,b4,b5,b6,b7] [s3,s4,s5,s6,s7] [c3,c4,c5,c6,c7])));let v4:=(c3 < 0 -> ∀ (y : Bool),y = goodRm w0 -> false = y) /\ (¬c3 < 0 -> (ep < c3 -> ∀ (y : Bool),y = goodRm w0 -> false = y) /\ (¬ep < c3 -> ((((0 : Nat) = 0 /\ (0 : Nat) = 0) /\ (v1) /\ (4 : Int) = 4 /\ True) /\ v0) /\ Lf (chkGo ep w1 w2 w3 = chkGo ep [b4,b5,b6,b7] [s4,s5,s6,s7] [c4,c5,c6,c7])));let v5:=(c7 < 0 -> ∀ (y : Bool),y = goodRm w0 -> false = y) /\ (¬c7 < 0 -> (ep < c7 -> ∀ (y : Bool),y = goodRm w0 -> false = y) /\ (¬ep < c7 -> ((((0 : Nat) = 0 /\ (0 : Nat) = 0) /\ (v1) /\ (8 : Int) = 8 /\ True) /\ v0) /\ Lf (chkGo ep w1 w2 w3 = chkGo ep ([] : List Bool) ([] : List Int) ([] : List Int))));let v6:=(c4 < 0 -> ∀ (y : Bool),y = goodRm w0 -> false = y) /\ (¬c4 < 0 -> (ep < c4 -> ∀ (y : Bool),y = goodRm w0 -> false = y) /\ (¬ep < c4 -> ((((0 : Nat) = 0 /\ (0 : Nat) = 0) /\ (v1) /\ (5 : Int) = 5 /\ True) /\ v0) /\ Lf (chkGo ep w1 w2 w3 = chkGo ep [b5,b6,b7] [s5,s6,s7] [c5,c6,c7])));let v7:=(c5 < 0 -> ∀ (y : Bool),y = goodRm w0 -> false = y) /\ (¬c5 < 0 -> (ep < c5 -> ∀ (y : Bool),y = goodRm w0 -> false = y) /\ (¬ep < c5 -> ((((0 : Nat) = 0 /\ (0 : Nat) = 0) /\ (v1) /\ (6 : Int) = 6 /\ True) /\ v0) /\ Lf (chkGo ep w1 w2 w3 = chkGo ep [b6,b7] [s6,s7] [c6,c7])));let v8:=(c6 < 0 -> ∀ (y : Bool),y = goodRm w0 -> false = y) /\ (¬c6 < 0 -> (ep < c6 -> ∀ (y : Bool),y = goodRm w0 -> false = y) /\ (¬ep < c6 -> ((((0 : Nat) = 0 /\ (0 : Nat) = 0) /\ (v1) /\ (7 : Int) = 7 /\ True) /\ v0) /\ Lf (chkGo ep w1 w2 w3 = chkGo ep [b7] [s7] [c7])));let v9:=(c0 < 0 -> ∀ (y : Bool),y = goodRm w0 -> false = y) /\ (¬c0 < 0 -> (ep < c0 -> ∀ (y : Bool),y = goodRm w0 -> false = y) /\ (¬ep < c0 -> ((((0 : Nat) = 0 /\ (0 : Nat) = 0) /\ (v1) /\ (1 : Int) = 1 /\ True) /\ v0) /\ Lf (chkGo ep w1 w2 w3 = chkGo ep w5 w6 w7)));let v10:=fun (x : Int)=>((!o) = true -> ∀ (y : Bool),y = goodRm w0 -> true = y) /\ ((!o) = false -> (x = 0 -> ∀ (y : Bool),y = goodRm w0 -> true = y) /\ (¬x = 0 -> ∀ (y : Bool),y = goodRm w0 -> false = y));∀ (x : Bool),x = goodGo w1 w4 0 w1 w4 -> ((!x) = true -> ∀ (y : Bool),y = goodRm w0 -> false = y) /\ ((!x) = false -> ∀ (x : Bool),x = goodS (⟨ep,op,nx,nd,hv,bn⟩ : RS) -> ((!x) = true -> ∀ (y : Bool),y = goodRm w0 -> false = y) /\ ((!x) = false -> (((((0 : Nat) = 0 /\ (0 : Nat) = 0) /\ (v1) /\ (0 : Int) = 0 /\ True) /\ v0) /\ Lf (chkGo ep w1 w2 w3 = chkGo ep w1 w2 w3)) /\ (∀ (x : Unit),chkGo ep w1 w2 w3 = chkGo ep w1 w2 w3 -> ((!b0) = true -> (s0 = 0 -> (c0 = 0 -> v9) /\ (¬c0 = 0 -> ∀ (y : Bool),y = goodRm w0 -> false = y)) /\ (¬s0 = 0 -> ∀ (y : Bool),y = goodRm w0 -> false = y)) /\ ((!b0) = false -> v9)) /\ (∀ (x : Unit),chkGo ep w1 w2 w3 = chkGo ep w5 w6 w7 -> ((!b1) = true -> (s1 = 0 -> (c1 = 0 -> v2) /\ (¬c1 = 0 -> ∀ (y : Bool),y = goodRm w0 -> false = y)) /\ (¬s1 = 0 -> ∀ (y : Bool),y = goodRm w0 -> false = y)) /\ ((!b1) = false -> v2)) /\ (∀ (x : Unit),chkGo ep w1 w2 w3 = chkGo ep [b2,b3,b4,b5,b6,b7] [s2,s3,s4,s5,s6,s7] [c2,c3,c4,c5,c6,c7] -> ((!b2) = true -> (s2 = 0 -> (c2 = 0 -> v3) /\ (¬c2 = 0 -> ∀ (y : Bool),y = goodRm w0 -> false = y)) /\ (¬s2 = 0 -> ∀ (y : Bool),y = goodRm w0 -> false = y)) /\ ((!b2) = false -> v3)) /\ (∀ (x : Unit),chkGo ep w1 w2 w3 = chkGo ep [b3,b4,b5,b6,b7] [s3,s4,s5,s6,s7] [c3,c4,c5,c6,c7] -> ((!b3) = true -> (s3 = 0 -> (c3 = 0 -> v4) /\ (¬c3 = 0 -> ∀ (y : Bool),y = goodRm w0 -> false = y)) /\ (¬s3 = 0 -> ∀ (y : Bool),y = goodRm w0 -> false = y)) /\ ((!b3) = false -> v4)) /\ (∀ (x : Unit),chkGo ep w1 w2 w3 = chkGo ep [b4,b5,b6,b7] [s4,s5,s6,s7] [c4,c5,c6,c7] -> ((!b4) = true -> (s4 = 0 -> (c4 = 0 -> v6) /\ (¬c4 = 0 -> ∀ (y : Bool),y = goodRm w0 -> false = y)) /\ (¬s4 = 0 -> ∀ (y : Bool),y = goodRm w0 -> false = y)) /\ ((!b4) = false -> v6)) /\ (∀ (x : Unit),chkGo ep w1 w2 w3 = chkGo ep [b5,b6,b7] [s5,s6,s7] [c5,c6,c7] -> ((!b5) = true -> (s5 = 0 -> (c5 = 0 -> v7) /\ (¬c5 = 0 -> ∀ (y : Bool),y = goodRm w0 -> false = y)) /\ (¬s5 = 0 -> ∀ (y : Bool),y = goodRm w0 -> false = y)) /\ ((!b5) = false -> v7)) /\ (∀ (x : Unit),chkGo ep w1 w2 w3 = chkGo ep [b6,b7] [s6,s7] [c6,c7] -> ((!b6) = true -> (s6 = 0 -> (c6 = 0 -> v8) /\ (¬c6 = 0 -> ∀ (y : Bool),y = goodRm w0 -> false = y)) /\ (¬s6 = 0 -> ∀ (y : Bool),y = goodRm w0 -> false = y)) /\ ((!b6) = false -> v8)) /\ (∀ (x : Unit),chkGo ep w1 w2 w3 = chkGo ep [b7] [s7] [c7] -> ((!b7) = true -> (s7 = 0 -> (c7 = 0 -> v5) /\ (¬c7 = 0 -> ∀ (y : Bool),y = goodRm w0 -> false = y)) /\ (¬s7 = 0 -> ∀ (y : Bool),y = goodRm w0 -> false = y)) /\ ((!b7) = false -> v5)) /\ ∀ (x : Unit),chkGo ep w1 w2 w3 = chkGo ep ([] : List Bool) ([] : List Int) ([] : List Int) -> ∀ (x : Int),x = maskG w1 w4 -> ((!op) = true -> (v10 x)) /\ ((!op) = false -> ∀ (x_1 : Int),x_1 = bits BinOp.andNot IntKind.i64 nd x -> (x_1 = 0 -> (v10 x)) /\ (¬x_1 = 0 -> ∀ (y : Bool),y = goodRm w0 -> false = y))))) (by kernel_rfl) (by
 dsimp only
 repeat' (first | apply And.intro | apply Lf.mk | intro _)
 all_goals first
  | with_reducible trivial
  | with_reducible rfl
  | exact Eq.trans (by assumption) (chk_a (by assumption) (by assumption) (by assumption) (by assumption) (by assumption))
  | exact Eq.trans (by assumption) (chk_b (by assumption) (by assumption) (by assumption))
  | exact good_no (by assumption) (Eq.trans (by assumption) (chk_no (.inr (.inl (by assumption)))))
  | exact good_no (by assumption) (Eq.trans (by assumption) (chk_no (.inr (.inr (by assumption)))))
  | exact good_no (by assumption) (Eq.trans (by assumption) (chk_no (.inl ⟨by assumption,.inl (by assumption)⟩)))
  | exact good_no (by assumption) (Eq.trans (by assumption) (chk_no (.inl ⟨by assumption,.inr (by assumption)⟩)))
  | exact good_t (by assumption) (by assumption) (by assumption)
  | exact good_s (by assumption) (by assumption) (by assumption)
  | exact end_1 (good_end (by assumption) (by assumption) (by assumption) (by assumption) (by assumption) (by assumption)) (by assumption) (by assumption)
  | exact end_2 (good_end (by assumption) (by assumption) (by assumption) (by assumption) (by assumption) (by assumption)) (by assumption) (by assumption) (by assumption)
  | exact end_3 (good_end (by assumption) (by assumption) (by assumption) (by assumption) (by assumption) (by assumption)) (by assumption) (by assumption) (by assumption)
  | exact end_4 (good_end (by assumption) (by assumption) (by assumption) (by assumption) (by assumption) (by assumption)) (by assumption) (by assumption) (by assumption) (by assumption)
  | exact end_5 (good_end (by assumption) (by assumption) (by assumption) (by assumption) (by assumption) (by assumption)) (by assumption) (by assumption) (by assumption) (by assumption)
  | exact end_7 (good_end (by assumption) (by assumption) (by assumption) (by assumption) (by assumption) (by assumption)) (by assumption) (by assumption) (by assumption) (by assumption))
set_option maxRecDepth 100000 in
theorem goodRm_ok : SpecOk Tryz.prog 15 goodRmC.spec:=goodRmC.ok envM0_ok mixed (C:=ctl1 4 goodRmAnn) Tryz.func15 rfl fun L h hp=>by
 obtain ⟨b0,b1,b2,b3,b4,b5,b6,b7,a0,a1,a2,a3,a4,a5,a6,a7,ep,op,nx,nd,hv,bn,s0,s1,s2,s3,s4,s5,s6,s7,c0,c1,c2,c3,c4,c5,c6,c7,o,_,rfl,h1⟩:=fit_room h
 obtain rfl:=fit_nil h1
 exact goodRm_vc b0 b1 b2 b3 b4 b5 b6 b7 a0 a1 a2 a3 a4 a5 a6 a7 ep op nx nd hv bn s0 s1 s2 s3 s4 s5 s6 s7 c0 c1 c2 c3 c4 c5 c6 c7 o
end Zx.Zr
namespace Zx.Zr
open Go Go.Proofs Go.RowKit
set_option maxHeartbeats 0 in
set_option maxRecDepth 100000 in
theorem goneRm_vc (b0 b1 b2 b3 b4 b5 b6 b7 : Bool) (a0 a1 a2 a3 a4 a5 a6 a7 : Int) (ep : Int) (op : Bool) (nx nd hv bn : Int) (s0 s1 s2 s3 s4 s5 s6 s7 c0 c1 c2 c3 c4 c5 c6 c7 : Int) (o : Bool) (x : Int) (y : Int) (hx : 0 <= x /\ x < 8) : goneC.vc Tryz.prog (envL envM0) (ctlP 2 1) Tryz.f94 [.B b0,.B b1,.B b2,.B b3,.B b4,.B b5,.B b6,.B b7,.I a0,.I a1,.I a2,.I a3,.I a4,.I a5,.I a6,.I a7,.I ep,.B op,.I nx,.I nd,.I hv,.I bn,.I s0,.I s1,.I s2,.I s3,.I s4,.I s5,.I s6,.I s7,.I c0,.I c1,.I c2,.I c3,.I c4,.I c5,.I c6,.I c7,.B o,.I x,.I y]:=of_eq (b:=let w1:=(⟨ep,op,nx,nd,hv,bn⟩ : RS);let w0:=(⟨[b0,b1,b2,b3,b4,b5,b6,b7],[a0,a1,a2,a3,a4,a5,a6,a7],⟨ep,op,nx,nd,hv,bn⟩,[s0,s1,s2,s3,s4,s5,s6,s7],[c0,c1,c2,c3,c4,c5,c6,c7],o⟩ : RV);let v0:=fun (x_3 : RS × Int)=>(¬x_3.2 = 0 -> ∀ (y_1 : RV),y_1 = goneG w0 x y -> eB false false false false false false false false y_1.1 (eI 0 0 0 0 0 0 0 0 y_1.2 (eK ep false 0 0 0 0 y_1.3 (eI 0 0 0 0 0 0 0 0 y_1.4 (eI 0 0 0 0 0 0 0 0 y_1.5 (true = y_1.6))))));∀ (x_1 : (List Bool × List Int) × Int),x_1 = freeG [b0,b1,b2,b3,b4,b5,b6,b7] [a0,a1,a2,a3,a4,a5,a6,a7] x -> Lf (0 <= x /\ x < 8) /\ (x = 0 -> ∀ (x_2 : Int),x_2 = maskG (jB x_1.1.1) (jI x_1.1.2) -> ∀ (x_3 : RS × Int),x_3 = raiseF w1 x_2 y -> (x_3.2 = 0 -> ∀ (y_1 : RV),y_1 = goneG w0 x y -> uB x_1.1.1 y_1.1 (uI x_1.1.2 y_1.2 (eK x_3.1.1 x_3.1.2 x_3.1.3 x_3.1.4 x_3.1.5 x_3.1.6 y_1.3 (eI 0 s1 s2 s3 s4 s5 s6 s7 y_1.4 (eI 0 c1 c2 c3 c4 c5 c6 c7 y_1.5 (o = y_1.6)))))) /\ (v0 x_3)) /\ (x = 1 -> ∀ (x_2 : Int),x_2 = maskG (jB x_1.1.1) (jI x_1.1.2) -> ∀ (x_3 : RS × Int),x_3 = raiseF w1 x_2 y -> (x_3.2 = 0 -> ∀ (y_1 : RV),y_1 = goneG w0 x y -> uB x_1.1.1 y_1.1 (uI x_1.1.2 y_1.2 (eK x_3.1.1 x_3.1.2 x_3.1.3 x_3.1.4 x_3.1.5 x_3.1.6 y_1.3 (eI s0 0 s2 s3 s4 s5 s6 s7 y_1.4 (eI c0 0 c2 c3 c4 c5 c6 c7 y_1.5 (o = y_1.6)))))) /\ (v0 x_3)) /\ (x = 2 -> ∀ (x_2 : Int),x_2 = maskG (jB x_1.1.1) (jI x_1.1.2) -> ∀ (x_3 : RS × Int),x_3 = raiseF w1 x_2 y -> (x_3.2 = 0 -> ∀ (y_1 : RV),y_1 = goneG w0 x y -> uB x_1.1.1 y_1.1 (uI x_1.1.2 y_1.2 (eK x_3.1.1 x_3.1.2 x_3.1.3 x_3.1.4 x_3.1.5 x_3.1.6 y_1.3 (eI s0 s1 0 s3 s4 s5 s6 s7 y_1.4 (eI c0 c1 0 c3 c4 c5 c6 c7 y_1.5 (o = y_1.6)))))) /\ (v0 x_3)) /\ (x = 3 -> ∀ (x_2 : Int),x_2 = maskG (jB x_1.1.1) (jI x_1.1.2) -> ∀ (x_3 : RS × Int),x_3 = raiseF w1 x_2 y -> (x_3.2 = 0 -> ∀ (y_1 : RV),y_1 = goneG w0 x y -> uB x_1.1.1 y_1.1 (uI x_1.1.2 y_1.2 (eK x_3.1.1 x_3.1.2 x_3.1.3 x_3.1.4 x_3.1.5 x_3.1.6 y_1.3 (eI s0 s1 s2 0 s4 s5 s6 s7 y_1.4 (eI c0 c1 c2 0 c4 c5 c6 c7 y_1.5 (o = y_1.6)))))) /\ (v0 x_3)) /\ (x = 4 -> ∀ (x_2 : Int),x_2 = maskG (jB x_1.1.1) (jI x_1.1.2) -> ∀ (x_3 : RS × Int),x_3 = raiseF w1 x_2 y -> (x_3.2 = 0 -> ∀ (y_1 : RV),y_1 = goneG w0 x y -> uB x_1.1.1 y_1.1 (uI x_1.1.2 y_1.2 (eK x_3.1.1 x_3.1.2 x_3.1.3 x_3.1.4 x_3.1.5 x_3.1.6 y_1.3 (eI s0 s1 s2 s3 0 s5 s6 s7 y_1.4 (eI c0 c1 c2 c3 0 c5 c6 c7 y_1.5 (o = y_1.6)))))) /\ (v0 x_3)) /\ (x = 5 -> ∀ (x_2 : Int),x_2 = maskG (jB x_1.1.1) (jI x_1.1.2) -> ∀ (x_3 : RS × Int),x_3 = raiseF w1 x_2 y -> (x_3.2 = 0 -> ∀ (y_1 : RV),y_1 = goneG w0 x y -> uB x_1.1.1 y_1.1 (uI x_1.1.2 y_1.2 (eK x_3.1.1 x_3.1.2 x_3.1.3 x_3.1.4 x_3.1.5 x_3.1.6 y_1.3 (eI s0 s1 s2 s3 s4 0 s6 s7 y_1.4 (eI c0 c1 c2 c3 c4 0 c6 c7 y_1.5 (o = y_1.6)))))) /\ (v0 x_3)) /\ (x = 6 -> ∀ (x_2 : Int),x_2 = maskG (jB x_1.1.1) (jI x_1.1.2) -> ∀ (x_3 : RS × Int),x_3 = raiseF w1 x_2 y -> (x_3.2 = 0 -> ∀ (y_1 : RV),y_1 = goneG w0 x y -> uB x_1.1.1 y_1.1 (uI x_1.1.2 y_1.2 (eK x_3.1.1 x_3.1.2 x_3.1.3 x_3.1.4 x_3.1.5 x_3.1.6 y_1.3 (eI s0 s1 s2 s3 s4 s5 0 s7 y_1.4 (eI c0 c1 c2 c3 c4 c5 0 c7 y_1.5 (o = y_1.6)))))) /\ (v0 x_3)) /\ (x = 7 -> ∀ (x_2 : Int),x_2 = maskG (jB x_1.1.1) (jI x_1.1.2) -> ∀ (x_3 : RS × Int),x_3 = raiseF w1 x_2 y -> (x_3.2 = 0 -> ∀ (y_1 : RV),y_1 = goneG w0 x y -> uB x_1.1.1 y_1.1 (uI x_1.1.2 y_1.2 (eK x_3.1.1 x_3.1.2 x_3.1.3 x_3.1.4 x_3.1.5 x_3.1.6 y_1.3 (eI s0 s1 s2 s3 s4 s5 s6 0 y_1.4 (eI c0 c1 c2 c3 c4 c5 c6 0 y_1.5 (o = y_1.6)))))) /\ (v0 x_3)) /\ True) (by kernel_rfl) (by
 dsimp only [jB,jI,eB,eI,uB,uI,oB,oI,eK]
 intro f hf
 have e1:=ex8b (l:=f.1.1) (by rw [hf];exact (free_len _ _ _).1)
 have e2:=ex8i (l:=f.1.2) (by rw [hf];exact (free_len _ _ _).2)
 simp only [e1,e2]
 clear e1 e2
 subst hf
 refine ⟨⟨hx⟩, ?_⟩
 repeat' (first | apply And.intro | apply Lf.mk | (intro h;dsimp only [goneG] at h;(repeat (first | rw [if_pos (by assumption)] at h | rw [if_neg (by assumption)] at h | rw [if_neg (Bool.eq_false_iff.1 (by assumption))] at h | rw [if_pos rfl] at h | rw [if_neg Bool.false_ne_true] at h));subst h) | (intro h;subst h) | intro _)
 all_goals first
  | with_reducible trivial
  | rfl
  | omega
  | exact (findRm_bd _ _ rfl (by assumption)).1
  | exact (findRm_bd _ _ rfl (by assumption)).2
  | exact (take_slot _ _ _ rfl (by assumption)).1
  | exact (take_slot _ _ _ rfl (by assumption)).2
  | exact (free_slot _ _ _ (by assumption)).1
  | exact (free_slot _ _ _ (by assumption)).2
  | (simp only [*];rfl)
  | (dsimp only;exact Eq.symm (by assumption)))
set_option maxRecDepth 100000 in
theorem goneRm_ok : SpecOk Tryz.prog 94 goneC.spec:=goneC.ok envM0_ok mixed (C:=ctlP 2 1) Tryz.func94 rfl fun L h hp=>by
 obtain ⟨b0,b1,b2,b3,b4,b5,b6,b7,a0,a1,a2,a3,a4,a5,a6,a7,ep,op,nx,nd,hv,bn,s0,s1,s2,s3,s4,s5,s6,s7,c0,c1,c2,c3,c4,c5,c6,c7,o,_,rfl,h1⟩:=fit_room h
 obtain ⟨x,_,rfl,h2⟩:=fit_i h1
 obtain ⟨y,_,rfl,h3⟩:=fit_i h2
 obtain rfl:=fit_nil h3
 exact goneRm_vc b0 b1 b2 b3 b4 b5 b6 b7 a0 a1 a2 a3 a4 a5 a6 a7 ep op nx nd hv bn s0 s1 s2 s3 s4 s5 s6 s7 c0 c1 c2 c3 c4 c5 c6 c7 o x y hp
theorem envM1_ok : EnvOk Tryz.prog (envL envM1):=(envL_cons ⟨_,Tryz.func15,rfl,by kernel_rfl⟩ goodRm_ok (envL_cons ⟨_,Tryz.func94,rfl,by kernel_rfl⟩ goneRm_ok envM0_ok))
set_option maxHeartbeats 0 in
set_option maxRecDepth 100000 in
theorem findRm_vc (b0 b1 b2 b3 b4 b5 b6 b7 : Bool) (a0 a1 a2 a3 a4 a5 a6 a7 : Int) (ep : Int) (op : Bool) (nx nd hv bn : Int) (s0 s1 s2 s3 s4 s5 s6 s7 c0 c1 c2 c3 c4 c5 c6 c7 : Int) (o : Bool) (x : Int) : findRmC.vc Tryz.prog (envL envM1) noCtl Tryz.f97 [.B b0,.B b1,.B b2,.B b3,.B b4,.B b5,.B b6,.B b7,.I a0,.I a1,.I a2,.I a3,.I a4,.I a5,.I a6,.I a7,.I ep,.B op,.I nx,.I nd,.I hv,.I bn,.I s0,.I s1,.I s2,.I s3,.I s4,.I s5,.I s6,.I s7,.I c0,.I c1,.I c2,.I c3,.I c4,.I c5,.I c6,.I c7,.B o,.I x]:=of_eq (b:=let w0:=(⟨[b0,b1,b2,b3,b4,b5,b6,b7],[a0,a1,a2,a3,a4,a5,a6,a7],⟨ep,op,nx,nd,hv,bn⟩,[s0,s1,s2,s3,s4,s5,s6,s7],[c0,c1,c2,c3,c4,c5,c6,c7],o⟩ : RV);∀ (x_1 : Bool),x_1 = goodRm w0 -> ((!x_1) = true -> ∀ (y : Int × Int),y = findRm w0 x -> 0 = y.1 /\ 1 = y.2 /\ True) /\ ((!x_1) = false -> ∀ (x_2 : Int × Bool),x_2 = findG [b0,b1,b2,b3,b4,b5,b6,b7] [a0,a1,a2,a3,a4,a5,a6,a7] x -> ((!x_2.2) = true -> ∀ (y : Int × Int),y = findRm w0 x -> 0 = y.1 /\ 6 = y.2 /\ True) /\ ((!x_2.2) = false -> ∀ (y : Int × Int),y = findRm w0 x -> x_2.1 = y.1 /\ 0 = y.2 /\ True))) (by kernel_rfl) (by
 dsimp only
 repeat' (first | apply And.intro | apply Lf.mk | (intro h;dsimp only [findRm] at h;(repeat (first | rw [if_pos (by assumption)] at h | rw [if_neg (by assumption)] at h | rw [if_neg (Bool.eq_false_iff.1 (by assumption))] at h | rw [if_pos rfl] at h | rw [if_neg Bool.false_ne_true] at h));subst h) | (intro h;subst h) | intro _)
 all_goals first
  | with_reducible trivial
  | rfl
  | omega
  | exact (findRm_bd _ _ rfl (by assumption)).1
  | exact (findRm_bd _ _ rfl (by assumption)).2
  | exact (take_slot _ _ _ rfl (by assumption)).1
  | exact (take_slot _ _ _ rfl (by assumption)).2
  | exact (free_slot _ _ _ (by assumption)).1
  | exact (free_slot _ _ _ (by assumption)).2
  | (simp only [*];rfl)
  | (dsimp only;exact Eq.symm (by assumption)))
set_option maxRecDepth 100000 in
theorem findRm_ok : SpecOk Tryz.prog 97 findRmC.spec:=findRmC.ok envM1_ok mixed (C:=noCtl) Tryz.func97 rfl fun L h hp=>by
 obtain ⟨b0,b1,b2,b3,b4,b5,b6,b7,a0,a1,a2,a3,a4,a5,a6,a7,ep,op,nx,nd,hv,bn,s0,s1,s2,s3,s4,s5,s6,s7,c0,c1,c2,c3,c4,c5,c6,c7,o,_,rfl,h1⟩:=fit_room h
 obtain ⟨x,_,rfl,h2⟩:=fit_i h1
 obtain rfl:=fit_nil h2
 exact findRm_vc b0 b1 b2 b3 b4 b5 b6 b7 a0 a1 a2 a3 a4 a5 a6 a7 ep op nx nd hv bn s0 s1 s2 s3 s4 s5 s6 s7 c0 c1 c2 c3 c4 c5 c6 c7 o x
theorem envM2_ok : EnvOk Tryz.prog (envL envM2):=(envL_cons ⟨_,Tryz.func97,rfl,by kernel_rfl⟩ findRm_ok envM1_ok)
set_option maxHeartbeats 0 in
set_option maxRecDepth 100000 in
theorem leaveRm_vc (b0 b1 b2 b3 b4 b5 b6 b7 : Bool) (a0 a1 a2 a3 a4 a5 a6 a7 : Int) (ep : Int) (op : Bool) (nx nd hv bn : Int) (s0 s1 s2 s3 s4 s5 s6 s7 c0 c1 c2 c3 c4 c5 c6 c7 : Int) (o : Bool) (x : Int) (y : Int) : leaveRmC.vc Tryz.prog (envL envM2) (noCtl) Tryz.f87 [.B b0,.B b1,.B b2,.B b3,.B b4,.B b5,.B b6,.B b7,.I a0,.I a1,.I a2,.I a3,.I a4,.I a5,.I a6,.I a7,.I ep,.B op,.I nx,.I nd,.I hv,.I bn,.I s0,.I s1,.I s2,.I s3,.I s4,.I s5,.I s6,.I s7,.I c0,.I c1,.I c2,.I c3,.I c4,.I c5,.I c6,.I c7,.B o,.I x,.I y]:=of_eq (b:=let w0:=(⟨[b0,b1,b2,b3,b4,b5,b6,b7],[a0,a1,a2,a3,a4,a5,a6,a7],⟨ep,op,nx,nd,hv,bn⟩,[s0,s1,s2,s3,s4,s5,s6,s7],[c0,c1,c2,c3,c4,c5,c6,c7],o⟩ : RV);∀ (x_1 : Int × Int),x_1 = findRm w0 x -> (x_1.2 = 0 -> Lf (0 <= x_1.1 /\ x_1.1 < 8) /\ ∀ (x_2 : RV),x_2 = goneG w0 x_1.1 y -> ∀ (y_1 : RV × Int),y_1 = leaveRm w0 x y -> (uB x_2.1 y_1.1.1 (uI x_2.2 y_1.1.2 (eK x_2.3.1 x_2.3.2 x_2.3.3 x_2.3.4 x_2.3.5 x_2.3.6 y_1.1.3 (uI x_2.4 y_1.1.4 (uI x_2.5 y_1.1.5 (x_2.6 = y_1.1.6)))))) /\ 0 = y_1.2 /\ True) /\ (¬x_1.2 = 0 -> ∀ (y_1 : RV × Int),y_1 = leaveRm w0 x y -> (eB b0 b1 b2 b3 b4 b5 b6 b7 y_1.1.1 (eI a0 a1 a2 a3 a4 a5 a6 a7 y_1.1.2 (eK ep op nx nd hv bn y_1.1.3 (eI s0 s1 s2 s3 s4 s5 s6 s7 y_1.1.4 (eI c0 c1 c2 c3 c4 c5 c6 c7 y_1.1.5 (o = y_1.1.6)))))) /\ x_1.2 = y_1.2 /\ True)) (by kernel_rfl) (by
 dsimp only [jB,jI,eB,eI,uB,uI,oB,oI,eK]
 repeat' (first | apply And.intro | apply Lf.mk | (intro h;dsimp only [leaveRm] at h;(repeat (first | rw [if_pos (by assumption)] at h | rw [if_neg (by assumption)] at h | rw [if_neg (Bool.eq_false_iff.1 (by assumption))] at h | rw [if_pos rfl] at h | rw [if_neg Bool.false_ne_true] at h));subst h) | (intro h;subst h) | intro _)
 all_goals first
  | with_reducible trivial
  | rfl
  | omega
  | exact (findRm_bd _ _ rfl (by assumption)).1
  | exact (findRm_bd _ _ rfl (by assumption)).2
  | exact (take_slot _ _ _ rfl (by assumption)).1
  | exact (take_slot _ _ _ rfl (by assumption)).2
  | exact (free_slot _ _ _ (by assumption)).1
  | exact (free_slot _ _ _ (by assumption)).2
  | (simp only [*];rfl)
  | (dsimp only;exact Eq.symm (by assumption)))
set_option maxRecDepth 100000 in
theorem leaveRm_ok : SpecOk Tryz.prog 87 leaveRmC.spec:=leaveRmC.ok envM2_ok mixed (C:=noCtl) Tryz.func87 rfl fun L h hp=>by
 obtain ⟨b0,b1,b2,b3,b4,b5,b6,b7,a0,a1,a2,a3,a4,a5,a6,a7,ep,op,nx,nd,hv,bn,s0,s1,s2,s3,s4,s5,s6,s7,c0,c1,c2,c3,c4,c5,c6,c7,o,_,rfl,h1⟩:=fit_room h
 obtain ⟨x,_,rfl,h2⟩:=fit_i h1
 obtain ⟨y,_,rfl,h3⟩:=fit_i h2
 obtain rfl:=fit_nil h3
 exact leaveRm_vc b0 b1 b2 b3 b4 b5 b6 b7 a0 a1 a2 a3 a4 a5 a6 a7 ep op nx nd hv bn s0 s1 s2 s3 s4 s5 s6 s7 c0 c1 c2 c3 c4 c5 c6 c7 o x y
set_option maxHeartbeats 0 in
set_option maxRecDepth 100000 in
theorem kickRm_vc (b0 b1 b2 b3 b4 b5 b6 b7 : Bool) (a0 a1 a2 a3 a4 a5 a6 a7 : Int) (ep : Int) (op : Bool) (nx nd hv bn : Int) (s0 s1 s2 s3 s4 s5 s6 s7 c0 c1 c2 c3 c4 c5 c6 c7 : Int) (o : Bool) (x : Int) (y : Int) (z : Int) : kickRmC.vc Tryz.prog (envL envM2) (noCtl) Tryz.f88 [.B b0,.B b1,.B b2,.B b3,.B b4,.B b5,.B b6,.B b7,.I a0,.I a1,.I a2,.I a3,.I a4,.I a5,.I a6,.I a7,.I ep,.B op,.I nx,.I nd,.I hv,.I bn,.I s0,.I s1,.I s2,.I s3,.I s4,.I s5,.I s6,.I s7,.I c0,.I c1,.I c2,.I c3,.I c4,.I c5,.I c6,.I c7,.B o,.I x,.I y,.I z]:=of_eq (b:=let w0:=(⟨[b0,b1,b2,b3,b4,b5,b6,b7],[a0,a1,a2,a3,a4,a5,a6,a7],⟨ep,op,nx,nd,hv,bn⟩,[s0,s1,s2,s3,s4,s5,s6,s7],[c0,c1,c2,c3,c4,c5,c6,c7],o⟩ : RV);let v0:=fun (y_1 : RV × Int)=>eB b0 b1 b2 b3 b4 b5 b6 b7 y_1.1.1 (eI a0 a1 a2 a3 a4 a5 a6 a7 y_1.1.2 (eK ep op nx nd hv bn y_1.1.3 (eI s0 s1 s2 s3 s4 s5 s6 s7 y_1.1.4 (eI c0 c1 c2 c3 c4 c5 c6 c7 y_1.1.5 (o = y_1.1.6)))));∀ (x_1 : Int × Int),x_1 = findRm w0 x -> (x_1.2 = 0 -> ∀ (x_2 : Int × Bool),x_2 = firstG [b0,b1,b2,b3,b4,b5,b6,b7] [a0,a1,a2,a3,a4,a5,a6,a7] -> (x_2.1 = x_1.1 -> ∀ (x_3 : (List Bool × List Int) × Int),x_3 = freeG [b0,b1,b2,b3,b4,b5,b6,b7] [a0,a1,a2,a3,a4,a5,a6,a7] y -> (x_3.2 = 0 -> Lf (0 <= y /\ y < 8) /\ ∀ (x_4 : RV),x_4 = goneG w0 y z -> ∀ (y_1 : RV × Int),y_1 = kickRm w0 x y z -> (uB x_4.1 y_1.1.1 (uI x_4.2 y_1.1.2 (eK x_4.3.1 x_4.3.2 x_4.3.3 x_4.3.4 x_4.3.5 x_4.3.6 y_1.1.3 (uI x_4.4 y_1.1.4 (uI x_4.5 y_1.1.5 (x_4.6 = y_1.1.6)))))) /\ 0 = y_1.2 /\ True) /\ (¬x_3.2 = 0 -> ∀ (y_1 : RV × Int),y_1 = kickRm w0 x y z -> ((v0 y_1)) /\ x_3.2 = y_1.2 /\ True)) /\ (¬x_2.1 = x_1.1 -> ∀ (y_1 : RV × Int),y_1 = kickRm w0 x y z -> ((v0 y_1)) /\ 13 = y_1.2 /\ True)) /\ (¬x_1.2 = 0 -> ∀ (y_1 : RV × Int),y_1 = kickRm w0 x y z -> ((v0 y_1)) /\ x_1.2 = y_1.2 /\ True)) (by kernel_rfl) (by
 dsimp only [jB,jI,eB,eI,uB,uI,oB,oI,eK]
 repeat' (first | apply And.intro | apply Lf.mk | (intro h;dsimp only [kickRm] at h;(repeat (first | rw [if_pos (by assumption)] at h | rw [if_neg (by assumption)] at h | rw [if_neg (Bool.eq_false_iff.1 (by assumption))] at h | rw [if_pos rfl] at h | rw [if_neg Bool.false_ne_true] at h));subst h) | (intro h;subst h) | intro _)
 all_goals first
  | with_reducible trivial
  | rfl
  | omega
  | exact (findRm_bd _ _ rfl (by assumption)).1
  | exact (findRm_bd _ _ rfl (by assumption)).2
  | exact (take_slot _ _ _ rfl (by assumption)).1
  | exact (take_slot _ _ _ rfl (by assumption)).2
  | exact (free_slot _ _ _ (by assumption)).1
  | exact (free_slot _ _ _ (by assumption)).2
  | (simp only [*];rfl)
  | (dsimp only;exact Eq.symm (by assumption)))
set_option maxRecDepth 100000 in
theorem kickRm_ok : SpecOk Tryz.prog 88 kickRmC.spec:=kickRmC.ok envM2_ok mixed (C:=noCtl) Tryz.func88 rfl fun L h hp=>by
 obtain ⟨b0,b1,b2,b3,b4,b5,b6,b7,a0,a1,a2,a3,a4,a5,a6,a7,ep,op,nx,nd,hv,bn,s0,s1,s2,s3,s4,s5,s6,s7,c0,c1,c2,c3,c4,c5,c6,c7,o,_,rfl,h1⟩:=fit_room h
 obtain ⟨x,_,rfl,h2⟩:=fit_i h1
 obtain ⟨y,_,rfl,h3⟩:=fit_i h2
 obtain ⟨z,_,rfl,h4⟩:=fit_i h3
 obtain rfl:=fit_nil h4
 exact kickRm_vc b0 b1 b2 b3 b4 b5 b6 b7 a0 a1 a2 a3 a4 a5 a6 a7 ep op nx nd hv bn s0 s1 s2 s3 s4 s5 s6 s7 c0 c1 c2 c3 c4 c5 c6 c7 o x y z
set_option maxHeartbeats 0 in
set_option maxRecDepth 100000 in
theorem aliveRm_vc (b0 b1 b2 b3 b4 b5 b6 b7 : Bool) (a0 a1 a2 a3 a4 a5 a6 a7 : Int) (ep : Int) (op : Bool) (nx nd hv bn : Int) (s0 s1 s2 s3 s4 s5 s6 s7 c0 c1 c2 c3 c4 c5 c6 c7 : Int) (o : Bool) (x : Int) (y : Int) : aliveRmC.vc Tryz.prog (envL envM2) (ctlP 4 8) Tryz.f62 [.B b0,.B b1,.B b2,.B b3,.B b4,.B b5,.B b6,.B b7,.I a0,.I a1,.I a2,.I a3,.I a4,.I a5,.I a6,.I a7,.I ep,.B op,.I nx,.I nd,.I hv,.I bn,.I s0,.I s1,.I s2,.I s3,.I s4,.I s5,.I s6,.I s7,.I c0,.I c1,.I c2,.I c3,.I c4,.I c5,.I c6,.I c7,.B o,.I x,.I y]:=of_eq (b:=let w0:=(⟨[b0,b1,b2,b3,b4,b5,b6,b7],[a0,a1,a2,a3,a4,a5,a6,a7],⟨ep,op,nx,nd,hv,bn⟩,[s0,s1,s2,s3,s4,s5,s6,s7],[c0,c1,c2,c3,c4,c5,c6,c7],o⟩ : RV);let v0:=fun (y_1 : RV × Int)=>eI c0 c1 c2 c3 c4 c5 c6 c7 y_1.1.5 (o = y_1.1.6);∀ (x_1 : Int × Int),x_1 = findRm w0 x -> (x_1.2 = 0 -> Lf (0 <= x_1.1 /\ x_1.1 < 8) /\ (x_1.1 = 0 -> ∀ (y_1 : RV × Int),y_1 = aliveRm w0 x y -> (eB b0 b1 b2 b3 b4 b5 b6 b7 y_1.1.1 (eI a0 a1 a2 a3 a4 a5 a6 a7 y_1.1.2 (eK ep op nx nd hv bn y_1.1.3 (eI y s1 s2 s3 s4 s5 s6 s7 y_1.1.4 ((v0 y_1)))))) /\ 0 = y_1.2 /\ True) /\ (x_1.1 = 1 -> ∀ (y_1 : RV × Int),y_1 = aliveRm w0 x y -> (eB b0 b1 b2 b3 b4 b5 b6 b7 y_1.1.1 (eI a0 a1 a2 a3 a4 a5 a6 a7 y_1.1.2 (eK ep op nx nd hv bn y_1.1.3 (eI s0 y s2 s3 s4 s5 s6 s7 y_1.1.4 ((v0 y_1)))))) /\ 0 = y_1.2 /\ True) /\ (x_1.1 = 2 -> ∀ (y_1 : RV × Int),y_1 = aliveRm w0 x y -> (eB b0 b1 b2 b3 b4 b5 b6 b7 y_1.1.1 (eI a0 a1 a2 a3 a4 a5 a6 a7 y_1.1.2 (eK ep op nx nd hv bn y_1.1.3 (eI s0 s1 y s3 s4 s5 s6 s7 y_1.1.4 ((v0 y_1)))))) /\ 0 = y_1.2 /\ True) /\ (x_1.1 = 3 -> ∀ (y_1 : RV × Int),y_1 = aliveRm w0 x y -> (eB b0 b1 b2 b3 b4 b5 b6 b7 y_1.1.1 (eI a0 a1 a2 a3 a4 a5 a6 a7 y_1.1.2 (eK ep op nx nd hv bn y_1.1.3 (eI s0 s1 s2 y s4 s5 s6 s7 y_1.1.4 ((v0 y_1)))))) /\ 0 = y_1.2 /\ True) /\ (x_1.1 = 4 -> ∀ (y_1 : RV × Int),y_1 = aliveRm w0 x y -> (eB b0 b1 b2 b3 b4 b5 b6 b7 y_1.1.1 (eI a0 a1 a2 a3 a4 a5 a6 a7 y_1.1.2 (eK ep op nx nd hv bn y_1.1.3 (eI s0 s1 s2 s3 y s5 s6 s7 y_1.1.4 ((v0 y_1)))))) /\ 0 = y_1.2 /\ True) /\ (x_1.1 = 5 -> ∀ (y_1 : RV × Int),y_1 = aliveRm w0 x y -> (eB b0 b1 b2 b3 b4 b5 b6 b7 y_1.1.1 (eI a0 a1 a2 a3 a4 a5 a6 a7 y_1.1.2 (eK ep op nx nd hv bn y_1.1.3 (eI s0 s1 s2 s3 s4 y s6 s7 y_1.1.4 ((v0 y_1)))))) /\ 0 = y_1.2 /\ True) /\ (x_1.1 = 6 -> ∀ (y_1 : RV × Int),y_1 = aliveRm w0 x y -> (eB b0 b1 b2 b3 b4 b5 b6 b7 y_1.1.1 (eI a0 a1 a2 a3 a4 a5 a6 a7 y_1.1.2 (eK ep op nx nd hv bn y_1.1.3 (eI s0 s1 s2 s3 s4 s5 y s7 y_1.1.4 ((v0 y_1)))))) /\ 0 = y_1.2 /\ True) /\ (x_1.1 = 7 -> ∀ (y_1 : RV × Int),y_1 = aliveRm w0 x y -> (eB b0 b1 b2 b3 b4 b5 b6 b7 y_1.1.1 (eI a0 a1 a2 a3 a4 a5 a6 a7 y_1.1.2 (eK ep op nx nd hv bn y_1.1.3 (eI s0 s1 s2 s3 s4 s5 s6 y y_1.1.4 ((v0 y_1)))))) /\ 0 = y_1.2 /\ True) /\ True) /\ (¬x_1.2 = 0 -> ∀ (y_1 : RV × Int),y_1 = aliveRm w0 x y -> (eB b0 b1 b2 b3 b4 b5 b6 b7 y_1.1.1 (eI a0 a1 a2 a3 a4 a5 a6 a7 y_1.1.2 (eK ep op nx nd hv bn y_1.1.3 (eI s0 s1 s2 s3 s4 s5 s6 s7 y_1.1.4 ((v0 y_1)))))) /\ x_1.2 = y_1.2 /\ True)) (by kernel_rfl) (by
 dsimp only [jB,jI,eB,eI,uB,uI,oB,oI,eK]
 repeat' (first | apply And.intro | apply Lf.mk | (intro h;dsimp only [aliveRm] at h;(repeat (first | rw [if_pos (by assumption)] at h | rw [if_neg (by assumption)] at h | rw [if_neg (Bool.eq_false_iff.1 (by assumption))] at h | rw [if_pos rfl] at h | rw [if_neg Bool.false_ne_true] at h));subst h) | (intro h;subst h) | intro _)
 all_goals first
  | with_reducible trivial
  | rfl
  | omega
  | exact (findRm_bd _ _ rfl (by assumption)).1
  | exact (findRm_bd _ _ rfl (by assumption)).2
  | exact (take_slot _ _ _ rfl (by assumption)).1
  | exact (take_slot _ _ _ rfl (by assumption)).2
  | exact (free_slot _ _ _ (by assumption)).1
  | exact (free_slot _ _ _ (by assumption)).2
  | (simp only [*];rfl)
  | (dsimp only;exact Eq.symm (by assumption)))
set_option maxRecDepth 100000 in
theorem aliveRm_ok : SpecOk Tryz.prog 62 aliveRmC.spec:=aliveRmC.ok envM2_ok mixed (C:=ctlP 4 8) Tryz.func62 rfl fun L h hp=>by
 obtain ⟨b0,b1,b2,b3,b4,b5,b6,b7,a0,a1,a2,a3,a4,a5,a6,a7,ep,op,nx,nd,hv,bn,s0,s1,s2,s3,s4,s5,s6,s7,c0,c1,c2,c3,c4,c5,c6,c7,o,_,rfl,h1⟩:=fit_room h
 obtain ⟨x,_,rfl,h2⟩:=fit_i h1
 obtain ⟨y,_,rfl,h3⟩:=fit_i h2
 obtain rfl:=fit_nil h3
 exact aliveRm_vc b0 b1 b2 b3 b4 b5 b6 b7 a0 a1 a2 a3 a4 a5 a6 a7 ep op nx nd hv bn s0 s1 s2 s3 s4 s5 s6 s7 c0 c1 c2 c3 c4 c5 c6 c7 o x y
set_option maxHeartbeats 0 in
set_option maxRecDepth 100000 in
theorem haveRm_vc (b0 b1 b2 b3 b4 b5 b6 b7 : Bool) (a0 a1 a2 a3 a4 a5 a6 a7 : Int) (ep : Int) (op : Bool) (nx nd hv bn : Int) (s0 s1 s2 s3 s4 s5 s6 s7 c0 c1 c2 c3 c4 c5 c6 c7 : Int) (o : Bool) (x : Int) (y : Int) : haveRmC.vc Tryz.prog (envL envM2) (noCtl) Tryz.f92 [.B b0,.B b1,.B b2,.B b3,.B b4,.B b5,.B b6,.B b7,.I a0,.I a1,.I a2,.I a3,.I a4,.I a5,.I a6,.I a7,.I ep,.B op,.I nx,.I nd,.I hv,.I bn,.I s0,.I s1,.I s2,.I s3,.I s4,.I s5,.I s6,.I s7,.I c0,.I c1,.I c2,.I c3,.I c4,.I c5,.I c6,.I c7,.B o,.I x,.I y]:=of_eq (b:=let w0:=(⟨[b0,b1,b2,b3,b4,b5,b6,b7],[a0,a1,a2,a3,a4,a5,a6,a7],⟨ep,op,nx,nd,hv,bn⟩,[s0,s1,s2,s3,s4,s5,s6,s7],[c0,c1,c2,c3,c4,c5,c6,c7],o⟩ : RV);let v0:=fun (y_1 : RV × Bool × Int)=>eB b0 b1 b2 b3 b4 b5 b6 b7 y_1.1.1 (eI a0 a1 a2 a3 a4 a5 a6 a7 y_1.1.2 (eK ep op nx nd hv bn y_1.1.3 (eI s0 s1 s2 s3 s4 s5 s6 s7 y_1.1.4 (eI c0 c1 c2 c3 c4 c5 c6 c7 y_1.1.5 (o = y_1.1.6)))));∀ (x_1 : Int × Int),x_1 = findRm w0 x -> (x_1.2 = 0 -> ∀ (x_2 : RS × Bool × Int),x_2 = ackF (⟨ep,op,nx,nd,hv,bn⟩ : RS) x_1.1 y -> (x_2.2.2 = 0 -> ∀ (y_1 : RV × Bool × Int),y_1 = haveRm w0 x y -> (eB b0 b1 b2 b3 b4 b5 b6 b7 y_1.1.1 (eI a0 a1 a2 a3 a4 a5 a6 a7 y_1.1.2 (eK x_2.1.1 x_2.1.2 x_2.1.3 x_2.1.4 x_2.1.5 x_2.1.6 y_1.1.3 (eI s0 s1 s2 s3 s4 s5 s6 s7 y_1.1.4 (eI c0 c1 c2 c3 c4 c5 c6 c7 y_1.1.5 (o = y_1.1.6)))))) /\ x_2.2.1 = y_1.2.1 /\ 0 = y_1.2.2 /\ True) /\ (¬x_2.2.2 = 0 -> ∀ (y_1 : RV × Bool × Int),y_1 = haveRm w0 x y -> ((v0 y_1)) /\ false = y_1.2.1 /\ x_2.2.2 = y_1.2.2 /\ True)) /\ (¬x_1.2 = 0 -> ∀ (y_1 : RV × Bool × Int),y_1 = haveRm w0 x y -> ((v0 y_1)) /\ false = y_1.2.1 /\ x_1.2 = y_1.2.2 /\ True)) (by kernel_rfl) (by
 dsimp only [jB,jI,eB,eI,uB,uI,oB,oI,eK]
 repeat' (first | apply And.intro | apply Lf.mk | (intro h;dsimp only [haveRm] at h;(repeat (first | rw [if_pos (by assumption)] at h | rw [if_neg (by assumption)] at h | rw [if_neg (Bool.eq_false_iff.1 (by assumption))] at h | rw [if_pos rfl] at h | rw [if_neg Bool.false_ne_true] at h));subst h) | (intro h;subst h) | intro _)
 all_goals first
  | with_reducible trivial
  | rfl
  | omega
  | exact (findRm_bd _ _ rfl (by assumption)).1
  | exact (findRm_bd _ _ rfl (by assumption)).2
  | exact (take_slot _ _ _ rfl (by assumption)).1
  | exact (take_slot _ _ _ rfl (by assumption)).2
  | exact (free_slot _ _ _ (by assumption)).1
  | exact (free_slot _ _ _ (by assumption)).2
  | (simp only [*];rfl)
  | (dsimp only;exact Eq.symm (by assumption)))
set_option maxRecDepth 100000 in
theorem haveRm_ok : SpecOk Tryz.prog 92 haveRmC.spec:=haveRmC.ok envM2_ok mixed (C:=noCtl) Tryz.func92 rfl fun L h hp=>by
 obtain ⟨b0,b1,b2,b3,b4,b5,b6,b7,a0,a1,a2,a3,a4,a5,a6,a7,ep,op,nx,nd,hv,bn,s0,s1,s2,s3,s4,s5,s6,s7,c0,c1,c2,c3,c4,c5,c6,c7,o,_,rfl,h1⟩:=fit_room h
 obtain ⟨x,_,rfl,h2⟩:=fit_i h1
 obtain ⟨y,_,rfl,h3⟩:=fit_i h2
 obtain rfl:=fit_nil h3
 exact haveRm_vc b0 b1 b2 b3 b4 b5 b6 b7 a0 a1 a2 a3 a4 a5 a6 a7 ep op nx nd hv bn s0 s1 s2 s3 s4 s5 s6 s7 c0 c1 c2 c3 c4 c5 c6 c7 o x y
set_option maxHeartbeats 0 in
set_option maxRecDepth 100000 in
theorem joinRm_vc (b0 b1 b2 b3 b4 b5 b6 b7 : Bool) (a0 a1 a2 a3 a4 a5 a6 a7 : Int) (ep : Int) (op : Bool) (nx nd hv bn : Int) (s0 s1 s2 s3 s4 s5 s6 s7 c0 c1 c2 c3 c4 c5 c6 c7 : Int) (o : Bool) (x : Int) (y : Int) : joinRmC.vc Tryz.prog (envL envM1) (ctlP 12 10) Tryz.f84 [.B b0,.B b1,.B b2,.B b3,.B b4,.B b5,.B b6,.B b7,.I a0,.I a1,.I a2,.I a3,.I a4,.I a5,.I a6,.I a7,.I ep,.B op,.I nx,.I nd,.I hv,.I bn,.I s0,.I s1,.I s2,.I s3,.I s4,.I s5,.I s6,.I s7,.I c0,.I c1,.I c2,.I c3,.I c4,.I c5,.I c6,.I c7,.B o,.I x,.I y]:=of_eq (b:=let w0:=(⟨[b0,b1,b2,b3,b4,b5,b6,b7],[a0,a1,a2,a3,a4,a5,a6,a7],⟨ep,op,nx,nd,hv,bn⟩,[s0,s1,s2,s3,s4,s5,s6,s7],[c0,c1,c2,c3,c4,c5,c6,c7],o⟩ : RV);let v0:=fun (y_1 : RV × Int × Int)=>eB b0 b1 b2 b3 b4 b5 b6 b7 y_1.1.1 (eI a0 a1 a2 a3 a4 a5 a6 a7 y_1.1.2 (eK ep op nx nd hv bn y_1.1.3 (eI s0 s1 s2 s3 s4 s5 s6 s7 y_1.1.4 (eI c0 c1 c2 c3 c4 c5 c6 c7 y_1.1.5 (o = y_1.1.6)))));∀ (x_1 : Bool),x_1 = goodRm w0 -> ((!x_1) = true -> ∀ (y_1 : RV × Int × Int),y_1 = joinRm w0 x y -> ((v0 y_1)) /\ 0 = y_1.2.1 /\ 1 = y_1.2.2 /\ True) /\ ((!x_1) = false -> (o = true -> ∀ (y_1 : RV × Int × Int),y_1 = joinRm w0 x y -> ((v0 y_1)) /\ 0 = y_1.2.1 /\ 12 = y_1.2.2 /\ True) /\ (o = false -> ∀ (x_2 : (List Bool × List Int) × Int × Int),x_2 = takeG [b0,b1,b2,b3,b4,b5,b6,b7] [a0,a1,a2,a3,a4,a5,a6,a7] x -> (x_2.2.2 = 0 -> ∀ (x_3 : RS × Int),x_3 = joinF (⟨ep,op,nx,nd,hv,bn⟩ : RS) x_2.2.1 -> (x_3.2 = 0 -> Lf (0 <= x_2.2.1 /\ x_2.2.1 < 8) /\ (x_2.2.1 = 0 -> ∀ (y_1 : RV × Int × Int),y_1 = joinRm w0 x y -> (uB x_2.1.1 y_1.1.1 (uI x_2.1.2 y_1.1.2 (eK x_3.1.1 x_3.1.2 x_3.1.3 x_3.1.4 x_3.1.5 x_3.1.6 y_1.1.3 (eI y s1 s2 s3 s4 s5 s6 s7 y_1.1.4 (eI x_3.1.1 c1 c2 c3 c4 c5 c6 c7 y_1.1.5 (o = y_1.1.6)))))) /\ 0 = y_1.2.1 /\ 0 = y_1.2.2 /\ True) /\ (x_2.2.1 = 1 -> ∀ (y_1 : RV × Int × Int),y_1 = joinRm w0 x y -> (uB x_2.1.1 y_1.1.1 (uI x_2.1.2 y_1.1.2 (eK x_3.1.1 x_3.1.2 x_3.1.3 x_3.1.4 x_3.1.5 x_3.1.6 y_1.1.3 (eI s0 y s2 s3 s4 s5 s6 s7 y_1.1.4 (eI c0 x_3.1.1 c2 c3 c4 c5 c6 c7 y_1.1.5 (o = y_1.1.6)))))) /\ 1 = y_1.2.1 /\ 0 = y_1.2.2 /\ True) /\ (x_2.2.1 = 2 -> ∀ (y_1 : RV × Int × Int),y_1 = joinRm w0 x y -> (uB x_2.1.1 y_1.1.1 (uI x_2.1.2 y_1.1.2 (eK x_3.1.1 x_3.1.2 x_3.1.3 x_3.1.4 x_3.1.5 x_3.1.6 y_1.1.3 (eI s0 s1 y s3 s4 s5 s6 s7 y_1.1.4 (eI c0 c1 x_3.1.1 c3 c4 c5 c6 c7 y_1.1.5 (o = y_1.1.6)))))) /\ 2 = y_1.2.1 /\ 0 = y_1.2.2 /\ True) /\ (x_2.2.1 = 3 -> ∀ (y_1 : RV × Int × Int),y_1 = joinRm w0 x y -> (uB x_2.1.1 y_1.1.1 (uI x_2.1.2 y_1.1.2 (eK x_3.1.1 x_3.1.2 x_3.1.3 x_3.1.4 x_3.1.5 x_3.1.6 y_1.1.3 (eI s0 s1 s2 y s4 s5 s6 s7 y_1.1.4 (eI c0 c1 c2 x_3.1.1 c4 c5 c6 c7 y_1.1.5 (o = y_1.1.6)))))) /\ 3 = y_1.2.1 /\ 0 = y_1.2.2 /\ True) /\ (x_2.2.1 = 4 -> ∀ (y_1 : RV × Int × Int),y_1 = joinRm w0 x y -> (uB x_2.1.1 y_1.1.1 (uI x_2.1.2 y_1.1.2 (eK x_3.1.1 x_3.1.2 x_3.1.3 x_3.1.4 x_3.1.5 x_3.1.6 y_1.1.3 (eI s0 s1 s2 s3 y s5 s6 s7 y_1.1.4 (eI c0 c1 c2 c3 x_3.1.1 c5 c6 c7 y_1.1.5 (o = y_1.1.6)))))) /\ 4 = y_1.2.1 /\ 0 = y_1.2.2 /\ True) /\ (x_2.2.1 = 5 -> ∀ (y_1 : RV × Int × Int),y_1 = joinRm w0 x y -> (uB x_2.1.1 y_1.1.1 (uI x_2.1.2 y_1.1.2 (eK x_3.1.1 x_3.1.2 x_3.1.3 x_3.1.4 x_3.1.5 x_3.1.6 y_1.1.3 (eI s0 s1 s2 s3 s4 y s6 s7 y_1.1.4 (eI c0 c1 c2 c3 c4 x_3.1.1 c6 c7 y_1.1.5 (o = y_1.1.6)))))) /\ 5 = y_1.2.1 /\ 0 = y_1.2.2 /\ True) /\ (x_2.2.1 = 6 -> ∀ (y_1 : RV × Int × Int),y_1 = joinRm w0 x y -> (uB x_2.1.1 y_1.1.1 (uI x_2.1.2 y_1.1.2 (eK x_3.1.1 x_3.1.2 x_3.1.3 x_3.1.4 x_3.1.5 x_3.1.6 y_1.1.3 (eI s0 s1 s2 s3 s4 s5 y s7 y_1.1.4 (eI c0 c1 c2 c3 c4 c5 x_3.1.1 c7 y_1.1.5 (o = y_1.1.6)))))) /\ 6 = y_1.2.1 /\ 0 = y_1.2.2 /\ True) /\ (x_2.2.1 = 7 -> ∀ (y_1 : RV × Int × Int),y_1 = joinRm w0 x y -> (uB x_2.1.1 y_1.1.1 (uI x_2.1.2 y_1.1.2 (eK x_3.1.1 x_3.1.2 x_3.1.3 x_3.1.4 x_3.1.5 x_3.1.6 y_1.1.3 (eI s0 s1 s2 s3 s4 s5 s6 y y_1.1.4 (eI c0 c1 c2 c3 c4 c5 c6 x_3.1.1 y_1.1.5 (o = y_1.1.6)))))) /\ 7 = y_1.2.1 /\ 0 = y_1.2.2 /\ True) /\ True) /\ (¬x_3.2 = 0 -> ∀ (y_1 : RV × Int × Int),y_1 = joinRm w0 x y -> ((v0 y_1)) /\ 0 = y_1.2.1 /\ x_3.2 = y_1.2.2 /\ True)) /\ (¬x_2.2.2 = 0 -> ∀ (y_1 : RV × Int × Int),y_1 = joinRm w0 x y -> ((v0 y_1)) /\ 0 = y_1.2.1 /\ x_2.2.2 = y_1.2.2 /\ True)))) (by kernel_rfl) (by
 dsimp only [jB,jI,eB,eI,uB,uI,oB,oI,eK]
 repeat' (first | apply And.intro | apply Lf.mk | (intro h;dsimp only [joinRm] at h;(repeat (first | rw [if_pos (by assumption)] at h | rw [if_neg (by assumption)] at h | rw [if_neg (Bool.eq_false_iff.1 (by assumption))] at h | rw [if_pos rfl] at h | rw [if_neg Bool.false_ne_true] at h));subst h) | (intro h;subst h) | intro _)
 all_goals first
  | with_reducible trivial
  | rfl
  | omega
  | exact (findRm_bd _ _ rfl (by assumption)).1
  | exact (findRm_bd _ _ rfl (by assumption)).2
  | exact (take_slot _ _ _ rfl (by assumption)).1
  | exact (take_slot _ _ _ rfl (by assumption)).2
  | exact (free_slot _ _ _ (by assumption)).1
  | exact (free_slot _ _ _ (by assumption)).2
  | (simp only [*];rfl)
  | (dsimp only;exact Eq.symm (by assumption)))
set_option maxRecDepth 100000 in
theorem joinRm_ok : SpecOk Tryz.prog 84 joinRmC.spec:=joinRmC.ok envM1_ok mixed (C:=ctlP 12 10) Tryz.func84 rfl fun L h hp=>by
 obtain ⟨b0,b1,b2,b3,b4,b5,b6,b7,a0,a1,a2,a3,a4,a5,a6,a7,ep,op,nx,nd,hv,bn,s0,s1,s2,s3,s4,s5,s6,s7,c0,c1,c2,c3,c4,c5,c6,c7,o,_,rfl,h1⟩:=fit_room h
 obtain ⟨x,_,rfl,h2⟩:=fit_i h1
 obtain ⟨y,_,rfl,h3⟩:=fit_i h2
 obtain rfl:=fit_nil h3
 exact joinRm_vc b0 b1 b2 b3 b4 b5 b6 b7 a0 a1 a2 a3 a4 a5 a6 a7 ep op nx nd hv bn s0 s1 s2 s3 s4 s5 s6 s7 c0 c1 c2 c3 c4 c5 c6 c7 o x y
end Zx.Zr
namespace Zx.Zr
open Go
def mkR (b0 b1 b2 b3 b4 b5 b6 b7 : Bool) (a0 a1 a2 a3 a4 a5 a6 a7 : Int) (ep : Int) (op : Bool) (nx nd hv bn : Int) (s0 s1 s2 s3 s4 s5 s6 s7 c0 c1 c2 c3 c4 c5 c6 c7 : Int) (o : Bool) : RV:=⟨[b0,b1,b2,b3,b4,b5,b6,b7],[a0,a1,a2,a3,a4,a5,a6,a7],⟨ep,op,nx,nd,hv,bn⟩,[s0,s1,s2,s3,s4,s5,s6,s7],[c0,c1,c2,c3,c4,c5,c6,c7],o⟩
def eqRm (x y : RV) : Prop:=x.u.getD 0 false = y.u.getD 0 false /\ x.u.getD 1 false = y.u.getD 1 false /\ x.u.getD 2 false = y.u.getD 2 false /\ x.u.getD 3 false = y.u.getD 3 false /\ x.u.getD 4 false = y.u.getD 4 false /\ x.u.getD 5 false = y.u.getD 5 false /\ x.u.getD 6 false = y.u.getD 6 false /\ x.u.getD 7 false = y.u.getD 7 false /\ x.a.getD 0 0 = y.a.getD 0 0 /\ x.a.getD 1 0 = y.a.getD 1 0 /\ x.a.getD 2 0 = y.a.getD 2 0 /\ x.a.getD 3 0 = y.a.getD 3 0 /\ x.a.getD 4 0 = y.a.getD 4 0 /\ x.a.getD 5 0 = y.a.getD 5 0 /\ x.a.getD 6 0 = y.a.getD 6 0 /\ x.a.getD 7 0 = y.a.getD 7 0 /\ x.k.ep = y.k.ep /\ x.k.op = y.k.op /\ x.k.nx = y.k.nx /\ x.k.nd = y.k.nd /\ x.k.hv = y.k.hv /\ x.k.bn = y.k.bn /\ x.s.getD 0 0 = y.s.getD 0 0 /\ x.s.getD 1 0 = y.s.getD 1 0 /\ x.s.getD 2 0 = y.s.getD 2 0 /\ x.s.getD 3 0 = y.s.getD 3 0 /\ x.s.getD 4 0 = y.s.getD 4 0 /\ x.s.getD 5 0 = y.s.getD 5 0 /\ x.s.getD 6 0 = y.s.getD 6 0 /\ x.s.getD 7 0 = y.s.getD 7 0 /\ x.c.getD 0 0 = y.c.getD 0 0 /\ x.c.getD 1 0 = y.c.getD 1 0 /\ x.c.getD 2 0 = y.c.getD 2 0 /\ x.c.getD 3 0 = y.c.getD 3 0 /\ x.c.getD 4 0 = y.c.getD 4 0 /\ x.c.getD 5 0 = y.c.getD 5 0 /\ x.c.getD 6 0 = y.c.getD 6 0 /\ x.c.getD 7 0 = y.c.getD 7 0 /\ x.o = y.o
def exRm (x : RV) : RV:=⟨[x.u.getD 0 false,x.u.getD 1 false,x.u.getD 2 false,x.u.getD 3 false,x.u.getD 4 false,x.u.getD 5 false,x.u.getD 6 false,x.u.getD 7 false],[x.a.getD 0 0,x.a.getD 1 0,x.a.getD 2 0,x.a.getD 3 0,x.a.getD 4 0,x.a.getD 5 0,x.a.getD 6 0,x.a.getD 7 0],⟨x.k.ep,x.k.op,x.k.nx,x.k.nd,x.k.hv,x.k.bn⟩,[x.s.getD 0 0,x.s.getD 1 0,x.s.getD 2 0,x.s.getD 3 0,x.s.getD 4 0,x.s.getD 5 0,x.s.getD 6 0,x.s.getD 7 0],[x.c.getD 0 0,x.c.getD 1 0,x.c.getD 2 0,x.c.getD 3 0,x.c.getD 4 0,x.c.getD 5 0,x.c.getD 6 0,x.c.getD 7 0],x.o⟩
def zeroRm : RV:=⟨f8,z8,⟨0,false,0,0,0,0⟩,z8,z8,false⟩
theorem eqRm_self (x : RV) : eqRm x x:=⟨rfl,rfl,rfl,rfl,rfl,rfl,rfl,rfl,rfl,rfl,rfl,rfl,rfl,rfl,rfl,rfl,rfl,rfl,rfl,rfl,rfl,rfl,rfl,rfl,rfl,rfl,rfl,rfl,rfl,rfl,rfl,rfl,rfl,rfl,rfl,rfl,rfl,rfl,rfl⟩
theorem eqRm_of {x y : RV} (h : x = y) : eqRm x y:=h ▸ eqRm_self x
theorem exRm_eq {x : RV} (h1 : x.u.length = 8) (h2 : x.a.length = 8) (h3 : x.s.length = 8) (h4 : x.c.length = 8) : exRm x = x:=by
 unfold exRm
 rw [ex8b h1,ex8i h2,ex8i h3,ex8i h4]
theorem gone_len {x : RV} (i now : Int) (h1 : x.u.length = 8) (h2 : x.a.length = 8) (h3 : x.s.length = 8) (h4 : x.c.length = 8) : (goneG x i now).u.length = 8 /\ (goneG x i now).a.length = 8 /\ (goneG x i now).s.length = 8 /\ (goneG x i now).c.length = 8:=by
 have hf:=free_len x.u x.a i
 unfold goneG
 split
 ·simp [hf.1,hf.2,h1,h2,h3,h4]
 ·simp [overG,f8,z8]
theorem tk_gone {R0 x y : RV} {l now i : Int} {k : Nat} (h : tkI R0 l now k x) (hy : y = goneG (exRm x) i now) (hi : i = (k : Int)) (hb : R0.u.getD k false = true) (ho : (!x.o) = true) (hs : silB (R0.s.getD k 0) now = true \/ bitO l k = true) : tkI R0 l now (k + 1) (exRm y):=by
 subst hi
 rw [exRm_eq h.u h.a h.s h.c] at hy
 obtain ⟨g1,g2,g3,g4⟩:=gone_len (k : Int) now h.u h.a h.s h.c
 rw [← hy] at g1 g2 g3 g4
 rw [exRm_eq g1 g2 g3 g4]
 refine ⟨g1,g2,g3,g4, ?_⟩
 have hc : (R0.u.getD k false && !x.o && (silB (R0.s.getD k 0) now || bitO l k)) = true:=by
  rw [hb,ho]
  rcases hs with h | h <;> rw [h] <;> simp
 rw [h.e] at hy hc
 rw [hy]
 simp only [tkN,tkStep]
 rw [if_pos hc]
theorem tk_stay {R0 x : RV} {l now : Int} {k : Nat} (h : tkI R0 l now k x) (hc : (R0.u.getD k false && !x.o && (silB (R0.s.getD k 0) now || bitO l k)) = false) : tkI R0 l now (k + 1) (exRm x):=by
 rw [exRm_eq h.u h.a h.s h.c]
 refine ⟨h.u,h.a,h.s,h.c, ?_⟩
 have he:=h.e
 rw [he] at hc
 simp only [tkN,tkStep]
 rw [if_neg (by rw [hc];simp)]
 exact he
theorem tk_stay_b {R0 x : RV} {l now : Int} {k : Nat} (h : tkI R0 l now k x) (hb : R0.u.getD k false = false) : tkI R0 l now (k + 1) (exRm x):=tk_stay h (by rw [hb];rfl)
theorem tk_stay_o {R0 x : RV} {l now : Int} {k : Nat} (h : tkI R0 l now k x) (ho : (!x.o) = false) : tkI R0 l now (k + 1) (exRm x):=tk_stay h (by rw [ho];simp)
theorem tk_stay_n {R0 x : RV} {l now : Int} {k : Nat} (h : tkI R0 l now k x) (hs : silB (R0.s.getD k 0) now = false) (hl : bitO l k = false) : tkI R0 l now (k + 1) (exRm x):=tk_stay h (by rw [hs,hl];simp)
theorem sil_yes {s now x4 x5 x6 : Int} (h1 : s <= now) (h4 : x4 = IntKind.u64.wrap now) (h5 : x5 = IntKind.u64.wrap s) (h6 : x6 = IntKind.u64.wrap (x4 - x5)) (h : 500 <= x6) : silB s now = true:=by
 subst h6;subst h5;subst h4;simp [silB,h1,h]
theorem sil_no1 {s now : Int} (h1 : ¬s <= now) : silB s now = false:=by simp [silB,h1]
theorem sil_no2 {s now x4 x5 x6 : Int} (h4 : x4 = IntKind.u64.wrap now) (h5 : x5 = IntKind.u64.wrap s) (h6 : x6 = IntKind.u64.wrap (x4 - x5)) (h : ¬500 <= x6) : silB s now = false:=by
 subst h6;subst h5;subst h4;simp only [silB,decide_eq_false h,Bool.and_false]
theorem bit_yes {l p x7 x8 : Int} {k : Nat} (h7 : x7 = l / p) (h8 : x8 = bits .and .i64 x7 1) (h : x8 = 1) (hp : p = 2 ^ ((k : Int).toNat)) : bitO l k = true:=by
 subst hp;subst h7;rw [bitO,← h8,h];rfl
theorem bit_no {l p x7 x8 : Int} {k : Nat} (h7 : x7 = l / p) (h8 : x8 = bits .and .i64 x7 1) (h : ¬x8 = 1) (hp : p = 2 ^ ((k : Int).toNat)) : bitO l k = false:=by
 subst hp;subst h7;rw [bitO,← h8];simpa using h
theorem gl_yes {u v : List Bool} {L : List Int} {n : Nat} (h : L = goneL u v n) (hb : u.getD n false = true) (hv : (!v.getD n false) = true) : L ++ [(n : Int)] = goneL u v (n + 1):=by
 simp only [goneL];rw [if_pos (by rw [hb,hv];rfl),h]
theorem gl_no1 {u v : List Bool} {L : List Int} {n : Nat} (h : L = goneL u v n) (hb : u.getD n false = false) : L = goneL u v (n + 1):=by
 simp only [goneL];rw [if_neg (by rw [hb];simp),h]
theorem gl_no2 {u v : List Bool} {L : List Int} {n : Nat} (h : L = goneL u v n) (hv : (!v.getD n false) = false) : L = goneL u v (n + 1):=by
 simp only [goneL];rw [if_neg (by rw [hv];simp),h]
theorem goneL_len (u v : List Bool) : ∀ n,(goneL u v n).length <= n
 | 0=>by simp [goneL]
 | n + 1=>by
  have:=goneL_len u v n
  simp only [goneL]
  split <;> simp <;> omega
theorem gl_len {u v : List Bool} {L : List Int} {n : Nat} {z : Int} (h : L = goneL u v n) (hn : n <= 8) : (L ++ [z]).length * 8 <= 140737488355328:=by
 have:=goneL_len u v n
 rw [h]
 simp
 omega
theorem tick_good {R x3 : RV} {now l : Int} {L : List Int} {g : Bool} {y : RV × List Int} (hy : y = tickRm R now) (hg : g = goodRm R) (hg' : (!g) = false) (hl : l = lateF R.k now) (h : tkI R l now 8 x3) (hL : L = goneL R.u [x3.u.getD 0 false,x3.u.getD 1 false,x3.u.getD 2 false,x3.u.getD 3 false,x3.u.getD 4 false,x3.u.getD 5 false,x3.u.getD 6 false,x3.u.getD 7 false] 8) : y = (x3,L):=by
 rw [ex8b h.u] at hL
 have e : goodRm R = true:=by rw [← hg];simpa using hg'
 rw [hy,hL,tickRm,if_pos e,← hl,← h.e]
theorem tick_good_e {R x3 : RV} {now l : Int} {L : List Int} {g : Bool} {y : RV × List Int} (hy : y = tickRm R now) (hg : g = goodRm R) (hg' : (!g) = false) (hl : l = lateF R.k now) (h : tkI R l now 8 x3) (hL : L = goneL R.u [x3.u.getD 0 false,x3.u.getD 1 false,x3.u.getD 2 false,x3.u.getD 3 false,x3.u.getD 4 false,x3.u.getD 5 false,x3.u.getD 6 false,x3.u.getD 7 false] 8) : eqRm x3 y.fst:=by
 rw [tick_good hy hg hg' hl h hL]
 exact eqRm_self _
theorem tick_good_l {R x3 : RV} {now l : Int} {L : List Int} {g : Bool} {y : RV × List Int} (hy : y = tickRm R now) (hg : g = goodRm R) (hg' : (!g) = false) (hl : l = lateF R.k now) (h : tkI R l now 8 x3) (hL : L = goneL R.u [x3.u.getD 0 false,x3.u.getD 1 false,x3.u.getD 2 false,x3.u.getD 3 false,x3.u.getD 4 false,x3.u.getD 5 false,x3.u.getD 6 false,x3.u.getD 7 false] 8) : L = y.snd:=(congrArg Prod.snd (tick_good hy hg hg' hl h hL)).symm
theorem tick_bad {R : RV} {now : Int} {g : Bool} {y : RV × List Int} (hy : y = tickRm R now) (hg : g = goodRm R) (hg' : (!g) = true) : y = (R,[]):=by
 have e : goodRm R = false:=by rw [← hg];simpa using hg'
 rw [hy,tickRm,if_neg (by rw [e];simp)]
theorem tk_init (R : RV) (l now : Int) (h1 : R.u.length = 8) (h2 : R.a.length = 8) (h3 : R.s.length = 8) (h4 : R.c.length = 8) : tkI R l now 0 R:=⟨h1,h2,h3,h4,rfl⟩
end Zx.Zr
