/- A part of the proof: lemmas. No condition of its own. -/
import Derived.Test.YtglcgbhhkjebbaaGreatK07
import Derived.Test.YtglcgbhhkjebbaaGreatK18
import Derived.Test.YtglcgbhhkjebbaaGreatK21
set_option linter.unusedVariables false
set_option linter.unusedSimpArgs false
namespace Zx.Zr
open Go Go.Proofs Go.RowKit
set_option maxHeartbeats 0 in
set_option maxRecDepth 100000 in
theorem goneRm_vc (b0 b1 b2 b3 b4 b5 b6 b7 : Bool) (a0 a1 a2 a3 a4 a5 a6 a7 : Int) (ep : Int) (op : Bool) (nx nd hv bn : Int) (s0 s1 s2 s3 s4 s5 s6 s7 c0 c1 c2 c3 c4 c5 c6 c7 : Int) (o : Bool) (x : Int) (y : Int) (hx : 0 <= x /\ x < 8) : goneC.vc Tryz.prog (envL envM0) (ctlP 2 1) Tryz.f94 [.B b0,.B b1,.B b2,.B b3,.B b4,.B b5,.B b6,.B b7,.I a0,.I a1,.I a2,.I a3,.I a4,.I a5,.I a6,.I a7,.I ep,.B op,.I nx,.I nd,.I hv,.I bn,.I s0,.I s1,.I s2,.I s3,.I s4,.I s5,.I s6,.I s7,.I c0,.I c1,.I c2,.I c3,.I c4,.I c5,.I c6,.I c7,.B o,.I x,.I y]:=of_eq (b:=let w1:=(⟨ep,op,nx,nd,hv,bn⟩ : RS);let w0:=(⟨[b0,b1,b2,b3,b4,b5,b6,b7],[a0,a1,a2,a3,a4,a5,a6,a7],⟨ep,op,nx,nd,hv,bn⟩,[s0,s1,s2,s3,s4,s5,s6,s7],[c0,c1,c2,c3,c4,c5,c6,c7],o⟩ : RV);let v0:=fun (x_3 : RS × Int)=>(¬x_3.2 = 0 -> ∀ (y_1 : RV),y_1 = goneG w0 x y -> eB false false false false false false false false y_1.1 (eI 0 0 0 0 0 0 0 0 y_1.2 (eK ep false 0 0 0 0 y_1.3 (eI 0 0 0 0 0 0 0 0 y_1.4 (eI 0 0 0 0 0 0 0 0 y_1.5 (true = y_1.6))))));∀ (x_1 : (List Bool × List Int) × Int),x_1 = freeG [b0,b1,b2,b3,b4,b5,b6,b7] [a0,a1,a2,a3,a4,a5,a6,a7] x -> Lf (0 <= x /\ x < 8) /\ (x = 0 -> ∀ (x_2 : Int),x_2 = maskG (jB x_1.1.1) (jI x_1.1.2) -> ∀ (x_3 : RS × Int),x_3 = raiseF w1 x_2 y -> (x_3.2 = 0 -> ∀ (y_1 : RV),y_1 = goneG w0 x y -> uB x_1.1.1 y_1.1 (uI x_1.1.2 y_1.2 (eK x_3.1.1 x_3.1.2 x_3.1.3 x_3.1.4 x_3.1.5 x_3.1.6 y_1.3 (eI 0 s1 s2 s3 s4 s5 s6 s7 y_1.4 (eI 0 c1 c2 c3 c4 c5 c6 c7 y_1.5 (o = y_1.6)))))) /\ (v0 x_3)) /\ (x = 1 -> ∀ (x_2 : Int),x_2 = maskG (jB x_1.1.1) (jI x_1.1.2) -> ∀ (x_3 : RS × Int),x_3 = raiseF w1 x_2 y -> (x_3.2 = 0 -> ∀ (y_1 : RV),y_1 = goneG w0 x y -> uB x_1.1.1 y_1.1 (uI x_1.1.2 y_1.2 (eK x_3.1.1 x_3.1.2 x_3.1.3 x_3.1.4 x_3.1.5 x_3.1.6 y_1.3 (eI s0 0 s2 s3 s4 s5 s6 s7 y_1.4 (eI c0 0 c2 c3 c4 c5 c6 c7 y_1.5 (o = y_1.6)))))) /\ (v0 x_3)) /\ (x = 2 -> ∀ (x_2 : Int),x_2 = maskG (jB x_1.1.1) (jI x_1.1.2) -> ∀ (x_3 : RS × Int),x_3 = raiseF w1 x_2 y -> (x_3.2 = 0 -> ∀ (y_1 : RV),y_1 = goneG w0 x y -> uB x_1.1.1 y_1.1 (uI x_1.1.2 y_1.2 (eK x_3.1.1 x_3.1.2 x_3.1.3 x_3.1.4 x_3.1.5 x_3.1.6 y_1.3 (eI s0 s1 0 s3 s4 s5 s6 s7 y_1.4 (eI c0 c1 0 c3 c4 c5 c6 c7 y_1.5 (o = y_1.6)))))) /\ (v0 x_3)) /\ (x = 3 -> ∀ (x_2 : Int),x_2 = maskG (jB x_1.1.1) (jI x_1.1.2) -> ∀ (x_3 : RS × Int),x_3 = raiseF w1 x_2 y -> (x_3.2 = 0 -> ∀ (y_1 : RV),y_1 = goneG w0 x y -> uB x_1.1.1 y_1.1 (uI x_1.1.2 y_1.2 (eK x_3.1.1 x_3.1.2 x_3.1.3 x_3.1.4 x_3.1.5 x_3.1.6 y_1.3 (eI s0 s1 s2 0 s4 s5 s6 s7 y_1.4 (eI c0 c1 c2 0 c4 c5 c6 c7 y_1.5 (o = y_1.6)))))) /\ (v0 x_3)) /\ (x = 4 -> ∀ (x_2 : Int),x_2 = maskG (jB x_1.1.1) (jI x_1.1.2) -> ∀ (x_3 : RS × Int),x_3 = raiseF w1 x_2 y -> (x_3.2 = 0 -> ∀ (y_1 : RV),y_1 = goneG w0 x y -> uB x_1.1.1 y_1.1 (uI x_1.1.2 y_1.2 (eK x_3.1.1 x_3.1.2 x_3.1.3 x_3.1.4 x_3.1.5 x_3.1.6 y_1.3 (eI s0 s1 s2 s3 0 s5 s6 s7 y_1.4 (eI c0 c1 c2 c3 0 c5 c6 c7 y_1.5 (o = y_1.6)))))) /\ (v0 x_3)) /\ (x = 5 -> ∀ (x_2 : Int),x_2 = maskG (jB x_1.1.1) (jI x_1.1.2) -> ∀ (x_3 : RS × Int),x_3 = raiseF w1 x_2 y -> (x_3.2 = 0 -> ∀ (y_1 : RV),y_1 = goneG w0 x y -> uB x_1.1.1 y_1.1 (uI x_1.1.2 y_1.2 (eK x_3.1.1 x_3.1.2 x_3.1.3 x_3.1.4 x_3.1.5 x_3.1.6 y_1.3 (eI s0 s1 s2 s3 s4 0 s6 s7 y_1.4 (eI c0 c1 c2 c3 c4 0 c6 c7 y_1.5 (o = y_1.6)))))) /\ (v0 x_3)) /\ (x = 6 -> ∀ (x_2 : Int),x_2 = maskG (jB x_1.1.1) (jI x_1.1.2) -> ∀ (x_3 : RS × Int),x_3 = raiseF w1 x_2 y -> (x_3.2 = 0 -> ∀ (y_1 : RV),y_1 = goneG w0 x y -> uB x_1.1.1 y_1.1 (uI x_1.1.2 y_1.2 (eK x_3.1.1 x_3.1.2 x_3.1.3 x_3.1.4 x_3.1.5 x_3.1.6 y_1.3 (eI s0 s1 s2 s3 s4 s5 0 s7 y_1.4 (eI c0 c1 c2 c3 c4 c5 0 c7 y_1.5 (o = y_1.6)))))) /\ (v0 x_3)) /\ (x = 7 -> ∀ (x_2 : Int),x_2 = maskG (jB x_1.1.1) (jI x_1.1.2) -> ∀ (x_3 : RS × Int),x_3 = raiseF w1 x_2 y -> (x_3.2 = 0 -> ∀ (y_1 : RV),y_1 = goneG w0 x y -> uB x_1.1.1 y_1.1 (uI x_1.1.2 y_1.2 (eK x_3.1.1 x_3.1.2 x_3.1.3 x_3.1.4 x_3.1.5 x_3.1.6 y_1.3 (eI s0 s1 s2 s3 s4 s5 s6 0 y_1.4 (eI c0 c1 c2 c3 c4 c5 c6 0 y_1.5 (o = y_1.6)))))) /\ (v0 x_3)) /\ True) (by kernel_rfl) (by
 dsimp only [jB,jI,eB,eI,uB,uI,oB,oI,eK]
 intro f hf
 have e1:=ex8b (l:=f.1.1) (by rw [hf];exact (free_len _ _ _).1)
 have e2:=ex8i (l:=f.1.2) (by rw [hf];exact (free_len _ _ _).2)
 simp only [e1,e2]
 clear e1 e2
 subst hf
 refine ⟨⟨hx⟩, ?_⟩
 repeat' (first | apply And.intro | apply Lf.mk | (intro h;dsimp only [goneG] at h;(repeat (first | rw [if_pos (by assumption)] at h | rw [if_neg (by assumption)] at h | rw [if_neg (Bool.eq_false_iff.1 (by assumption))] at h | rw [if_pos rfl] at h | rw [if_neg Bool.false_ne_true] at h));subst h) | (intro h;subst h) | intro _)
 all_goals first
  | with_reducible trivial
  | rfl
  | omega
  | exact (findRm_bd _ _ rfl (by assumption)).1
  | exact (findRm_bd _ _ rfl (by assumption)).2
  | exact (take_slot _ _ _ rfl (by assumption)).1
  | exact (take_slot _ _ _ rfl (by assumption)).2
  | exact (free_slot _ _ _ (by assumption)).1
  | exact (free_slot _ _ _ (by assumption)).2
  | (simp only [*];rfl)
  | (dsimp only;exact Eq.symm (by assumption)))
set_option maxRecDepth 100000 in
theorem goneRm_ok : SpecOk Tryz.prog 94 goneC.spec:=goneC.ok envM0_ok mixed (C:=ctlP 2 1) Tryz.func94 rfl fun L h hp=>by
 obtain ⟨b0,b1,b2,b3,b4,b5,b6,b7,a0,a1,a2,a3,a4,a5,a6,a7,ep,op,nx,nd,hv,bn,s0,s1,s2,s3,s4,s5,s6,s7,c0,c1,c2,c3,c4,c5,c6,c7,o,_,rfl,h1⟩:=fit_room h
 obtain ⟨x,_,rfl,h2⟩:=fit_i h1
 obtain ⟨y,_,rfl,h3⟩:=fit_i h2
 obtain rfl:=fit_nil h3
 exact goneRm_vc b0 b1 b2 b3 b4 b5 b6 b7 a0 a1 a2 a3 a4 a5 a6 a7 ep op nx nd hv bn s0 s1 s2 s3 s4 s5 s6 s7 c0 c1 c2 c3 c4 c5 c6 c7 o x y hp
theorem envM1_ok : EnvOk Tryz.prog (envL envM1):=(envL_cons ⟨_,Tryz.func15,rfl,by kernel_rfl⟩ goodRm_ok (envL_cons ⟨_,Tryz.func94,rfl,by kernel_rfl⟩ goneRm_ok envM0_ok))
set_option maxHeartbeats 0 in
set_option maxRecDepth 100000 in
theorem findRm_vc (b0 b1 b2 b3 b4 b5 b6 b7 : Bool) (a0 a1 a2 a3 a4 a5 a6 a7 : Int) (ep : Int) (op : Bool) (nx nd hv bn : Int) (s0 s1 s2 s3 s4 s5 s6 s7 c0 c1 c2 c3 c4 c5 c6 c7 : Int) (o : Bool) (x : Int) : findRmC.vc Tryz.prog (envL envM1) noCtl Tryz.f97 [.B b0,.B b1,.B b2,.B b3,.B b4,.B b5,.B b6,.B b7,.I a0,.I a1,.I a2,.I a3,.I a4,.I a5,.I a6,.I a7,.I ep,.B op,.I nx,.I nd,.I hv,.I bn,.I s0,.I s1,.I s2,.I s3,.I s4,.I s5,.I s6,.I s7,.I c0,.I c1,.I c2,.I c3,.I c4,.I c5,.I c6,.I c7,.B o,.I x]:=of_eq (b:=let w0:=(⟨[b0,b1,b2,b3,b4,b5,b6,b7],[a0,a1,a2,a3,a4,a5,a6,a7],⟨ep,op,nx,nd,hv,bn⟩,[s0,s1,s2,s3,s4,s5,s6,s7],[c0,c1,c2,c3,c4,c5,c6,c7],o⟩ : RV);∀ (x_1 : Bool),x_1 = goodRm w0 -> ((!x_1) = true -> ∀ (y : Int × Int),y = findRm w0 x -> 0 = y.1 /\ 1 = y.2 /\ True) /\ ((!x_1) = false -> ∀ (x_2 : Int × Bool),x_2 = findG [b0,b1,b2,b3,b4,b5,b6,b7] [a0,a1,a2,a3,a4,a5,a6,a7] x -> ((!x_2.2) = true -> ∀ (y : Int × Int),y = findRm w0 x -> 0 = y.1 /\ 6 = y.2 /\ True) /\ ((!x_2.2) = false -> ∀ (y : Int × Int),y = findRm w0 x -> x_2.1 = y.1 /\ 0 = y.2 /\ True))) (by kernel_rfl) (by
 dsimp only
 repeat' (first | apply And.intro | apply Lf.mk | (intro h;dsimp only [findRm] at h;(repeat (first | rw [if_pos (by assumption)] at h | rw [if_neg (by assumption)] at h | rw [if_neg (Bool.eq_false_iff.1 (by assumption))] at h | rw [if_pos rfl] at h | rw [if_neg Bool.false_ne_true] at h));subst h) | (intro h;subst h) | intro _)
 all_goals first
  | with_reducible trivial
  | rfl
  | omega
  | exact (findRm_bd _ _ rfl (by assumption)).1
  | exact (findRm_bd _ _ rfl (by assumption)).2
  | exact (take_slot _ _ _ rfl (by assumption)).1
  | exact (take_slot _ _ _ rfl (by assumption)).2
  | exact (free_slot _ _ _ (by assumption)).1
  | exact (free_slot _ _ _ (by assumption)).2
  | (simp only [*];rfl)
  | (dsimp only;exact Eq.symm (by assumption)))
set_option maxRecDepth 100000 in
theorem findRm_ok : SpecOk Tryz.prog 97 findRmC.spec:=findRmC.ok envM1_ok mixed (C:=noCtl) Tryz.func97 rfl fun L h hp=>by
 obtain ⟨b0,b1,b2,b3,b4,b5,b6,b7,a0,a1,a2,a3,a4,a5,a6,a7,ep,op,nx,nd,hv,bn,s0,s1,s2,s3,s4,s5,s6,s7,c0,c1,c2,c3,c4,c5,c6,c7,o,_,rfl,h1⟩:=fit_room h
 obtain ⟨x,_,rfl,h2⟩:=fit_i h1
 obtain rfl:=fit_nil h2
 exact findRm_vc b0 b1 b2 b3 b4 b5 b6 b7 a0 a1 a2 a3 a4 a5 a6 a7 ep op nx nd hv bn s0 s1 s2 s3 s4 s5 s6 s7 c0 c1 c2 c3 c4 c5 c6 c7 o x
theorem envM2_ok : EnvOk Tryz.prog (envL envM2):=(envL_cons ⟨_,Tryz.func97,rfl,by kernel_rfl⟩ findRm_ok envM1_ok)
set_option maxHeartbeats 0 in
set_option maxRecDepth 100000 in
theorem leaveRm_vc (b0 b1 b2 b3 b4 b5 b6 b7 : Bool) (a0 a1 a2 a3 a4 a5 a6 a7 : Int) (ep : Int) (op : Bool) (nx nd hv bn : Int) (s0 s1 s2 s3 s4 s5 s6 s7 c0 c1 c2 c3 c4 c5 c6 c7 : Int) (o : Bool) (x : Int) (y : Int) : leaveRmC.vc Tryz.prog (envL envM2) (noCtl) Tryz.f87 [.B b0,.B b1,.B b2,.B b3,.B b4,.B b5,.B b6,.B b7,.I a0,.I a1,.I a2,.I a3,.I a4,.I a5,.I a6,.I a7,.I ep,.B op,.I nx,.I nd,.I hv,.I bn,.I s0,.I s1,.I s2,.I s3,.I s4,.I s5,.I s6,.I s7,.I c0,.I c1,.I c2,.I c3,.I c4,.I c5,.I c6,.I c7,.B o,.I x,.I y]:=of_eq (b:=let w0:=(⟨[b0,b1,b2,b3,b4,b5,b6,b7],[a0,a1,a2,a3,a4,a5,a6,a7],⟨ep,op,nx,nd,hv,bn⟩,[s0,s1,s2,s3,s4,s5,s6,s7],[c0,c1,c2,c3,c4,c5,c6,c7],o⟩ : RV);∀ (x_1 : Int × Int),x_1 = findRm w0 x -> (x_1.2 = 0 -> Lf (0 <= x_1.1 /\ x_1.1 < 8) /\ ∀ (x_2 : RV),x_2 = goneG w0 x_1.1 y -> ∀ (y_1 : RV × Int),y_1 = leaveRm w0 x y -> (uB x_2.1 y_1.1.1 (uI x_2.2 y_1.1.2 (eK x_2.3.1 x_2.3.2 x_2.3.3 x_2.3.4 x_2.3.5 x_2.3.6 y_1.1.3 (uI x_2.4 y_1.1.4 (uI x_2.5 y_1.1.5 (x_2.6 = y_1.1.6)))))) /\ 0 = y_1.2 /\ True) /\ (¬x_1.2 = 0 -> ∀ (y_1 : RV × Int),y_1 = leaveRm w0 x y -> (eB b0 b1 b2 b3 b4 b5 b6 b7 y_1.1.1 (eI a0 a1 a2 a3 a4 a5 a6 a7 y_1.1.2 (eK ep op nx nd hv bn y_1.1.3 (eI s0 s1 s2 s3 s4 s5 s6 s7 y_1.1.4 (eI c0 c1 c2 c3 c4 c5 c6 c7 y_1.1.5 (o = y_1.1.6)))))) /\ x_1.2 = y_1.2 /\ True)) (by kernel_rfl) (by
 dsimp only [jB,jI,eB,eI,uB,uI,oB,oI,eK]
 repeat' (first | apply And.intro | apply Lf.mk | (intro h;dsimp only [leaveRm] at h;(repeat (first | rw [if_pos (by assumption)] at h | rw [if_neg (by assumption)] at h | rw [if_neg (Bool.eq_false_iff.1 (by assumption))] at h | rw [if_pos rfl] at h | rw [if_neg Bool.false_ne_true] at h));subst h) | (intro h;subst h) | intro _)
 all_goals first
  | with_reducible trivial
  | rfl
  | omega
  | exact (findRm_bd _ _ rfl (by assumption)).1
  | exact (findRm_bd _ _ rfl (by assumption)).2
  | exact (take_slot _ _ _ rfl (by assumption)).1
  | exact (take_slot _ _ _ rfl (by assumption)).2
  | exact (free_slot _ _ _ (by assumption)).1
  | exact (free_slot _ _ _ (by assumption)).2
  | (simp only [*];rfl)
  | (dsimp only;exact Eq.symm (by assumption)))
set_option maxRecDepth 100000 in
theorem leaveRm_ok : SpecOk Tryz.prog 87 leaveRmC.spec:=leaveRmC.ok envM2_ok mixed (C:=noCtl) Tryz.func87 rfl fun L h hp=>by
 obtain ⟨b0,b1,b2,b3,b4,b5,b6,b7,a0,a1,a2,a3,a4,a5,a6,a7,ep,op,nx,nd,hv,bn,s0,s1,s2,s3,s4,s5,s6,s7,c0,c1,c2,c3,c4,c5,c6,c7,o,_,rfl,h1⟩:=fit_room h
 obtain ⟨x,_,rfl,h2⟩:=fit_i h1
 obtain ⟨y,_,rfl,h3⟩:=fit_i h2
 obtain rfl:=fit_nil h3
 exact leaveRm_vc b0 b1 b2 b3 b4 b5 b6 b7 a0 a1 a2 a3 a4 a5 a6 a7 ep op nx nd hv bn s0 s1 s2 s3 s4 s5 s6 s7 c0 c1 c2 c3 c4 c5 c6 c7 o x y
set_option maxHeartbeats 0 in
set_option maxRecDepth 100000 in
theorem kickRm_vc (b0 b1 b2 b3 b4 b5 b6 b7 : Bool) (a0 a1 a2 a3 a4 a5 a6 a7 : Int) (ep : Int) (op : Bool) (nx nd hv bn : Int) (s0 s1 s2 s3 s4 s5 s6 s7 c0 c1 c2 c3 c4 c5 c6 c7 : Int) (o : Bool) (x : Int) (y : Int) (z : Int) : kickRmC.vc Tryz.prog (envL envM2) (noCtl) Tryz.f88 [.B b0,.B b1,.B b2,.B b3,.B b4,.B b5,.B b6,.B b7,.I a0,.I a1,.I a2,.I a3,.I a4,.I a5,.I a6,.I a7,.I ep,.B op,.I nx,.I nd,.I hv,.I bn,.I s0,.I s1,.I s2,.I s3,.I s4,.I s5,.I s6,.I s7,.I c0,.I c1,.I c2,.I c3,.I c4,.I c5,.I c6,.I c7,.B o,.I x,.I y,.I z]:=of_eq (b:=let w0:=(⟨[b0,b1,b2,b3,b4,b5,b6,b7],[a0,a1,a2,a3,a4,a5,a6,a7],⟨ep,op,nx,nd,hv,bn⟩,[s0,s1,s2,s3,s4,s5,s6,s7],[c0,c1,c2,c3,c4,c5,c6,c7],o⟩ : RV);let v0:=fun (y_1 : RV × Int)=>eB b0 b1 b2 b3 b4 b5 b6 b7 y_1.1.1 (eI a0 a1 a2 a3 a4 a5 a6 a7 y_1.1.2 (eK ep op nx nd hv bn y_1.1.3 (eI s0 s1 s2 s3 s4 s5 s6 s7 y_1.1.4 (eI c0 c1 c2 c3 c4 c5 c6 c7 y_1.1.5 (o = y_1.1.6)))));∀ (x_1 : Int × Int),x_1 = findRm w0 x -> (x_1.2 = 0 -> ∀ (x_2 : Int × Bool),x_2 = firstG [b0,b1,b2,b3,b4,b5,b6,b7] [a0,a1,a2,a3,a4,a5,a6,a7] -> (x_2.1 = x_1.1 -> ∀ (x_3 : (List Bool × List Int) × Int),x_3 = freeG [b0,b1,b2,b3,b4,b5,b6,b7] [a0,a1,a2,a3,a4,a5,a6,a7] y -> (x_3.2 = 0 -> Lf (0 <= y /\ y < 8) /\ ∀ (x_4 : RV),x_4 = goneG w0 y z -> ∀ (y_1 : RV × Int),y_1 = kickRm w0 x y z -> (uB x_4.1 y_1.1.1 (uI x_4.2 y_1.1.2 (eK x_4.3.1 x_4.3.2 x_4.3.3 x_4.3.4 x_4.3.5 x_4.3.6 y_1.1.3 (uI x_4.4 y_1.1.4 (uI x_4.5 y_1.1.5 (x_4.6 = y_1.1.6)))))) /\ 0 = y_1.2 /\ True) /\ (¬x_3.2 = 0 -> ∀ (y_1 : RV × Int),y_1 = kickRm w0 x y z -> ((v0 y_1)) /\ x_3.2 = y_1.2 /\ True)) /\ (¬x_2.1 = x_1.1 -> ∀ (y_1 : RV × Int),y_1 = kickRm w0 x y z -> ((v0 y_1)) /\ 13 = y_1.2 /\ True)) /\ (¬x_1.2 = 0 -> ∀ (y_1 : RV × Int),y_1 = kickRm w0 x y z -> ((v0 y_1)) /\ x_1.2 = y_1.2 /\ True)) (by kernel_rfl) (by
 dsimp only [jB,jI,eB,eI,uB,uI,oB,oI,eK]
 repeat' (first | apply And.intro | apply Lf.mk | (intro h;dsimp only [kickRm] at h;(repeat (first | rw [if_pos (by assumption)] at h | rw [if_neg (by assumption)] at h | rw [if_neg (Bool.eq_false_iff.1 (by assumption))] at h | rw [if_pos rfl] at h | rw [if_neg Bool.false_ne_true] at h));subst h) | (intro h;subst h) | intro _)
 all_goals first
  | with_reducible trivial
  | rfl
  | omega
  | exact (findRm_bd _ _ rfl (by assumption)).1
  | exact (findRm_bd _ _ rfl (by assumption)).2
  | exact (take_slot _ _ _ rfl (by assumption)).1
  | exact (take_slot _ _ _ rfl (by assumption)).2
  | exact (free_slot _ _ _ (by assumption)).1
  | exact (free_slot _ _ _ (by assumption)).2
  | (simp only [*];rfl)
  | (dsimp only;exact Eq.symm (by assumption)))
set_option maxRecDepth 100000 in
theorem kickRm_ok : SpecOk Tryz.prog 88 kickRmC.spec:=kickRmC.ok envM2_ok mixed (C:=noCtl) Tryz.func88 rfl fun L h hp=>by
 obtain ⟨b0,b1,b2,b3,b4,b5,b6,b7,a0,a1,a2,a3,a4,a5,a6,a7,ep,op,nx,nd,hv,bn,s0,s1,s2,s3,s4,s5,s6,s7,c0,c1,c2,c3,c4,c5,c6,c7,o,_,rfl,h1⟩:=fit_room h
 obtain ⟨x,_,rfl,h2⟩:=fit_i h1
 obtain ⟨y,_,rfl,h3⟩:=fit_i h2
 obtain ⟨z,_,rfl,h4⟩:=fit_i h3
 obtain rfl:=fit_nil h4
 exact kickRm_vc b0 b1 b2 b3 b4 b5 b6 b7 a0 a1 a2 a3 a4 a5 a6 a7 ep op nx nd hv bn s0 s1 s2 s3 s4 s5 s6 s7 c0 c1 c2 c3 c4 c5 c6 c7 o x y z
set_option maxHeartbeats 0 in
set_option maxRecDepth 100000 in
theorem aliveRm_vc (b0 b1 b2 b3 b4 b5 b6 b7 : Bool) (a0 a1 a2 a3 a4 a5 a6 a7 : Int) (ep : Int) (op : Bool) (nx nd hv bn : Int) (s0 s1 s2 s3 s4 s5 s6 s7 c0 c1 c2 c3 c4 c5 c6 c7 : Int) (o : Bool) (x : Int) (y : Int) : aliveRmC.vc Tryz.prog (envL envM2) (ctlP 4 8) Tryz.f62 [.B b0,.B b1,.B b2,.B b3,.B b4,.B b5,.B b6,.B b7,.I a0,.I a1,.I a2,.I a3,.I a4,.I a5,.I a6,.I a7,.I ep,.B op,.I nx,.I nd,.I hv,.I bn,.I s0,.I s1,.I s2,.I s3,.I s4,.I s5,.I s6,.I s7,.I c0,.I c1,.I c2,.I c3,.I c4,.I c5,.I c6,.I c7,.B o,.I x,.I y]:=of_eq (b:=let w0:=(⟨[b0,b1,b2,b3,b4,b5,b6,b7],[a0,a1,a2,a3,a4,a5,a6,a7],⟨ep,op,nx,nd,hv,bn⟩,[s0,s1,s2,s3,s4,s5,s6,s7],[c0,c1,c2,c3,c4,c5,c6,c7],o⟩ : RV);let v0:=fun (y_1 : RV × Int)=>eI c0 c1 c2 c3 c4 c5 c6 c7 y_1.1.5 (o = y_1.1.6);∀ (x_1 : Int × Int),x_1 = findRm w0 x -> (x_1.2 = 0 -> Lf (0 <= x_1.1 /\ x_1.1 < 8) /\ (x_1.1 = 0 -> ∀ (y_1 : RV × Int),y_1 = aliveRm w0 x y -> (eB b0 b1 b2 b3 b4 b5 b6 b7 y_1.1.1 (eI a0 a1 a2 a3 a4 a5 a6 a7 y_1.1.2 (eK ep op nx nd hv bn y_1.1.3 (eI y s1 s2 s3 s4 s5 s6 s7 y_1.1.4 ((v0 y_1)))))) /\ 0 = y_1.2 /\ True) /\ (x_1.1 = 1 -> ∀ (y_1 : RV × Int),y_1 = aliveRm w0 x y -> (eB b0 b1 b2 b3 b4 b5 b6 b7 y_1.1.1 (eI a0 a1 a2 a3 a4 a5 a6 a7 y_1.1.2 (eK ep op nx nd hv bn y_1.1.3 (eI s0 y s2 s3 s4 s5 s6 s7 y_1.1.4 ((v0 y_1)))))) /\ 0 = y_1.2 /\ True) /\ (x_1.1 = 2 -> ∀ (y_1 : RV × Int),y_1 = aliveRm w0 x y -> (eB b0 b1 b2 b3 b4 b5 b6 b7 y_1.1.1 (eI a0 a1 a2 a3 a4 a5 a6 a7 y_1.1.2 (eK ep op nx nd hv bn y_1.1.3 (eI s0 s1 y s3 s4 s5 s6 s7 y_1.1.4 ((v0 y_1)))))) /\ 0 = y_1.2 /\ True) /\ (x_1.1 = 3 -> ∀ (y_1 : RV × Int),y_1 = aliveRm w0 x y -> (eB b0 b1 b2 b3 b4 b5 b6 b7 y_1.1.1 (eI a0 a1 a2 a3 a4 a5 a6 a7 y_1.1.2 (eK ep op nx nd hv bn y_1.1.3 (eI s0 s1 s2 y s4 s5 s6 s7 y_1.1.4 ((v0 y_1)))))) /\ 0 = y_1.2 /\ True) /\ (x_1.1 = 4 -> ∀ (y_1 : RV × Int),y_1 = aliveRm w0 x y -> (eB b0 b1 b2 b3 b4 b5 b6 b7 y_1.1.1 (eI a0 a1 a2 a3 a4 a5 a6 a7 y_1.1.2 (eK ep op nx nd hv bn y_1.1.3 (eI s0 s1 s2 s3 y s5 s6 s7 y_1.1.4 ((v0 y_1)))))) /\ 0 = y_1.2 /\ True) /\ (x_1.1 = 5 -> ∀ (y_1 : RV × Int),y_1 = aliveRm w0 x y -> (eB b0 b1 b2 b3 b4 b5 b6 b7 y_1.1.1 (eI a0 a1 a2 a3 a4 a5 a6 a7 y_1.1.2 (eK ep op nx nd hv bn y_1.1.3 (eI s0 s1 s2 s3 s4 y s6 s7 y_1.1.4 ((v0 y_1)))))) /\ 0 = y_1.2 /\ True) /\ (x_1.1 = 6 -> ∀ (y_1 : RV × Int),y_1 = aliveRm w0 x y -> (eB b0 b1 b2 b3 b4 b5 b6 b7 y_1.1.1 (eI a0 a1 a2 a3 a4 a5 a6 a7 y_1.1.2 (eK ep op nx nd hv bn y_1.1.3 (eI s0 s1 s2 s3 s4 s5 y s7 y_1.1.4 ((v0 y_1)))))) /\ 0 = y_1.2 /\ True) /\ (x_1.1 = 7 -> ∀ (y_1 : RV × Int),y_1 = aliveRm w0 x y -> (eB b0 b1 b2 b3 b4 b5 b6 b7 y_1.1.1 (eI a0 a1 a2 a3 a4 a5 a6 a7 y_1.1.2 (eK ep op nx nd hv bn y_1.1.3 (eI s0 s1 s2 s3 s4 s5 s6 y y_1.1.4 ((v0 y_1)))))) /\ 0 = y_1.2 /\ True) /\ True) /\ (¬x_1.2 = 0 -> ∀ (y_1 : RV × Int),y_1 = aliveRm w0 x y -> (eB b0 b1 b2 b3 b4 b5 b6 b7 y_1.1.1 (eI a0 a1 a2 a3 a4 a5 a6 a7 y_1.1.2 (eK ep op nx nd hv bn y_1.1.3 (eI s0 s1 s2 s3 s4 s5 s6 s7 y_1.1.4 ((v0 y_1)))))) /\ x_1.2 = y_1.2 /\ True)) (by kernel_rfl) (by
 dsimp only [jB,jI,eB,eI,uB,uI,oB,oI,eK]
 repeat' (first | apply And.intro | apply Lf.mk | (intro h;dsimp only [aliveRm] at h;(repeat (first | rw [if_pos (by assumption)] at h | rw [if_neg (by assumption)] at h | rw [if_neg (Bool.eq_false_iff.1 (by assumption))] at h | rw [if_pos rfl] at h | rw [if_neg Bool.false_ne_true] at h));subst h) | (intro h;subst h) | intro _)
 all_goals first
  | with_reducible trivial
  | rfl
  | omega
  | exact (findRm_bd _ _ rfl (by assumption)).1
  | exact (findRm_bd _ _ rfl (by assumption)).2
  | exact (take_slot _ _ _ rfl (by assumption)).1
  | exact (take_slot _ _ _ rfl (by assumption)).2
  | exact (free_slot _ _ _ (by assumption)).1
  | exact (free_slot _ _ _ (by assumption)).2
  | (simp only [*];rfl)
  | (dsimp only;exact Eq.symm (by assumption)))
set_option maxRecDepth 100000 in
theorem aliveRm_ok : SpecOk Tryz.prog 62 aliveRmC.spec:=aliveRmC.ok envM2_ok mixed (C:=ctlP 4 8) Tryz.func62 rfl fun L h hp=>by
 obtain ⟨b0,b1,b2,b3,b4,b5,b6,b7,a0,a1,a2,a3,a4,a5,a6,a7,ep,op,nx,nd,hv,bn,s0,s1,s2,s3,s4,s5,s6,s7,c0,c1,c2,c3,c4,c5,c6,c7,o,_,rfl,h1⟩:=fit_room h
 obtain ⟨x,_,rfl,h2⟩:=fit_i h1
 obtain ⟨y,_,rfl,h3⟩:=fit_i h2
 obtain rfl:=fit_nil h3
 exact aliveRm_vc b0 b1 b2 b3 b4 b5 b6 b7 a0 a1 a2 a3 a4 a5 a6 a7 ep op nx nd hv bn s0 s1 s2 s3 s4 s5 s6 s7 c0 c1 c2 c3 c4 c5 c6 c7 o x y
set_option maxHeartbeats 0 in
set_option maxRecDepth 100000 in
theorem haveRm_vc (b0 b1 b2 b3 b4 b5 b6 b7 : Bool) (a0 a1 a2 a3 a4 a5 a6 a7 : Int) (ep : Int) (op : Bool) (nx nd hv bn : Int) (s0 s1 s2 s3 s4 s5 s6 s7 c0 c1 c2 c3 c4 c5 c6 c7 : Int) (o : Bool) (x : Int) (y : Int) : haveRmC.vc Tryz.prog (envL envM2) (noCtl) Tryz.f92 [.B b0,.B b1,.B b2,.B b3,.B b4,.B b5,.B b6,.B b7,.I a0,.I a1,.I a2,.I a3,.I a4,.I a5,.I a6,.I a7,.I ep,.B op,.I nx,.I nd,.I hv,.I bn,.I s0,.I s1,.I s2,.I s3,.I s4,.I s5,.I s6,.I s7,.I c0,.I c1,.I c2,.I c3,.I c4,.I c5,.I c6,.I c7,.B o,.I x,.I y]:=of_eq (b:=let w0:=(⟨[b0,b1,b2,b3,b4,b5,b6,b7],[a0,a1,a2,a3,a4,a5,a6,a7],⟨ep,op,nx,nd,hv,bn⟩,[s0,s1,s2,s3,s4,s5,s6,s7],[c0,c1,c2,c3,c4,c5,c6,c7],o⟩ : RV);let v0:=fun (y_1 : RV × Bool × Int)=>eB b0 b1 b2 b3 b4 b5 b6 b7 y_1.1.1 (eI a0 a1 a2 a3 a4 a5 a6 a7 y_1.1.2 (eK ep op nx nd hv bn y_1.1.3 (eI s0 s1 s2 s3 s4 s5 s6 s7 y_1.1.4 (eI c0 c1 c2 c3 c4 c5 c6 c7 y_1.1.5 (o = y_1.1.6)))));∀ (x_1 : Int × Int),x_1 = findRm w0 x -> (x_1.2 = 0 -> ∀ (x_2 : RS × Bool × Int),x_2 = ackF (⟨ep,op,nx,nd,hv,bn⟩ : RS) x_1.1 y -> (x_2.2.2 = 0 -> ∀ (y_1 : RV × Bool × Int),y_1 = haveRm w0 x y -> (eB b0 b1 b2 b3 b4 b5 b6 b7 y_1.1.1 (eI a0 a1 a2 a3 a4 a5 a6 a7 y_1.1.2 (eK x_2.1.1 x_2.1.2 x_2.1.3 x_2.1.4 x_2.1.5 x_2.1.6 y_1.1.3 (eI s0 s1 s2 s3 s4 s5 s6 s7 y_1.1.4 (eI c0 c1 c2 c3 c4 c5 c6 c7 y_1.1.5 (o = y_1.1.6)))))) /\ x_2.2.1 = y_1.2.1 /\ 0 = y_1.2.2 /\ True) /\ (¬x_2.2.2 = 0 -> ∀ (y_1 : RV × Bool × Int),y_1 = haveRm w0 x y -> ((v0 y_1)) /\ false = y_1.2.1 /\ x_2.2.2 = y_1.2.2 /\ True)) /\ (¬x_1.2 = 0 -> ∀ (y_1 : RV × Bool × Int),y_1 = haveRm w0 x y -> ((v0 y_1)) /\ false = y_1.2.1 /\ x_1.2 = y_1.2.2 /\ True)) (by kernel_rfl) (by
 dsimp only [jB,jI,eB,eI,uB,uI,oB,oI,eK]
 repeat' (first | apply And.intro | apply Lf.mk | (intro h;dsimp only [haveRm] at h;(repeat (first | rw [if_pos (by assumption)] at h | rw [if_neg (by assumption)] at h | rw [if_neg (Bool.eq_false_iff.1 (by assumption))] at h | rw [if_pos rfl] at h | rw [if_neg Bool.false_ne_true] at h));subst h) | (intro h;subst h) | intro _)
 all_goals first
  | with_reducible trivial
  | rfl
  | omega
  | exact (findRm_bd _ _ rfl (by assumption)).1
  | exact (findRm_bd _ _ rfl (by assumption)).2
  | exact (take_slot _ _ _ rfl (by assumption)).1
  | exact (take_slot _ _ _ rfl (by assumption)).2
  | exact (free_slot _ _ _ (by assumption)).1
  | exact (free_slot _ _ _ (by assumption)).2
  | (simp only [*];rfl)
  | (dsimp only;exact Eq.symm (by assumption)))
set_option maxRecDepth 100000 in
theorem haveRm_ok : SpecOk Tryz.prog 92 haveRmC.spec:=haveRmC.ok envM2_ok mixed (C:=noCtl) Tryz.func92 rfl fun L h hp=>by
 obtain ⟨b0,b1,b2,b3,b4,b5,b6,b7,a0,a1,a2,a3,a4,a5,a6,a7,ep,op,nx,nd,hv,bn,s0,s1,s2,s3,s4,s5,s6,s7,c0,c1,c2,c3,c4,c5,c6,c7,o,_,rfl,h1⟩:=fit_room h
 obtain ⟨x,_,rfl,h2⟩:=fit_i h1
 obtain ⟨y,_,rfl,h3⟩:=fit_i h2
 obtain rfl:=fit_nil h3
 exact haveRm_vc b0 b1 b2 b3 b4 b5 b6 b7 a0 a1 a2 a3 a4 a5 a6 a7 ep op nx nd hv bn s0 s1 s2 s3 s4 s5 s6 s7 c0 c1 c2 c3 c4 c5 c6 c7 o x y
set_option maxHeartbeats 0 in
set_option maxRecDepth 100000 in
theorem joinRm_vc (b0 b1 b2 b3 b4 b5 b6 b7 : Bool) (a0 a1 a2 a3 a4 a5 a6 a7 : Int) (ep : Int) (op : Bool) (nx nd hv bn : Int) (s0 s1 s2 s3 s4 s5 s6 s7 c0 c1 c2 c3 c4 c5 c6 c7 : Int) (o : Bool) (x : Int) (y : Int) : joinRmC.vc Tryz.prog (envL envM1) (ctlP 12 10) Tryz.f84 [.B b0,.B b1,.B b2,.B b3,.B b4,.B b5,.B b6,.B b7,.I a0,.I a1,.I a2,.I a3,.I a4,.I a5,.I a6,.I a7,.I ep,.B op,.I nx,.I nd,.I hv,.I bn,.I s0,.I s1,.I s2,.I s3,.I s4,.I s5,.I s6,.I s7,.I c0,.I c1,.I c2,.I c3,.I c4,.I c5,.I c6,.I c7,.B o,.I x,.I y]:=of_eq (b:=let w0:=(⟨[b0,b1,b2,b3,b4,b5,b6,b7],[a0,a1,a2,a3,a4,a5,a6,a7],⟨ep,op,nx,nd,hv,bn⟩,[s0,s1,s2,s3,s4,s5,s6,s7],[c0,c1,c2,c3,c4,c5,c6,c7],o⟩ : RV);let v0:=fun (y_1 : RV × Int × Int)=>eB b0 b1 b2 b3 b4 b5 b6 b7 y_1.1.1 (eI a0 a1 a2 a3 a4 a5 a6 a7 y_1.1.2 (eK ep op nx nd hv bn y_1.1.3 (eI s0 s1 s2 s3 s4 s5 s6 s7 y_1.1.4 (eI c0 c1 c2 c3 c4 c5 c6 c7 y_1.1.5 (o = y_1.1.6)))));∀ (x_1 : Bool),x_1 = goodRm w0 -> ((!x_1) = true -> ∀ (y_1 : RV × Int × Int),y_1 = joinRm w0 x y -> ((v0 y_1)) /\ 0 = y_1.2.1 /\ 1 = y_1.2.2 /\ True) /\ ((!x_1) = false -> (o = true -> ∀ (y_1 : RV × Int × Int),y_1 = joinRm w0 x y -> ((v0 y_1)) /\ 0 = y_1.2.1 /\ 12 = y_1.2.2 /\ True) /\ (o = false -> ∀ (x_2 : (List Bool × List Int) × Int × Int),x_2 = takeG [b0,b1,b2,b3,b4,b5,b6,b7] [a0,a1,a2,a3,a4,a5,a6,a7] x -> (x_2.2.2 = 0 -> ∀ (x_3 : RS × Int),x_3 = joinF (⟨ep,op,nx,nd,hv,bn⟩ : RS) x_2.2.1 -> (x_3.2 = 0 -> Lf (0 <= x_2.2.1 /\ x_2.2.1 < 8) /\ (x_2.2.1 = 0 -> ∀ (y_1 : RV × Int × Int),y_1 = joinRm w0 x y -> (uB x_2.1.1 y_1.1.1 (uI x_2.1.2 y_1.1.2 (eK x_3.1.1 x_3.1.2 x_3.1.3 x_3.1.4 x_3.1.5 x_3.1.6 y_1.1.3 (eI y s1 s2 s3 s4 s5 s6 s7 y_1.1.4 (eI x_3.1.1 c1 c2 c3 c4 c5 c6 c7 y_1.1.5 (o = y_1.1.6)))))) /\ 0 = y_1.2.1 /\ 0 = y_1.2.2 /\ True) /\ (x_2.2.1 = 1 -> ∀ (y_1 : RV × Int × Int),y_1 = joinRm w0 x y -> (uB x_2.1.1 y_1.1.1 (uI x_2.1.2 y_1.1.2 (eK x_3.1.1 x_3.1.2 x_3.1.3 x_3.1.4 x_3.1.5 x_3.1.6 y_1.1.3 (eI s0 y s2 s3 s4 s5 s6 s7 y_1.1.4 (eI c0 x_3.1.1 c2 c3 c4 c5 c6 c7 y_1.1.5 (o = y_1.1.6)))))) /\ 1 = y_1.2.1 /\ 0 = y_1.2.2 /\ True) /\ (x_2.2.1 = 2 -> ∀ (y_1 : RV × Int × Int),y_1 = joinRm w0 x y -> (uB x_2.1.1 y_1.1.1 (uI x_2.1.2 y_1.1.2 (eK x_3.1.1 x_3.1.2 x_3.1.3 x_3.1.4 x_3.1.5 x_3.1.6 y_1.1.3 (eI s0 s1 y s3 s4 s5 s6 s7 y_1.1.4 (eI c0 c1 x_3.1.1 c3 c4 c5 c6 c7 y_1.1.5 (o = y_1.1.6)))))) /\ 2 = y_1.2.1 /\ 0 = y_1.2.2 /\ True) /\ (x_2.2.1 = 3 -> ∀ (y_1 : RV × Int × Int),y_1 = joinRm w0 x y -> (uB x_2.1.1 y_1.1.1 (uI x_2.1.2 y_1.1.2 (eK x_3.1.1 x_3.1.2 x_3.1.3 x_3.1.4 x_3.1.5 x_3.1.6 y_1.1.3 (eI s0 s1 s2 y s4 s5 s6 s7 y_1.1.4 (eI c0 c1 c2 x_3.1.1 c4 c5 c6 c7 y_1.1.5 (o = y_1.1.6)))))) /\ 3 = y_1.2.1 /\ 0 = y_1.2.2 /\ True) /\ (x_2.2.1 = 4 -> ∀ (y_1 : RV × Int × Int),y_1 = joinRm w0 x y -> (uB x_2.1.1 y_1.1.1 (uI x_2.1.2 y_1.1.2 (eK x_3.1.1 x_3.1.2 x_3.1.3 x_3.1.4 x_3.1.5 x_3.1.6 y_1.1.3 (eI s0 s1 s2 s3 y s5 s6 s7 y_1.1.4 (eI c0 c1 c2 c3 x_3.1.1 c5 c6 c7 y_1.1.5 (o = y_1.1.6)))))) /\ 4 = y_1.2.1 /\ 0 = y_1.2.2 /\ True) /\ (x_2.2.1 = 5 -> ∀ (y_1 : RV × Int × Int),y_1 = joinRm w0 x y -> (uB x_2.1.1 y_1.1.1 (uI x_2.1.2 y_1.1.2 (eK x_3.1.1 x_3.1.2 x_3.1.3 x_3.1.4 x_3.1.5 x_3.1.6 y_1.1.3 (eI s0 s1 s2 s3 s4 y s6 s7 y_1.1.4 (eI c0 c1 c2 c3 c4 x_3.1.1 c6 c7 y_1.1.5 (o = y_1.1.6)))))) /\ 5 = y_1.2.1 /\ 0 = y_1.2.2 /\ True) /\ (x_2.2.1 = 6 -> ∀ (y_1 : RV × Int × Int),y_1 = joinRm w0 x y -> (uB x_2.1.1 y_1.1.1 (uI x_2.1.2 y_1.1.2 (eK x_3.1.1 x_3.1.2 x_3.1.3 x_3.1.4 x_3.1.5 x_3.1.6 y_1.1.3 (eI s0 s1 s2 s3 s4 s5 y s7 y_1.1.4 (eI c0 c1 c2 c3 c4 c5 x_3.1.1 c7 y_1.1.5 (o = y_1.1.6)))))) /\ 6 = y_1.2.1 /\ 0 = y_1.2.2 /\ True) /\ (x_2.2.1 = 7 -> ∀ (y_1 : RV × Int × Int),y_1 = joinRm w0 x y -> (uB x_2.1.1 y_1.1.1 (uI x_2.1.2 y_1.1.2 (eK x_3.1.1 x_3.1.2 x_3.1.3 x_3.1.4 x_3.1.5 x_3.1.6 y_1.1.3 (eI s0 s1 s2 s3 s4 s5 s6 y y_1.1.4 (eI c0 c1 c2 c3 c4 c5 c6 x_3.1.1 y_1.1.5 (o = y_1.1.6)))))) /\ 7 = y_1.2.1 /\ 0 = y_1.2.2 /\ True) /\ True) /\ (¬x_3.2 = 0 -> ∀ (y_1 : RV × Int × Int),y_1 = joinRm w0 x y -> ((v0 y_1)) /\ 0 = y_1.2.1 /\ x_3.2 = y_1.2.2 /\ True)) /\ (¬x_2.2.2 = 0 -> ∀ (y_1 : RV × Int × Int),y_1 = joinRm w0 x y -> ((v0 y_1)) /\ 0 = y_1.2.1 /\ x_2.2.2 = y_1.2.2 /\ True)))) (by kernel_rfl) (by
 dsimp only [jB,jI,eB,eI,uB,uI,oB,oI,eK]
 repeat' (first | apply And.intro | apply Lf.mk | (intro h;dsimp only [joinRm] at h;(repeat (first | rw [if_pos (by assumption)] at h | rw [if_neg (by assumption)] at h | rw [if_neg (Bool.eq_false_iff.1 (by assumption))] at h | rw [if_pos rfl] at h | rw [if_neg Bool.false_ne_true] at h));subst h) | (intro h;subst h) | intro _)
 all_goals first
  | with_reducible trivial
  | rfl
  | omega
  | exact (findRm_bd _ _ rfl (by assumption)).1
  | exact (findRm_bd _ _ rfl (by assumption)).2
  | exact (take_slot _ _ _ rfl (by assumption)).1
  | exact (take_slot _ _ _ rfl (by assumption)).2
  | exact (free_slot _ _ _ (by assumption)).1
  | exact (free_slot _ _ _ (by assumption)).2
  | (simp only [*];rfl)
  | (dsimp only;exact Eq.symm (by assumption)))
set_option maxRecDepth 100000 in
theorem joinRm_ok : SpecOk Tryz.prog 84 joinRmC.spec:=joinRmC.ok envM1_ok mixed (C:=ctlP 12 10) Tryz.func84 rfl fun L h hp=>by
 obtain ⟨b0,b1,b2,b3,b4,b5,b6,b7,a0,a1,a2,a3,a4,a5,a6,a7,ep,op,nx,nd,hv,bn,s0,s1,s2,s3,s4,s5,s6,s7,c0,c1,c2,c3,c4,c5,c6,c7,o,_,rfl,h1⟩:=fit_room h
 obtain ⟨x,_,rfl,h2⟩:=fit_i h1
 obtain ⟨y,_,rfl,h3⟩:=fit_i h2
 obtain rfl:=fit_nil h3
 exact joinRm_vc b0 b1 b2 b3 b4 b5 b6 b7 a0 a1 a2 a3 a4 a5 a6 a7 ep op nx nd hv bn s0 s1 s2 s3 s4 s5 s6 s7 c0 c1 c2 c3 c4 c5 c6 c7 o x y
end Zx.Zr
namespace Zx.Zr
open Go
def mkR (b0 b1 b2 b3 b4 b5 b6 b7 : Bool) (a0 a1 a2 a3 a4 a5 a6 a7 : Int) (ep : Int) (op : Bool) (nx nd hv bn : Int) (s0 s1 s2 s3 s4 s5 s6 s7 c0 c1 c2 c3 c4 c5 c6 c7 : Int) (o : Bool) : RV:=⟨[b0,b1,b2,b3,b4,b5,b6,b7],[a0,a1,a2,a3,a4,a5,a6,a7],⟨ep,op,nx,nd,hv,bn⟩,[s0,s1,s2,s3,s4,s5,s6,s7],[c0,c1,c2,c3,c4,c5,c6,c7],o⟩
def eqRm (x y : RV) : Prop:=x.u.getD 0 false = y.u.getD 0 false /\ x.u.getD 1 false = y.u.getD 1 false /\ x.u.getD 2 false = y.u.getD 2 false /\ x.u.getD 3 false = y.u.getD 3 false /\ x.u.getD 4 false = y.u.getD 4 false /\ x.u.getD 5 false = y.u.getD 5 false /\ x.u.getD 6 false = y.u.getD 6 false /\ x.u.getD 7 false = y.u.getD 7 false /\ x.a.getD 0 0 = y.a.getD 0 0 /\ x.a.getD 1 0 = y.a.getD 1 0 /\ x.a.getD 2 0 = y.a.getD 2 0 /\ x.a.getD 3 0 = y.a.getD 3 0 /\ x.a.getD 4 0 = y.a.getD 4 0 /\ x.a.getD 5 0 = y.a.getD 5 0 /\ x.a.getD 6 0 = y.a.getD 6 0 /\ x.a.getD 7 0 = y.a.getD 7 0 /\ x.k.ep = y.k.ep /\ x.k.op = y.k.op /\ x.k.nx = y.k.nx /\ x.k.nd = y.k.nd /\ x.k.hv = y.k.hv /\ x.k.bn = y.k.bn /\ x.s.getD 0 0 = y.s.getD 0 0 /\ x.s.getD 1 0 = y.s.getD 1 0 /\ x.s.getD 2 0 = y.s.getD 2 0 /\ x.s.getD 3 0 = y.s.getD 3 0 /\ x.s.getD 4 0 = y.s.getD 4 0 /\ x.s.getD 5 0 = y.s.getD 5 0 /\ x.s.getD 6 0 = y.s.getD 6 0 /\ x.s.getD 7 0 = y.s.getD 7 0 /\ x.c.getD 0 0 = y.c.getD 0 0 /\ x.c.getD 1 0 = y.c.getD 1 0 /\ x.c.getD 2 0 = y.c.getD 2 0 /\ x.c.getD 3 0 = y.c.getD 3 0 /\ x.c.getD 4 0 = y.c.getD 4 0 /\ x.c.getD 5 0 = y.c.getD 5 0 /\ x.c.getD 6 0 = y.c.getD 6 0 /\ x.c.getD 7 0 = y.c.getD 7 0 /\ x.o = y.o
def exRm (x : RV) : RV:=⟨[x.u.getD 0 false,x.u.getD 1 false,x.u.getD 2 false,x.u.getD 3 false,x.u.getD 4 false,x.u.getD 5 false,x.u.getD 6 false,x.u.getD 7 false],[x.a.getD 0 0,x.a.getD 1 0,x.a.getD 2 0,x.a.getD 3 0,x.a.getD 4 0,x.a.getD 5 0,x.a.getD 6 0,x.a.getD 7 0],⟨x.k.ep,x.k.op,x.k.nx,x.k.nd,x.k.hv,x.k.bn⟩,[x.s.getD 0 0,x.s.getD 1 0,x.s.getD 2 0,x.s.getD 3 0,x.s.getD 4 0,x.s.getD 5 0,x.s.getD 6 0,x.s.getD 7 0],[x.c.getD 0 0,x.c.getD 1 0,x.c.getD 2 0,x.c.getD 3 0,x.c.getD 4 0,x.c.getD 5 0,x.c.getD 6 0,x.c.getD 7 0],x.o⟩
def zeroRm : RV:=⟨f8,z8,⟨0,false,0,0,0,0⟩,z8,z8,false⟩
theorem eqRm_self (x : RV) : eqRm x x:=⟨rfl,rfl,rfl,rfl,rfl,rfl,rfl,rfl,rfl,rfl,rfl,rfl,rfl,rfl,rfl,rfl,rfl,rfl,rfl,rfl,rfl,rfl,rfl,rfl,rfl,rfl,rfl,rfl,rfl,rfl,rfl,rfl,rfl,rfl,rfl,rfl,rfl,rfl,rfl⟩
theorem eqRm_of {x y : RV} (h : x = y) : eqRm x y:=h ▸ eqRm_self x
theorem exRm_eq {x : RV} (h1 : x.u.length = 8) (h2 : x.a.length = 8) (h3 : x.s.length = 8) (h4 : x.c.length = 8) : exRm x = x:=by
 unfold exRm
 rw [ex8b h1,ex8i h2,ex8i h3,ex8i h4]
theorem gone_len {x : RV} (i now : Int) (h1 : x.u.length = 8) (h2 : x.a.length = 8) (h3 : x.s.length = 8) (h4 : x.c.length = 8) : (goneG x i now).u.length = 8 /\ (goneG x i now).a.length = 8 /\ (goneG x i now).s.length = 8 /\ (goneG x i now).c.length = 8:=by
 have hf:=free_len x.u x.a i
 unfold goneG
 split
 ·simp [hf.1,hf.2,h1,h2,h3,h4]
 ·simp [overG,f8,z8]
theorem tk_gone {R0 x y : RV} {l now i : Int} {k : Nat} (h : tkI R0 l now k x) (hy : y = goneG (exRm x) i now) (hi : i = (k : Int)) (hb : R0.u.getD k false = true) (ho : (!x.o) = true) (hs : silB (R0.s.getD k 0) now = true \/ bitO l k = true) : tkI R0 l now (k + 1) (exRm y):=by
 subst hi
 rw [exRm_eq h.u h.a h.s h.c] at hy
 obtain ⟨g1,g2,g3,g4⟩:=gone_len (k : Int) now h.u h.a h.s h.c
 rw [← hy] at g1 g2 g3 g4
 rw [exRm_eq g1 g2 g3 g4]
 refine ⟨g1,g2,g3,g4, ?_⟩
 have hc : (R0.u.getD k false && !x.o && (silB (R0.s.getD k 0) now || bitO l k)) = true:=by
  rw [hb,ho]
  rcases hs with h | h <;> rw [h] <;> simp
 rw [h.e] at hy hc
 rw [hy]
 simp only [tkN,tkStep]
 rw [if_pos hc]
theorem tk_stay {R0 x : RV} {l now : Int} {k : Nat} (h : tkI R0 l now k x) (hc : (R0.u.getD k false && !x.o && (silB (R0.s.getD k 0) now || bitO l k)) = false) : tkI R0 l now (k + 1) (exRm x):=by
 rw [exRm_eq h.u h.a h.s h.c]
 refine ⟨h.u,h.a,h.s,h.c, ?_⟩
 have he:=h.e
 rw [he] at hc
 simp only [tkN,tkStep]
 rw [if_neg (by rw [hc];simp)]
 exact he
theorem tk_stay_b {R0 x : RV} {l now : Int} {k : Nat} (h : tkI R0 l now k x) (hb : R0.u.getD k false = false) : tkI R0 l now (k + 1) (exRm x):=tk_stay h (by rw [hb];rfl)
theorem tk_stay_o {R0 x : RV} {l now : Int} {k : Nat} (h : tkI R0 l now k x) (ho : (!x.o) = false) : tkI R0 l now (k + 1) (exRm x):=tk_stay h (by rw [ho];simp)
theorem tk_stay_n {R0 x : RV} {l now : Int} {k : Nat} (h : tkI R0 l now k x) (hs : silB (R0.s.getD k 0) now = false) (hl : bitO l k = false) : tkI R0 l now (k + 1) (exRm x):=tk_stay h (by rw [hs,hl];simp)
theorem sil_yes {s now x4 x5 x6 : Int} (h1 : s <= now) (h4 : x4 = IntKind.u64.wrap now) (h5 : x5 = IntKind.u64.wrap s) (h6 : x6 = IntKind.u64.wrap (x4 - x5)) (h : 500 <= x6) : silB s now = true:=by
 subst h6;subst h5;subst h4;simp [silB,h1,h]
theorem sil_no1 {s now : Int} (h1 : ¬s <= now) : silB s now = false:=by simp [silB,h1]
theorem sil_no2 {s now x4 x5 x6 : Int} (h4 : x4 = IntKind.u64.wrap now) (h5 : x5 = IntKind.u64.wrap s) (h6 : x6 = IntKind.u64.wrap (x4 - x5)) (h : ¬500 <= x6) : silB s now = false:=by
 subst h6;subst h5;subst h4;simp only [silB,decide_eq_false h,Bool.and_false]
theorem bit_yes {l p x7 x8 : Int} {k : Nat} (h7 : x7 = l / p) (h8 : x8 = bits .and .i64 x7 1) (h : x8 = 1) (hp : p = 2 ^ ((k : Int).toNat)) : bitO l k = true:=by
 subst hp;subst h7;rw [bitO,← h8,h];rfl
theorem bit_no {l p x7 x8 : Int} {k : Nat} (h7 : x7 = l / p) (h8 : x8 = bits .and .i64 x7 1) (h : ¬x8 = 1) (hp : p = 2 ^ ((k : Int).toNat)) : bitO l k = false:=by
 subst hp;subst h7;rw [bitO,← h8];simpa using h
theorem gl_yes {u v : List Bool} {L : List Int} {n : Nat} (h : L = goneL u v n) (hb : u.getD n false = true) (hv : (!v.getD n false) = true) : L ++ [(n : Int)] = goneL u v (n + 1):=by
 simp only [goneL];rw [if_pos (by rw [hb,hv];rfl),h]
theorem gl_no1 {u v : List Bool} {L : List Int} {n : Nat} (h : L = goneL u v n) (hb : u.getD n false = false) : L = goneL u v (n + 1):=by
 simp only [goneL];rw [if_neg (by rw [hb];simp),h]
theorem gl_no2 {u v : List Bool} {L : List Int} {n : Nat} (h : L = goneL u v n) (hv : (!v.getD n false) = false) : L = goneL u v (n + 1):=by
 simp only [goneL];rw [if_neg (by rw [hv];simp),h]
theorem goneL_len (u v : List Bool) : ∀ n,(goneL u v n).length <= n
 | 0=>by simp [goneL]
 | n + 1=>by
  have:=goneL_len u v n
  simp only [goneL]
  split <;> simp <;> omega
theorem gl_len {u v : List Bool} {L : List Int} {n : Nat} {z : Int} (h : L = goneL u v n) (hn : n <= 8) : (L ++ [z]).length * 8 <= 140737488355328:=by
 have:=goneL_len u v n
 rw [h]
 simp
 omega
theorem tick_good {R x3 : RV} {now l : Int} {L : List Int} {g : Bool} {y : RV × List Int} (hy : y = tickRm R now) (hg : g = goodRm R) (hg' : (!g) = false) (hl : l = lateF R.k now) (h : tkI R l now 8 x3) (hL : L = goneL R.u [x3.u.getD 0 false,x3.u.getD 1 false,x3.u.getD 2 false,x3.u.getD 3 false,x3.u.getD 4 false,x3.u.getD 5 false,x3.u.getD 6 false,x3.u.getD 7 false] 8) : y = (x3,L):=by
 rw [ex8b h.u] at hL
 have e : goodRm R = true:=by rw [← hg];simpa using hg'
 rw [hy,hL,tickRm,if_pos e,← hl,← h.e]
theorem tick_good_e {R x3 : RV} {now l : Int} {L : List Int} {g : Bool} {y : RV × List Int} (hy : y = tickRm R now) (hg : g = goodRm R) (hg' : (!g) = false) (hl : l = lateF R.k now) (h : tkI R l now 8 x3) (hL : L = goneL R.u [x3.u.getD 0 false,x3.u.getD 1 false,x3.u.getD 2 false,x3.u.getD 3 false,x3.u.getD 4 false,x3.u.getD 5 false,x3.u.getD 6 false,x3.u.getD 7 false] 8) : eqRm x3 y.fst:=by
 rw [tick_good hy hg hg' hl h hL]
 exact eqRm_self _
theorem tick_good_l {R x3 : RV} {now l : Int} {L : List Int} {g : Bool} {y : RV × List Int} (hy : y = tickRm R now) (hg : g = goodRm R) (hg' : (!g) = false) (hl : l = lateF R.k now) (h : tkI R l now 8 x3) (hL : L = goneL R.u [x3.u.getD 0 false,x3.u.getD 1 false,x3.u.getD 2 false,x3.u.getD 3 false,x3.u.getD 4 false,x3.u.getD 5 false,x3.u.getD 6 false,x3.u.getD 7 false] 8) : L = y.snd:=(congrArg Prod.snd (tick_good hy hg hg' hl h hL)).symm
theorem tick_bad {R : RV} {now : Int} {g : Bool} {y : RV × List Int} (hy : y = tickRm R now) (hg : g = goodRm R) (hg' : (!g) = true) : y = (R,[]):=by
 have e : goodRm R = false:=by rw [← hg];simpa using hg'
 rw [hy,tickRm,if_neg (by rw [e];simp)]
theorem tk_init (R : RV) (l now : Int) (h1 : R.u.length = 8) (h2 : R.a.length = 8) (h3 : R.s.length = 8) (h4 : R.c.length = 8) : tkI R l now 0 R:=⟨h1,h2,h3,h4,rfl⟩
end Zx.Zr
namespace Zx.Zr
open Go Go.Proofs Go.RowKit
def ownN (x : SV) : Nat:=match x with
 | .s (.c (.own b _ _ _))=>b
 | _=>0
def capN (x : SV) : Nat:=match x with
 | .s (.c (.own _ _ c _))=>c
 | _=>0
def rowN (b : Option Blk) : List Int:=match b with
 | some (.ints _ L)=>L
 | some (.oints _ L)=>L
 | _=>[]
def cRm (cs : List SC) : RV:=⟨cBs cs 0 8,cIs cs 8 8,⟨cellI cs 16,cellB cs 17,cellI cs 18,cellI cs 19,cellI cs 20,cellI cs 21⟩,cIs cs 22 8,cIs cs 30 8,cellB cs 38⟩
def arrB (x : SV) : List Bool:=match x with
 | .s (.a cs)=>cBs cs 0 8
 | _=>[]
def tick1 : Ann where
 A:=RV
 names:=fun s=>[ptrN (s.slots.getD 2 .u),ptrN (s.slots.getD 4 .u),ptrN (s.slots.getD 6 .u)]
 st:=fun k x s=>{ s with slots:=((keepS [1,2,4,6,7,25] 0 s.slots).set 26 (one (.num .i64 (Int.ofNat k)))),heap:=upd s.heap (ptrN (s.slots.getD 2 .u)) (some (.cells 49 (roomL x))) }
 inv:=fun s k x=>tkI (cRm (cellsN (s.heap (ptrN (s.slots.getD 6 .u))))) (intN (s.slots.getD 7 .u)) (intN (s.slots.getD 1 .u)) k x
 wit:=fun s=>cRm (cellsN (s.heap (ptrN (s.slots.getD 2 .u))))
 lit:=some 8
def tick2 : Ann where
 A:=List Int × Nat
 names:=fun s=>[ptrN (s.slots.getD 2 .u),ptrN (s.slots.getD 4 .u),ownN (s.slots.getD 11 .u)]
 r1:=fun s t=>[(ptrN (s.slots.getD 2 .u),ptrN (s.slots.getD 2 .u)),(ptrN (s.slots.getD 4 .u),ptrN (s.slots.getD 4 .u)),(ownN (s.slots.getD 11 .u),ownN (t.slots.getD 11 .u))]
 st:=fun k a s=>{ s with slots:=((keepS [2,4,70] 0 s.slots).set 71 (one (.num .i64 (Int.ofNat k)))).set 11 (one (.own (ownN (s.slots.getD 11 .u)) a.1.length a.2 false)),heap:=upd s.heap (ownN (s.slots.getD 11 .u)) (some (.oints .i64 a.1)) }
 inv:=fun s k a=>a.1 = goneL (arrB (s.slots.getD 70 .u)) (cBs (cellsN (s.heap (ptrN (s.slots.getD 2 .u)))) 0 8) k
 wit:=fun s=>(rowN (s.heap (ownN (s.slots.getD 11 .u))),capN (s.slots.getD 11 .u))
 lit:=some 8
def tickCtl : Ctl:={ lp:=fun j=>if j = 5 then some tick1 else if j = 13 then some tick2 else none,cut:=fun _=>none,fuel:=0,owns:=fun j=>if j = 13 then some (11,.i64) else none }
def tickRmC : Con1:={ pat:=[.a roomK,.v (.i .i64)],out:=fun L _=>.eqn (tickRm (gRm L) (gI L 39)) fun r=>.ret [.c (.a (roomL r.1)),.r .i64 r.2] }
set_option maxHeartbeats 0 in
set_option maxRecDepth 100000 in
theorem tickRm_vc (b0 b1 b2 b3 b4 b5 b6 b7 : Bool) (a0 a1 a2 a3 a4 a5 a6 a7 : Int) (ep : Int) (op : Bool) (nx nd hv bn : Int) (s0 s1 s2 s3 s4 s5 s6 s7 c0 c1 c2 c3 c4 c5 c6 c7 : Int) (o : Bool) (x : Int) : tickRmC.vc Tryz.prog (envL envM2) tickCtl Tryz.f51 [.B b0,.B b1,.B b2,.B b3,.B b4,.B b5,.B b6,.B b7,.I a0,.I a1,.I a2,.I a3,.I a4,.I a5,.I a6,.I a7,.I ep,.B op,.I nx,.I nd,.I hv,.I bn,.I s0,.I s1,.I s2,.I s3,.I s4,.I s5,.I s6,.I s7,.I c0,.I c1,.I c2,.I c3,.I c4,.I c5,.I c6,.I c7,.B o,.I x] []:=of_eq (b:=let w3:=[c0,c1,c2,c3,c4,c5,c6,c7];let w2:=[s0,s1,s2,s3,s4,s5,s6,s7];let w1:=[a0,a1,a2,a3,a4,a5,a6,a7];let w0:=[b0,b1,b2,b3,b4,b5,b6,b7];let v0:=mkR b0 b1 b2 b3 b4 b5 b6 b7 a0 a1 a2 a3 a4 a5 a6 a7 ep op nx nd hv bn s0 s1 s2 s3 s4 s5 s6 s7 c0 c1 c2 c3 c4 c5 c6 c7 o;let v1:=b0 = b0 /\ b1 = b1 /\ b2 = b2 /\ b3 = b3 /\ b4 = b4 /\ b5 = b5 /\ b6 = b6 /\ b7 = b7;let v2:=fun (x_7 : RV)=>(eqRm x_7 (exRm x_7)) /\ (eqRm zeroRm zeroRm) /\ (eqRm (v0) (v0)) /\ True;let v3:=fun (x_2 : Int) (x_7 : RV)=>((x = x /\ ((0 : Nat) = 0 /\ (0 : Nat) = 0) /\ ((0 : Nat) = 0 /\ (0 : Nat) = 0) /\ ((0 : Nat) = 0 /\ (0 : Nat) = 0) /\ x_2 = x_2 /\ (v1) /\ (1 : Int) = 1 /\ True) /\ (v2 x_7)) /\ Lf (tkI (v0) x_2 x 1 (exRm x_7));let v4:=fun (x_2 : Int) (x_7 : RV)=>((x = x /\ ((0 : Nat) = 0 /\ (0 : Nat) = 0) /\ ((0 : Nat) = 0 /\ (0 : Nat) = 0) /\ ((0 : Nat) = 0 /\ (0 : Nat) = 0) /\ x_2 = x_2 /\ (v1) /\ (2 : Int) = 2 /\ True) /\ (v2 x_7)) /\ Lf (tkI (v0) x_2 x 2 (exRm x_7));let v5:=fun (x_2 : Int) (x_7 : RV)=>((x = x /\ ((0 : Nat) = 0 /\ (0 : Nat) = 0) /\ ((0 : Nat) = 0 /\ (0 : Nat) = 0) /\ ((0 : Nat) = 0 /\ (0 : Nat) = 0) /\ x_2 = x_2 /\ (v1) /\ (3 : Int) = 3 /\ True) /\ (v2 x_7)) /\ Lf (tkI (v0) x_2 x 3 (exRm x_7));let v6:=fun (x_2 : Int) (x_7 : RV)=>((x = x /\ ((0 : Nat) = 0 /\ (0 : Nat) = 0) /\ ((0 : Nat) = 0 /\ (0 : Nat) = 0) /\ ((0 : Nat) = 0 /\ (0 : Nat) = 0) /\ x_2 = x_2 /\ (v1) /\ (4 : Int) = 4 /\ True) /\ (v2 x_7)) /\ Lf (tkI (v0) x_2 x 4 (exRm x_7));let v7:=fun (x_2 : Int) (x_7 : RV)=>((x = x /\ ((0 : Nat) = 0 /\ (0 : Nat) = 0) /\ ((0 : Nat) = 0 /\ (0 : Nat) = 0) /\ ((0 : Nat) = 0 /\ (0 : Nat) = 0) /\ x_2 = x_2 /\ (v1) /\ (5 : Int) = 5 /\ True) /\ (v2 x_7)) /\ Lf (tkI (v0) x_2 x 5 (exRm x_7));let v8:=fun (x_2 : Int) (x_7 : RV)=>((x = x /\ ((0 : Nat) = 0 /\ (0 : Nat) = 0) /\ ((0 : Nat) = 0 /\ (0 : Nat) = 0) /\ ((0 : Nat) = 0 /\ (0 : Nat) = 0) /\ x_2 = x_2 /\ (v1) /\ (6 : Int) = 6 /\ True) /\ (v2 x_7)) /\ Lf (tkI (v0) x_2 x 6 (exRm x_7));let v9:=fun (x_2 : Int) (x_7 : RV)=>((x = x /\ ((0 : Nat) = 0 /\ (0 : Nat) = 0) /\ ((0 : Nat) = 0 /\ (0 : Nat) = 0) /\ ((0 : Nat) = 0 /\ (0 : Nat) = 0) /\ x_2 = x_2 /\ (v1) /\ (7 : Int) = 7 /\ True) /\ (v2 x_7)) /\ Lf (tkI (v0) x_2 x 7 (exRm x_7));let v10:=fun (x_2 : Int) (x_7 : RV)=>((x = x /\ ((0 : Nat) = 0 /\ (0 : Nat) = 0) /\ ((0 : Nat) = 0 /\ (0 : Nat) = 0) /\ ((0 : Nat) = 0 /\ (0 : Nat) = 0) /\ x_2 = x_2 /\ (v1) /\ (8 : Int) = 8 /\ True) /\ (v2 x_7)) /\ Lf (tkI (v0) x_2 x 8 (exRm x_7));let v11:=fun (x_3 : RV) (xq : List Int × Nat)=>(eqRm x_3 x_3) /\ (eqRm zeroRm zeroRm) /\ xq.1 = xq.1 /\ True;let v12:=fun (x_3 : RV) (x_2 : Int)=>(b7 = true -> ((!x_3.6) = true -> ∀ (x_7 : Int),x_7 = x_2 / 128 -> ∀ (x_8 : Int),x_8 = bits BinOp.and IntKind.i64 x_7 1 -> (x_8 = 1 -> Lf ((0 : Int) <= 7 /\ (7 : Int) < 8) /\ ∀ (x_9 : RV),x_9 = goneG (exRm x_3) 7 x -> (v10 x_2 x_9)) /\ (¬x_8 = 1 -> (v10 x_2 x_3))) /\ ((!x_3.6) = false -> (v10 x_2 x_3))) /\ (b7 = false -> (v10 x_2 x_3));let v13:=fun (x_3 : RV) (x_2 : Int)=>(b4 = true -> ((!x_3.6) = true -> ∀ (x_7 : Int),x_7 = x_2 / 16 -> ∀ (x_8 : Int),x_8 = bits BinOp.and IntKind.i64 x_7 1 -> (x_8 = 1 -> Lf ((0 : Int) <= 4 /\ (4 : Int) < 8) /\ ∀ (x_9 : RV),x_9 = goneG (exRm x_3) 4 x -> (v7 x_2 x_9)) /\ (¬x_8 = 1 -> (v7 x_2 x_3))) /\ ((!x_3.6) = false -> (v7 x_2 x_3))) /\ (b4 = false -> (v7 x_2 x_3));let v14:=fun (x_3 : RV) (x_2 : Int)=>(b5 = true -> ((!x_3.6) = true -> ∀ (x_7 : Int),x_7 = x_2 / 32 -> ∀ (x_8 : Int),x_8 = bits BinOp.and IntKind.i64 x_7 1 -> (x_8 = 1 -> Lf ((0 : Int) <= 5 /\ (5 : Int) < 8) /\ ∀ (x_9 : RV),x_9 = goneG (exRm x_3) 5 x -> (v8 x_2 x_9)) /\ (¬x_8 = 1 -> (v8 x_2 x_3))) /\ ((!x_3.6) = false -> (v8 x_2 x_3))) /\ (b5 = false -> (v8 x_2 x_3));let v15:=fun (x_3 : RV) (x_2 : Int)=>(b6 = true -> ((!x_3.6) = true -> ∀ (x_7 : Int),x_7 = x_2 / 64 -> ∀ (x_8 : Int),x_8 = bits BinOp.and IntKind.i64 x_7 1 -> (x_8 = 1 -> Lf ((0 : Int) <= 6 /\ (6 : Int) < 8) /\ ∀ (x_9 : RV),x_9 = goneG (exRm x_3) 6 x -> (v9 x_2 x_9)) /\ (¬x_8 = 1 -> (v9 x_2 x_3))) /\ ((!x_3.6) = false -> (v9 x_2 x_3))) /\ (b6 = false -> (v9 x_2 x_3));let v16:=fun (x_3 : RV) (x_2 : Int)=>(b0 = true -> ((!x_3.6) = true -> ∀ (x_7 : Int),x_7 = x_2 / 1 -> ∀ (x_8 : Int),x_8 = bits BinOp.and IntKind.i64 x_7 1 -> (x_8 = 1 -> Lf ((0 : Int) <= 0 /\ (0 : Int) < 8) /\ ∀ (x_9 : RV),x_9 = goneG (exRm x_3) 0 x -> (v3 x_2 x_9)) /\ (¬x_8 = 1 -> (v3 x_2 x_3))) /\ ((!x_3.6) = false -> (v3 x_2 x_3))) /\ (b0 = false -> (v3 x_2 x_3));let v17:=fun (x_3 : RV) (x_2 : Int)=>(b1 = true -> ((!x_3.6) = true -> ∀ (x_7 : Int),x_7 = x_2 / 2 -> ∀ (x_8 : Int),x_8 = bits BinOp.and IntKind.i64 x_7 1 -> (x_8 = 1 -> Lf ((0 : Int) <= 1 /\ (1 : Int) < 8) /\ ∀ (x_9 : RV),x_9 = goneG (exRm x_3) 1 x -> (v4 x_2 x_9)) /\ (¬x_8 = 1 -> (v4 x_2 x_3))) /\ ((!x_3.6) = false -> (v4 x_2 x_3))) /\ (b1 = false -> (v4 x_2 x_3));let v18:=fun (x_3 : RV) (x_2 : Int)=>(b2 = true -> ((!x_3.6) = true -> ∀ (x_7 : Int),x_7 = x_2 / 4 -> ∀ (x_8 : Int),x_8 = bits BinOp.and IntKind.i64 x_7 1 -> (x_8 = 1 -> Lf ((0 : Int) <= 2 /\ (2 : Int) < 8) /\ ∀ (x_9 : RV),x_9 = goneG (exRm x_3) 2 x -> (v5 x_2 x_9)) /\ (¬x_8 = 1 -> (v5 x_2 x_3))) /\ ((!x_3.6) = false -> (v5 x_2 x_3))) /\ (b2 = false -> (v5 x_2 x_3));let v19:=fun (x_3 : RV) (x_2 : Int)=>(b3 = true -> ((!x_3.6) = true -> ∀ (x_7 : Int),x_7 = x_2 / 8 -> ∀ (x_8 : Int),x_8 = bits BinOp.and IntKind.i64 x_7 1 -> (x_8 = 1 -> Lf ((0 : Int) <= 3 /\ (3 : Int) < 8) /\ ∀ (x_9 : RV),x_9 = goneG (exRm x_3) 3 x -> (v6 x_2 x_9)) /\ (¬x_8 = 1 -> (v6 x_2 x_3))) /\ ((!x_3.6) = false -> (v6 x_2 x_3))) /\ (b3 = false -> (v6 x_2 x_3));let v20:=fun (xq : List Int × Nat) (x_3 : RV)=>((((0 : Nat) = 0 /\ (0 : Nat) = 0) /\ ((0 : Nat) = 0 /\ (0 : Nat) = 0) /\ (xq.1.length = xq.1.length /\ xq.2 = xq.2) /\ (v1) /\ (1 : Int) = 1 /\ True) /\ (v11 x_3 xq)) /\ Lf (xq.1 = goneL w0 (jB x_3.1) 1);let v21:=fun (xq : List Int × Nat) (x_3 : RV)=>((((0 : Nat) = 0 /\ (0 : Nat) = 0) /\ ((0 : Nat) = 0 /\ (0 : Nat) = 0) /\ (xq.1.length = xq.1.length /\ xq.2 = xq.2) /\ (v1) /\ (2 : Int) = 2 /\ True) /\ (v11 x_3 xq)) /\ Lf (xq.1 = goneL w0 (jB x_3.1) 2);let v22:=fun (xq : List Int × Nat) (x_3 : RV)=>((((0 : Nat) = 0 /\ (0 : Nat) = 0) /\ ((0 : Nat) = 0 /\ (0 : Nat) = 0) /\ (xq.1.length = xq.1.length /\ xq.2 = xq.2) /\ (v1) /\ (3 : Int) = 3 /\ True) /\ (v11 x_3 xq)) /\ Lf (xq.1 = goneL w0 (jB x_3.1) 3);let v23:=fun (xq : List Int × Nat) (x_3 : RV)=>((((0 : Nat) = 0 /\ (0 : Nat) = 0) /\ ((0 : Nat) = 0 /\ (0 : Nat) = 0) /\ (xq.1.length = xq.1.length /\ xq.2 = xq.2) /\ (v1) /\ (4 : Int) = 4 /\ True) /\ (v11 x_3 xq)) /\ Lf (xq.1 = goneL w0 (jB x_3.1) 4);let v24:=fun (xq : List Int × Nat) (x_3 : RV)=>((((0 : Nat) = 0 /\ (0 : Nat) = 0) /\ ((0 : Nat) = 0 /\ (0 : Nat) = 0) /\ (xq.1.length = xq.1.length /\ xq.2 = xq.2) /\ (v1) /\ (5 : Int) = 5 /\ True) /\ (v11 x_3 xq)) /\ Lf (xq.1 = goneL w0 (jB x_3.1) 5);let v25:=fun (xq : List Int × Nat) (x_3 : RV)=>((((0 : Nat) = 0 /\ (0 : Nat) = 0) /\ ((0 : Nat) = 0 /\ (0 : Nat) = 0) /\ (xq.1.length = xq.1.length /\ xq.2 = xq.2) /\ (v1) /\ (6 : Int) = 6 /\ True) /\ (v11 x_3 xq)) /\ Lf (xq.1 = goneL w0 (jB x_3.1) 6);let v26:=fun (xq : List Int × Nat) (x_3 : RV)=>((((0 : Nat) = 0 /\ (0 : Nat) = 0) /\ ((0 : Nat) = 0 /\ (0 : Nat) = 0) /\ (xq.1.length = xq.1.length /\ xq.2 = xq.2) /\ (v1) /\ (7 : Int) = 7 /\ True) /\ (v11 x_3 xq)) /\ Lf (xq.1 = goneL w0 (jB x_3.1) 7);let v27:=fun (xq : List Int × Nat) (x_3 : RV)=>((((0 : Nat) = 0 /\ (0 : Nat) = 0) /\ ((0 : Nat) = 0 /\ (0 : Nat) = 0) /\ (xq.1.length = xq.1.length /\ xq.2 = xq.2) /\ (v1) /\ (8 : Int) = 8 /\ True) /\ (v11 x_3 xq)) /\ Lf (xq.1 = goneL w0 (jB x_3.1) 8);∀ (x_1 : Bool),x_1 = goodRm (v0) -> ((!x_1) = true -> ∀ (y : RV × List Int),y = tickRm (v0) x -> (eqRm (v0) y.1) /\ [] = y.2 /\ True) /\ ((!x_1) = false -> ∀ (x_2 : Int),x_2 = lateF (⟨ep,op,nx,nd,hv,bn⟩ : RS) x -> (((x = x /\ ((0 : Nat) = 0 /\ (0 : Nat) = 0) /\ ((0 : Nat) = 0 /\ (0 : Nat) = 0) /\ ((0 : Nat) = 0 /\ (0 : Nat) = 0) /\ x_2 = x_2 /\ (v1) /\ (0 : Int) = 0 /\ True) /\ (b0 = w0.getD 0 false /\ b1 = w0.getD 1 false /\ b2 = w0.getD 2 false /\ b3 = w0.getD 3 false /\ b4 = w0.getD 4 false /\ b5 = w0.getD 5 false /\ b6 = w0.getD 6 false /\ b7 = w0.getD 7 false /\ a0 = w1.getD 0 0 /\ a1 = w1.getD 1 0 /\ a2 = w1.getD 2 0 /\ a3 = w1.getD 3 0 /\ a4 = w1.getD 4 0 /\ a5 = w1.getD 5 0 /\ a6 = w1.getD 6 0 /\ a7 = w1.getD 7 0 /\ ep = ep /\ op = op /\ nx = nx /\ nd = nd /\ hv = hv /\ bn = bn /\ s0 = w2.getD 0 0 /\ s1 = w2.getD 1 0 /\ s2 = w2.getD 2 0 /\ s3 = w2.getD 3 0 /\ s4 = w2.getD 4 0 /\ s5 = w2.getD 5 0 /\ s6 = w2.getD 6 0 /\ s7 = w2.getD 7 0 /\ c0 = w3.getD 0 0 /\ c1 = w3.getD 1 0 /\ c2 = w3.getD 2 0 /\ c3 = w3.getD 3 0 /\ c4 = w3.getD 4 0 /\ c5 = w3.getD 5 0 /\ c6 = w3.getD 6 0 /\ c7 = w3.getD 7 0 /\ o = o) /\ (eqRm zeroRm zeroRm) /\ (eqRm (v0) (v0)) /\ True) /\ Lf (tkI (v0) x_2 x 0 (v0))) /\ (∀ (x_3 : RV),tkI (v0) x_2 x 0 x_3 -> (s0 <= x -> ∀ (x_4 : Int),x_4 = IntKind.u64.wrap x -> ∀ (x_5 : Int),x_5 = IntKind.u64.wrap s0 -> ∀ (x_6 : Int),x_6 = IntKind.u64.wrap (x_4 - x_5) -> (500 <= x_6 -> (b0 = true -> ((!x_3.6) = true -> Lf ((0 : Int) <= 0 /\ (0 : Int) < 8) /\ ∀ (x_7 : RV),x_7 = goneG (exRm x_3) 0 x -> (v3 x_2 x_7)) /\ ((!x_3.6) = false -> (v3 x_2 x_3))) /\ (b0 = false -> (v3 x_2 x_3))) /\ (¬500 <= x_6 -> (v16 x_3 x_2))) /\ (¬s0 <= x -> (v16 x_3 x_2))) /\ (∀ (x_3 : RV),tkI (v0) x_2 x 1 x_3 -> (s1 <= x -> ∀ (x_4 : Int),x_4 = IntKind.u64.wrap x -> ∀ (x_5 : Int),x_5 = IntKind.u64.wrap s1 -> ∀ (x_6 : Int),x_6 = IntKind.u64.wrap (x_4 - x_5) -> (500 <= x_6 -> (b1 = true -> ((!x_3.6) = true -> Lf ((0 : Int) <= 1 /\ (1 : Int) < 8) /\ ∀ (x_7 : RV),x_7 = goneG (exRm x_3) 1 x -> (v4 x_2 x_7)) /\ ((!x_3.6) = false -> (v4 x_2 x_3))) /\ (b1 = false -> (v4 x_2 x_3))) /\ (¬500 <= x_6 -> (v17 x_3 x_2))) /\ (¬s1 <= x -> (v17 x_3 x_2))) /\ (∀ (x_3 : RV),tkI (v0) x_2 x 2 x_3 -> (s2 <= x -> ∀ (x_4 : Int),x_4 = IntKind.u64.wrap x -> ∀ (x_5 : Int),x_5 = IntKind.u64.wrap s2 -> ∀ (x_6 : Int),x_6 = IntKind.u64.wrap (x_4 - x_5) -> (500 <= x_6 -> (b2 = true -> ((!x_3.6) = true -> Lf ((0 : Int) <= 2 /\ (2 : Int) < 8) /\ ∀ (x_7 : RV),x_7 = goneG (exRm x_3) 2 x -> (v5 x_2 x_7)) /\ ((!x_3.6) = false -> (v5 x_2 x_3))) /\ (b2 = false -> (v5 x_2 x_3))) /\ (¬500 <= x_6 -> (v18 x_3 x_2))) /\ (¬s2 <= x -> (v18 x_3 x_2))) /\ (∀ (x_3 : RV),tkI (v0) x_2 x 3 x_3 -> (s3 <= x -> ∀ (x_4 : Int),x_4 = IntKind.u64.wrap x -> ∀ (x_5 : Int),x_5 = IntKind.u64.wrap s3 -> ∀ (x_6 : Int),x_6 = IntKind.u64.wrap (x_4 - x_5) -> (500 <= x_6 -> (b3 = true -> ((!x_3.6) = true -> Lf ((0 : Int) <= 3 /\ (3 : Int) < 8) /\ ∀ (x_7 : RV),x_7 = goneG (exRm x_3) 3 x -> (v6 x_2 x_7)) /\ ((!x_3.6) = false -> (v6 x_2 x_3))) /\ (b3 = false -> (v6 x_2 x_3))) /\ (¬500 <= x_6 -> (v19 x_3 x_2))) /\ (¬s3 <= x -> (v19 x_3 x_2))) /\ (∀ (x_3 : RV),tkI (v0) x_2 x 4 x_3 -> (s4 <= x -> ∀ (x_4 : Int),x_4 = IntKind.u64.wrap x -> ∀ (x_5 : Int),x_5 = IntKind.u64.wrap s4 -> ∀ (x_6 : Int),x_6 = IntKind.u64.wrap (x_4 - x_5) -> (500 <= x_6 -> (b4 = true -> ((!x_3.6) = true -> Lf ((0 : Int) <= 4 /\ (4 : Int) < 8) /\ ∀ (x_7 : RV),x_7 = goneG (exRm x_3) 4 x -> (v7 x_2 x_7)) /\ ((!x_3.6) = false -> (v7 x_2 x_3))) /\ (b4 = false -> (v7 x_2 x_3))) /\ (¬500 <= x_6 -> (v13 x_3 x_2))) /\ (¬s4 <= x -> (v13 x_3 x_2))) /\ (∀ (x_3 : RV),tkI (v0) x_2 x 5 x_3 -> (s5 <= x -> ∀ (x_4 : Int),x_4 = IntKind.u64.wrap x -> ∀ (x_5 : Int),x_5 = IntKind.u64.wrap s5 -> ∀ (x_6 : Int),x_6 = IntKind.u64.wrap (x_4 - x_5) -> (500 <= x_6 -> (b5 = true -> ((!x_3.6) = true -> Lf ((0 : Int) <= 5 /\ (5 : Int) < 8) /\ ∀ (x_7 : RV),x_7 = goneG (exRm x_3) 5 x -> (v8 x_2 x_7)) /\ ((!x_3.6) = false -> (v8 x_2 x_3))) /\ (b5 = false -> (v8 x_2 x_3))) /\ (¬500 <= x_6 -> (v14 x_3 x_2))) /\ (¬s5 <= x -> (v14 x_3 x_2))) /\ (∀ (x_3 : RV),tkI (v0) x_2 x 6 x_3 -> (s6 <= x -> ∀ (x_4 : Int),x_4 = IntKind.u64.wrap x -> ∀ (x_5 : Int),x_5 = IntKind.u64.wrap s6 -> ∀ (x_6 : Int),x_6 = IntKind.u64.wrap (x_4 - x_5) -> (500 <= x_6 -> (b6 = true -> ((!x_3.6) = true -> Lf ((0 : Int) <= 6 /\ (6 : Int) < 8) /\ ∀ (x_7 : RV),x_7 = goneG (exRm x_3) 6 x -> (v9 x_2 x_7)) /\ ((!x_3.6) = false -> (v9 x_2 x_3))) /\ (b6 = false -> (v9 x_2 x_3))) /\ (¬500 <= x_6 -> (v15 x_3 x_2))) /\ (¬s6 <= x -> (v15 x_3 x_2))) /\ (∀ (x_3 : RV),tkI (v0) x_2 x 7 x_3 -> (s7 <= x -> ∀ (x_4 : Int),x_4 = IntKind.u64.wrap x -> ∀ (x_5 : Int),x_5 = IntKind.u64.wrap s7 -> ∀ (x_6 : Int),x_6 = IntKind.u64.wrap (x_4 - x_5) -> (500 <= x_6 -> (b7 = true -> ((!x_3.6) = true -> Lf ((0 : Int) <= 7 /\ (7 : Int) < 8) /\ ∀ (x_7 : RV),x_7 = goneG (exRm x_3) 7 x -> (v10 x_2 x_7)) /\ ((!x_3.6) = false -> (v10 x_2 x_3))) /\ (b7 = false -> (v10 x_2 x_3))) /\ (¬500 <= x_6 -> (v12 x_3 x_2))) /\ (¬s7 <= x -> (v12 x_3 x_2))) /\ ∀ (x_3 : RV),tkI (v0) x_2 x 8 x_3 -> ∀ (c : Nat),0 <= c -> (((((0 : Nat) = 0 /\ (0 : Nat) = 0) /\ ((0 : Nat) = 0 /\ (0 : Nat) = 0) /\ (0 = ([] : List Int).length /\ c = c) /\ (v1) /\ (0 : Int) = 0 /\ True) /\ (eqRm x_3 x_3) /\ (eqRm zeroRm zeroRm) /\ ([] : List Int) = [] /\ True) /\ Lf ([] = goneL w0 (jB x_3.1) 0)) /\ (∀ (xq : List Int × Nat),xq.1 = goneL w0 (jB x_3.1) 0 -> (b0 = true -> ((!x_3.1.getD 0 false) = true -> Lf ((xq.1 ++ [0]).length * (8 : Nat) <= 140737488355328) /\ ∀ (x_4 : Nat),(xq.1 ++ [0]).length <= x_4 -> ((((0 : Nat) = 0 /\ (0 : Nat) = 0) /\ ((0 : Nat) = 0 /\ (0 : Nat) = 0) /\ ((xq.1 ++ [0]).length = (xq.1 ++ [0]).length /\ x_4 = x_4) /\ (v1) /\ (1 : Int) = 1 /\ True) /\ (eqRm x_3 x_3) /\ (eqRm zeroRm zeroRm) /\ xq.1 ++ [0] = xq.1 ++ [0] /\ True) /\ Lf (xq.1 ++ [0] = goneL w0 (jB x_3.1) 1)) /\ ((!x_3.1.getD 0 false) = false -> (v20 xq x_3))) /\ (b0 = false -> (v20 xq x_3))) /\ (∀ (xq : List Int × Nat),xq.1 = goneL w0 (jB x_3.1) 1 -> (b1 = true -> ((!x_3.1.getD 1 false) = true -> Lf ((xq.1 ++ [1]).length * (8 : Nat) <= 140737488355328) /\ ∀ (x_4 : Nat),(xq.1 ++ [1]).length <= x_4 -> ((((0 : Nat) = 0 /\ (0 : Nat) = 0) /\ ((0 : Nat) = 0 /\ (0 : Nat) = 0) /\ ((xq.1 ++ [1]).length = (xq.1 ++ [1]).length /\ x_4 = x_4) /\ (v1) /\ (2 : Int) = 2 /\ True) /\ (eqRm x_3 x_3) /\ (eqRm zeroRm zeroRm) /\ xq.1 ++ [1] = xq.1 ++ [1] /\ True) /\ Lf (xq.1 ++ [1] = goneL w0 (jB x_3.1) 2)) /\ ((!x_3.1.getD 1 false) = false -> (v21 xq x_3))) /\ (b1 = false -> (v21 xq x_3))) /\ (∀ (xq : List Int × Nat),xq.1 = goneL w0 (jB x_3.1) 2 -> (b2 = true -> ((!x_3.1.getD 2 false) = true -> Lf ((xq.1 ++ [2]).length * (8 : Nat) <= 140737488355328) /\ ∀ (x_4 : Nat),(xq.1 ++ [2]).length <= x_4 -> ((((0 : Nat) = 0 /\ (0 : Nat) = 0) /\ ((0 : Nat) = 0 /\ (0 : Nat) = 0) /\ ((xq.1 ++ [2]).length = (xq.1 ++ [2]).length /\ x_4 = x_4) /\ (v1) /\ (3 : Int) = 3 /\ True) /\ (eqRm x_3 x_3) /\ (eqRm zeroRm zeroRm) /\ xq.1 ++ [2] = xq.1 ++ [2] /\ True) /\ Lf (xq.1 ++ [2] = goneL w0 (jB x_3.1) 3)) /\ ((!x_3.1.getD 2 false) = false -> (v22 xq x_3))) /\ (b2 = false -> (v22 xq x_3))) /\ (∀ (xq : List Int × Nat),xq.1 = goneL w0 (jB x_3.1) 3 -> (b3 = true -> ((!x_3.1.getD 3 false) = true -> Lf ((xq.1 ++ [3]).length * (8 : Nat) <= 140737488355328) /\ ∀ (x_4 : Nat),(xq.1 ++ [3]).length <= x_4 -> ((((0 : Nat) = 0 /\ (0 : Nat) = 0) /\ ((0 : Nat) = 0 /\ (0 : Nat) = 0) /\ ((xq.1 ++ [3]).length = (xq.1 ++ [3]).length /\ x_4 = x_4) /\ (v1) /\ (4 : Int) = 4 /\ True) /\ (eqRm x_3 x_3) /\ (eqRm zeroRm zeroRm) /\ xq.1 ++ [3] = xq.1 ++ [3] /\ True) /\ Lf (xq.1 ++ [3] = goneL w0 (jB x_3.1) 4)) /\ ((!x_3.1.getD 3 false) = false -> (v23 xq x_3))) /\ (b3 = false -> (v23 xq x_3))) /\ (∀ (xq : List Int × Nat),xq.1 = goneL w0 (jB x_3.1) 4 -> (b4 = true -> ((!x_3.1.getD 4 false) = true -> Lf ((xq.1 ++ [4]).length * (8 : Nat) <= 140737488355328) /\ ∀ (x_4 : Nat),(xq.1 ++ [4]).length <= x_4 -> ((((0 : Nat) = 0 /\ (0 : Nat) = 0) /\ ((0 : Nat) = 0 /\ (0 : Nat) = 0) /\ ((xq.1 ++ [4]).length = (xq.1 ++ [4]).length /\ x_4 = x_4) /\ (v1) /\ (5 : Int) = 5 /\ True) /\ (eqRm x_3 x_3) /\ (eqRm zeroRm zeroRm) /\ xq.1 ++ [4] = xq.1 ++ [4] /\ True) /\ Lf (xq.1 ++ [4] = goneL w0 (jB x_3.1) 5)) /\ ((!x_3.1.getD 4 false) = false -> (v24 xq x_3))) /\ (b4 = false -> (v24 xq x_3))) /\ (∀ (xq : List Int × Nat),xq.1 = goneL w0 (jB x_3.1) 5 -> (b5 = true -> ((!x_3.1.getD 5 false) = true -> Lf ((xq.1 ++ [5]).length * (8 : Nat) <= 140737488355328) /\ ∀ (x_4 : Nat),(xq.1 ++ [5]).length <= x_4 -> ((((0 : Nat) = 0 /\ (0 : Nat) = 0) /\ ((0 : Nat) = 0 /\ (0 : Nat) = 0) /\ ((xq.1 ++ [5]).length = (xq.1 ++ [5]).length /\ x_4 = x_4) /\ (v1) /\ (6 : Int) = 6 /\ True) /\ (eqRm x_3 x_3) /\ (eqRm zeroRm zeroRm) /\ xq.1 ++ [5] = xq.1 ++ [5] /\ True) /\ Lf (xq.1 ++ [5] = goneL w0 (jB x_3.1) 6)) /\ ((!x_3.1.getD 5 false) = false -> (v25 xq x_3))) /\ (b5 = false -> (v25 xq x_3))) /\ (∀ (xq : List Int × Nat),xq.1 = goneL w0 (jB x_3.1) 6 -> (b6 = true -> ((!x_3.1.getD 6 false) = true -> Lf ((xq.1 ++ [6]).length * (8 : Nat) <= 140737488355328) /\ ∀ (x_4 : Nat),(xq.1 ++ [6]).length <= x_4 -> ((((0 : Nat) = 0 /\ (0 : Nat) = 0) /\ ((0 : Nat) = 0 /\ (0 : Nat) = 0) /\ ((xq.1 ++ [6]).length = (xq.1 ++ [6]).length /\ x_4 = x_4) /\ (v1) /\ (7 : Int) = 7 /\ True) /\ (eqRm x_3 x_3) /\ (eqRm zeroRm zeroRm) /\ xq.1 ++ [6] = xq.1 ++ [6] /\ True) /\ Lf (xq.1 ++ [6] = goneL w0 (jB x_3.1) 7)) /\ ((!x_3.1.getD 6 false) = false -> (v26 xq x_3))) /\ (b6 = false -> (v26 xq x_3))) /\ (∀ (xq : List Int × Nat),xq.1 = goneL w0 (jB x_3.1) 7 -> (b7 = true -> ((!x_3.1.getD 7 false) = true -> Lf ((xq.1 ++ [7]).length * (8 : Nat) <= 140737488355328) /\ ∀ (x_4 : Nat),(xq.1 ++ [7]).length <= x_4 -> ((((0 : Nat) = 0 /\ (0 : Nat) = 0) /\ ((0 : Nat) = 0 /\ (0 : Nat) = 0) /\ ((xq.1 ++ [7]).length = (xq.1 ++ [7]).length /\ x_4 = x_4) /\ (v1) /\ (8 : Int) = 8 /\ True) /\ (eqRm x_3 x_3) /\ (eqRm zeroRm zeroRm) /\ xq.1 ++ [7] = xq.1 ++ [7] /\ True) /\ Lf (xq.1 ++ [7] = goneL w0 (jB x_3.1) 8)) /\ ((!x_3.1.getD 7 false) = false -> (v27 xq x_3))) /\ (b7 = false -> (v27 xq x_3))) /\ ∀ (x_4 : List Int × Nat),x_4.1 = goneL w0 (jB x_3.1) 8 -> ∀ (y : RV × List Int),y = tickRm (v0) x -> (eqRm x_3 y.1) /\ x_4.1 = y.2 /\ True)) (by kernel_rfl) (by
 dsimp only [jB,jI,eB,eI,uB,uI,oB,oI,eK]
 repeat' (first | with_reducible apply And.intro | apply Lf.mk | intro _)
 all_goals first
  | with_reducible trivial
  | with_reducible rfl
  | exact eqRm_self _
  | exact eqRm_ex _
  | omega
  | exact tk_init _ _ _ rfl rfl rfl rfl
  | exact tk_gone (by assumption) (by assumption) rfl (by assumption) (by assumption) (.inl (sil_yes (by assumption) (by assumption) (by assumption) (by assumption) (by assumption)))
  | exact tk_gone (by assumption) (by assumption) rfl (by assumption) (by assumption) (.inr (bit_yes (by assumption) (by assumption) (by assumption) (by decide)))
  | exact tk_stay_b (by assumption) (by assumption)
  | exact tk_stay_o (by assumption) (by assumption)
  | exact tk_stay_n (by assumption) (sil_no1 (by assumption)) (bit_no (by assumption) (by assumption) (by assumption) (by decide))
  | exact tk_stay_n (by assumption) (sil_no2 (by assumption) (by assumption) (by assumption) (by assumption)) (bit_no (by assumption) (by assumption) (by assumption) (by decide))
  | exact gl_len (by assumption) (by omega)
  | exact gl_yes (by assumption) (by assumption) (by assumption)
  | exact gl_no1 (by assumption) (by assumption)
  | exact gl_no2 (by assumption) (by assumption)
  | exact tick_good_e (by assumption) (by assumption) (by assumption) (by assumption) (by assumption) (by assumption)
  | exact tick_good_l (by assumption) (by assumption) (by assumption) (by assumption) (by assumption) (by assumption)
  | exact eqRm_of (congrArg Prod.fst (tick_bad (by assumption) (by assumption) (by assumption))).symm
  | exact (congrArg Prod.snd (tick_bad (by assumption) (by assumption) (by assumption))).symm
  | rfl
  | skip)
set_option maxRecDepth 100000 in
theorem tickRm_ok : SpecOk Tryz.prog 51 tickRmC.spec:=Con1.ok envM2_ok mixed (C:=tickCtl) Tryz.func51 rfl tickRmC fun L R h hR _ _=>by
 obtain ⟨b0,b1,b2,b3,b4,b5,b6,b7,a0,a1,a2,a3,a4,a5,a6,a7,ep,op,nx,nd,hv,bn,s0,s1,s2,s3,s4,s5,s6,s7,c0,c1,c2,c3,c4,c5,c6,c7,o,_,rfl,h1⟩:=fit_room (ks:=[.i .i64]) h
 obtain ⟨x,_,rfl,h2⟩:=fit_i h1
 obtain rfl:=fit_nil h2
 obtain rfl : R = []:=List.eq_nil_of_length_eq_zero hR
 exact tickRm_vc b0 b1 b2 b3 b4 b5 b6 b7 a0 a1 a2 a3 a4 a5 a6 a7 ep op nx nd hv bn s0 s1 s2 s3 s4 s5 s6 s7 c0 c1 c2 c3 c4 c5 c6 c7 o x
end Zx.Zr
