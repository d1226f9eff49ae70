/- A part of the proof: lemmas. No condition of its own. -/
import Derived.Test.YtglcgbhhkjebbaaGreatK08
import Derived.Test.YtglcgbhhkjebbaaGreatK17
import Derived.Test.YtglcgbhhkjebbaaGreatK19
import Derived.Test.YtglcgbhhkjebbaaGreatK20
import Derived.Test.YtglcgbhhkjebbaaGreatK23
set_option linter.unusedVariables false
set_option linter.unusedSimpArgs false
namespace VtTop
noncomputable section
open Go Zx Vx
set_option maxRecDepth 100000
theorem put92 : zTab 92 = (relaxL (zTab 92)).take 1470 ++ ((relaxL (zTab 92)).drop 1470).map strC:=eqCS_eq (by kernel_rfl)
theorem len92 : (relaxL (zTab 92)).length = 1535:=by kernel_rfl
theorem rel92 : (relaxL (zTab 92)).drop 1470 = List.replicate 64 (kP false) ++ [.ptr 135 114 false]:=eqCS_eq (by kernel_rfl)
theorem putD_sits92 {sg : Sig} {b o : Nat} (h : Sits sg b o (relaxL (zTab 92))) : Sits (putD sg b (o + 1470) (o + 1535)) b o (zTab 92):=fun j c hc=>by
 rw [put92] at hc
 have hl : ((relaxL (zTab 92)).take 1470).length = 1470:=by rw [List.length_take,len92];rfl
 unfold putD
 by_cases hj : j < 1470
 ·rw [List.getElem?_append_left (by omega),List.getElem?_take_of_lt hj] at hc
  rw [if_neg (by omega)]
  exact h j c hc
 ·rw [List.getElem?_append_right (by omega),hl,List.getElem?_map,List.getElem?_drop] at hc
  obtain ⟨c0,h0,rfl⟩:=Option.map_eq_some_iff.1 hc
  rw [show 1470 + (j - 1470) = j by omega] at h0
  have hlt:=(List.getElem?_eq_some_iff.1 h0).1
  rw [len92] at hlt
  rw [if_pos ⟨rfl,by omega,by omega⟩,h j c0 h0]
  rfl
theorem pCs_mem (b : Nat) (q : Bool) : ∀ (n k i : Nat),i < n -> (⟨b,⟨((1470 + (k + i) : Nat) : Int),[(b,1)]⟩,kP q,cP 116 (1 + (k + i))⟩ : Cell) ∈ pCs b q k n
 | n + 1,k,0,_=>List.mem_cons_self
 | n + 1,k,i + 1,h=>by
  have:=pCs_mem b q n (k + 1) i (by omega)
  rw [show k + 1 + i = k + (i + 1) by omega] at this
  exact List.mem_cons_of_mem _ this
def nmK (i : Nat) : CS:=if i < 64 then kP false else .ptr 135 114 false
theorem rel92_get {i : Nat} (h : i < 65) : (relaxL (zTab 92))[1470 + i]? = some (nmK i):=by
 have e:=List.getElem?_drop (xs:=relaxL (zTab 92)) (i:=1470) (j:=i)
 rw [← e,rel92]
 unfold nmK
 by_cases h4 : i < 64
 ·rw [List.getElem?_append_left (by rw [List.length_replicate];exact h4),if_pos h4,List.getElem?_replicate,if_pos h4]
 ·have : i = 64:=by omega
  subst this
  rfl
theorem put_zone {sg1 : Sig} {w' : World} {b o : Nat} (hz : ZoneOk sg1 w') (hs : Sits sg1 b o (relaxL (zTab 92)))
  (hp : ∀ i,i < 65 -> ∃ (cur : Array Value) (t : TF) (b' o' : Nat),w'.heap[b]? = some (.cells cur t.1 t.2) /\ cur[o + (1470 + i)]? = some (.pointer (some ⟨b',o',none⟩)) /\ Sits sg1 b' o' (zTab (if i < 64 then 116 else 114))) :
  ZoneOk (putD sg1 b (o + 1470) (o + 1535)) w':=fun x y c h=>by
 have h0:=h
 unfold putD at h
 split at h
 ·rename_i hr
  obtain ⟨rfl,h1,h2⟩:=hr
  obtain ⟨i,rfl,hi⟩ : ∃ i,y = o + (1470 + i) /\ i < 65:=⟨y - (o + 1470),by omega,by omega⟩
  rw [hs _ _ (rel92_get hi)] at h
  cases h
  obtain ⟨cur,t,b',o',g1,g2,g3⟩:=hp i hi
  obtain ⟨_,t9,_,j1,_,_,nf⟩:=hz _ _ _ (hs _ _ (rel92_get hi))
  obtain ⟨_,rfl⟩:=cells_inj g1 j1
  refine ⟨cur,t,_,g1,g2, ?_,nf⟩
  unfold nmK
  by_cases h4 : i < 64
  ·rw [if_pos h4] at g3 ⊢
   exact .inr ⟨b',o',rfl,putD_sits g3⟩
  ·rw [if_neg h4] at g3 ⊢
   exact .inr ⟨b',o',rfl,putD_sits g3⟩
 ·obtain ⟨cur,t,v,g1,g2,g3⟩:=hz x y c h
  exact ⟨cur,t,v,g1,g2,putD_ok g3.1,g3.2⟩
theorem cell_put {sg : Sig} {ρ ρ' : Vl} {w : World} {m m' : Cell} {b o : Nat} (h : m.ok sg ρ w) (ha : ρ'.a m'.a = ρ.a m.a) (ho : m'.o.den ρ'.i = m.o.den ρ.i) (hc : m'.c = m.c) (hb : bad m.c = false)
  (hv : ∀ v,(m.v.den ρ).ok (mu sg) v -> (m'.v.den ρ').ok (mu (putD sg b (o + 1470) (o + 1535))) v) : m'.ok (putD sg b (o + 1470) (o + 1535)) ρ' w:=by
 obtain ⟨h0,x,t,cur,v,h1,h2,h3,h4,h5⟩:=h
 refine ⟨by rw [ho];exact h0,x,t,cur,v,by rw [ha];exact h1,h2,by rw [ha,ho];exact h3, ?_,hv v h5⟩
 rw [ha,ho,hc]
 unfold putD
 split
 ·rw [h4,Option.map_some,strC_ok hb]
 ·exact h4
def cst : DC -> Bool
 | .num _ _ | .tru _ | .nos=>true
 | _=>false
theorem cst_ok {x : DC} (h : cst x = true) {sg sg' : Sig} {ρ ρ' : Vl} {v : Value} (hv : (x.den ρ).ok (mu sg) v) : (x.den ρ').ok (mu sg') v:=by
 cases x <;> first | exact hv | cases h
def lo0 (m : Cell) : Bool:=Nat.beq m.a 0 && (match m.o.t with | [(0,1)]=>true | _=>false) && cst m.v && !bad m.c
theorem z4_lo : (z4 0 ++ [nowC 0 (.num .i64 0)]).all lo0 = true:=by kernel_rfl
theorem ok8_of {P : Program} (h : TCok P 8 tc8X) (h303 : ∀ ρ : Vl,(⟨303,zR39⟩ : Atom).den ρ) : TCok P 8 tc8T:=by
 refine ⟨h.call,by kernel_rfl,fun sg w ρ vs hz hlen hpre=>?_⟩
 refine (h.ok sg w ρ vs hz hlen ⟨fun l hl=>(by cases hl),fun p hp=>(by cases hp),fun q hq=>(by cases hq),fun p hp=>(by cases hp),fun p hp=>(by cases hp),fun f hf=>(by cases hf),fun f hf=>(by cases hf)⟩).mono fun e w' he=>?_
 obtain ⟨v,rfl,sg1,G1,Z1,F1,sh,hsh,ρ2,A2,H2⟩:=he
 rw [List.mem_singleton.1 hsh] at H2
 obtain ⟨u,e1,ok0⟩:=H2.P _ List.mem_cons_self
 obtain ⟨b,hb,rfl,hs⟩:=zp_ok (a:=0) (o:=.var 0) (L:=relaxL (zTab 92)) ok0
 rw [Lin.var_den] at hs e1
 generalize ho : (ρ2.a 0).2 + (ρ2.i 0).toNat = o at hs e1
 have c0 : 0 <= ρ2.i 0:=by have:=H2.C (.var 0) List.mem_cons_self;rwa [Lin.var_den] at this
 have hy : w.heap.size <= b:=by
  rcases H2.young (0,1) List.mem_cons_self (Nat.le_refl _) (by show 0 <= (ρ2.a 0).1;omega) with hy | ⟨x,_,hx⟩
  ·have hy : (w.heap.size : Int) <= (ρ2.a 0).1:=hy
   omega
  ·have h1 : false = true:=hx.1
   cases h1
 have e0 : ∀ k : Nat,(⟨(k : Int),[(0,1)]⟩ : Lin).den ρ2.i = (k : Int) + ρ2.i 0:=fun k=>by simp [Lin.den,Tm.den]
 have ptrs : ∀ (k nm n : Nat) (c : CS),(⟨0,⟨(k : Int),[(0,1)]⟩,c,cP nm n⟩ : Cell).ok sg1 ρ2 w' -> ∃ (cur : Array Value) (t : TF) (b' o' : Nat),w'.heap[b]? = some (.cells cur t.1 t.2) /\ cur[o + k]? = some (.pointer (some ⟨b',o',none⟩)) /\ Sits sg1 b' o' (zTab nm):=fun k nm n c hq=>by
  obtain ⟨q0,x,t,cur,u,q1,q2,q3,q4,q5⟩:=hq
  dsimp only at q1 q3
  have : x = b:=by omega
  subst this
  obtain ⟨b',f1,rfl,f2⟩:=zp_ok (a:=n) (o:=.var n) (L:=zTab nm) q5
  refine ⟨cur,t,b',_,q2, ?_,f2⟩
  rw [e0] at q3
  rw [← q3]
  congr 1
  omega
 have hp : ∀ i,i < 65 -> ∃ (cur : Array Value) (t : TF) (b' o' : Nat),w'.heap[b]? = some (.cells cur t.1 t.2) /\ cur[o + (1470 + i)]? = some (.pointer (some ⟨b',o',none⟩)) /\ Sits sg1 b' o' (zTab (if i < 64 then 116 else 114)):=fun i hi=>by
  by_cases h4 : i < 64
  ·rw [if_pos h4]
   have hm:=pCs_mem 0 false 64 0 i h4
   rw [Nat.zero_add] at hm
   exact ptrs _ _ _ _ (H2.M _ (List.mem_append_right _ (List.mem_cons_of_mem _ (List.mem_append_left _ hm))))
  ·rw [if_neg h4]
   have : i = 64:=by omega
   subst this
   exact ptrs 1534 114 65 (.ptr 135 114 false) (H2.M _ (List.mem_append_right _ (List.mem_cons_of_mem _ (List.mem_append_right _ List.mem_cons_self))))
 have hold : ∀ x y,x < w.heap.size -> putD sg1 b (o + 1470) (o + 1535) x y = sg1 x y:=fun x y hx=>by
  unfold putD
  rw [if_neg (by omega)]
 let ρ3 : Vl:=⟨fun u=>if u = 1 then ρ2.i 6 else ρ2.i u,ρ2.s,fun u=>if u = 1 then ρ2.a 6 else ρ2.a u,ρ2.A⟩
 have i0 : ρ3.i 0 = ρ2.i 0:=rfl
 have i1 : ρ3.i 1 = ρ2.i 6:=rfl
 have a0 : ρ3.a 0 = ρ2.a 0:=rfl
 have a1 : ρ3.a 1 = ρ2.a 6:=rfl
 refine ⟨_,rfl,putD sg1 b (o + 1470) (o + 1535),fun x y c hc=>?_,put_zone Z1 hs hp,⟨F1.size,F1.os,F1.tape,F1.output,fun x y hx=>?_,F1.keep⟩,_,List.mem_cons_self,ρ3,⟨fun v hv=>absurd hv (Nat.not_lt_zero _),fun v hv=>absurd hv (Nat.not_lt_zero _),fun v hv=>absurd hv (Nat.not_lt_zero _),A2.A⟩,⟨fun l hl=>?_,fun p hp=>?_,fun q hq=>?_,fun p hp=>?_,fun p hp=>?_,fun f hf=>?_,fun f hf=>(by cases hf)⟩⟩
 ·rw [hold _ _ (hz.lt hc)];exact G1 _ _ _ hc
 ·rw [hold _ _ hx];exact F1.sig x y hx
 ·simp only [pGe,List.mem_cons,List.not_mem_nil,or_false] at hl
  rcases hl with rfl | rfl
  ·rw [Lin.var_den,i0];exact c0
  ·rw [Lin.var_den,i1]
   have:=H2.C (.var 6) (by simp [pGe])
   rwa [Lin.var_den] at this
 ·rw [List.mem_singleton.1 hp]
  exact ⟨_,e1,zp_mk (b:=b) (by rw [a0];exact hb) (by rw [a0,Lin.var_den,i0];exact ho.symm) (putD_sits92 hs)⟩
 ·have hq : q ∈ (z4 0 ++ [nowC 0 (.num .i64 0)]) ++ [(⟨0,⟨1475,[(0,1)]⟩,kP true,cP 116 1⟩ : Cell),mC 116 1 0 (.num .i64 32),mC 116 1 1 .nos]:=by rw [List.append_assoc];exact hq
  rcases List.mem_append.1 hq with hq | hq
  ·have hl:=List.all_eq_true.1 z4_lo q hq
   have hin : q.ok sg1 ρ2 w':=by
    rcases List.mem_append.1 hq with hq | hq
    ·exact H2.M _ (List.mem_append_left _ hq)
    ·rw [List.mem_singleton.1 hq]
     exact H2.M _ (List.mem_append_right _ List.mem_cons_self)
   unfold lo0 at hl
   simp only [Bool.and_eq_true,Bool.not_eq_true'] at hl
   obtain ⟨⟨⟨l1,l2⟩,l3⟩,l4⟩:=hl
   have l1:=Nat.eq_of_beq_eq_true l1
   refine cell_put hin (by rw [l1];rfl) ?_ rfl l4 fun v hv=>cst_ok l3 hv
   split at l2
   ·rename_i ht
    simp only [Lin.den,ht,Tm.den]
    rw [i0]
   ·cases l2
  ·simp only [List.mem_cons,List.not_mem_nil,or_false] at hq
   rcases hq with rfl | rfl | rfl
   ·have hm:=pCs_mem 0 false 64 0 5 (by decide)
    obtain ⟨q0,x,t,cur,u,q1,q2,q3,q4,q5⟩:=H2.M _ (List.mem_append_right _ (List.mem_cons_of_mem _ (List.mem_append_left _ hm)))
    have : x = b:=by
     dsimp only at q1
     omega
    subst this
    obtain ⟨b',f1,rfl,f2⟩:=zp_ok (a:=6) (o:=.var 6) (L:=zTab 116) q5
    have e5:=e0 1475
    have e5' : (⟨1475,[(0,1)]⟩ : Lin).den ρ3.i = 1475 + ρ2.i 0:=by simp [Lin.den,Tm.den,i0]
    refine ⟨by rw [e5'];omega,x,t,cur,_,hb,q2,q3, ?_, ?_⟩
    ·have h92:=putD_sits92 hs 1475 (kP true) (by kernel_rfl)
     rw [show (ρ3.a 0).2 + ((⟨1475,[(0,1)]⟩ : Lin).den ρ3.i).toNat = o + 1475 by rw [e5',a0];omega]
     exact h92
    ·exact zp_mk (b:=b') (by rw [a1];exact f1) (by rw [a1,Lin.var_den,Lin.var_den,i1]) (putD_sits f2)
   ·exact cell_put (H2.M (mC 116 6 0 (.num .i64 32)) (List.mem_append_right _ (List.mem_cons_of_mem _ (List.mem_append_right _ (List.mem_cons_of_mem _ List.mem_cons_self))))) a1 (by simp only [mC,Lin.addc_den,Lin.var_den,i1]) rfl (by kernel_rfl) fun v hv=>cst_ok rfl hv
   ·exact cell_put (H2.M (mC 116 6 1 .nos) (List.mem_append_right _ (List.mem_cons_of_mem _ (List.mem_append_right _ (List.mem_cons_of_mem _ (List.mem_cons_of_mem _ List.mem_cons_self)))))) a1 (by simp only [mC,Lin.addc_den,Lin.var_den,i1]) rfl (by kernel_rfl) fun v hv=>cst_ok rfl hv
 ·simp only [pAd,List.mem_cons,List.not_mem_nil,or_false] at hp
  rcases hp with rfl | rfl
  ·exact H2.asz (0,1) List.mem_cons_self
  ·exact H2.asz (6,1) (by simp [pAd])
 ·simp only [pAd,List.mem_cons,List.not_mem_nil,or_false] at hp
  rcases hp with rfl | rfl
  ·exact fun _ h=>H2.young (0,1) List.mem_cons_self (Nat.le_refl _) h
  ·exact fun _ h=>H2.young (6,1) (by simp [pAd]) (Nat.le_refl _) h
 ·rw [List.mem_singleton.1 hf];exact h303 _
def cV : DC -> Value
 | .tru b=>.bool b
 | .num k n=>.int k n
 | _=>.bool false
def cst2 : DC -> Bool
 | .num _ _ | .tru _=>true
 | _=>false
theorem cst_all {ρ : Vl} {μ : Mu} : ∀ {xs : List DC},xs.all cst2 = true -> All2 (SC.ok μ) (xs.map (DC.den ρ)) (xs.map cV)
 | [],_=>trivial
 | x :: xs,h=>by
  rw [List.all_cons,Bool.and_eq_true] at h
  refine ⟨?_,cst_all h.2⟩
  have h1:=h.1
  cases x <;> first | exact rfl | cases h1
theorem h303 (ρ : Vl) : (⟨303,zR39⟩ : Atom).den ρ:=⟨zR39.map cV,fun sg=>cst_all (by kernel_rfl),by
 show _ /\ _ /\ _
 exact ⟨by kernel_rfl,by decide +kernel,by decide +kernel⟩⟩
end
end VtTop
namespace VtTop
open Go Zx Vx
theorem ok8 : TCok P 8 tc8:=ok8_of ok8x h303
theorem ok84a : TCok P 84 tc84a:=okJoin0
theorem ok61z : TCok P 61 tc61z:=okFind0
theorem ok34a : TCok P 34 tc34a:=okMask1
end VtTop
namespace VtTop
open Go Zx Vx
noncomputable section
set_option maxRecDepth 1000000
def tc25a : TC:=tC 1 (sH 0 [(0,d1 (.num .i64 5))] [] []) [] [(sH 0 [(0,d1 (.tru true))] [] [])]
theorem ok25a : TCok P 25 tc25a:=tK eN {}
def tc41a : TC:=tC 2 (sM 1 [aP 0 92 0,(1,d1 (.num .i64 5))] (rP 0) [(0,0)] (rn 0 0 8 (.bool 115) (.tru false) (rn 0 8 8 (.int 116 .i64 0 63) (.num .i64 0) (mq 0 16 (iW 117) (.num .i64 0) :: (mq 0 17 (.bool 118) (.tru false) :: (mq 0 18 (iW 119) (.num .i64 0) :: (mq 0 19 (iW 120) (.num .i64 0) :: (mq 0 20 (iW 121) (.num .i64 0) :: (mq 0 21 (.int 122 .i64 1 0) (.num .i64 0) :: (rn 0 22 8 (.int 123 .i64 1 0) (.num .i64 0) (rn 0 30 8 (.int 124 .i64 1 0) (.num .i64 0) (mq 0 38 (.bool 125) (.tru false) :: (rn 0 367 8 (.bool 115) (.tru false) (rn 0 375 8 (.int 116 .i64 0 63) (.num .i64 0) (mq 0 383 (iW 117) (.num .i64 0) :: (mq 0 384 (.bool 118) (.tru false) :: (mq 0 385 (iW 119) (.num .i64 0) :: (mq 0 386 (iW 120) (.num .i64 0) :: (mq 0 387 (iW 121) (.num .i64 0) :: (mq 0 388 (.int 122 .i64 1 0) (.num .i64 0) :: (rn 0 389 8 (.int 123 .i64 1 0) (.num .i64 0) (rn 0 397 8 (.int 124 .i64 1 0) (.num .i64 0) (mq 0 405 (.bool 125) (.tru false) :: (rn 0 734 8 (.bool 115) (.tru false) (rn 0 742 8 (.int 116 .i64 0 63) (.num .i64 0) (mq 0 750 (iW 117) (.num .i64 0) :: (mq 0 751 (.bool 118) (.tru false) :: (mq 0 752 (iW 119) (.num .i64 0) :: (mq 0 753 (iW 120) (.num .i64 0) :: (mq 0 754 (iW 121) (.num .i64 0) :: (mq 0 755 (.int 122 .i64 1 0) (.num .i64 0) :: (rn 0 756 8 (.int 123 .i64 1 0) (.num .i64 0) (rn 0 764 8 (.int 124 .i64 1 0) (.num .i64 0) (mq 0 772 (.bool 125) (.tru false) :: (rn 0 1101 8 (.bool 115) (.tru false) (rn 0 1109 8 (.int 116 .i64 0 63) (.num .i64 0) (mq 0 1117 (iW 117) (.num .i64 0) :: (mq 0 1118 (.bool 118) (.tru false) :: (mq 0 1119 (iW 119) (.num .i64 0) :: (mq 0 1120 (iW 120) (.num .i64 0) :: (mq 0 1121 (iW 121) (.num .i64 0) :: (mq 0 1122 (.int 122 .i64 1 0) (.num .i64 0) :: (rn 0 1123 8 (.int 123 .i64 1 0) (.num .i64 0) (rn 0 1131 8 (.int 124 .i64 1 0) (.num .i64 0) [mq 0 1139 (.bool 125) (.tru false)])))))))))))))))))))))))))))))))))))))))))))) [] [(sH 0 [(0,.t [.c (.nil),.c (.num .i64 0),.c (.tru false)])] [] [])]
theorem ok41a : TCok P 41 tc41a:=tK (eC ok61z eN) { fuel:=5 }
def tc80_3 : TC:=t2 3
theorem ok80_3 : TCok P 80 tc80_3:=tK eN {}
def tc80_5 : TC:=t2 5
theorem ok80_5 : TCok P 80 tc80_5:=tK eN {}
def tc80_7 : TC:=t2 7
theorem ok80_7 : TCok P 80 tc80_7:=tK eN {}
def tc80_9 : TC:=t2 9
theorem ok80_9 : TCok P 80 tc80_9:=tK eN {}
def tc81_0 : TC:=tC 1 (sH 2 [(0,.s (.c (.zs 0 (.var 0) (zTab 5) (Lin.num 0) (.var 1))))] [.var 0,(Lin.var 1).addc (-0),(Lin.num maxLen).sub (.var 1)] [(0,0)]) [] [(sH 2 [(0,.s (.c (.zs 2 (.var 2) (zTab 5) (Lin.num 0) (.var 3))))] [.var 2,(Lin.var 3).addc (-0),(Lin.num maxLen).sub (.var 3)] [(2,1)])]
theorem ok81_0 : TCok P 81 tc81_0:=tK eN {}
def tc135_1 : TC:=tC 1 (sH 0 [(0,d1 (.num .i64 1))] [] []) [] [(sH 0 [(0,.t [.a [.num .i64 3,.num .i64 0,.num .i64 0,.num .i64 0,.num .i64 0,.num .i64 0,.num .i64 0],.c (.tru true)])] [] [])]
theorem ok135_1 : TCok P 135 tc135_1:=tK eN {}
def tc136t : TC:=tC 2 (sH 1 [(0,d1 (.num .i64 0)),aW 1 0] (rI 0 0 65535) []) [] [(sH 0 [(0,d1 (.tru true))] [] [])]
theorem ok136t : TCok P 136 tc136t:=tK eN {}
def tc82_1 : TC:=tC 1 (sH 2 [aQ 0 [.num .i64 1,.num .i64 0,.num .i64 0,.num .i64 0,.num .i64 0,.num .i64 0,.zs 0 (.var 0) (zTab 5) (Lin.num 0) (.var 1)]] [.var 0,(Lin.var 1).addc (-0),(Lin.num maxLen).sub (.var 1)] [(0,0)]) [] [(sH 0 [(0,d1 (.tru true))] [] [])]
theorem ok82_1 : TCok P 82 tc82_1:=tK (eC ok135_1 (eC ok136t eN)) {}
def tc47a : TC:=tC 1 (sM 2 [(0,.s (.c (.zs 0 (.var 0) (zTab 5) (Lin.num 11) (.var 1))))] [.var 0,(Lin.var 1).addc (-11),(Lin.num maxLen).sub (.var 1)] [(0,0)] (mq 0 0 (.int 4 .u8 0 255) (.num .u8 1) :: (rn 0 1 10 (.int 4 .u8 0 255) (.num .u8 0) []))) [] [(sH 2 [(0,.t [.a [.num .i64 1,.num .i64 0,.num .i64 0,.num .i64 0,.num .i64 0,.num .i64 0,.zs 2 (.var 2) (zTab 5) (Lin.num 0) (.var 3)],.c (.num .i64 0)])] [.var 2,(Lin.var 3).addc (-0),(Lin.num maxLen).sub (.var 3)] [(2,0)])]
theorem ok47a : TCok P 47 tc47a:=tK (eC ok80_3 (eC ok80_5 (eC ok80_7 (eC ok80_9 (eC ok81_0 (eC ok82_1 eN)))))) {}
def tc133a : TC:={ k:=2,pre:=(sM 3 [aP 0 116 0,aQ 1 [.num .i64 5,.num .i64 2,.zs 1 (.var 1) (zTab 5) (Lin.num 19) (.var 2)]] (rP 0 ++ ([.var 1,(Lin.var 2).addc (-19),(Lin.num maxLen).sub (.var 2)])) [(0,1),(1,0)] [mq 0 0 (.int 142 .i64 0 65536) (.num .i64 32),mq 0 1 (.sli 143 35 131072) (.nos)]),W:=[],post:=[(sM 4 [(0,d1 (.tru true))] ([.var 3,(Lin.var 4).addc (-1),(Lin.num maxLen).sub (.var 4)] ++ ([.var 5,(Lin.var 6).addc (-19),(Lin.num maxLen).sub (.var 6)])) [(3,0),(5,0)] [mq 0 1 (.sli 143 35 131072) (.zs 3 (.var 3) (zTab 35) (Lin.num 1) (.var 4)),mq 3 0 (iW 22) (.num .i64 5),mq 3 1 (iW 23) (.num .i64 2),mq 3 2 (.sli 24 5 1048576) (.zs 5 (.var 5) (zTab 5) (Lin.num 19) (.var 6))])],Y:=some W11 }
theorem ok133a : TCok P 133 tc133a:=tK eN {}
def tc77a : TC:={ k:=4,pre:=(sM 4 [aP 0 92 0,(1,d1 (.num .i64 5)),(2,d1 (.num .i64 2)),(3,.s (.c (.zs 1 (.var 1) (zTab 5) (Lin.num 19) (.var 2))))] (cT [rP 0,[.var 1,(Lin.var 2).addc (-19),(Lin.num maxLen).sub (.var 2)],rP 3]) [(0,1),(1,0),(3,1)] [mq 0 1475 (.ptr 134 116 true) (cP 116 3),mq 3 0 (.int 142 .i64 0 65536) (.num .i64 32),mq 3 1 (.sli 143 35 131072) (.nos)]),W:=[],post:=[(sM 4 [(0,.t [])] ([.var 4,(Lin.var 5).addc (-1),(Lin.num maxLen).sub (.var 5)] ++ ([.var 6,(Lin.var 7).addc (-19),(Lin.num maxLen).sub (.var 7)])) [(4,0),(6,0)] [mq 3 1 (.sli 143 35 131072) (.zs 4 (.var 4) (zTab 35) (Lin.num 1) (.var 5)),mq 4 0 (iW 22) (.num .i64 5),mq 4 1 (iW 23) (.num .i64 2),mq 4 2 (.sli 24 5 1048576) (.zs 6 (.var 6) (zTab 5) (Lin.num 19) (.var 7))])],Y:=some W11 }
theorem ok77a : TCok P 77 tc77a:=tK (eC ok81 (eC ok133a eN)) {}
def tc135_17 : TC:=tC 1 (sH 0 [(0,d1 (.num .i64 17))] [] []) [] [(sH 0 [(0,.t [.a [.num .i64 3,.num .i64 7,.num .i64 65535,.num .i64 255,.num .i64 65535,.num .i64 8,.num .i64 8],.c (.tru true)])] [] [])]
theorem ok135_17 : TCok P 135 tc135_17:=tK eN {}
end
end VtTop
namespace VtTop
open Go Zx Vx
noncomputable section
set_option maxRecDepth 1000000
def tc136u : TC:=tC 2 (sH 1 [(0,d1 (.num .i64 1)),aW 1 0] (rI 0 1 65535) []) [] [(sH 0 [(0,d1 (.tru true))] [] [])]
theorem ok136u : TCok P 136 tc136u:=tK eN {}
def tc137a : TC:=tC 1 (sM 2 [aQ 0 [.num .i64 17,.num .i64 0,.num .i64 0,.num .i64 0,.num .i64 1,.num .i64 0,.zs 0 (.var 0) (zTab 5) (Lin.num 8) (.var 1)]] [.var 0,(Lin.var 1).addc (-8),(Lin.num maxLen).sub (.var 1)] [(0,0)] (mq 0 0 (.int 4 .u8 0 255) (.num .u8 5) :: (rn 0 1 7 (.int 4 .u8 0 255) (.num .u8 255) []))) [] [(sH 0 [(0,d1 (.tru true))] [] [])]
theorem ok137a : TCok P 137 tc137a:=tK eN { fuel:=9 }
def tc82w : TC:=tC 1 (sM 2 [aQ 0 [.num .i64 17,.num .i64 0,.num .i64 0,.num .i64 0,.num .i64 1,.num .i64 0,.zs 0 (.var 0) (zTab 5) (Lin.num 8) (.var 1)]] [.var 0,(Lin.var 1).addc (-8),(Lin.num maxLen).sub (.var 1)] [(0,0)] (mq 0 0 (.int 4 .u8 0 255) (.num .u8 5) :: (rn 0 1 7 (.int 4 .u8 0 255) (.num .u8 255) []))) [] [(sH 0 [(0,d1 (.tru true))] [] [])]
theorem ok82w : TCok P 82 tc82w:=tK (eC ok135_17 (eC ok136t (eC ok136u (eC ok137a eN)))) {}
def tc138a : TC:=tC 1 (sM 2 [aQ 0 [.num .i64 17,.num .i64 0,.num .i64 0,.num .i64 0,.num .i64 1,.num .i64 0,.zs 0 (.var 0) (zTab 5) (Lin.num 8) (.var 1)]] [.var 0,(Lin.var 1).addc (-8),(Lin.num maxLen).sub (.var 1)] [(0,0)] (mq 0 0 (.int 4 .u8 0 255) (.num .u8 5) :: (rn 0 1 7 (.int 4 .u8 0 255) (.num .u8 255) []))) [] [(sH 2 [(0,.t [.c (.zs 2 (.var 2) (zTab 5) (Lin.num 19) (.var 3)),.c (.num .i64 0)])] [.var 2,(Lin.var 3).addc (-19),(Lin.num maxLen).sub (.var 3)] [(2,1)])]
theorem ok138a : TCok P 138 tc138a:=tK (eC ok82w eN) { fuel:=5 }
def tc83a : TC:={ k:=3,pre:=(sM 4 [aP 0 92 0,(1,d1 (.num .i64 5)),aQ 2 [.num .i64 17,.num .i64 0,.num .i64 0,.num .i64 0,.num .i64 1,.num .i64 0,.zs 1 (.var 1) (zTab 5) (Lin.num 8) (.var 2)]] (cT [rP 0,[.var 1,(Lin.var 2).addc (-8),(Lin.num maxLen).sub (.var 2)],rP 3]) [(0,1),(1,0),(3,1)] (mq 1 0 (.int 4 .u8 0 255) (.num .u8 5) :: (rn 1 1 7 (.int 4 .u8 0 255) (.num .u8 255) [mq 0 1475 (.ptr 134 116 true) (cP 116 3),mq 3 0 (.int 142 .i64 0 65536) (.num .i64 32),mq 3 1 (.sli 143 35 131072) (.nos)]))),W:=[],post:=[(sM 4 [(0,.t [])] ([.var 4,(Lin.var 5).addc (-1),(Lin.num maxLen).sub (.var 5)] ++ ([.var 6,(Lin.var 7).addc (-19),(Lin.num maxLen).sub (.var 7)])) [(4,0),(6,0)] [mq 3 1 (.sli 143 35 131072) (.zs 4 (.var 4) (zTab 35) (Lin.num 1) (.var 5)),mq 4 0 (iW 22) (.num .i64 5),mq 4 1 (iW 23) (.num .i64 2),mq 4 2 (.sli 24 5 1048576) (.zs 6 (.var 6) (zTab 5) (Lin.num 19) (.var 7))])],Y:=some W11 }
theorem ok83a : TCok P 83 tc83a:=tK (eC ok77a (eC ok138a eN)) {}
def tc16z : TC:=tC 1 (sH 0 [aQ 0 [.num .i64 0,.tru false,.num .i64 0,.num .i64 0,.num .i64 0,.num .i64 0]] [] []) [] [(sH 0 [(0,d1 (.num .i64 0))] [] [])]
theorem ok16z : TCok P 16 tc16z:=tK eN {}
def tc85a : TC:=tC 1 (sM 1 [aP 0 87 0] (rP 0) [(0,0)] (mq 0 0 (.bool 115) (.tru true) :: (rn 0 1 7 (.bool 115) (.tru false) (mq 0 8 (.int 116 .i64 0 63) (.num .i64 5) :: (rn 0 9 7 (.int 116 .i64 0 63) (.num .i64 0) (mq 0 16 (iW 117) (.num .i64 0) :: (mq 0 17 (.bool 118) (.tru false) :: (mq 0 18 (iW 119) (.num .i64 0) :: (mq 0 19 (iW 120) (.num .i64 0) :: (mq 0 20 (iW 121) (.num .i64 0) :: (mq 0 21 (.int 122 .i64 1 0) (.num .i64 0) :: (rn 0 22 8 (.int 123 .i64 1 0) (.num .i64 0) (rn 0 30 8 (.int 124 .i64 1 0) (.num .i64 0) [mq 0 38 (.bool 125) (.tru false)]))))))))))))) [] [(sH 0 [(0,d1 (.num .i64 0))] [] [])]
theorem ok85a : TCok P 85 tc85a:=tK (eC ok16z eN) {}
def tc86a : TC:=tC 4 (sM 11 [aP 0 92 0,aP 1 87 1,(2,d1 (.num .i64 0)),aQ 3 [cW 2,cW 3,cW 4,cW 5,cW 6,cW 7,cS 5 8]] (cT [rP 0,rP 1,rW 2,rW 3,rW 4,rW 5,rW 6,rW 7,rS 8 1048576]) [(0,0),(1,0),(8,0)] (mq 1 0 (.bool 115) (.tru true) :: (rn 1 1 7 (.bool 115) (.tru false) (mq 1 8 (.int 116 .i64 0 63) (.num .i64 5) :: (rn 1 9 7 (.int 116 .i64 0 63) (.num .i64 0) (mq 1 16 (iW 117) (.num .i64 0) :: (mq 1 17 (.bool 118) (.tru false) :: (mq 1 18 (iW 119) (.num .i64 0) :: (mq 1 19 (iW 120) (.num .i64 0) :: (mq 1 20 (iW 121) (.num .i64 0) :: (mq 1 21 (.int 122 .i64 1 0) (.num .i64 0) :: (rn 1 22 8 (.int 123 .i64 1 0) (.num .i64 0) (rn 1 30 8 (.int 124 .i64 1 0) (.num .i64 0) [mq 1 38 (.bool 125) (.tru false)]))))))))))))) [] [(sH 0 [(0,.t [])] [] [])]
theorem ok86a : TCok P 86 tc86a:=tK eN { fuel:=9 }
def tc49a : TC:={ k:=3,pre:=(sM 4 [aP 0 92 0,(1,d1 (.num .i64 5)),aQ 2 [.num .i64 1,.num .i64 0,.num .i64 0,.num .i64 0,.num .i64 0,.num .i64 0,.zs 1 (.var 1) (zTab 5) (Lin.num 0) (.var 2)]] (cT [rP 0,[.var 1,(Lin.var 2).addc (-0),(Lin.num maxLen).sub (.var 2)],rP 3]) [(0,1),(1,0),(3,1)] (rn 0 0 8 (.bool 115) (.tru false) (rn 0 8 8 (.int 116 .i64 0 63) (.num .i64 0) (mq 0 16 (iW 117) (.num .i64 0) :: (mq 0 17 (.bool 118) (.tru false) :: (mq 0 18 (iW 119) (.num .i64 0) :: (mq 0 19 (iW 120) (.num .i64 0) :: (mq 0 20 (iW 121) (.num .i64 0) :: (mq 0 21 (.int 122 .i64 1 0) (.num .i64 0) :: (rn 0 22 8 (.int 123 .i64 1 0) (.num .i64 0) (rn 0 30 8 (.int 124 .i64 1 0) (.num .i64 0) [mq 0 38 (.bool 125) (.tru false),mq 0 1468 (iW 132) (.num .i64 0),mq 0 1475 (.ptr 134 116 true) (cP 116 3),mq 3 0 (.int 142 .i64 0 65536) (.num .i64 32),mq 3 1 (.sli 143 35 131072) (.nos)]))))))))))),W:=[],post:=[(sM 4 [(0,d1 (.num .i64 0))] ([.var 4,(Lin.var 5).addc (-1),(Lin.num maxLen).sub (.var 5)] ++ ([.var 6,(Lin.var 7).addc (-19),(Lin.num maxLen).sub (.var 7)])) [(4,0),(6,0)] [mq 3 1 (.sli 143 35 131072) (.zs 4 (.var 4) (zTab 35) (Lin.num 1) (.var 5)),mq 4 0 (iW 22) (.num .i64 5),mq 4 1 (iW 23) (.num .i64 2),mq 4 2 (.sli 24 5 1048576) (.zs 6 (.var 6) (zTab 5) (Lin.num 19) (.var 7))])],Y:=some W3 }
theorem ok49a : TCok P 49 tc49a:=tK (eC ok34a (eC ok83a (eC ok84a (eC ok85a (eC ok86a eN))))) { fuel:=9 }
def tc27a : TC:={ k:=3,pre:=(sM 4 [aP 0 92 0,(1,d1 (.num .i64 5)),(2,.s (.c (.zs 1 (.var 1) (zTab 5) (Lin.num 11) (.var 2))))] (cT [rP 0,[.var 1,(Lin.var 2).addc (-11),(Lin.num maxLen).sub (.var 2)],rP 3]) [(0,1),(1,0),(3,1)] (mq 1 0 (.int 4 .u8 0 255) (.num .u8 1) :: (rn 1 1 10 (.int 4 .u8 0 255) (.num .u8 0) (rn 0 0 8 (.bool 115) (.tru false) (rn 0 8 8 (.int 116 .i64 0 63) (.num .i64 0) (mq 0 16 (iW 117) (.num .i64 0) :: (mq 0 17 (.bool 118) (.tru false) :: (mq 0 18 (iW 119) (.num .i64 0) :: (mq 0 19 (iW 120) (.num .i64 0) :: (mq 0 20 (iW 121) (.num .i64 0) :: (mq 0 21 (.int 122 .i64 1 0) (.num .i64 0) :: (rn 0 22 8 (.int 123 .i64 1 0) (.num .i64 0) (rn 0 30 8 (.int 124 .i64 1 0) (.num .i64 0) (mq 0 38 (.bool 125) (.tru false) :: (rn 0 367 8 (.bool 115) (.tru false) (rn 0 375 8 (.int 116 .i64 0 63) (.num .i64 0) (mq 0 383 (iW 117) (.num .i64 0) :: (mq 0 384 (.bool 118) (.tru false) :: (mq 0 385 (iW 119) (.num .i64 0) :: (mq 0 386 (iW 120) (.num .i64 0) :: (mq 0 387 (iW 121) (.num .i64 0) :: (mq 0 388 (.int 122 .i64 1 0) (.num .i64 0) :: (rn 0 389 8 (.int 123 .i64 1 0) (.num .i64 0) (rn 0 397 8 (.int 124 .i64 1 0) (.num .i64 0) (mq 0 405 (.bool 125) (.tru false) :: (rn 0 734 8 (.bool 115) (.tru false) (rn 0 742 8 (.int 116 .i64 0 63) (.num .i64 0) (mq 0 750 (iW 117) (.num .i64 0) :: (mq 0 751 (.bool 118) (.tru false) :: (mq 0 752 (iW 119) (.num .i64 0) :: (mq 0 753 (iW 120) (.num .i64 0) :: (mq 0 754 (iW 121) (.num .i64 0) :: (mq 0 755 (.int 122 .i64 1 0) (.num .i64 0) :: (rn 0 756 8 (.int 123 .i64 1 0) (.num .i64 0) (rn 0 764 8 (.int 124 .i64 1 0) (.num .i64 0) (mq 0 772 (.bool 125) (.tru false) :: (rn 0 1101 8 (.bool 115) (.tru false) (rn 0 1109 8 (.int 116 .i64 0 63) (.num .i64 0) (mq 0 1117 (iW 117) (.num .i64 0) :: (mq 0 1118 (.bool 118) (.tru false) :: (mq 0 1119 (iW 119) (.num .i64 0) :: (mq 0 1120 (iW 120) (.num .i64 0) :: (mq 0 1121 (iW 121) (.num .i64 0) :: (mq 0 1122 (.int 122 .i64 1 0) (.num .i64 0) :: (rn 0 1123 8 (.int 123 .i64 1 0) (.num .i64 0) (rn 0 1131 8 (.int 124 .i64 1 0) (.num .i64 0) [mq 0 1139 (.bool 125) (.tru false),mq 0 1468 (iW 132) (.num .i64 0),mq 0 1475 (.ptr 134 116 true) (cP 116 3),mq 3 0 (.int 142 .i64 0 65536) (.num .i64 32),mq 3 1 (.sli 143 35 131072) (.nos)])))))))))))))))))))))))))))))))))))))))))))))),W:=[],post:=[(sM 4 [(0,.t [])] ([.var 4,(Lin.var 5).addc (-1),(Lin.num maxLen).sub (.var 5)] ++ ([.var 6,(Lin.var 7).addc (-19),(Lin.num maxLen).sub (.var 7)])) [(4,0),(6,0)] [mq 3 1 (.sli 143 35 131072) (.zs 4 (.var 4) (zTab 35) (Lin.num 1) (.var 5)),mq 4 0 (iW 22) (.num .i64 5),mq 4 1 (iW 23) (.num .i64 2),mq 4 2 (.sli 24 5 1048576) (.zs 6 (.var 6) (zTab 5) (Lin.num 19) (.var 7))])],Y:=some W3 }
theorem ok27a : TCok P 27 tc27a:=tK (eC ok41a (eC ok47a (eC ok49a eN))) {}
def tc11a : TC:={ k:=2,pre:=(sM 4 [aP 0 92 0,aQ 1 [.num .i64 2,.num .i64 5,.num .i64 0,.zs 1 (.var 1) (zTab 5) (Lin.num 11) (.var 2)]] (cT [rP 0,[.var 1,(Lin.var 2).addc (-11),(Lin.num maxLen).sub (.var 2)],rP 3]) [(0,1),(1,0),(3,1)] (mq 1 0 (.int 4 .u8 0 255) (.num .u8 1) :: (rn 1 1 10 (.int 4 .u8 0 255) (.num .u8 0) (rn 0 0 8 (.bool 115) (.tru false) (rn 0 8 8 (.int 116 .i64 0 63) (.num .i64 0) (mq 0 16 (iW 117) (.num .i64 0) :: (mq 0 17 (.bool 118) (.tru false) :: (mq 0 18 (iW 119) (.num .i64 0) :: (mq 0 19 (iW 120) (.num .i64 0) :: (mq 0 20 (iW 121) (.num .i64 0) :: (mq 0 21 (.int 122 .i64 1 0) (.num .i64 0) :: (rn 0 22 8 (.int 123 .i64 1 0) (.num .i64 0) (rn 0 30 8 (.int 124 .i64 1 0) (.num .i64 0) (mq 0 38 (.bool 125) (.tru false) :: (rn 0 367 8 (.bool 115) (.tru false) (rn 0 375 8 (.int 116 .i64 0 63) (.num .i64 0) (mq 0 383 (iW 117) (.num .i64 0) :: (mq 0 384 (.bool 118) (.tru false) :: (mq 0 385 (iW 119) (.num .i64 0) :: (mq 0 386 (iW 120) (.num .i64 0) :: (mq 0 387 (iW 121) (.num .i64 0) :: (mq 0 388 (.int 122 .i64 1 0) (.num .i64 0) :: (rn 0 389 8 (.int 123 .i64 1 0) (.num .i64 0) (rn 0 397 8 (.int 124 .i64 1 0) (.num .i64 0) (mq 0 405 (.bool 125) (.tru false) :: (rn 0 734 8 (.bool 115) (.tru false) (rn 0 742 8 (.int 116 .i64 0 63) (.num .i64 0) (mq 0 750 (iW 117) (.num .i64 0) :: (mq 0 751 (.bool 118) (.tru false) :: (mq 0 752 (iW 119) (.num .i64 0) :: (mq 0 753 (iW 120) (.num .i64 0) :: (mq 0 754 (iW 121) (.num .i64 0) :: (mq 0 755 (.int 122 .i64 1 0) (.num .i64 0) :: (rn 0 756 8 (.int 123 .i64 1 0) (.num .i64 0) (rn 0 764 8 (.int 124 .i64 1 0) (.num .i64 0) (mq 0 772 (.bool 125) (.tru false) :: (rn 0 1101 8 (.bool 115) (.tru false) (rn 0 1109 8 (.int 116 .i64 0 63) (.num .i64 0) (mq 0 1117 (iW 117) (.num .i64 0) :: (mq 0 1118 (.bool 118) (.tru false) :: (mq 0 1119 (iW 119) (.num .i64 0) :: (mq 0 1120 (iW 120) (.num .i64 0) :: (mq 0 1121 (iW 121) (.num .i64 0) :: (mq 0 1122 (.int 122 .i64 1 0) (.num .i64 0) :: (rn 0 1123 8 (.int 123 .i64 1 0) (.num .i64 0) (rn 0 1131 8 (.int 124 .i64 1 0) (.num .i64 0) [mq 0 1139 (.bool 125) (.tru false),mq 0 1468 (iW 132) (.num .i64 0),mq 0 1475 (.ptr 134 116 true) (cP 116 3),mq 3 0 (.int 142 .i64 0 65536) (.num .i64 32),mq 3 1 (.sli 143 35 131072) (.nos)])))))))))))))))))))))))))))))))))))))))))))))),W:=[],post:=[(sM 4 [(0,.t [.c (.nos),.c (.num .i64 0)])] ([.var 4,(Lin.var 5).addc (-1),(Lin.num maxLen).sub (.var 5)] ++ ([.var 6,(Lin.var 7).addc (-19),(Lin.num maxLen).sub (.var 7)])) [(4,0),(6,0)] [mq 3 1 (.sli 143 35 131072) (.zs 4 (.var 4) (zTab 35) (Lin.num 1) (.var 5)),mq 4 0 (iW 22) (.num .i64 5),mq 4 1 (iW 23) (.num .i64 2),mq 4 2 (.sli 24 5 1048576) (.zs 6 (.var 6) (zTab 5) (Lin.num 19) (.var 7))])],Y:=some W3 }
theorem ok11a : TCok P 11 tc11a:=tK (eC ok25a (eC ok27a eN)) {}
def tc53a : TC:={ k:=1,pre:=(sM 5 [aP 0 116 0] (cT [rP 0,[.var 1,(Lin.var 2).addc (-1),(Lin.num maxLen).sub (.var 2)],[.var 3,(Lin.var 4).addc (-19),(Lin.num maxLen).sub (.var 4)]]) [(0,1),(1,0),(3,0)] [mq 0 1 (.sli 143 35 131072) (.zs 1 (.var 1) (zTab 35) (Lin.num 1) (.var 2)),mq 1 0 (iW 22) (.num .i64 5),mq 1 1 (iW 23) (.num .i64 2),mq 1 2 (.sli 24 5 1048576) (.zs 3 (.var 3) (zTab 5) (Lin.num 19) (.var 4))]),W:=[],post:=[(sH 2 [(0,.t [.a [.num .i64 5,.num .i64 2,.zs 5 (.var 5) (zTab 5) (Lin.num 19) (.var 6)],.c (.tru true)])] [.var 5,(Lin.var 6).addc (-19),(Lin.num maxLen).sub (.var 6)] [(5,0)])],Y:=some W11 }
theorem ok53a : TCok P 53 tc53a:=tK eN {}
def tc29a : TC:={ k:=3,pre:=(sM 6 [aP 0 92 0,(1,d1 (.num .i64 5)),(2,d1 (.num .i64 1))] (cT [rP 0,rP 1,[.var 2,(Lin.var 3).addc (-1),(Lin.num maxLen).sub (.var 3)],[.var 4,(Lin.var 5).addc (-19),(Lin.num maxLen).sub (.var 5)]]) [(0,1),(1,1),(2,0),(4,0)] [mq 0 1475 (.ptr 134 116 true) (cP 116 1),mq 1 1 (.sli 143 35 131072) (.zs 2 (.var 2) (zTab 35) (Lin.num 1) (.var 3)),mq 2 0 (iW 22) (.num .i64 5),mq 2 1 (iW 23) (.num .i64 2),mq 2 2 (.sli 24 5 1048576) (.zs 4 (.var 4) (zTab 5) (Lin.num 19) (.var 5))]),W:=[],post:=[(sM 4 [(0,.s (.c (.zs 6 (.var 6) (zTab 35) (Lin.num 1) (.var 7))))] ([.var 6,(Lin.var 7).addc (-1),(Lin.num maxLen).sub (.var 7)] ++ ([.var 8,(Lin.var 9).addc (-19),(Lin.num maxLen).sub (.var 9)])) [(6,0),(8,0)] [mq 6 0 (iW 22) (.num .i64 5),mq 6 2 (.sli 24 5 1048576) (.zs 8 (.var 8) (zTab 5) (Lin.num 19) (.var 9))])],Y:=some W11 }
theorem ok29a : TCok P 29 tc29a:=tK (eC ok53a eN) { fuel:=2 }
def tc11b : TC:={ k:=2,pre:=(sM 6 [aP 0 92 0,aQ 1 [.num .i64 5,.num .i64 5,.num .i64 1,.nos]] (cT [rP 0,rP 1,[.var 2,(Lin.var 3).addc (-1),(Lin.num maxLen).sub (.var 3)],[.var 4,(Lin.var 5).addc (-19),(Lin.num maxLen).sub (.var 5)]]) [(0,1),(1,1),(2,0),(4,0)] [mq 0 1475 (.ptr 134 116 true) (cP 116 1),mq 1 1 (.sli 143 35 131072) (.zs 2 (.var 2) (zTab 35) (Lin.num 1) (.var 3)),mq 2 0 (iW 22) (.num .i64 5),mq 2 1 (iW 23) (.num .i64 2),mq 2 2 (.sli 24 5 1048576) (.zs 4 (.var 4) (zTab 5) (Lin.num 19) (.var 5))]),W:=[],post:=[(sM 4 [(0,.t [.c (.zs 6 (.var 6) (zTab 35) (Lin.num 1) (.var 7)),.c (.num .i64 0)])] ([.var 6,(Lin.var 7).addc (-1),(Lin.num maxLen).sub (.var 7)] ++ ([.var 8,(Lin.var 9).addc (-19),(Lin.num maxLen).sub (.var 9)])) [(6,0),(8,0)] [mq 6 0 (iW 22) (.num .i64 5),mq 6 2 (.sli 24 5 1048576) (.zs 8 (.var 8) (zTab 5) (Lin.num 19) (.var 9))])],Y:=some W11 }
theorem ok11b : TCok P 11 tc11b:=tK (eC ok25a (eC ok29a eN)) {}
end
end VtTop
namespace VtTop
open Go Zx Vx
noncomputable section
set_option maxRecDepth 1000000
def tc54a : TC:=tC 1 (sH 0 [(0,d1 (.num .i64 1))] [] []) [] [(sH 0 [(0,.s (.c (.strL (ByteArray.mk #[114]))))] [] [])]
theorem ok54a : TCok P 54 tc54a:=tK eN {}
def tc55_3 : TC:=t3 3
theorem ok55_3 : TCok P 55 tc55_3:=tK eN {}
def tc55_7 : TC:=t3 7
theorem ok55_7 : TCok P 55 tc55_7:=tK eN {}
def tc55_65535 : TC:=t3 65535
theorem ok55_65535 : TCok P 55 tc55_65535:=tK eN {}
def tc56_r : TC:=t4 114
theorem ok56_r : TCok P 56 tc56_r:=tK eN { fuel:=3 }
def tc56_s : TC:=t5 114 115
theorem ok56_s : TCok P 56 tc56_s:=tK eN { fuel:=3 }
def tc56_e : TC:=t4 101
theorem ok56_e : TCok P 56 tc56_e:=tK eN { fuel:=3 }
def tc56_n : TC:=t4 110
theorem ok56_n : TCok P 56 tc56_n:=tK eN { fuel:=3 }
def tc56_m : TC:=t4 109
theorem ok56_m : TCok P 56 tc56_m:=tK eN { fuel:=3 }
def tc56_b : TC:=t4 98
theorem ok56_b : TCok P 56 tc56_b:=tK eN { fuel:=3 }
def tc31a : TC:=tC 1 (sH 0 [aQ 0 [.num .i64 1,.num .i64 0,.num .i64 0,.num .i64 0,.num .i64 0,.num .i64 0,.nos]] [] []) [] [(sH 0 [(0,d1 (.tru true))] [] [])]
theorem ok31a : TCok P 31 tc31a:=tK (eC ok54a (eC ok55_3 (eC ok55_7 (eC ok55_65535 (eC ok56_r (eC ok56_s (eC ok56_e (eC ok56_n (eC ok56_m (eC ok56_b eN)))))))))) {}
def tc39_3 : TC:=tC 3 (sM 2 [(0,.s (.c (.zs 0 (.var 0) (zTab 5) (Lin.num 3) (.var 1)))),(1,d1 (.num .u64 0)),(2,d1 (.num .i64 2))] [.var 0,(Lin.var 1).addc (-3),(Lin.num maxLen).sub (.var 1)] [(0,0)] [mq 0 0 (.int 4 .u8 0 255) (.num .u8 1),mq 0 1 (.int 4 .u8 0 255) (.num .u8 0),mq 0 2 (.int 4 .u8 0 255) (.num .u8 0)]) [] [(sM 2 [(0,.s (.c (.zs 2 (.var 2) (zTab 5) (Lin.num 5) (.var 3))))] [.var 2,(Lin.var 3).addc (-5),(Lin.num maxLen).sub (.var 3)] [(2,1)] (mq 2 0 (.int 4 .u8 0 255) (.num .u8 1) :: (rn 2 1 4 (.int 4 .u8 0 255) (.num .u8 0) [])))]
theorem ok39_3 : TCok P 39 tc39_3:=tK eN { fuel:=4 }
def tc39_5 : TC:=t6 5 (-5) 4 7 (-7) 6
theorem ok39_5 : TCok P 39 tc39_5:=tK eN { fuel:=4 }
def tc39_7 : TC:=t6 7 (-7) 6 9 (-9) 8
theorem ok39_7 : TCok P 39 tc39_7:=tK eN { fuel:=4 }
end
end VtTop
namespace VtTop
noncomputable section
open Go Zx Zx.Zr Vx
set_option maxRecDepth 100000
def q0 : List DC:=rC 0 ++ ([cI .i64 39,cI .i64 40] ++ (rC 41))
theorem e0 (ρ : Vl) : rvAt (q0.map (valD ρ)) 0 = roomV ρ 0:=rvAt_mid (pre:=[]) (post:=[cI .i64 39,cI .i64 40] ++ (rC 41)) rfl rfl
theorem e1 (ρ : Vl) : rvAt (q0.map (valD ρ)) 41 = roomV ρ 41:=rvAt_mid (pre:=rC 0 ++ ([cI .i64 39,cI .i64 40])) (post:=[]) rfl rfl
def q1 : List DC:=rC 0 ++ (rC 41)
theorem e2 (ρ : Vl) : rvAt (q1.map (valD ρ)) 0 = roomV ρ 0:=rvAt_mid (pre:=[]) (post:=rC 41) rfl rfl
theorem e3 (ρ : Vl) : rvAt (q1.map (valD ρ)) 39 = roomV ρ 41:=rvAt_mid (pre:=rC 0) (post:=[]) rfl rfl
def q2 : List DC:=rC 0 ++ ([cI .i64 39,cI .i64 40,cI .i64 41] ++ (rC 42))
theorem e4 (ρ : Vl) : rvAt (q2.map (valD ρ)) 0 = roomV ρ 0:=rvAt_mid (pre:=[]) (post:=[cI .i64 39,cI .i64 40,cI .i64 41] ++ (rC 42)) rfl rfl
theorem e5 (ρ : Vl) : rvAt (q2.map (valD ρ)) 42 = roomV ρ 42:=rvAt_mid (pre:=rC 0 ++ ([cI .i64 39,cI .i64 40,cI .i64 41])) (post:=[]) rfl rfl
def q3 : List DC:=rC 0 ++ (rC 42)
theorem e6 (ρ : Vl) : rvAt (q3.map (valD ρ)) 0 = roomV ρ 0:=rvAt_mid (pre:=[]) (post:=rC 42) rfl rfl
theorem e7 (ρ : Vl) : rvAt (q3.map (valD ρ)) 39 = roomV ρ 42:=rvAt_mid (pre:=rC 0) (post:=[]) rfl rfl
def q4 : List DC:=rC 0 ++ ([cI .i64 39,cI .i64 40] ++ (rC 41 ++ ([cI .i64 80])))
theorem e8 (ρ : Vl) : rvAt (q4.map (valD ρ)) 0 = roomV ρ 0:=rvAt_mid (pre:=[]) (post:=[cI .i64 39,cI .i64 40] ++ (rC 41 ++ ([cI .i64 80]))) rfl rfl
theorem e9 (ρ : Vl) : rvAt (q4.map (valD ρ)) 41 = roomV ρ 41:=rvAt_mid (pre:=rC 0 ++ ([cI .i64 39,cI .i64 40])) (post:=[cI .i64 80]) rfl rfl
def q5 : List DC:=rC 39 ++ (rC 78)
theorem e10 (ρ : Vl) : rvAt (q5.map (valD ρ)) 0 = roomV ρ 39:=rvAt_mid (pre:=[]) (post:=rC 78) rfl rfl
theorem e11 (ρ : Vl) : rvAt (q5.map (valD ρ)) 39 = roomV ρ 78:=rvAt_mid (pre:=rC 39) (post:=[]) rfl rfl
def q6 : List DC:=rC 0 ++ (rC 39)
theorem e12 (ρ : Vl) : rvAt (q6.map (valD ρ)) 0 = roomV ρ 0:=rvAt_mid (pre:=[]) (post:=rC 39) rfl rfl
theorem e13 (ρ : Vl) : rvAt (q6.map (valD ρ)) 39 = roomV ρ 39:=rvAt_mid (pre:=rC 0) (post:=[]) rfl rfl
def q7 : List DC:=rC 0 ++ (rC 78)
theorem e14 (ρ : Vl) : rvAt (q7.map (valD ρ)) 0 = roomV ρ 0:=rvAt_mid (pre:=[]) (post:=rC 78) rfl rfl
theorem e15 (ρ : Vl) : rvAt (q7.map (valD ρ)) 39 = roomV ρ 78:=rvAt_mid (pre:=rC 0) (post:=[]) rfl rfl
def q8 : List DC:=rC 1 ++ (rC 1)
theorem e16 (ρ : Vl) : rvAt (q8.map (valD ρ)) 0 = roomV ρ 1:=rvAt_mid (pre:=[]) (post:=rC 1) rfl rfl
theorem e17 (ρ : Vl) : rvAt (q8.map (valD ρ)) 39 = roomV ρ 1:=rvAt_mid (pre:=rC 1) (post:=[]) rfl rfl
def q10 : List DC:=rC 1 ++ ([cI .i64 40] ++ (rC 41))
theorem e20 (ρ : Vl) : rvAt (q10.map (valD ρ)) 0 = roomV ρ 1:=rvAt_mid (pre:=[]) (post:=[cI .i64 40] ++ (rC 41)) rfl rfl
theorem e21 (ρ : Vl) : rvAt (q10.map (valD ρ)) 40 = roomV ρ 41:=rvAt_mid (pre:=rC 1 ++ ([cI .i64 40])) (post:=[]) rfl rfl
def q11 : List DC:=rC 1 ++ (rC 41)
theorem e22 (ρ : Vl) : rvAt (q11.map (valD ρ)) 0 = roomV ρ 1:=rvAt_mid (pre:=[]) (post:=rC 41) rfl rfl
theorem e23 (ρ : Vl) : rvAt (q11.map (valD ρ)) 39 = roomV ρ 41:=rvAt_mid (pre:=rC 1) (post:=[]) rfl rfl
def tl_h62 : TC:={ k:=0,pre:={ n:=80,P:=[],C:=[],adr:=[],F:=[⟨62,rC 0 ++ ([cI .i64 39,cI .i64 40] ++ (rC 41))⟩] },W:=[],post:=[{ n:=0,P:=[],C:=[],adr:=[],F:=[⟨300,rC 0 ++ (rC 41)⟩] }] }
theorem lo_h62 : LemOk tl_h62:=LemOk.gen (by decide +kernel) (by decide +kernel) (by decide +kernel) fun ρ _ hF=>by
 have h0 : (rvAt (q0.map (valD ρ)) 41) = (aliveRm (rvAt (q0.map (valD ρ)) 0) _ _).1:=hF _ (List.Mem.head _)
 rw [e1,e0] at h0
 refine ⟨_,List.Mem.head _,fun l hl=>(by cases hl),fun f hf=>?_⟩
 cases hf with
 | tail _ hf=>cases hf
 | head _=>
 show HDo (rvAt (q1.map (valD ρ)) 0) (rvAt (q1.map (valD ρ)) 39)
 rw [e3,e2]
 exact .inr ⟨_,_,h0⟩
def lem_h62 : Lem:=⟨tl_h62,lo_h62⟩
def tl_s87 : TC:={ k:=0,pre:={ n:=80,P:=[],C:=[],adr:=[],F:=[⟨87,rC 0 ++ ([cI .i64 39,cI .i64 40] ++ (rC 41))⟩] },W:=[],post:=[{ n:=0,P:=[],C:=[],adr:=[],F:=[⟨305,rC 0 ++ (rC 41)⟩] }] }
theorem lo_s87 : LemOk tl_s87:=LemOk.gen (by decide +kernel) (by decide +kernel) (by decide +kernel) fun ρ _ hF=>by
 have h0 : (rvAt (q0.map (valD ρ)) 41) = (leaveRm (rvAt (q0.map (valD ρ)) 0) _ _).1:=hF _ (List.Mem.head _)
 rw [e1,e0] at h0
 refine ⟨_,List.Mem.head _,fun l hl=>(by cases hl),fun f hf=>?_⟩
 cases hf with
 | tail _ hf=>cases hf
 | head _=>
 show ROne (rvAt (q1.map (valD ρ)) 0) (rvAt (q1.map (valD ρ)) 39)
 rw [e3,e2]
 exact .inr (.inl ⟨_,_,h0⟩)
def lem_s87 : Lem:=⟨tl_s87,lo_s87⟩
def tl_s88 : TC:={ k:=0,pre:={ n:=81,P:=[],C:=[],adr:=[],F:=[⟨88,rC 0 ++ ([cI .i64 39,cI .i64 40,cI .i64 41] ++ (rC 42))⟩] },W:=[],post:=[{ n:=0,P:=[],C:=[],adr:=[],F:=[⟨305,rC 0 ++ (rC 42)⟩] }] }
theorem lo_s88 : LemOk tl_s88:=LemOk.gen (by decide +kernel) (by decide +kernel) (by decide +kernel) fun ρ _ hF=>by
 have h0 : (rvAt (q2.map (valD ρ)) 42) = (kickRm (rvAt (q2.map (valD ρ)) 0) _ _ _).1:=hF _ (List.Mem.head _)
 rw [e5,e4] at h0
 refine ⟨_,List.Mem.head _,fun l hl=>(by cases hl),fun f hf=>?_⟩
 cases hf with
 | tail _ hf=>cases hf
 | head _=>
 show ROne (rvAt (q3.map (valD ρ)) 0) (rvAt (q3.map (valD ρ)) 39)
 rw [e7,e6]
 exact .inr (.inr (.inl ⟨_,_,_,h0⟩))
def lem_s88 : Lem:=⟨tl_s88,lo_s88⟩
def tl_s92 : TC:={ k:=0,pre:={ n:=80,P:=[],C:=[],adr:=[],F:=[⟨92,rC 0 ++ ([cI .i64 39,cI .i64 40] ++ (rC 41))⟩] },W:=[],post:=[{ n:=0,P:=[],C:=[],adr:=[],F:=[⟨305,rC 0 ++ (rC 41)⟩] }] }
theorem lo_s92 : LemOk tl_s92:=LemOk.gen (by decide +kernel) (by decide +kernel) (by decide +kernel) fun ρ _ hF=>by
 have h0 : (rvAt (q0.map (valD ρ)) 41) = (haveRm (rvAt (q0.map (valD ρ)) 0) _ _).1:=hF _ (List.Mem.head _)
 rw [e1,e0] at h0
 refine ⟨_,List.Mem.head _,fun l hl=>(by cases hl),fun f hf=>?_⟩
 cases hf with
 | tail _ hf=>cases hf
 | head _=>
 show ROne (rvAt (q1.map (valD ρ)) 0) (rvAt (q1.map (valD ρ)) 39)
 rw [e3,e2]
 exact .inr (.inr (.inr (.inl ⟨_,_,h0⟩)))
def lem_s92 : Lem:=⟨tl_s92,lo_s92⟩
def tl_s84 : TC:={ k:=0,pre:={ n:=81,P:=[],C:=[],adr:=[],F:=[⟨84,rC 0 ++ ([cI .i64 39,cI .i64 40] ++ (rC 41 ++ ([cI .i64 80])))⟩] },W:=[],post:=[{ n:=0,P:=[],C:=[],adr:=[],F:=[⟨305,rC 0 ++ (rC 41)⟩] }] }
theorem lo_s84 : LemOk tl_s84:=LemOk.gen (by decide +kernel) (by decide +kernel) (by decide +kernel) fun ρ _ hF=>by
 have h0 : (rvAt (q4.map (valD ρ)) 41) = (joinRm (rvAt (q4.map (valD ρ)) 0) _ _).1:=hF _ (List.Mem.head _)
 rw [e9,e8] at h0
 refine ⟨_,List.Mem.head _,fun l hl=>(by cases hl),fun f hf=>?_⟩
 cases hf with
 | tail _ hf=>cases hf
 | head _=>
 show ROne (rvAt (q1.map (valD ρ)) 0) (rvAt (q1.map (valD ρ)) 39)
 rw [e3,e2]
 exact .inr (.inr (.inr (.inr (.inl ⟨_,_,h0⟩))))
def lem_s84 : Lem:=⟨tl_s84,lo_s84⟩
def tl_g305 : TC:={ k:=0,pre:={ n:=117,P:=[],C:=[],adr:=[],F:=[⟨305,rC 39 ++ (rC 78)⟩,⟨300,rC 0 ++ (rC 39)⟩] },W:=[],post:=[{ n:=0,P:=[],C:=[],adr:=[],F:=[⟨301,rC 0 ++ (rC 78)⟩] }] }
theorem lo_g305 : LemOk tl_g305:=LemOk.gen (by decide +kernel) (by decide +kernel) (by decide +kernel) fun ρ _ hF=>by
 have h0 : ROne (rvAt (q5.map (valD ρ)) 0) (rvAt (q5.map (valD ρ)) 39):=hF _ (List.Mem.head _)
 rw [e11,e10] at h0
 have h1 : HDo (rvAt (q6.map (valD ρ)) 0) (rvAt (q6.map (valD ρ)) 39):=hF _ (List.Mem.tail _ (List.Mem.head _))
 rw [e13,e12] at h1
 refine ⟨_,List.Mem.head _,fun l hl=>(by cases hl),fun f hf=>?_⟩
 cases hf with
 | tail _ hf=>cases hf
 | head _=>
 show RDo (rvAt (q7.map (valD ρ)) 0) (rvAt (q7.map (valD ρ)) 39)
 rw [e15,e14]
 exact ⟨_,h1,h0⟩
def lem_g305 : Lem:=⟨tl_g305,lo_g305⟩
def tl_j305 : TC:={ k:=0,pre:={ n:=78,P:=[],C:=[],adr:=[],F:=[⟨305,rC 0 ++ (rC 39)⟩] },W:=[],post:=[{ n:=0,P:=[],C:=[],adr:=[],F:=[⟨301,rC 0 ++ (rC 39)⟩] }] }
theorem lo_j305 : LemOk tl_j305:=LemOk.gen (by decide +kernel) (by decide +kernel) (by decide +kernel) fun ρ _ hF=>by
 have h0 : ROne (rvAt (q6.map (valD ρ)) 0) (rvAt (q6.map (valD ρ)) 39):=hF _ (List.Mem.head _)
 rw [e13,e12] at h0
 refine ⟨_,List.Mem.head _,fun l hl=>(by cases hl),fun f hf=>?_⟩
 cases hf with
 | tail _ hf=>cases hf
 | head _=>
 show RDo (rvAt (q6.map (valD ρ)) 0) (rvAt (q6.map (valD ρ)) 39)
 rw [e13,e12]
 exact ⟨_,.inl rfl,h0⟩
def lem_j305 : Lem:=⟨tl_j305,lo_j305⟩
def tl_refl0 : TC:={ k:=1,pre:={ n:=40,P:=[(0,.s (.c (cP 92 0)))],C:=[],adr:=[],M:=rM 0 0 1 },W:=[],post:=[{ n:=0,P:=[],C:=[],adr:=[],F:=[⟨300,rC 1 ++ (rC 1)⟩] }] }
theorem lo_refl0 : LemOk tl_refl0:=LemOk.gen (by decide +kernel) (by decide +kernel) (by decide +kernel) fun ρ _ hF=>by
 refine ⟨_,List.Mem.head _,fun l hl=>(by cases hl),fun f hf=>?_⟩
 cases hf with
 | tail _ hf=>cases hf
 | head _=>
 show HDo (rvAt (q8.map (valD ρ)) 0) (rvAt (q8.map (valD ρ)) 39)
 rw [e17,e16]
 exact .inl rfl
def lem_refl0 : Lem:=⟨tl_refl0,lo_refl0⟩
def tl_r510 : TC:={ k:=1,pre:={ n:=80,P:=[(0,.s (.c (cP 92 0)))],C:=[],adr:=[],M:=rM 0 0 41,F:=[⟨51,rC 1 ++ ([cI .i64 40] ++ (rC 41))⟩] },W:=[],post:=[{ n:=0,P:=[],C:=[],adr:=[],F:=[⟨301,rC 1 ++ (rC 41)⟩] }] }
theorem lo_r510 : LemOk tl_r510:=LemOk.gen (by decide +kernel) (by decide +kernel) (by decide +kernel) fun ρ _ hF=>by
 have h0 : (rvAt (q10.map (valD ρ)) 40) = (tickRm (rvAt (q10.map (valD ρ)) 0) _).1:=hF _ (List.Mem.head _)
 rw [e21,e20] at h0
 refine ⟨_,List.Mem.head _,fun l hl=>(by cases hl),fun f hf=>?_⟩
 cases hf with
 | tail _ hf=>cases hf
 | head _=>
 show RDo (rvAt (q11.map (valD ρ)) 0) (rvAt (q11.map (valD ρ)) 39)
 rw [e23,e22]
 exact ⟨_,.inl rfl,.inr (.inr (.inr (.inr (.inr ⟨_,h0⟩))))⟩
def lem_r510 : Lem:=⟨tl_r510,lo_r510⟩
def tl_refl1 : TC:={ k:=1,pre:={ n:=40,P:=[(0,.s (.c (cP 92 0)))],C:=[],adr:=[],M:=rM 0 367 1 },W:=[],post:=[{ n:=0,P:=[],C:=[],adr:=[],F:=[⟨300,rC 1 ++ (rC 1)⟩] }] }
theorem lo_refl1 : LemOk tl_refl1:=LemOk.gen (by decide +kernel) (by decide +kernel) (by decide +kernel) fun ρ _ hF=>by
 refine ⟨_,List.Mem.head _,fun l hl=>(by cases hl),fun f hf=>?_⟩
 cases hf with
 | tail _ hf=>cases hf
 | head _=>
 show HDo (rvAt (q8.map (valD ρ)) 0) (rvAt (q8.map (valD ρ)) 39)
 rw [e17,e16]
 exact .inl rfl
def lem_refl1 : Lem:=⟨tl_refl1,lo_refl1⟩
def tl_r511 : TC:={ k:=1,pre:={ n:=80,P:=[(0,.s (.c (cP 92 0)))],C:=[],adr:=[],M:=rM 0 367 41,F:=[⟨51,rC 1 ++ ([cI .i64 40] ++ (rC 41))⟩] },W:=[],post:=[{ n:=0,P:=[],C:=[],adr:=[],F:=[⟨301,rC 1 ++ (rC 41)⟩] }] }
theorem lo_r511 : LemOk tl_r511:=LemOk.gen (by decide +kernel) (by decide +kernel) (by decide +kernel) fun ρ _ hF=>by
 have h0 : (rvAt (q10.map (valD ρ)) 40) = (tickRm (rvAt (q10.map (valD ρ)) 0) _).1:=hF _ (List.Mem.head _)
 rw [e21,e20] at h0
 refine ⟨_,List.Mem.head _,fun l hl=>(by cases hl),fun f hf=>?_⟩
 cases hf with
 | tail _ hf=>cases hf
 | head _=>
 show RDo (rvAt (q11.map (valD ρ)) 0) (rvAt (q11.map (valD ρ)) 39)
 rw [e23,e22]
 exact ⟨_,.inl rfl,.inr (.inr (.inr (.inr (.inr ⟨_,h0⟩))))⟩
def lem_r511 : Lem:=⟨tl_r511,lo_r511⟩
def tl_refl2 : TC:={ k:=1,pre:={ n:=40,P:=[(0,.s (.c (cP 92 0)))],C:=[],adr:=[],M:=rM 0 734 1 },W:=[],post:=[{ n:=0,P:=[],C:=[],adr:=[],F:=[⟨300,rC 1 ++ (rC 1)⟩] }] }
theorem lo_refl2 : LemOk tl_refl2:=LemOk.gen (by decide +kernel) (by decide +kernel) (by decide +kernel) fun ρ _ hF=>by
 refine ⟨_,List.Mem.head _,fun l hl=>(by cases hl),fun f hf=>?_⟩
 cases hf with
 | tail _ hf=>cases hf
 | head _=>
 show HDo (rvAt (q8.map (valD ρ)) 0) (rvAt (q8.map (valD ρ)) 39)
 rw [e17,e16]
 exact .inl rfl
def lem_refl2 : Lem:=⟨tl_refl2,lo_refl2⟩
def tl_r512 : TC:={ k:=1,pre:={ n:=80,P:=[(0,.s (.c (cP 92 0)))],C:=[],adr:=[],M:=rM 0 734 41,F:=[⟨51,rC 1 ++ ([cI .i64 40] ++ (rC 41))⟩] },W:=[],post:=[{ n:=0,P:=[],C:=[],adr:=[],F:=[⟨301,rC 1 ++ (rC 41)⟩] }] }
theorem lo_r512 : LemOk tl_r512:=LemOk.gen (by decide +kernel) (by decide +kernel) (by decide +kernel) fun ρ _ hF=>by
 have h0 : (rvAt (q10.map (valD ρ)) 40) = (tickRm (rvAt (q10.map (valD ρ)) 0) _).1:=hF _ (List.Mem.head _)
 rw [e21,e20] at h0
 refine ⟨_,List.Mem.head _,fun l hl=>(by cases hl),fun f hf=>?_⟩
 cases hf with
 | tail _ hf=>cases hf
 | head _=>
 show RDo (rvAt (q11.map (valD ρ)) 0) (rvAt (q11.map (valD ρ)) 39)
 rw [e23,e22]
 exact ⟨_,.inl rfl,.inr (.inr (.inr (.inr (.inr ⟨_,h0⟩))))⟩
def lem_r512 : Lem:=⟨tl_r512,lo_r512⟩
def tl_refl3 : TC:={ k:=1,pre:={ n:=40,P:=[(0,.s (.c (cP 92 0)))],C:=[],adr:=[],M:=rM 0 1101 1 },W:=[],post:=[{ n:=0,P:=[],C:=[],adr:=[],F:=[⟨300,rC 1 ++ (rC 1)⟩] }] }
theorem lo_refl3 : LemOk tl_refl3:=LemOk.gen (by decide +kernel) (by decide +kernel) (by decide +kernel) fun ρ _ hF=>by
 refine ⟨_,List.Mem.head _,fun l hl=>(by cases hl),fun f hf=>?_⟩
 cases hf with
 | tail _ hf=>cases hf
 | head _=>
 show HDo (rvAt (q8.map (valD ρ)) 0) (rvAt (q8.map (valD ρ)) 39)
 rw [e17,e16]
 exact .inl rfl
def lem_refl3 : Lem:=⟨tl_refl3,lo_refl3⟩
def tl_r513 : TC:={ k:=1,pre:={ n:=80,P:=[(0,.s (.c (cP 92 0)))],C:=[],adr:=[],M:=rM 0 1101 41,F:=[⟨51,rC 1 ++ ([cI .i64 40] ++ (rC 41))⟩] },W:=[],post:=[{ n:=0,P:=[],C:=[],adr:=[],F:=[⟨301,rC 1 ++ (rC 41)⟩] }] }
theorem lo_r513 : LemOk tl_r513:=LemOk.gen (by decide +kernel) (by decide +kernel) (by decide +kernel) fun ρ _ hF=>by
 have h0 : (rvAt (q10.map (valD ρ)) 40) = (tickRm (rvAt (q10.map (valD ρ)) 0) _).1:=hF _ (List.Mem.head _)
 rw [e21,e20] at h0
 refine ⟨_,List.Mem.head _,fun l hl=>(by cases hl),fun f hf=>?_⟩
 cases hf with
 | tail _ hf=>cases hf
 | head _=>
 show RDo (rvAt (q11.map (valD ρ)) 0) (rvAt (q11.map (valD ρ)) 39)
 rw [e23,e22]
 exact ⟨_,.inl rfl,.inr (.inr (.inr (.inr (.inr ⟨_,h0⟩))))⟩
def lem_r513 : Lem:=⟨tl_r513,lo_r513⟩
def tl_room4 : TC:={ k:=1,pre:={ n:=2,P:=[(0,.s (.c (cP 133 0)))],C:=[⟨0,[(1,1)]⟩,⟨3,[(1,-1)]⟩],adr:=[],M:=[⟨0,⟨1,[(0,1)]⟩,.int 197 .i64 (-9223372036854775808) 9223372036854775807,cI .i64 1⟩] },W:=[],post:=[{ n:=0,P:=[],C:=[⟨0,[(1,1)]⟩,⟨0,[(1,-1)]⟩],adr:=[] },{ n:=0,P:=[],C:=[⟨-1,[(1,1)]⟩,⟨1,[(1,-1)]⟩],adr:=[] },{ n:=0,P:=[],C:=[⟨-2,[(1,1)]⟩,⟨2,[(1,-1)]⟩],adr:=[] },{ n:=0,P:=[],C:=[⟨-3,[(1,1)]⟩,⟨3,[(1,-1)]⟩],adr:=[] }] }
theorem lo_room4 : LemOk tl_room4:=LemOk.gen (by decide +kernel) (by decide +kernel) (by decide +kernel) fun ρ hC _=>by
 have h0:=hC _ (List.Mem.head _)
 have h1:=hC _ (List.Mem.tail _ (List.Mem.head _))
 simp only [Lin.den,Tm.den] at h0 h1
 have hr : ρ.i 1 = 0 \/ ρ.i 1 = 1 \/ ρ.i 1 = 2 \/ ρ.i 1 = 3:=by omega
 rcases hr with e | e | e | e
 ·exact ⟨_,List.Mem.head _,two_le (by simp only [Lin.den,Tm.den,e];omega) (by simp only [Lin.den,Tm.den,e];omega),fun f hf=>(by cases hf)⟩
 ·exact ⟨_,List.Mem.tail _ (List.Mem.head _),two_le (by simp only [Lin.den,Tm.den,e];omega) (by simp only [Lin.den,Tm.den,e];omega),fun f hf=>(by cases hf)⟩
 ·exact ⟨_,List.Mem.tail _ (List.Mem.tail _ (List.Mem.head _)),two_le (by simp only [Lin.den,Tm.den,e];omega) (by simp only [Lin.den,Tm.den,e];omega),fun f hf=>(by cases hf)⟩
 ·exact ⟨_,List.Mem.tail _ (List.Mem.tail _ (List.Mem.tail _ (List.Mem.head _))),two_le (by simp only [Lin.den,Tm.den,e];omega) (by simp only [Lin.den,Tm.den,e];omega),fun f hf=>(by cases hf)⟩
def lem_room4 : Lem:=⟨tl_room4,lo_room4⟩
def tl_kind9 : TC:={ k:=1,pre:={ n:=2,P:=[(0,.s (.c (cP 133 0)))],C:=[⟨-1,[(1,1)]⟩,⟨9,[(1,-1)]⟩],adr:=[],M:=[⟨0,⟨0,[(0,1)]⟩,.int 196 .i64 (-9223372036854775808) 9223372036854775807,cI .i64 1⟩] },W:=[],post:=[{ n:=0,P:=[],C:=[⟨-1,[(1,1)]⟩,⟨1,[(1,-1)]⟩],adr:=[] },{ n:=0,P:=[],C:=[⟨-2,[(1,1)]⟩,⟨2,[(1,-1)]⟩],adr:=[] },{ n:=0,P:=[],C:=[⟨-3,[(1,1)]⟩,⟨3,[(1,-1)]⟩],adr:=[] },{ n:=0,P:=[],C:=[⟨-4,[(1,1)]⟩,⟨4,[(1,-1)]⟩],adr:=[] },{ n:=0,P:=[],C:=[⟨-5,[(1,1)]⟩,⟨5,[(1,-1)]⟩],adr:=[] },{ n:=0,P:=[],C:=[⟨-6,[(1,1)]⟩,⟨6,[(1,-1)]⟩],adr:=[] },{ n:=0,P:=[],C:=[⟨-7,[(1,1)]⟩,⟨7,[(1,-1)]⟩],adr:=[] },{ n:=0,P:=[],C:=[⟨-8,[(1,1)]⟩,⟨8,[(1,-1)]⟩],adr:=[] },{ n:=0,P:=[],C:=[⟨-9,[(1,1)]⟩,⟨9,[(1,-1)]⟩],adr:=[] }] }
theorem lo_kind9 : LemOk tl_kind9:=LemOk.gen (by decide +kernel) (by decide +kernel) (by decide +kernel) fun ρ hC _=>by
 have h0:=hC _ (List.Mem.head _)
 have h1:=hC _ (List.Mem.tail _ (List.Mem.head _))
 simp only [Lin.den,Tm.den] at h0 h1
 have hr : ρ.i 1 = 1 \/ ρ.i 1 = 2 \/ ρ.i 1 = 3 \/ ρ.i 1 = 4 \/ ρ.i 1 = 5 \/ ρ.i 1 = 6 \/ ρ.i 1 = 7 \/ ρ.i 1 = 8 \/ ρ.i 1 = 9:=by omega
 rcases hr with e | e | e | e | e | e | e | e | e
 ·exact ⟨_,List.Mem.head _,two_le (by simp only [Lin.den,Tm.den,e];omega) (by simp only [Lin.den,Tm.den,e];omega),fun f hf=>(by cases hf)⟩
 ·exact ⟨_,List.Mem.tail _ (List.Mem.head _),two_le (by simp only [Lin.den,Tm.den,e];omega) (by simp only [Lin.den,Tm.den,e];omega),fun f hf=>(by cases hf)⟩
 ·exact ⟨_,List.Mem.tail _ (List.Mem.tail _ (List.Mem.head _)),two_le (by simp only [Lin.den,Tm.den,e];omega) (by simp only [Lin.den,Tm.den,e];omega),fun f hf=>(by cases hf)⟩
 ·exact ⟨_,List.Mem.tail _ (List.Mem.tail _ (List.Mem.tail _ (List.Mem.head _))),two_le (by simp only [Lin.den,Tm.den,e];omega) (by simp only [Lin.den,Tm.den,e];omega),fun f hf=>(by cases hf)⟩
 ·exact ⟨_,List.Mem.tail _ (List.Mem.tail _ (List.Mem.tail _ (List.Mem.tail _ (List.Mem.head _)))),two_le (by simp only [Lin.den,Tm.den,e];omega) (by simp only [Lin.den,Tm.den,e];omega),fun f hf=>(by cases hf)⟩
 ·exact ⟨_,List.Mem.tail _ (List.Mem.tail _ (List.Mem.tail _ (List.Mem.tail _ (List.Mem.tail _ (List.Mem.head _))))),two_le (by simp only [Lin.den,Tm.den,e];omega) (by simp only [Lin.den,Tm.den,e];omega),fun f hf=>(by cases hf)⟩
 ·exact ⟨_,List.Mem.tail _ (List.Mem.tail _ (List.Mem.tail _ (List.Mem.tail _ (List.Mem.tail _ (List.Mem.tail _ (List.Mem.head _)))))),two_le (by simp only [Lin.den,Tm.den,e];omega) (by simp only [Lin.den,Tm.den,e];omega),fun f hf=>(by cases hf)⟩
 ·exact ⟨_,List.Mem.tail _ (List.Mem.tail _ (List.Mem.tail _ (List.Mem.tail _ (List.Mem.tail _ (List.Mem.tail _ (List.Mem.tail _ (List.Mem.head _))))))),two_le (by simp only [Lin.den,Tm.den,e];omega) (by simp only [Lin.den,Tm.den,e];omega),fun f hf=>(by cases hf)⟩
 ·exact ⟨_,List.Mem.tail _ (List.Mem.tail _ (List.Mem.tail _ (List.Mem.tail _ (List.Mem.tail _ (List.Mem.tail _ (List.Mem.tail _ (List.Mem.tail _ (List.Mem.head _)))))))),two_le (by simp only [Lin.den,Tm.den,e];omega) (by simp only [Lin.den,Tm.den,e];omega),fun f hf=>(by cases hf)⟩
def lem_kind9 : Lem:=⟨tl_kind9,lo_kind9⟩
end
end VtTop
namespace VtTop
open Go Zx Vx
noncomputable section
set_option maxRecDepth 1000000
def tc39_9 : TC:=t6 9 (-9) 8 11 (-11) 10
theorem ok39_9 : TCok P 39 tc39_9:=tK eN { fuel:=4 }
def tc24a : TC:=tC 1 (sH 0 [aQ 0 [.num .i64 1,.num .i64 0,.num .i64 0,.num .i64 0,.num .i64 0,.num .i64 0,.nos]] [] []) [] [(sM 2 [(0,.t [.c (.zs 0 (.var 0) (zTab 5) (Lin.num 11) (.var 1)),.c (.num .i64 0)])] [.var 0,(Lin.var 1).addc (-11),(Lin.num maxLen).sub (.var 1)] [(0,1)] (mq 0 0 (.int 4 .u8 0 255) (.num .u8 1) :: (rn 0 1 10 (.int 4 .u8 0 255) (.num .u8 0) [])))]
theorem ok24a : TCok P 24 tc24a:=tK (eC ok31a (eC ok39_3 (eC ok39_5 (eC ok39_7 (eC ok39_9 eN))))) {}
def tc9 : TC:={ k:=0,pre:={ n:=0,P:=[],C:=[],adr:=[] },W:=[],post:=[{ n:=0,P:=[(0,.s (.c (.tru true)))],C:=[],adr:=[] }] }
theorem ok9 : TCok P 9 tc9:=tK (eC ok8 (eC ok11a (eC ok11b (eC ok24a eN)))) {}
def tc10 : TC:={ k:=1,pre:={ n:=3,P:=[(0,.s (.c (cS 33 0)))],C:=rS 0 9223372036854775807,adr:=[(0,0)] },W:=[],post:=[{ n:=0,P:=[(0,.s (.c (.tru true)))],C:=[],adr:=[] },{ n:=0,P:=[(0,.s (.c (.tru false)))],C:=[⟨200,[(1,-1)]⟩],adr:=[],G:=[⟨2180,[cS 33 0,.num .i64 2000]⟩] }] }
theorem ok10 : TCok P 10 tc10:=tK eN { lp:=lp1 2 { sh:={ n:=1,P:=[aW 3 3],C:=rI 3 0 200 ++ ([⟨0,[(3,-1),(1,1)]⟩]),adr:=[],G:=[⟨218,[cS 33 0,.num .i64 2000,cW 3]⟩] },keep:=[0],W:=[],Wo:=[],r:=3,refs:=[aS 0 33 0],lem:=[(lem_start218,[0])],dec:=⟨200,[(3,-1)]⟩ } <| lp0,lem:=fun i sl=>match Nat.beq i 3 with | true=>[(lem_step218,[0,3])] | false=>match Nat.beq i 6 with | true=>[(lem_end218,[0,3]),(lem_far218,[0,3])] | false=>[] }
def tc14_0 : TC:=t7 0 0
theorem ok14_0 : TCok P 14 tc14_0:=tK eN {}
def tc14_1 : TC:=t7 1 367
theorem ok14_1 : TCok P 14 tc14_1:=tK eN {}
def tc14_2 : TC:=t7 2 734
theorem ok14_2 : TCok P 14 tc14_2:=tK eN {}
def tc14_3 : TC:=t7 3 1101
theorem ok14_3 : TCok P 14 tc14_3:=tK eN {}
def tc12q : TC:=tC 2 (sM 158 [aP 0 92 0,aW 1 1] (rP 0 ++ (rW 1)) [(0,0)] (rM 0 0 2 ++ (rM 0 367 41 ++ (rM 0 734 80 ++ (rM 0 1101 119))))) [] [(sH 0 [(0,d1 (.tru true))] [] []),{ n:=0,P:=[(0,d1 (.tru false))],C:=[],adr:=[],F:=[⟨610,[cB 2,cB 3,cB 4,cB 5,cB 6,cB 7,cB 8,cB 9,cW 10,cW 11,cW 12,cW 13,cW 14,cW 15,cW 16,cW 17,cW 1]⟩,⟨610,[cB 41,cB 42,cB 43,cB 44,cB 45,cB 46,cB 47,cB 48,cW 49,cW 50,cW 51,cW 52,cW 53,cW 54,cW 55,cW 56,cW 1]⟩,⟨610,[cB 80,cB 81,cB 82,cB 83,cB 84,cB 85,cB 86,cB 87,cW 88,cW 89,cW 90,cW 91,cW 92,cW 93,cW 94,cW 95,cW 1]⟩,⟨610,[cB 119,cB 120,cB 121,cB 122,cB 123,cB 124,cB 125,cB 126,cW 127,cW 128,cW 129,cW 130,cW 131,cW 132,cW 133,cW 134,cW 1]⟩] }]
theorem ok12q : TCok P 12 tc12q:=tK (eC ok14_0 (eC ok14_1 (eC ok14_2 (eC ok14_3 eN)))) { lp:=lp1 6 { sh:={ n:=1,P:=[aW 8 18],C:=rI 18 0 8 ++ ([⟨8,[(18,-1)]⟩]),adr:=[],F:=[⟨612,[cB 2,cB 3,cB 4,cB 5,cB 6,cB 7,cB 8,cB 9,cW 10,cW 11,cW 12,cW 13,cW 14,cW 15,cW 16,cW 17,cW 1,cW 18]⟩] },keep:=[0,1,5,6],W:=[],Wo:=[],r:=18,refs:=[aP 6 49 0,aW 1 1],rM:=[mq 0 0 (.bool 41) (cB 2),mq 0 1 (.bool 41) (cB 3),mq 0 2 (.bool 41) (cB 4),mq 0 3 (.bool 41) (cB 5),mq 0 4 (.bool 41) (cB 6),mq 0 5 (.bool 41) (cB 7),mq 0 6 (.bool 41) (cB 8),mq 0 7 (.bool 41) (cB 9),mq 0 8 (iW 42) (cW 10),mq 0 9 (iW 42) (cW 11),mq 0 10 (iW 42) (cW 12),mq 0 11 (iW 42) (cW 13),mq 0 12 (iW 42) (cW 14),mq 0 13 (iW 42) (cW 15),mq 0 14 (iW 42) (cW 16),mq 0 15 (iW 42) (cW 17)],lem:=[(lem_b612,[6,1])],dec:=⟨8,[(18,-1)]⟩ } <| lp0,fuel:=5,lem:=fun i sl=>match Nat.beq i 8 with | true=>[(lem_slot,[6,1,8])] | false=>match Nat.beq i 3 with | true=>[(lem_f612,[6,1,8])] | false=>[] }
def tc30z3 : TC:=t8 3 3 4
theorem ok30z3 : TCok P 30 tc30z3:=tK eN {}
def tc30z5 : TC:=t8 5 5 6
theorem ok30z5 : TCok P 30 tc30z5:=tK eN {}
def tc30z7 : TC:=t8 7 7 8
theorem ok30z7 : TCok P 30 tc30z7:=tK eN {}
def tc30z9 : TC:=t8 9 9 10
theorem ok30z9 : TCok P 30 tc30z9:=tK eN {}
def tc54_1 : TC:=tC 1 (sH 0 [(0,d1 (.num .i64 1))] [] []) [] [(sH 0 [(0,.s (.c (.strL (ByteArray.mk #[114]))))] [] [])]
theorem ok54_1 : TCok P 54 tc54_1:=tK eN {}
end
end VtTop
namespace VtTop
open Go Zx Vx
noncomputable section
set_option maxRecDepth 1000000
def tc55v_3 : TC:=t9 3
theorem ok55v_3 : TCok P 55 tc55v_3:=tK eN {}
def tc55v_7 : TC:=t9 7
theorem ok55v_7 : TCok P 55 tc55v_7:=tK eN {}
def tc55v_65535 : TC:=t9 65535
theorem ok55v_65535 : TCok P 55 tc55v_65535:=tK eN {}
def tc56e_r : TC:=t10 114 114
theorem ok56e_r : TCok P 56 tc56e_r:=tK eN { fuel:=8 }
def tc56e_s : TC:=t5 114 115
theorem ok56e_s : TCok P 56 tc56e_s:=tK eN { fuel:=8 }
def tc56e_e : TC:=t5 114 101
theorem ok56e_e : TCok P 56 tc56e_e:=tK eN { fuel:=8 }
def tc56e_n : TC:=t5 114 110
theorem ok56e_n : TCok P 56 tc56e_n:=tK eN { fuel:=8 }
def tc56e_m : TC:=t5 114 109
theorem ok56e_m : TCok P 56 tc56e_m:=tK eN { fuel:=8 }
def tc56e_b : TC:=t5 114 98
theorem ok56e_b : TCok P 56 tc56e_b:=tK eN { fuel:=8 }
def tc31_1 : TC:=t11 1 3
theorem ok31_1 : TCok P 31 tc31_1:=tK (eC ok54_1 (eC ok55v_3 (eC ok55v_7 (eC ok55v_65535 (eC ok56e_r (eC ok56e_s (eC ok56e_e (eC ok56e_n (eC ok56e_m (eC ok56e_b eN)))))))))) {}
def tc13_1 : TC:=t12 3 1
theorem ok13_1 : TCok P 13 tc13_1:=tK (eC ok30z3 (eC ok30z5 (eC ok30z7 (eC ok30z9 (eC ok31_1 eN))))) {}
def tc54_2 : TC:=tC 1 (sH 0 [(0,d1 (.num .i64 2))] [] []) [] [(sH 0 [(0,.s (.c (.strL (ByteArray.mk #[45]))))] [] [])]
theorem ok54_2 : TCok P 54 tc54_2:=tK eN {}
def tc56a_r : TC:=t5 45 114
theorem ok56a_r : TCok P 56 tc56a_r:=tK eN { fuel:=8 }
def tc56a_s : TC:=t5 45 115
theorem ok56a_s : TCok P 56 tc56a_s:=tK eN { fuel:=8 }
end
end VtTop
namespace VtTop
open Go Zx Vx
noncomputable section
set_option maxRecDepth 1000000
def tc56a_e : TC:=t5 45 101
theorem ok56a_e : TCok P 56 tc56a_e:=tK eN { fuel:=8 }
def tc56a_n : TC:=t5 45 110
theorem ok56a_n : TCok P 56 tc56a_n:=tK eN { fuel:=8 }
def tc56a_m : TC:=t5 45 109
theorem ok56a_m : TCok P 56 tc56a_m:=tK eN { fuel:=8 }
def tc56a_b : TC:=t5 45 98
theorem ok56a_b : TCok P 56 tc56a_b:=tK eN { fuel:=8 }
def tc31_2 : TC:=t11 2 0
theorem ok31_2 : TCok P 31 tc31_2:=tK (eC ok54_2 (eC ok55v_3 (eC ok55v_7 (eC ok55v_65535 (eC ok56a_r (eC ok56a_s (eC ok56a_e (eC ok56a_n (eC ok56a_m (eC ok56a_b eN)))))))))) {}
def tc13_2 : TC:=t12 0 2
theorem ok13_2 : TCok P 13 tc13_2:=tK (eC ok30z3 (eC ok30z5 (eC ok30z7 (eC ok30z9 (eC ok31_2 eN))))) {}
def tc54_3 : TC:=tC 1 (sH 0 [(0,d1 (.num .i64 3))] [] []) [] [(sH 0 [(0,.s (.c (.strL (ByteArray.mk #[115]))))] [] [])]
theorem ok54_3 : TCok P 54 tc54_3:=tK eN {}
def tc56g_r : TC:=t5 115 114
theorem ok56g_r : TCok P 56 tc56g_r:=tK eN { fuel:=8 }
def tc56g_s : TC:=t10 115 115
theorem ok56g_s : TCok P 56 tc56g_s:=tK eN { fuel:=8 }
def tc56g_e : TC:=t5 115 101
theorem ok56g_e : TCok P 56 tc56g_e:=tK eN { fuel:=8 }
def tc56g_n : TC:=t5 115 110
theorem ok56g_n : TCok P 56 tc56g_n:=tK eN { fuel:=8 }
def tc56g_m : TC:=t5 115 109
theorem ok56g_m : TCok P 56 tc56g_m:=tK eN { fuel:=8 }
def tc56g_b : TC:=t5 115 98
theorem ok56g_b : TCok P 56 tc56g_b:=tK eN { fuel:=8 }
def tc31_3 : TC:=tC 1 (sH 4 [aQ 0 [.num .i64 3,.num .i64 0,cW 0,.num .i64 0,.num .i64 0,.num .i64 0,cS 5 1]] (rI 0 0 7 ++ (rS 1 0)) [(1,0)]) [] [(sH 0 [(0,d1 (.tru true))] [] [])]
theorem ok31_3 : TCok P 31 tc31_3:=tK (eC ok54_3 (eC ok55v_3 (eC ok55v_7 (eC ok55v_65535 (eC ok56g_r (eC ok56g_s (eC ok56g_e (eC ok56g_n (eC ok56g_m (eC ok56g_b eN)))))))))) {}
end
end VtTop
