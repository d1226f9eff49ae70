/- A part of the proof: lemmas. No condition of its own. -/
import Derived.Laws.LoneSync
import Derived.WalkSpells
import Derived.Test.YtglcgbhhkjebbaaGreatK08
import Derived.Test.YtglcgbhhkjebbaaGreatK17
import Derived.Test.YtglcgbhhkjebbaaGreatK20
import Derived.Test.YtglcgbhhkjebbaaGreatK24
set_option linter.unusedVariables false
set_option linter.unusedSimpArgs false
namespace VtTop
noncomputable section
open Go Go.Proofs Zx Vx Go.RowKit
set_option maxHeartbeats 4000000 in
theorem atomic_add (b o : Nat) (x y : Int) (w : World) (hc : w.cell? ⟨b,o,none⟩ = some (.int .i64 x)) (hz : w.frozen? ⟨b,o,none⟩ = false) :
  Calls Tryz.prog 60 #[.pointer (some ⟨b,o,none⟩),.int .i64 y] w fun e w'=>e = .returned (.int .i64 (wrap64 (x + y))) /\ w' = w.setCell ⟨b,o,none⟩ (.int .i64 (wrap64 (x + y))):=by
 have hd:=Go.run_call_add (P:=Tryz.prog) (f:=96) Tryz.func96 (by kernel_rfl) (by kernel_rfl) (by kernel_rfl) .i64 (by kernel_rfl) (y:=y) (s:=wrap64 (x + y)) hc hz (by simp [go_sem,IntKind.wrap_i64,wrap64])
 go_enter Tryz.func60,Tryz.ntmps60
 go_wp2
 exact bodyPost_ret (v:=.int .i64 (wrap64 (x + y))) (by first | rfl | (simp [results];done) | (simp [results];rfl)) rfl ⟨rfl,rfl⟩
theorem set_zone {sg : Sig} {w : World} {b o : Nat} {cur : Array Value} {t : TF} {c : CS} {v : Value} {W : Wt} {ow : Nat -> Prop} (hz : ZoneOk sg w) (hh : w.heap[b]? = some (.cells cur t.1 t.2)) (ho : o < cur.size) (hs : sg b o = some c) (hv : c.ok sg v) (hW : c.tag ∈ W.W) :
  ZoneOk sg (w.setCell ⟨b,o,none⟩ v) /\ Frm ⟨w,sg,W,ow⟩ sg (w.setCell ⟨b,o,none⟩ v):=by
 have hb:=heap_lt hh
 have h1 : (w.setCell ⟨b,o,none⟩ v).heap[b]? = some (.cells (cur.setIfInBounds o v) t.1 t.2):=by
  simp [World.setCell,Array.getElem?_modify,hh]
 have h2 : ∀ x,x ≠ b -> (w.setCell ⟨b,o,none⟩ v).heap[x]? = w.heap[x]?:=fun x hx=>Below.heap_setCell w ⟨b,o,none⟩ v x hx
 refine ⟨fun x y c' h=>?_,⟨by simp [World.setCell],rfl,rfl,rfl,fun _ _ _=>rfl,fun x hx=>?_⟩⟩
 ·obtain ⟨cu,tt,u,g1,g2,g3⟩:=hz _ _ _ h
  by_cases hx : x = b
  ·subst hx
   obtain ⟨rfl,rfl⟩:=cells_inj hh g1
   by_cases hy : y = o
   ·subst hy
    rw [hs] at h
    cases h
    exact ⟨_,_,v,h1,by simp [ho],hv,g3.2⟩
   ·exact ⟨_,_,u,h1,by rw [Array.getElem?_setIfInBounds_ne (fun e=>hy e.symm)];exact g2,g3⟩
  ·exact ⟨cu,tt,u,by rw [h2 x hx];exact g1,g2,g3⟩
 ·by_cases hx : x = b
  ·subst hx
   refine .inr ⟨cur,_,t,hh,h1,Array.size_setIfInBounds,fun y hy=>?_⟩
   by_cases hyo : y = o
   ·subst hyo
    exact absurd hW (hy _ hs).1
   ·rw [Array.getElem?_setIfInBounds_ne (fun e=>hyo e.symm)]
  ·exact .inl (h2 x hx)
theorem wrap_bd (n : Int) : -9223372036854775808 <= wrap64 n /\ wrap64 n <= 9223372036854775807:=by
 unfold wrap64
 constructor <;> omega
theorem ok60 : TCok P 60 tc60:=by
 refine ⟨⟨_,Tryz.func60,rfl,by kernel_rfl⟩,by kernel_rfl,fun sg w ρ vs hz hlen hpre=>?_⟩
 obtain ⟨v0,hv0,ok0⟩:=hpre.P _ List.mem_cons_self
 obtain ⟨b,hb,rfl,hs⟩:=zp_ok (a:=0) (o:=.var 0) (L:=zTab 155) ok0
 obtain ⟨v1,hv1,ok1⟩:=hpre.P _ (List.mem_cons_of_mem _ List.mem_cons_self)
 have ok1 : v1 = .int .i64 ((Lin.var 1).den ρ.i):=ok1
 subst ok1
 have hr:=hs 0 _ rfl
 simp only [Lin.var_den,Nat.add_zero] at hr hv0 hv1
 generalize (ρ.a 0).2 + (ρ.i 0).toNat = o at hr hv0
 obtain ⟨cur,t,v,g1,g2,⟨x,rfl,g3⟩,nf⟩:=hz _ _ _ hr
 have hvs : vs = [.pointer (some ⟨b,o,none⟩),.int .i64 (ρ.i 1)]:=by
  match vs,hlen with
  | [p,q],_=>
   simp only [List.getElem?_cons_zero,List.getElem?_cons_succ,Option.some.injEq] at hv0 hv1
   rw [hv0,hv1]
 have hc : w.cell? ⟨b,o,none⟩ = some (.int .i64 x):=by simp [World.cell?,g1,g2]
 have hf : w.frozen? ⟨b,o,none⟩ = false:=by
  obtain ⟨t1,lo,hi⟩:=t
  simp only [NF] at nf
  simp only [World.frozen?,g1,Bool.and_eq_false_iff,decide_eq_false_iff_not]
  omega
 rw [hvs]
 refine (atomic_add b o x (ρ.i 1) w hc hf).mono fun e w' ⟨h1,h2⟩=>?_
 subst h1;subst h2
 have hbd:=wrap_bd (x + ρ.i 1)
 obtain ⟨k1,k2⟩:=set_zone (W:=tc60.wt) (ow:=tc60.own ρ) (v:=.int .i64 (wrap64 (x + ρ.i 1))) hz g1 (Array.getElem?_eq_some_iff.1 g2).1 hr ⟨_,rfl,.inr hbd⟩ (by decide)
 let ρ' : Vl:=⟨fun u=>if u < 2 then ρ.i u else wrap64 (x + ρ.i 1),ρ.s,ρ.a,ρ.A⟩
 have ag : Agr 2 ρ ρ':=⟨fun u hu=>by simp [ρ',hu],fun _ _=>rfl,fun _ _=>rfl,rfl⟩
 have e2 : ρ'.i 2 = wrap64 (x + ρ.i 1):=rfl
 refine ⟨_,rfl,sg,Grows.refl _,k1,k2,_,List.mem_cons_self,ρ',ag,⟨fun l hl=>?_,fun p hp=>?_,fun q hq=>(by cases hq),fun p hp=>(by cases hp),fun p hp=>(by cases hp),fun f hf=>(by cases hf),fun f hf=>(by cases hf)⟩⟩
 ·simp only [rI,List.mem_cons,List.not_mem_nil,or_false] at hl
  rcases hl with rfl | rfl <;> simp only [Lin.addc_den,Lin.var_den,Lin.sub_den,Lin.num_den,e2] <;> omega
 ·rw [List.mem_singleton.1 hp]
  refine ⟨_,rfl, ?_⟩
  show (Value.int .i64 _) = .int .i64 ((Lin.var 2).den ρ'.i)
  rw [Lin.var_den,e2]
end
end VtTop
namespace VtTop
noncomputable section
open Go Zx Vx
def kR : CS:=.sli 341 324 4096
def kX : CS:=.sli 341 324 8192
def flt (c : CS) : Prop:=c = .int 338 .u16 0 65535 \/ c = .sli 339 5 131072 \/ c = .int 4 .u8 0 255
def cutR (sg : Sig) (b o : Nat) : Sig:=fun x y=>open Classical in if x = b /\ y = o then some kX else match sg x y with
 | some c=>if flt c then some c else none
 | none=>none
def putR (sg sg1 : Sig) (n : Nat) : Sig:=fun x y=>open Classical in if x < n then sg x y else match sg1 x y with
 | some c=>if flt c then some c else none
 | none=>none
theorem cutR_flt {sg : Sig} {b o x y : Nat} {c : CS} (hr : sg b o = some kR) (h : sg x y = some c) (hc : flt c) : cutR sg b o x y = some c:=by
 unfold cutR
 rw [if_neg,h]
 ·exact if_pos hc
 ·rintro ⟨rfl,rfl⟩
  rw [hr] at h
  cases h
  rcases hc with h | h | h <;> cases h
theorem cutR_get {sg : Sig} {b o x y : Nat} {c : CS} (h : cutR sg b o x y = some c) : (x = b /\ y = o /\ c = kX) \/ (sg x y = some c /\ flt c):=by
 unfold cutR at h
 split at h
 ·rename_i e
  cases h
  exact .inl ⟨e.1,e.2,rfl⟩
 ·split at h
  ·rename_i c' hc
   split at h
   ·rename_i hf
    cases h
    exact .inr ⟨hc,hf⟩
   ·cases h
  ·cases h
theorem putR_new {sg sg1 : Sig} {n x y : Nat} {c : CS} (h : putR sg sg1 n x y = some c) (hx : ¬x < n) : sg1 x y = some c /\ flt c:=by
 unfold putR at h
 rw [if_neg hx] at h
 split at h
 ·rename_i c' hc
  split at h
  ·rename_i hf;cases h;exact ⟨hc,hf⟩
  ·cases h
 ·cases h
theorem putR_old {sg sg1 : Sig} {n x y : Nat} (hx : x < n) : putR sg sg1 n x y = sg x y:=if_pos hx
theorem flt_ok {sg sg' : Sig} (h : ∀ x y c,sg x y = some c -> flt c -> sg' x y = some c) {c : CS} {v : Value} (hc : flt c) (hv : c.ok sg v) : c.ok sg' v:=by
 rcases hc with rfl | rfl | rfl
 ·exact hv
 ·obtain ⟨a,n,m,e,h1,h2,h3,h4⟩:=hv
  refine ⟨a,n,m,e,h1,h2,h3,fun hm=>?_⟩
  obtain ⟨b,o,ha,hs⟩:=h4 hm
  refine ⟨b,o,ha,fun i hi j c hj=>?_⟩
  refine h _ _ _ (hs i hi j c hj) ?_
  have e5 : zTab 5 = [.int 4 .u8 0 255]:=rfl
  rw [e5] at hj
  match j,hj with
  | 0,hj=>cases hj;exact .inr (.inr rfl)
  | j + 1,hj=>simp at hj
 ·exact hv
theorem row_flt {sg sg' : Sig} (h : ∀ x y c,sg x y = some c -> flt c -> sg' x y = some c) {a : Option Addr} {m : Nat} (hs : SitsN sg a m (zTab 324)) : SitsN sg' a m (zTab 324):=fun hm=>by
 obtain ⟨b,o,ha,hs⟩:=hs hm
 refine ⟨b,o,ha,fun i hi j c hj=>?_⟩
 refine h _ _ _ (hs i hi j c hj) ?_
 have e5 : zTab 324 = [.int 338 .u16 0 65535,.sli 339 5 131072]:=rfl
 rw [e5] at hj
 match j,hj with
 | 0,hj=>cases hj;exact .inl rfl
 | 1,hj=>cases hj;exact .inr (.inl rfl)
 | j + 2,hj=>simp at hj
theorem cut_zone {sg : Sig} {w : World} {b o : Nat} (hz : ZoneOk sg w) (hr : sg b o = some kR) : ZoneOk (cutR sg b o) w:=fun x y c h=>by
 have hf : ∀ x y c,sg x y = some c -> flt c -> cutR sg b o x y = some c:=fun x y c h k=>cutR_flt hr h k
 rcases cutR_get h with ⟨rfl,rfl,rfl⟩ | ⟨h1,h2⟩
 ·obtain ⟨cur,t,v,g1,g2,⟨a,n,m,e,k1,k2,k3,k4⟩,nf⟩:=hz _ _ _ hr
  exact ⟨cur,t,v,g1,g2,⟨a,n,m,e,k1,k2,by omega,row_flt hf k4⟩,nf⟩
 ·obtain ⟨cur,t,v,g1,g2,g3⟩:=hz _ _ _ h1
  exact ⟨cur,t,v,g1,g2,flt_ok hf h2 g3.1,g3.2⟩
theorem put_back {sg sg1 : Sig} {w w' : World} {b o : Nat} {W : Wt} {ow : Nat -> Prop} (hz : ZoneOk sg w) (hr : sg b o = some kR) (hW : (341 : Nat) ∈ W.W) (hz1 : ZoneOk sg1 w') (hf : Frm ⟨w,cutR sg b o,W,ow⟩ sg1 w') (hY : W.Y = none)
  (hcell : ∃ (cur : Array Value) (t : TF) (v : Value),w'.heap[b]? = some (.cells cur t.1 t.2) /\ cur[o]? = some v /\ kR.ok sg1 v) :
  Grows sg (putR sg sg1 w.heap.size) /\ ZoneOk (putR sg sg1 w.heap.size) w' /\ ∀ ow',Frm ⟨w,sg,W,ow'⟩ (putR sg sg1 w.heap.size) w':=by
 have hG : Grows sg (putR sg sg1 w.heap.size):=fun x y c h=>by rw [putR_old (hz.lt h)];exact h
 have hA : ∀ x y c,sg1 x y = some c -> flt c -> putR sg sg1 w.heap.size x y = some c:=fun x y c h k=>by
  by_cases hx : x < w.heap.size
  ·rw [putR_old hx]
   have h0:=hf.sig x y hx
   rw [h] at h0
   rcases cutR_get h0.symm with ⟨_,_,rfl⟩ | ⟨h1,_⟩
   ·rcases k with k | k | k <;> cases k
   ·exact h1
  ·unfold putR
   rw [if_neg hx,h]
   exact if_pos k
 refine ⟨hG,fun x y c h=>?_,fun ow'=>⟨hf.size,hf.os,hf.tape,hf.output,fun x y hx=>putR_old hx,fun x hx=>?_⟩⟩
 ·by_cases hx : x < w.heap.size
  ·rw [putR_old hx] at h
   obtain ⟨cur,t,v,g1,g2,g3⟩:=hz _ _ _ h
   by_cases hb : x = b /\ y = o
   ·obtain ⟨rfl,rfl⟩:=hb
    rw [hr] at h
    cases h
    obtain ⟨cur,t,v,k1,k2,a,n,m,e,k3,k4,k5,k6⟩:=hcell
    obtain ⟨_,t9,_,j1,_,_,nf⟩:=hz1 x y _ ((hf.sig x y hx).trans (by unfold cutR;exact if_pos ⟨rfl,rfl⟩))
    obtain ⟨_,rfl⟩:=cells_inj k1 j1
    exact ⟨cur,t,v,k1,k2,⟨a,n,m,e,k3,k4,k5,row_flt hA k6⟩,nf⟩
   ·by_cases hc : flt c
    ·have h1 : sg1 x y = some c:=by
      rw [hf.sig x y hx]
      exact cutR_flt hr h hc
     obtain ⟨cur,t,v,k1,k2,k3⟩:=hz1 _ _ _ h1
     exact ⟨cur,t,v,k1,k2,flt_ok hA hc k3.1,k3.2⟩
    ·have hn : cutR sg b o x y = none:=by
      cases e : cutR sg b o x y with
      | none=>rfl
      | some c'=>
       rcases cutR_get e with ⟨e1,e2,_⟩ | ⟨e1,e2⟩
       ·exact absurd ⟨e1,e2⟩ hb
       ·rw [h] at e1;cases e1;exact absurd e2 hc
     rcases hf.keep x hx with k | ⟨c1,c2,t',k1,k2,k3,k4⟩
     ·exact ⟨cur,t,v,by rw [k];exact g1,g2,CS.ok_grow hG g3.1,g3.2⟩
     ·have k1 : w.heap[x]? = _:=k1
      obtain ⟨rfl,rfl⟩:=cells_inj g1 k1
      refine ⟨c2,t,v,k2, ?_,CS.ok_grow hG g3.1,g3.2⟩
      rw [k4 y fun c' hc'=>?_]
      ·exact g2
      ·have hc' : cutR sg b o x y = some c':=hc'
       rw [hn] at hc';cases hc'
  ·obtain ⟨h1,h2⟩:=putR_new h hx
   obtain ⟨cur,t,v,k1,k2,k3⟩:=hz1 _ _ _ h1
   exact ⟨cur,t,v,k1,k2,flt_ok hA h2 k3.1,k3.2⟩
 ·rcases hf.keep x hx with k | ⟨c1,c2,t',k1,k2,k3,k4⟩
  ·exact .inl k
  ·refine .inr ⟨c1,c2,t',k1,k2,k3,fun y hy=>k4 y fun c hc=>?_⟩
   have hc : cutR sg b o x y = some c:=hc
   have noY : ∀ z : Nat,(Ent.mk w (cutR sg b o) W ow).ow x -> z ∉ W.ys:=fun z h=>by
    have:=h.1
    simp only [Wt.hasY,hY] at this
    cases this
   rcases cutR_get hc with ⟨rfl,rfl,rfl⟩ | ⟨h1,_⟩
   ·exact absurd hW (hy _ hr).1
   ·exact ⟨(hy _ h1).1,noY _⟩
end
end VtTop
namespace VtTop
open Go Zx Vx
noncomputable section
set_option maxRecDepth 1000000
def tc81 : TC:=t0 5 70368744177664
theorem ok81 : TCok P 81 tc81:=tK eN {}
def tc221 : TC:=tC 2 (sH 5 [aQ 0 [cI .u16 0,cS 5 1],aP 1 56 4] (cT [rI 0 0 65535,rS 1 131072,rP 4]) [(1,0),(4,0)]) [] [(sH 1 [(0,d1 (cB 5))] (rB 5) [])]
theorem ok221 : TCok P 221 tc221:=tK eN {}
def tc220 : TC:=t1 324 221 56
theorem ok220 : TCok P 220 tc220:=tK (eC ok221 eN) (l1 2 (laK (sH 1 [aW 8 1] (rI 1 0 1048576 ++ ([⟨0,[(1,-1),(0,1)]⟩])) []) [0,1,7] [] [] 1 [aW 7 0] (⟨0,[(1,-1),(0,1)]⟩)))
def tc188x : TC:=tC 2 (sM 5 [(0,.s (.c (.zp 0 (.var 0) [.sli 341 324 8192]))),(1,d1 (cI .u16 1))] (cT [rP 0,rI 1 0 65535,rS 2 4096]) [(0,0),(2,0)] [mq 0 0 (.sli 341 324 8192) (cS 324 2)]) [] [(sH 1 [aW 0 5] (rW 5 ++ ([⟨1,[(5,1)]⟩,⟨-1,[(5,-1),(3,1)]⟩])) [])]
theorem ok188x : TCok P 188 tc188x:=tK (eC ok220 (eC ok221 eN)) {}
def tc189x : TC:=tC 3 (sH 5 [aS 0 324 0,aW 1 3,aW 2 4] (cT [rS 0 8192,rW 3,rW 4,[⟨0,[(3,1)]⟩,⟨0,[(4,1),(3,-1)]⟩,⟨0,[(4,-1),(1,1)]⟩]]) [(0,0)]) [338,339] [(sH 3 [aS 0 324 5] (rS 5 8192 ++ ([⟨0,[(6,1),(4,1),(3,-1),(1,-1)]⟩,⟨0,[(6,-1),(4,-1),(3,1),(1,1)]⟩])) [(5,0)])]
theorem ok189x : TCok P 189 tc189x:=tK eN {}
def tc132x : TC:={ k:=3,pre:={ n:=8,P:=[(0,.s (.c (.zp 0 (.var 0) [.sli 341 324 8192]))),(1,.s (.c (cI .u16 1))),(2,.s (.c (cS 5 2)))],C:=rP 0 ++ (rI 1 0 65535 ++ (rS 2 1200 ++ (rS 5 4096))),adr:=[(0,0),(2,0),(5,0)],M:=[⟨0,⟨0,[(0,1)]⟩,.sli 341 324 8192,cS 324 5⟩] },W:=[338,339,341],post:=[{ n:=3,P:=[(0,.t [])],C:=rS 8 4096,adr:=[(8,0)],M:=[⟨0,⟨0,[(0,1)]⟩,.sli 341 324 8192,cS 324 8⟩] }] }
theorem ok132x : TCok P 132 tc132x:=tK (eC ok81 (eC ok188x (eC ok189x eN))) {}
def tc22 : TC:=tC 1 (sH 0 [(0,d1 (.num .i64 11))] [] []) [] [(sH 1 [aP 0 114 0] (rP 0) [(0,1)])]
theorem ok22 : TCok P 22 tc22:=tK eN {}
def tc23 : TC:=tC 1 (sH 0 [(0,d1 (.num .i64 32))] [] []) [] [(sM 1 [aP 0 116 0] (rP 0) [(0,1)] [mq 0 0 (.int 142 .i64 0 65536) (.num .i64 32),mq 0 1 (.sli 143 35 131072) (.nos)])]
theorem ok23 : TCok P 23 tc23:=tK eN {}
def tc8x : TC:=tc8X
theorem ok8x : TCok P 8 tc8x:=tK (eC ok22 (eC ok23 eN)) { fuel:=70 }
end
end VtTop
namespace VtTop
noncomputable section
open Go Zx Vx
theorem ok132 : TCok P 132 tc132:=by
 refine ⟨ok132x.call,by kernel_rfl,fun sg w ρ vs hz hlen hpre=>?_⟩
 obtain ⟨v0,hv0,ok0⟩:=hpre.P _ List.mem_cons_self
 obtain ⟨b,hb,rfl,hs⟩:=zp_ok (a:=0) (o:=.var 0) (L:=zTab 326) ok0
 obtain ⟨v1,hv1,ok1⟩:=hpre.P _ (List.mem_cons_of_mem _ List.mem_cons_self)
 obtain ⟨v2,hv2,ok2⟩:=hpre.P _ (List.mem_cons_of_mem _ (List.mem_cons_of_mem _ List.mem_cons_self))
 obtain ⟨ad,rfl,z1,z2,z3⟩:=zs_den_ok (a:=2) (o:=.var 2) (n:=.var 3) (c:=.var 4) (E:=zTab 5) ok2
 have hr:=hs 0 kR rfl
 simp only [Lin.var_den,Nat.add_zero] at hr hv0 hv2 z1 z2 z3
 generalize ho : (ρ.a 0).2 + (ρ.i 0).toNat = o at hr hv0
 obtain ⟨cur,t,v,g1,g2,⟨a,n,m,rfl,k1,k2,k3,k4⟩,nf⟩:=hz _ _ _ hr
 have hf : ∀ x y c,sg x y = some c -> flt c -> cutR sg b o x y = some c:=fun x y c h k=>cutR_flt hr h k
 obtain ⟨A,hA0,hA1⟩ : ∃ A : Int × Nat,A.1 < (w.heap.size : Int) /\ (0 < m -> ∃ y : Nat,A.1 = (y : Int) /\ a = some ⟨y,A.2,none⟩ /\ ∀ i,i < m -> Sits (cutR sg b o) y (A.2 + i * (zTab 324).length) (zTab 324)):=by
  rcases Nat.eq_zero_or_pos m with h0 | h0
  ·exact ⟨(-1,0),by show (-1 : Int) < _;omega,fun h=>by omega⟩
  ·obtain ⟨y,oy,e1,e2⟩:=row_flt hf k4 h0
   have hy:=hz.lt ((fun hs=>by
    obtain ⟨y',oy',e3,e4⟩:=hs h0
    rw [e1] at e3;cases e3
    exact e4 0 h0 0 _ rfl : SitsN sg a m (zTab 324) -> sg y (oy + 0 * (zTab 324).length + 0) = some (.int 338 .u16 0 65535)) k4)
   exact ⟨((y : Int),oy),by show (y : Int) < _;omega,fun _=>⟨y,rfl,e1,e2⟩⟩
 let ρ1 : Vl:=⟨fun u=>if u < 5 then ρ.i u else ([0,(n : Int),(m : Int)] : List Int).getD (u - 5) 0,ρ.s,fun u=>if u < 5 then ρ.a u else A,ρ.A⟩
 have ag : Agr 5 ρ ρ1:=⟨fun u hu=>by simp [ρ1,hu],fun _ _=>rfl,fun u hu=>by simp [ρ1,hu],rfl⟩
 have i5 : ρ1.i 5 = 0:=rfl
 have i6 : ρ1.i 6 = n:=rfl
 have i7 : ρ1.i 7 = m:=rfl
 have a5 : ρ1.a 5 = A:=rfl
 have hpC:=hpre.C
 have c0 : 0 <= ρ.i 0:=by have:=hpC (.var 0) (by simp [tc132,rP]);rwa [Lin.var_den] at this
 have hml : (maxLen : Int) = 9223372036854775807:=by decide
 have pre1 : tc132x.pre.Holds (tc132x.ent (cutR sg b o) w ρ1) (cutR sg b o) ρ1 (fun i=>vs[i]?) w:=by
  refine ⟨?_, ?_, ?_, ?_, ?_, ?_, ?_⟩
  ·refine fun l hl=>?_
   have hl : l ∈ (rP 0 ++ (rI 1 0 65535 ++ rS 2 1200)) ++ rS 5 4096:=by simpa [tc132x] using hl
   rcases List.mem_append.1 hl with hl | hl
   ·have : l.lt 5:=by
     simp only [rP,rI,rS,List.cons_append,List.nil_append,List.mem_cons,List.not_mem_nil,or_false] at hl
     rcases hl with rfl | rfl | rfl | rfl | rfl | rfl | rfl | rfl <;> simp [Lin.lt,Lin.var,Lin.num,Lin.sub,Lin.addc,Lin.comb,Tm.lt,Tm.comb]
    rw [← Lin.den_eq ag.i this]
    exact hpC l hl
   ·simp only [rS,List.mem_cons,List.not_mem_nil,or_false] at hl
    rcases hl with rfl | rfl | rfl | rfl | rfl <;> simp only [Lin.var_den,Lin.sub_den,Lin.num_den,i5,i6,i7,Nat.reduceAdd] <;> omega
  ·intro p hp
   simp only [tc132x,List.mem_cons,List.not_mem_nil,or_false] at hp
   rcases hp with rfl | rfl | rfl
   ·refine ⟨_,hv0,zp_mk (b:=b) (by rw [← ag.a 0 (by omega)];exact hb) (by rw [← ag.a 0 (by omega),Lin.var_den,← ag.i 0 (by omega)];exact ho.symm) fun j c hj=>?_⟩
    match j,hj with
    | 0,hj=>
     cases hj
     unfold cutR
     exact if_pos ⟨rfl,rfl⟩
    | j + 1,hj=>simp at hj
   ·refine ⟨_,hv1, ?_⟩
    have e : (DV.den ρ1 (.s (.c (cI .u16 1)))) = DV.den ρ (.s (.c (cI .u16 1))):=(DV.den_eq (n:=5) ag (by show Lin.lt 5 (Lin.var 1);exact Lin.var_lt (by omega))).symm
    show SV.ok _ (DV.den ρ1 (.s (.c (cI .u16 1)))) v1
    rw [e]
    exact ok1
   ·refine ⟨_,hv2,zs_mk (by rw [Lin.var_den,← ag.i 3 (by omega)]) (by rw [Lin.var_den,← ag.i 4 (by omega)]) z1 z2 fun hc=>?_⟩
    obtain ⟨y,e1,e2,e3⟩:=z3 hc
    refine ⟨y,by rw [← ag.a 2 (by omega)];exact e1,by rw [← ag.a 2 (by omega),Lin.var_den,← ag.i 2 (by omega)];exact e2,fun i hi j c hj=>?_⟩
    rw [← ag.a 2 (by omega),Lin.var_den,← ag.i 2 (by omega)]
    refine hf _ _ _ (e3 i hi j c hj) ?_
    have e5 : zTab 5 = [.int 4 .u8 0 255]:=rfl
    rw [e5] at hj
    match j,hj with
    | 0,hj=>cases hj;exact .inr (.inr rfl)
    | j + 1,hj=>simp at hj
  ·intro q hq
   simp only [tc132x,List.mem_cons,List.not_mem_nil,or_false] at hq
   subst hq
   have e0 : (⟨0,[(0,1)]⟩ : Lin).den ρ1.i = ρ.i 0:=by
    simp only [Lin.den,Tm.den]
    rw [← ag.i 0 (by omega)];omega
   have h5 : ((d1 (.zs 5 (.var 5) (zTab 324) (.var 6) (.var 7))).den ρ1).ok (mu (cutR sg b o)) (.slice a n m):=zs_mk (N:=n) (C:=m) (by rw [Lin.var_den,i6];simp) (by rw [Lin.var_den,i7];simp) k1 k2 fun hc=>by
    obtain ⟨y,e1,e2,e3⟩:=hA1 hc
    refine ⟨y,by rw [a5];exact e1,by rw [a5,Lin.var_den,i5];simpa using e2,fun i hi=>?_⟩
    rw [a5,Lin.var_den,i5]
    simpa using e3 i hi
   refine ⟨by rw [e0];exact c0,b,t,cur,.slice a n m,by rw [← ag.a 0 (by omega)];exact hb,g1, ?_, ?_,h5⟩
   ·rw [e0,← ag.a 0 (by omega),ho];exact g2
   ·rw [e0,← ag.a 0 (by omega),ho]
    unfold cutR
    exact if_pos ⟨rfl,rfl⟩
  ·intro p hp
   simp only [tc132x,List.mem_cons,List.not_mem_nil,or_false] at hp
   rcases hp with rfl | rfl | rfl
   ·rw [← ag.a 0 (by omega)];exact hpre.asz (0,0) (by simp [tc132])
   ·rw [← ag.a 2 (by omega)];exact hpre.asz (2,0) (by simp [tc132])
   ·rw [a5];exact hA0
  ·intro p hp h1
   simp only [tc132x,List.mem_cons,List.not_mem_nil,or_false] at hp
   rcases hp with rfl | rfl | rfl <;> exact absurd h1 (by decide)
  ·intro f hf;cases hf
  ·intro f hf;cases hf
 refine (ok132x.ok (cutR sg b o) w ρ1 vs (cut_zone hz hr) hlen pre1).mono fun e w' he=>?_
 obtain ⟨v,rfl,sg1,G1,Z1,F1,sh,hsh,ρ2,A2,H2⟩:=he
 rw [List.mem_singleton.1 hsh] at H2
 have hcell : ∃ (cur : Array Value) (t : TF) (v : Value),w'.heap[b]? = some (.cells cur t.1 t.2) /\ cur[o]? = some v /\ kR.ok sg1 v:=by
  obtain ⟨q0,b',t',cur',u,q1,q2,q3,q4,q5⟩:=H2.M _ List.mem_cons_self
  have e0 : (⟨0,[(0,1)]⟩ : Lin).den ρ2.i = ρ.i 0:=by
   simp only [Lin.den,Tm.den]
   rw [← A2.i 0 (by decide),← ag.i 0 (by omega)];omega
  have ea : ρ2.a 0 = ρ.a 0:=by rw [← A2.a 0 (by decide),← ag.a 0 (by omega)]
  dsimp only at q1 q3
  rw [ea] at q1 q3
  rw [e0,ho] at q3
  have : b' = b:=by omega
  subst this
  obtain ⟨ad',e1,e2,e3,e4⟩:=zs_den_ok (a:=8) (o:=.var 8) (n:=.var 9) (c:=.var 10) (E:=zTab 324) q5
  have hb9:=H2.C ((Lin.num 4096).sub (.var 9)) (by simp [rS])
  simp only [Lin.sub_den,Lin.num_den,Lin.var_den] at hb9 e2 e3 e4
  refine ⟨cur',t',u,q2,q3,ad',_,_,e1,by simpa using e2,by simpa using e3,by rw [Lin.var_den];omega,fun hc=>?_⟩
  rw [Lin.var_den] at hc
  obtain ⟨y,f1,f2,f3⟩:=e4 hc
  refine ⟨y,_,f2,fun i hi=>f3 i (by rwa [Lin.var_den] at hi)⟩
 obtain ⟨r1,r2,r3⟩:=put_back hz hr (by decide) Z1 F1 rfl hcell
 refine ⟨v,rfl,putR sg sg1 w.heap.size,r1,r2,r3 _,_,List.mem_cons_self,ρ,Agr.refl _ _,⟨fun l hl=>(by cases hl),fun p hp=>?_,fun q hq=>(by cases hq),fun p hp=>(by cases hp),fun p hp=>(by cases hp),fun f hf=>(by cases hf),fun f hf=>(by cases hf)⟩⟩
 rw [List.mem_singleton.1 hp]
 obtain ⟨u,e1,us,e2,e3⟩:=H2.P _ List.mem_cons_self
 refine ⟨u,e1,us,e2, ?_⟩
 cases us with
 | nil=>trivial
 | cons x xs=>exact e3.elim
end
end VtTop
namespace VtTop
noncomputable section
open Go Zx Vx
set_option maxRecDepth 100000
def bad : CS -> Bool
 | .ptr 134 116 false=>true
 | .ptr 135 114 false=>true
 | _=>false
theorem noBad (nm : Nat) : (zTab nm).all (fun c=>!bad c) = true:=by
 unfold zTab
 repeat' split
 all_goals first | rfl | decide +kernel
theorem noBad_get {nm j : Nat} {c : CS} (h : (zTab nm)[j]? = some c) : bad c = false:=by
 have:=List.all_eq_true.1 (noBad nm) c (List.mem_of_getElem? h)
 simpa using this
def strC : CS -> CS
 | .ptr 134 116 false=>.ptr 134 116 true
 | .ptr 135 114 false=>.ptr 135 114 true
 | c=>c
theorem strC_ok {c : CS} (h : bad c = false) : strC c = c:=by
 unfold bad at h
 unfold strC
 split at h <;> simp_all
def putD (sg : Sig) (n lo hi : Nat) : Sig:=fun x y=>if x = n /\ lo <= y /\ y < hi then (sg x y).map strC else sg x y
theorem putD_sits {sg : Sig} {n lo hi b o nm : Nat} (h : Sits sg b o (zTab nm)) : Sits (putD sg n lo hi) b o (zTab nm):=fun j c hc=>by
 unfold putD
 split
 ·rw [h j c hc,Option.map_some,strC_ok (noBad_get hc)]
 ·exact h j c hc
theorem putD_sitsN {sg : Sig} {n lo hi m nm : Nat} {a : Option Addr} (h : SitsN sg a m (zTab nm)) : SitsN (putD sg n lo hi) a m (zTab nm):=fun hm=>by
 obtain ⟨b,o,h1,h2⟩:=h hm
 exact ⟨b,o,h1,fun i hi=>putD_sits (h2 i hi)⟩
theorem putD_ok {sg : Sig} {n lo hi : Nat} {c : CS} {v : Value} (h : c.ok sg v) : c.ok (putD sg n lo hi) v:=by
 cases c with
 | ptr g nm nn=>
  rcases h with h | ⟨b,o,h1,h2⟩
  ·exact .inl h
  ·exact .inr ⟨b,o,h1,putD_sits h2⟩
 | sli g nm mx=>
  obtain ⟨a,n',c',h1,h2,h3,h4,h5⟩:=h
  exact ⟨a,n',c',h1,h2,h3,h4,putD_sitsN h5⟩
 | _=>exact h
end
end VtTop
namespace VtTop
noncomputable section
open Go Zx Vx
set_option maxRecDepth 100000
theorem put92 : zTab 92 = (relaxL (zTab 92)).take 1470 ++ ((relaxL (zTab 92)).drop 1470).map strC:=eqCS_eq (by kernel_rfl)
theorem len92 : (relaxL (zTab 92)).length = 1535:=by kernel_rfl
theorem rel92 : (relaxL (zTab 92)).drop 1470 = List.replicate 64 (kP false) ++ [.ptr 135 114 false]:=eqCS_eq (by kernel_rfl)
theorem putD_sits92 {sg : Sig} {b o : Nat} (h : Sits sg b o (relaxL (zTab 92))) : Sits (putD sg b (o + 1470) (o + 1535)) b o (zTab 92):=fun j c hc=>by
 rw [put92] at hc
 have hl : ((relaxL (zTab 92)).take 1470).length = 1470:=by rw [List.length_take,len92];rfl
 unfold putD
 by_cases hj : j < 1470
 ·rw [List.getElem?_append_left (by omega),List.getElem?_take_of_lt hj] at hc
  rw [if_neg (by omega)]
  exact h j c hc
 ·rw [List.getElem?_append_right (by omega),hl,List.getElem?_map,List.getElem?_drop] at hc
  obtain ⟨c0,h0,rfl⟩:=Option.map_eq_some_iff.1 hc
  rw [show 1470 + (j - 1470) = j by omega] at h0
  have hlt:=(List.getElem?_eq_some_iff.1 h0).1
  rw [len92] at hlt
  rw [if_pos ⟨rfl,by omega,by omega⟩,h j c0 h0]
  rfl
theorem pCs_mem (b : Nat) (q : Bool) : ∀ (n k i : Nat),i < n -> (⟨b,⟨((1470 + (k + i) : Nat) : Int),[(b,1)]⟩,kP q,cP 116 (1 + (k + i))⟩ : Cell) ∈ pCs b q k n
 | n + 1,k,0,_=>List.mem_cons_self
 | n + 1,k,i + 1,h=>by
  have:=pCs_mem b q n (k + 1) i (by omega)
  rw [show k + 1 + i = k + (i + 1) by omega] at this
  exact List.mem_cons_of_mem _ this
def nmK (i : Nat) : CS:=if i < 64 then kP false else .ptr 135 114 false
theorem rel92_get {i : Nat} (h : i < 65) : (relaxL (zTab 92))[1470 + i]? = some (nmK i):=by
 have e:=List.getElem?_drop (xs:=relaxL (zTab 92)) (i:=1470) (j:=i)
 rw [← e,rel92]
 unfold nmK
 by_cases h4 : i < 64
 ·rw [List.getElem?_append_left (by rw [List.length_replicate];exact h4),if_pos h4,List.getElem?_replicate,if_pos h4]
 ·have : i = 64:=by omega
  subst this
  rfl
theorem put_zone {sg1 : Sig} {w' : World} {b o : Nat} (hz : ZoneOk sg1 w') (hs : Sits sg1 b o (relaxL (zTab 92)))
  (hp : ∀ i,i < 65 -> ∃ (cur : Array Value) (t : TF) (b' o' : Nat),w'.heap[b]? = some (.cells cur t.1 t.2) /\ cur[o + (1470 + i)]? = some (.pointer (some ⟨b',o',none⟩)) /\ Sits sg1 b' o' (zTab (if i < 64 then 116 else 114))) :
  ZoneOk (putD sg1 b (o + 1470) (o + 1535)) w':=fun x y c h=>by
 have h0:=h
 unfold putD at h
 split at h
 ·rename_i hr
  obtain ⟨rfl,h1,h2⟩:=hr
  obtain ⟨i,rfl,hi⟩ : ∃ i,y = o + (1470 + i) /\ i < 65:=⟨y - (o + 1470),by omega,by omega⟩
  rw [hs _ _ (rel92_get hi)] at h
  cases h
  obtain ⟨cur,t,b',o',g1,g2,g3⟩:=hp i hi
  obtain ⟨_,t9,_,j1,_,_,nf⟩:=hz _ _ _ (hs _ _ (rel92_get hi))
  obtain ⟨_,rfl⟩:=cells_inj g1 j1
  refine ⟨cur,t,_,g1,g2, ?_,nf⟩
  unfold nmK
  by_cases h4 : i < 64
  ·rw [if_pos h4] at g3 ⊢
   exact .inr ⟨b',o',rfl,putD_sits g3⟩
  ·rw [if_neg h4] at g3 ⊢
   exact .inr ⟨b',o',rfl,putD_sits g3⟩
 ·obtain ⟨cur,t,v,g1,g2,g3⟩:=hz x y c h
  exact ⟨cur,t,v,g1,g2,putD_ok g3.1,g3.2⟩
theorem cell_put {sg : Sig} {ρ ρ' : Vl} {w : World} {m m' : Cell} {b o : Nat} (h : m.ok sg ρ w) (ha : ρ'.a m'.a = ρ.a m.a) (ho : m'.o.den ρ'.i = m.o.den ρ.i) (hc : m'.c = m.c) (hb : bad m.c = false)
  (hv : ∀ v,(m.v.den ρ).ok (mu sg) v -> (m'.v.den ρ').ok (mu (putD sg b (o + 1470) (o + 1535))) v) : m'.ok (putD sg b (o + 1470) (o + 1535)) ρ' w:=by
 obtain ⟨h0,x,t,cur,v,h1,h2,h3,h4,h5⟩:=h
 refine ⟨by rw [ho];exact h0,x,t,cur,v,by rw [ha];exact h1,h2,by rw [ha,ho];exact h3, ?_,hv v h5⟩
 rw [ha,ho,hc]
 unfold putD
 split
 ·rw [h4,Option.map_some,strC_ok hb]
 ·exact h4
def cst : DC -> Bool
 | .num _ _ | .tru _ | .nos=>true
 | _=>false
theorem cst_ok {x : DC} (h : cst x = true) {sg sg' : Sig} {ρ ρ' : Vl} {v : Value} (hv : (x.den ρ).ok (mu sg) v) : (x.den ρ').ok (mu sg') v:=by
 cases x <;> first | exact hv | cases h
def lo0 (m : Cell) : Bool:=Nat.beq m.a 0 && (match m.o.t with | [(0,1)]=>true | _=>false) && cst m.v && !bad m.c
theorem z4_lo : (z4 0 ++ [nowC 0 (.num .i64 0)]).all lo0 = true:=by kernel_rfl
theorem ok8_of {P : Program} (h : TCok P 8 tc8X) (h303 : ∀ ρ : Vl,(⟨303,zR39⟩ : Atom).den ρ) : TCok P 8 tc8T:=by
 refine ⟨h.call,by kernel_rfl,fun sg w ρ vs hz hlen hpre=>?_⟩
 refine (h.ok sg w ρ vs hz hlen ⟨fun l hl=>(by cases hl),fun p hp=>(by cases hp),fun q hq=>(by cases hq),fun p hp=>(by cases hp),fun p hp=>(by cases hp),fun f hf=>(by cases hf),fun f hf=>(by cases hf)⟩).mono fun e w' he=>?_
 obtain ⟨v,rfl,sg1,G1,Z1,F1,sh,hsh,ρ2,A2,H2⟩:=he
 rw [List.mem_singleton.1 hsh] at H2
 obtain ⟨u,e1,ok0⟩:=H2.P _ List.mem_cons_self
 obtain ⟨b,hb,rfl,hs⟩:=zp_ok (a:=0) (o:=.var 0) (L:=relaxL (zTab 92)) ok0
 rw [Lin.var_den] at hs e1
 generalize ho : (ρ2.a 0).2 + (ρ2.i 0).toNat = o at hs e1
 have c0 : 0 <= ρ2.i 0:=by have:=H2.C (.var 0) List.mem_cons_self;rwa [Lin.var_den] at this
 have hy : w.heap.size <= b:=by
  rcases H2.young (0,1) List.mem_cons_self (Nat.le_refl _) (by show 0 <= (ρ2.a 0).1;omega) with hy | ⟨x,_,hx⟩
  ·have hy : (w.heap.size : Int) <= (ρ2.a 0).1:=hy
   omega
  ·have h1 : false = true:=hx.1
   cases h1
 have e0 : ∀ k : Nat,(⟨(k : Int),[(0,1)]⟩ : Lin).den ρ2.i = (k : Int) + ρ2.i 0:=fun k=>by simp [Lin.den,Tm.den]
 have ptrs : ∀ (k nm n : Nat) (c : CS),(⟨0,⟨(k : Int),[(0,1)]⟩,c,cP nm n⟩ : Cell).ok sg1 ρ2 w' -> ∃ (cur : Array Value) (t : TF) (b' o' : Nat),w'.heap[b]? = some (.cells cur t.1 t.2) /\ cur[o + k]? = some (.pointer (some ⟨b',o',none⟩)) /\ Sits sg1 b' o' (zTab nm):=fun k nm n c hq=>by
  obtain ⟨q0,x,t,cur,u,q1,q2,q3,q4,q5⟩:=hq
  dsimp only at q1 q3
  have : x = b:=by omega
  subst this
  obtain ⟨b',f1,rfl,f2⟩:=zp_ok (a:=n) (o:=.var n) (L:=zTab nm) q5
  refine ⟨cur,t,b',_,q2, ?_,f2⟩
  rw [e0] at q3
  rw [← q3]
  congr 1
  omega
 have hp : ∀ i,i < 65 -> ∃ (cur : Array Value) (t : TF) (b' o' : Nat),w'.heap[b]? = some (.cells cur t.1 t.2) /\ cur[o + (1470 + i)]? = some (.pointer (some ⟨b',o',none⟩)) /\ Sits sg1 b' o' (zTab (if i < 64 then 116 else 114)):=fun i hi=>by
  by_cases h4 : i < 64
  ·rw [if_pos h4]
   have hm:=pCs_mem 0 false 64 0 i h4
   rw [Nat.zero_add] at hm
   exact ptrs _ _ _ _ (H2.M _ (List.mem_append_right _ (List.mem_cons_of_mem _ (List.mem_append_left _ hm))))
  ·rw [if_neg h4]
   have : i = 64:=by omega
   subst this
   exact ptrs 1534 114 65 (.ptr 135 114 false) (H2.M _ (List.mem_append_right _ (List.mem_cons_of_mem _ (List.mem_append_right _ List.mem_cons_self))))
 have hold : ∀ x y,x < w.heap.size -> putD sg1 b (o + 1470) (o + 1535) x y = sg1 x y:=fun x y hx=>by
  unfold putD
  rw [if_neg (by omega)]
 let ρ3 : Vl:=⟨fun u=>if u = 1 then ρ2.i 6 else ρ2.i u,ρ2.s,fun u=>if u = 1 then ρ2.a 6 else ρ2.a u,ρ2.A⟩
 have i0 : ρ3.i 0 = ρ2.i 0:=rfl
 have i1 : ρ3.i 1 = ρ2.i 6:=rfl
 have a0 : ρ3.a 0 = ρ2.a 0:=rfl
 have a1 : ρ3.a 1 = ρ2.a 6:=rfl
 refine ⟨_,rfl,putD sg1 b (o + 1470) (o + 1535),fun x y c hc=>?_,put_zone Z1 hs hp,⟨F1.size,F1.os,F1.tape,F1.output,fun x y hx=>?_,F1.keep⟩,_,List.mem_cons_self,ρ3,⟨fun v hv=>absurd hv (Nat.not_lt_zero _),fun v hv=>absurd hv (Nat.not_lt_zero _),fun v hv=>absurd hv (Nat.not_lt_zero _),A2.A⟩,⟨fun l hl=>?_,fun p hp=>?_,fun q hq=>?_,fun p hp=>?_,fun p hp=>?_,fun f hf=>?_,fun f hf=>(by cases hf)⟩⟩
 ·rw [hold _ _ (hz.lt hc)];exact G1 _ _ _ hc
 ·rw [hold _ _ hx];exact F1.sig x y hx
 ·simp only [pGe,List.mem_cons,List.not_mem_nil,or_false] at hl
  rcases hl with rfl | rfl
  ·rw [Lin.var_den,i0];exact c0
  ·rw [Lin.var_den,i1]
   have:=H2.C (.var 6) (by simp [pGe])
   rwa [Lin.var_den] at this
 ·rw [List.mem_singleton.1 hp]
  exact ⟨_,e1,zp_mk (b:=b) (by rw [a0];exact hb) (by rw [a0,Lin.var_den,i0];exact ho.symm) (putD_sits92 hs)⟩
 ·have hq : q ∈ (z4 0 ++ [nowC 0 (.num .i64 0)]) ++ [(⟨0,⟨1475,[(0,1)]⟩,kP true,cP 116 1⟩ : Cell),mC 116 1 0 (.num .i64 32),mC 116 1 1 .nos]:=by rw [List.append_assoc];exact hq
  rcases List.mem_append.1 hq with hq | hq
  ·have hl:=List.all_eq_true.1 z4_lo q hq
   have hin : q.ok sg1 ρ2 w':=by
    rcases List.mem_append.1 hq with hq | hq
    ·exact H2.M _ (List.mem_append_left _ hq)
    ·rw [List.mem_singleton.1 hq]
     exact H2.M _ (List.mem_append_right _ List.mem_cons_self)
   unfold lo0 at hl
   simp only [Bool.and_eq_true,Bool.not_eq_true'] at hl
   obtain ⟨⟨⟨l1,l2⟩,l3⟩,l4⟩:=hl
   have l1:=Nat.eq_of_beq_eq_true l1
   refine cell_put hin (by rw [l1];rfl) ?_ rfl l4 fun v hv=>cst_ok l3 hv
   split at l2
   ·rename_i ht
    simp only [Lin.den,ht,Tm.den]
    rw [i0]
   ·cases l2
  ·simp only [List.mem_cons,List.not_mem_nil,or_false] at hq
   rcases hq with rfl | rfl | rfl
   ·have hm:=pCs_mem 0 false 64 0 5 (by decide)
    obtain ⟨q0,x,t,cur,u,q1,q2,q3,q4,q5⟩:=H2.M _ (List.mem_append_right _ (List.mem_cons_of_mem _ (List.mem_append_left _ hm)))
    have : x = b:=by
     dsimp only at q1
     omega
    subst this
    obtain ⟨b',f1,rfl,f2⟩:=zp_ok (a:=6) (o:=.var 6) (L:=zTab 116) q5
    have e5:=e0 1475
    have e5' : (⟨1475,[(0,1)]⟩ : Lin).den ρ3.i = 1475 + ρ2.i 0:=by simp [Lin.den,Tm.den,i0]
    refine ⟨by rw [e5'];omega,x,t,cur,_,hb,q2,q3, ?_, ?_⟩
    ·have h92:=putD_sits92 hs 1475 (kP true) (by kernel_rfl)
     rw [show (ρ3.a 0).2 + ((⟨1475,[(0,1)]⟩ : Lin).den ρ3.i).toNat = o + 1475 by rw [e5',a0];omega]
     exact h92
    ·exact zp_mk (b:=b') (by rw [a1];exact f1) (by rw [a1,Lin.var_den,Lin.var_den,i1]) (putD_sits f2)
   ·exact cell_put (H2.M (mC 116 6 0 (.num .i64 32)) (List.mem_append_right _ (List.mem_cons_of_mem _ (List.mem_append_right _ (List.mem_cons_of_mem _ List.mem_cons_self))))) a1 (by simp only [mC,Lin.addc_den,Lin.var_den,i1]) rfl (by kernel_rfl) fun v hv=>cst_ok rfl hv
   ·exact cell_put (H2.M (mC 116 6 1 .nos) (List.mem_append_right _ (List.mem_cons_of_mem _ (List.mem_append_right _ (List.mem_cons_of_mem _ (List.mem_cons_of_mem _ List.mem_cons_self)))))) a1 (by simp only [mC,Lin.addc_den,Lin.var_den,i1]) rfl (by kernel_rfl) fun v hv=>cst_ok rfl hv
 ·simp only [pAd,List.mem_cons,List.not_mem_nil,or_false] at hp
  rcases hp with rfl | rfl
  ·exact H2.asz (0,1) List.mem_cons_self
  ·exact H2.asz (6,1) (by simp [pAd])
 ·simp only [pAd,List.mem_cons,List.not_mem_nil,or_false] at hp
  rcases hp with rfl | rfl
  ·exact fun _ h=>H2.young (0,1) List.mem_cons_self (Nat.le_refl _) h
  ·exact fun _ h=>H2.young (6,1) (by simp [pAd]) (Nat.le_refl _) h
 ·rw [List.mem_singleton.1 hf];exact h303 _
def cV : DC -> Value
 | .tru b=>.bool b
 | .num k n=>.int k n
 | _=>.bool false
def cst2 : DC -> Bool
 | .num _ _ | .tru _=>true
 | _=>false
theorem cst_all {ρ : Vl} {μ : Mu} : ∀ {xs : List DC},xs.all cst2 = true -> All2 (SC.ok μ) (xs.map (DC.den ρ)) (xs.map cV)
 | [],_=>trivial
 | x :: xs,h=>by
  rw [List.all_cons,Bool.and_eq_true] at h
  refine ⟨?_,cst_all h.2⟩
  have h1:=h.1
  cases x <;> first | exact rfl | cases h1
theorem h303 (ρ : Vl) : (⟨303,zR39⟩ : Atom).den ρ:=⟨zR39.map cV,fun sg=>cst_all (by kernel_rfl),by
 show _ /\ _ /\ _
 exact ⟨by kernel_rfl,by decide +kernel,by decide +kernel⟩⟩
end
end VtTop
namespace VtTop
open Go Zx Vx
theorem ok8 : TCok P 8 tc8:=ok8_of ok8x h303
theorem ok84a : TCok P 84 tc84a:=okJoin0
theorem ok61z : TCok P 61 tc61z:=okFind0
theorem ok34a : TCok P 34 tc34a:=okMask1
end VtTop
namespace VtTop
noncomputable section
open Go Zx Zx.Zr Vx
set_option maxRecDepth 100000
def q0 : List DC:=rC 0 ++ ([cI .i64 39,cI .i64 40] ++ (rC 41))
theorem e0 (ρ : Vl) : rvAt (q0.map (valD ρ)) 0 = roomV ρ 0:=rvAt_mid (pre:=[]) (post:=[cI .i64 39,cI .i64 40] ++ (rC 41)) rfl rfl
theorem e1 (ρ : Vl) : rvAt (q0.map (valD ρ)) 41 = roomV ρ 41:=rvAt_mid (pre:=rC 0 ++ ([cI .i64 39,cI .i64 40])) (post:=[]) rfl rfl
def q1 : List DC:=rC 0 ++ (rC 41)
theorem e2 (ρ : Vl) : rvAt (q1.map (valD ρ)) 0 = roomV ρ 0:=rvAt_mid (pre:=[]) (post:=rC 41) rfl rfl
theorem e3 (ρ : Vl) : rvAt (q1.map (valD ρ)) 39 = roomV ρ 41:=rvAt_mid (pre:=rC 0) (post:=[]) rfl rfl
def q2 : List DC:=rC 0 ++ ([cI .i64 39,cI .i64 40,cI .i64 41] ++ (rC 42))
theorem e4 (ρ : Vl) : rvAt (q2.map (valD ρ)) 0 = roomV ρ 0:=rvAt_mid (pre:=[]) (post:=[cI .i64 39,cI .i64 40,cI .i64 41] ++ (rC 42)) rfl rfl
theorem e5 (ρ : Vl) : rvAt (q2.map (valD ρ)) 42 = roomV ρ 42:=rvAt_mid (pre:=rC 0 ++ ([cI .i64 39,cI .i64 40,cI .i64 41])) (post:=[]) rfl rfl
def q3 : List DC:=rC 0 ++ (rC 42)
theorem e6 (ρ : Vl) : rvAt (q3.map (valD ρ)) 0 = roomV ρ 0:=rvAt_mid (pre:=[]) (post:=rC 42) rfl rfl
theorem e7 (ρ : Vl) : rvAt (q3.map (valD ρ)) 39 = roomV ρ 42:=rvAt_mid (pre:=rC 0) (post:=[]) rfl rfl
def q4 : List DC:=rC 0 ++ ([cI .i64 39,cI .i64 40] ++ (rC 41 ++ ([cI .i64 80])))
theorem e8 (ρ : Vl) : rvAt (q4.map (valD ρ)) 0 = roomV ρ 0:=rvAt_mid (pre:=[]) (post:=[cI .i64 39,cI .i64 40] ++ (rC 41 ++ ([cI .i64 80]))) rfl rfl
theorem e9 (ρ : Vl) : rvAt (q4.map (valD ρ)) 41 = roomV ρ 41:=rvAt_mid (pre:=rC 0 ++ ([cI .i64 39,cI .i64 40])) (post:=[cI .i64 80]) rfl rfl
def q5 : List DC:=rC 39 ++ (rC 78)
theorem e10 (ρ : Vl) : rvAt (q5.map (valD ρ)) 0 = roomV ρ 39:=rvAt_mid (pre:=[]) (post:=rC 78) rfl rfl
theorem e11 (ρ : Vl) : rvAt (q5.map (valD ρ)) 39 = roomV ρ 78:=rvAt_mid (pre:=rC 39) (post:=[]) rfl rfl
def q6 : List DC:=rC 0 ++ (rC 39)
theorem e12 (ρ : Vl) : rvAt (q6.map (valD ρ)) 0 = roomV ρ 0:=rvAt_mid (pre:=[]) (post:=rC 39) rfl rfl
theorem e13 (ρ : Vl) : rvAt (q6.map (valD ρ)) 39 = roomV ρ 39:=rvAt_mid (pre:=rC 0) (post:=[]) rfl rfl
def q7 : List DC:=rC 0 ++ (rC 78)
theorem e14 (ρ : Vl) : rvAt (q7.map (valD ρ)) 0 = roomV ρ 0:=rvAt_mid (pre:=[]) (post:=rC 78) rfl rfl
theorem e15 (ρ : Vl) : rvAt (q7.map (valD ρ)) 39 = roomV ρ 78:=rvAt_mid (pre:=rC 0) (post:=[]) rfl rfl
def q8 : List DC:=rC 1 ++ (rC 40)
theorem e16 (ρ : Vl) : rvAt (q8.map (valD ρ)) 0 = roomV ρ 1:=rvAt_mid (pre:=[]) (post:=rC 40) rfl rfl
theorem e17 (ρ : Vl) : rvAt (q8.map (valD ρ)) 39 = roomV ρ 40:=rvAt_mid (pre:=rC 1) (post:=[]) rfl rfl
def q9 : List DC:=rC 1 ++ ([cI .i64 40] ++ (rC 41))
theorem e18 (ρ : Vl) : rvAt (q9.map (valD ρ)) 0 = roomV ρ 1:=rvAt_mid (pre:=[]) (post:=[cI .i64 40] ++ (rC 41)) rfl rfl
theorem e19 (ρ : Vl) : rvAt (q9.map (valD ρ)) 40 = roomV ρ 41:=rvAt_mid (pre:=rC 1 ++ ([cI .i64 40])) (post:=[]) rfl rfl
def q10 : List DC:=rC 1 ++ (rC 41)
theorem e20 (ρ : Vl) : rvAt (q10.map (valD ρ)) 0 = roomV ρ 1:=rvAt_mid (pre:=[]) (post:=rC 41) rfl rfl
theorem e21 (ρ : Vl) : rvAt (q10.map (valD ρ)) 39 = roomV ρ 41:=rvAt_mid (pre:=rC 1) (post:=[]) rfl rfl
def tl_h62 : TC:={ k:=0,pre:={ n:=80,P:=[],C:=[],adr:=[],F:=[⟨62,rC 0 ++ ([cI .i64 39,cI .i64 40] ++ (rC 41))⟩] },W:=[],post:=[{ n:=0,P:=[],C:=[],adr:=[],F:=[⟨300,rC 0 ++ (rC 41)⟩] }] }
theorem lo_h62 : LemOk tl_h62:=LemOk.gen (by decide +kernel) (by decide +kernel) (by decide +kernel) fun ρ _ hF=>by
 have h0 : (rvAt (q0.map (valD ρ)) 41) = (aliveRm (rvAt (q0.map (valD ρ)) 0) _ _).1:=hF _ (List.Mem.head _)
 rw [e1,e0] at h0
 refine ⟨_,List.Mem.head _,fun l hl=>(by cases hl),fun f hf=>?_⟩
 cases hf with
 | tail _ hf=>cases hf
 | head _=>
 show HDo (rvAt (q1.map (valD ρ)) 0) (rvAt (q1.map (valD ρ)) 39)
 rw [e3,e2]
 exact .inr ⟨_,_,h0⟩
def lem_h62 : Lem:=⟨tl_h62,lo_h62⟩
def tl_s87 : TC:={ k:=0,pre:={ n:=80,P:=[],C:=[],adr:=[],F:=[⟨87,rC 0 ++ ([cI .i64 39,cI .i64 40] ++ (rC 41))⟩] },W:=[],post:=[{ n:=0,P:=[],C:=[],adr:=[],F:=[⟨305,rC 0 ++ (rC 41)⟩] }] }
theorem lo_s87 : LemOk tl_s87:=LemOk.gen (by decide +kernel) (by decide +kernel) (by decide +kernel) fun ρ _ hF=>by
 have h0 : (rvAt (q0.map (valD ρ)) 41) = (leaveRm (rvAt (q0.map (valD ρ)) 0) _ _).1:=hF _ (List.Mem.head _)
 rw [e1,e0] at h0
 refine ⟨_,List.Mem.head _,fun l hl=>(by cases hl),fun f hf=>?_⟩
 cases hf with
 | tail _ hf=>cases hf
 | head _=>
 show ROne (rvAt (q1.map (valD ρ)) 0) (rvAt (q1.map (valD ρ)) 39)
 rw [e3,e2]
 exact .inr (.inl ⟨_,_,h0⟩)
def lem_s87 : Lem:=⟨tl_s87,lo_s87⟩
def tl_s88 : TC:={ k:=0,pre:={ n:=81,P:=[],C:=[],adr:=[],F:=[⟨88,rC 0 ++ ([cI .i64 39,cI .i64 40,cI .i64 41] ++ (rC 42))⟩] },W:=[],post:=[{ n:=0,P:=[],C:=[],adr:=[],F:=[⟨305,rC 0 ++ (rC 42)⟩] }] }
theorem lo_s88 : LemOk tl_s88:=LemOk.gen (by decide +kernel) (by decide +kernel) (by decide +kernel) fun ρ _ hF=>by
 have h0 : (rvAt (q2.map (valD ρ)) 42) = (kickRm (rvAt (q2.map (valD ρ)) 0) _ _ _).1:=hF _ (List.Mem.head _)
 rw [e5,e4] at h0
 refine ⟨_,List.Mem.head _,fun l hl=>(by cases hl),fun f hf=>?_⟩
 cases hf with
 | tail _ hf=>cases hf
 | head _=>
 show ROne (rvAt (q3.map (valD ρ)) 0) (rvAt (q3.map (valD ρ)) 39)
 rw [e7,e6]
 exact .inr (.inr (.inl ⟨_,_,_,h0⟩))
def lem_s88 : Lem:=⟨tl_s88,lo_s88⟩
def tl_s92 : TC:={ k:=0,pre:={ n:=80,P:=[],C:=[],adr:=[],F:=[⟨92,rC 0 ++ ([cI .i64 39,cI .i64 40] ++ (rC 41))⟩] },W:=[],post:=[{ n:=0,P:=[],C:=[],adr:=[],F:=[⟨305,rC 0 ++ (rC 41)⟩] }] }
theorem lo_s92 : LemOk tl_s92:=LemOk.gen (by decide +kernel) (by decide +kernel) (by decide +kernel) fun ρ _ hF=>by
 have h0 : (rvAt (q0.map (valD ρ)) 41) = (haveRm (rvAt (q0.map (valD ρ)) 0) _ _).1:=hF _ (List.Mem.head _)
 rw [e1,e0] at h0
 refine ⟨_,List.Mem.head _,fun l hl=>(by cases hl),fun f hf=>?_⟩
 cases hf with
 | tail _ hf=>cases hf
 | head _=>
 show ROne (rvAt (q1.map (valD ρ)) 0) (rvAt (q1.map (valD ρ)) 39)
 rw [e3,e2]
 exact .inr (.inr (.inr (.inl ⟨_,_,h0⟩)))
def lem_s92 : Lem:=⟨tl_s92,lo_s92⟩
def tl_s84 : TC:={ k:=0,pre:={ n:=81,P:=[],C:=[],adr:=[],F:=[⟨84,rC 0 ++ ([cI .i64 39,cI .i64 40] ++ (rC 41 ++ ([cI .i64 80])))⟩] },W:=[],post:=[{ n:=0,P:=[],C:=[],adr:=[],F:=[⟨305,rC 0 ++ (rC 41)⟩] }] }
theorem lo_s84 : LemOk tl_s84:=LemOk.gen (by decide +kernel) (by decide +kernel) (by decide +kernel) fun ρ _ hF=>by
 have h0 : (rvAt (q4.map (valD ρ)) 41) = (joinRm (rvAt (q4.map (valD ρ)) 0) _ _).1:=hF _ (List.Mem.head _)
 rw [e9,e8] at h0
 refine ⟨_,List.Mem.head _,fun l hl=>(by cases hl),fun f hf=>?_⟩
 cases hf with
 | tail _ hf=>cases hf
 | head _=>
 show ROne (rvAt (q1.map (valD ρ)) 0) (rvAt (q1.map (valD ρ)) 39)
 rw [e3,e2]
 exact .inr (.inr (.inr (.inr (.inl ⟨_,_,h0⟩))))
def lem_s84 : Lem:=⟨tl_s84,lo_s84⟩
def tl_g305 : TC:={ k:=0,pre:={ n:=117,P:=[],C:=[],adr:=[],F:=[⟨305,rC 39 ++ (rC 78)⟩,⟨300,rC 0 ++ (rC 39)⟩] },W:=[],post:=[{ n:=0,P:=[],C:=[],adr:=[],F:=[⟨301,rC 0 ++ (rC 78)⟩] }] }
theorem lo_g305 : LemOk tl_g305:=LemOk.gen (by decide +kernel) (by decide +kernel) (by decide +kernel) fun ρ _ hF=>by
 have h0 : ROne (rvAt (q5.map (valD ρ)) 0) (rvAt (q5.map (valD ρ)) 39):=hF _ (List.Mem.head _)
 rw [e11,e10] at h0
 have h1 : HDo (rvAt (q6.map (valD ρ)) 0) (rvAt (q6.map (valD ρ)) 39):=hF _ (List.Mem.tail _ (List.Mem.head _))
 rw [e13,e12] at h1
 refine ⟨_,List.Mem.head _,fun l hl=>(by cases hl),fun f hf=>?_⟩
 cases hf with
 | tail _ hf=>cases hf
 | head _=>
 show RDo (rvAt (q7.map (valD ρ)) 0) (rvAt (q7.map (valD ρ)) 39)
 rw [e15,e14]
 exact ⟨_,h1,h0⟩
def lem_g305 : Lem:=⟨tl_g305,lo_g305⟩
def tl_j305 : TC:={ k:=0,pre:={ n:=78,P:=[],C:=[],adr:=[],F:=[⟨305,rC 0 ++ (rC 39)⟩] },W:=[],post:=[{ n:=0,P:=[],C:=[],adr:=[],F:=[⟨301,rC 0 ++ (rC 39)⟩] }] }
theorem lo_j305 : LemOk tl_j305:=LemOk.gen (by decide +kernel) (by decide +kernel) (by decide +kernel) fun ρ _ hF=>by
 have h0 : ROne (rvAt (q6.map (valD ρ)) 0) (rvAt (q6.map (valD ρ)) 39):=hF _ (List.Mem.head _)
 rw [e13,e12] at h0
 refine ⟨_,List.Mem.head _,fun l hl=>(by cases hl),fun f hf=>?_⟩
 cases hf with
 | tail _ hf=>cases hf
 | head _=>
 show RDo (rvAt (q6.map (valD ρ)) 0) (rvAt (q6.map (valD ρ)) 39)
 rw [e13,e12]
 exact ⟨_,.inl rfl,h0⟩
def lem_j305 : Lem:=⟨tl_j305,lo_j305⟩
def tl_r3000 : TC:={ k:=1,pre:={ n:=79,P:=[(0,.s (.c (cP 92 0)))],C:=[],adr:=[],M:=rM 0 0 40,F:=[⟨300,rC 1 ++ (rC 40)⟩] },W:=[],post:=[{ n:=0,P:=[],C:=[],adr:=[],F:=[⟨301,rC 1 ++ (rC 40)⟩] }] }
theorem lo_r3000 : LemOk tl_r3000:=LemOk.gen (by decide +kernel) (by decide +kernel) (by decide +kernel) fun ρ _ hF=>by
 have h0 : HDo (rvAt (q8.map (valD ρ)) 0) (rvAt (q8.map (valD ρ)) 39):=hF _ (List.Mem.head _)
 rw [e17,e16] at h0
 refine ⟨_,List.Mem.head _,fun l hl=>(by cases hl),fun f hf=>?_⟩
 cases hf with
 | tail _ hf=>cases hf
 | head _=>
 show RDo (rvAt (q8.map (valD ρ)) 0) (rvAt (q8.map (valD ρ)) 39)
 rw [e17,e16]
 exact ⟨_,h0,.inl rfl⟩
def lem_r3000 : Lem:=⟨tl_r3000,lo_r3000⟩
def tl_r510 : TC:={ k:=1,pre:={ n:=80,P:=[(0,.s (.c (cP 92 0)))],C:=[],adr:=[],M:=rM 0 0 41,F:=[⟨51,rC 1 ++ ([cI .i64 40] ++ (rC 41))⟩] },W:=[],post:=[{ n:=0,P:=[],C:=[],adr:=[],F:=[⟨301,rC 1 ++ (rC 41)⟩] }] }
theorem lo_r510 : LemOk tl_r510:=LemOk.gen (by decide +kernel) (by decide +kernel) (by decide +kernel) fun ρ _ hF=>by
 have h0 : (rvAt (q9.map (valD ρ)) 40) = (tickRm (rvAt (q9.map (valD ρ)) 0) _).1:=hF _ (List.Mem.head _)
 rw [e19,e18] at h0
 refine ⟨_,List.Mem.head _,fun l hl=>(by cases hl),fun f hf=>?_⟩
 cases hf with
 | tail _ hf=>cases hf
 | head _=>
 show RDo (rvAt (q10.map (valD ρ)) 0) (rvAt (q10.map (valD ρ)) 39)
 rw [e21,e20]
 exact ⟨_,.inl rfl,.inr (.inr (.inr (.inr (.inr ⟨_,h0⟩))))⟩
def lem_r510 : Lem:=⟨tl_r510,lo_r510⟩
def tl_r3001 : TC:={ k:=1,pre:={ n:=79,P:=[(0,.s (.c (cP 92 0)))],C:=[],adr:=[],M:=rM 0 367 40,F:=[⟨300,rC 1 ++ (rC 40)⟩] },W:=[],post:=[{ n:=0,P:=[],C:=[],adr:=[],F:=[⟨301,rC 1 ++ (rC 40)⟩] }] }
theorem lo_r3001 : LemOk tl_r3001:=LemOk.gen (by decide +kernel) (by decide +kernel) (by decide +kernel) fun ρ _ hF=>by
 have h0 : HDo (rvAt (q8.map (valD ρ)) 0) (rvAt (q8.map (valD ρ)) 39):=hF _ (List.Mem.head _)
 rw [e17,e16] at h0
 refine ⟨_,List.Mem.head _,fun l hl=>(by cases hl),fun f hf=>?_⟩
 cases hf with
 | tail _ hf=>cases hf
 | head _=>
 show RDo (rvAt (q8.map (valD ρ)) 0) (rvAt (q8.map (valD ρ)) 39)
 rw [e17,e16]
 exact ⟨_,h0,.inl rfl⟩
def lem_r3001 : Lem:=⟨tl_r3001,lo_r3001⟩
def tl_r511 : TC:={ k:=1,pre:={ n:=80,P:=[(0,.s (.c (cP 92 0)))],C:=[],adr:=[],M:=rM 0 367 41,F:=[⟨51,rC 1 ++ ([cI .i64 40] ++ (rC 41))⟩] },W:=[],post:=[{ n:=0,P:=[],C:=[],adr:=[],F:=[⟨301,rC 1 ++ (rC 41)⟩] }] }
theorem lo_r511 : LemOk tl_r511:=LemOk.gen (by decide +kernel) (by decide +kernel) (by decide +kernel) fun ρ _ hF=>by
 have h0 : (rvAt (q9.map (valD ρ)) 40) = (tickRm (rvAt (q9.map (valD ρ)) 0) _).1:=hF _ (List.Mem.head _)
 rw [e19,e18] at h0
 refine ⟨_,List.Mem.head _,fun l hl=>(by cases hl),fun f hf=>?_⟩
 cases hf with
 | tail _ hf=>cases hf
 | head _=>
 show RDo (rvAt (q10.map (valD ρ)) 0) (rvAt (q10.map (valD ρ)) 39)
 rw [e21,e20]
 exact ⟨_,.inl rfl,.inr (.inr (.inr (.inr (.inr ⟨_,h0⟩))))⟩
def lem_r511 : Lem:=⟨tl_r511,lo_r511⟩
def tl_r3002 : TC:={ k:=1,pre:={ n:=79,P:=[(0,.s (.c (cP 92 0)))],C:=[],adr:=[],M:=rM 0 734 40,F:=[⟨300,rC 1 ++ (rC 40)⟩] },W:=[],post:=[{ n:=0,P:=[],C:=[],adr:=[],F:=[⟨301,rC 1 ++ (rC 40)⟩] }] }
theorem lo_r3002 : LemOk tl_r3002:=LemOk.gen (by decide +kernel) (by decide +kernel) (by decide +kernel) fun ρ _ hF=>by
 have h0 : HDo (rvAt (q8.map (valD ρ)) 0) (rvAt (q8.map (valD ρ)) 39):=hF _ (List.Mem.head _)
 rw [e17,e16] at h0
 refine ⟨_,List.Mem.head _,fun l hl=>(by cases hl),fun f hf=>?_⟩
 cases hf with
 | tail _ hf=>cases hf
 | head _=>
 show RDo (rvAt (q8.map (valD ρ)) 0) (rvAt (q8.map (valD ρ)) 39)
 rw [e17,e16]
 exact ⟨_,h0,.inl rfl⟩
def lem_r3002 : Lem:=⟨tl_r3002,lo_r3002⟩
def tl_r512 : TC:={ k:=1,pre:={ n:=80,P:=[(0,.s (.c (cP 92 0)))],C:=[],adr:=[],M:=rM 0 734 41,F:=[⟨51,rC 1 ++ ([cI .i64 40] ++ (rC 41))⟩] },W:=[],post:=[{ n:=0,P:=[],C:=[],adr:=[],F:=[⟨301,rC 1 ++ (rC 41)⟩] }] }
theorem lo_r512 : LemOk tl_r512:=LemOk.gen (by decide +kernel) (by decide +kernel) (by decide +kernel) fun ρ _ hF=>by
 have h0 : (rvAt (q9.map (valD ρ)) 40) = (tickRm (rvAt (q9.map (valD ρ)) 0) _).1:=hF _ (List.Mem.head _)
 rw [e19,e18] at h0
 refine ⟨_,List.Mem.head _,fun l hl=>(by cases hl),fun f hf=>?_⟩
 cases hf with
 | tail _ hf=>cases hf
 | head _=>
 show RDo (rvAt (q10.map (valD ρ)) 0) (rvAt (q10.map (valD ρ)) 39)
 rw [e21,e20]
 exact ⟨_,.inl rfl,.inr (.inr (.inr (.inr (.inr ⟨_,h0⟩))))⟩
def lem_r512 : Lem:=⟨tl_r512,lo_r512⟩
def tl_r3003 : TC:={ k:=1,pre:={ n:=79,P:=[(0,.s (.c (cP 92 0)))],C:=[],adr:=[],M:=rM 0 1101 40,F:=[⟨300,rC 1 ++ (rC 40)⟩] },W:=[],post:=[{ n:=0,P:=[],C:=[],adr:=[],F:=[⟨301,rC 1 ++ (rC 40)⟩] }] }
theorem lo_r3003 : LemOk tl_r3003:=LemOk.gen (by decide +kernel) (by decide +kernel) (by decide +kernel) fun ρ _ hF=>by
 have h0 : HDo (rvAt (q8.map (valD ρ)) 0) (rvAt (q8.map (valD ρ)) 39):=hF _ (List.Mem.head _)
 rw [e17,e16] at h0
 refine ⟨_,List.Mem.head _,fun l hl=>(by cases hl),fun f hf=>?_⟩
 cases hf with
 | tail _ hf=>cases hf
 | head _=>
 show RDo (rvAt (q8.map (valD ρ)) 0) (rvAt (q8.map (valD ρ)) 39)
 rw [e17,e16]
 exact ⟨_,h0,.inl rfl⟩
def lem_r3003 : Lem:=⟨tl_r3003,lo_r3003⟩
def tl_r513 : TC:={ k:=1,pre:={ n:=80,P:=[(0,.s (.c (cP 92 0)))],C:=[],adr:=[],M:=rM 0 1101 41,F:=[⟨51,rC 1 ++ ([cI .i64 40] ++ (rC 41))⟩] },W:=[],post:=[{ n:=0,P:=[],C:=[],adr:=[],F:=[⟨301,rC 1 ++ (rC 41)⟩] }] }
theorem lo_r513 : LemOk tl_r513:=LemOk.gen (by decide +kernel) (by decide +kernel) (by decide +kernel) fun ρ _ hF=>by
 have h0 : (rvAt (q9.map (valD ρ)) 40) = (tickRm (rvAt (q9.map (valD ρ)) 0) _).1:=hF _ (List.Mem.head _)
 rw [e19,e18] at h0
 refine ⟨_,List.Mem.head _,fun l hl=>(by cases hl),fun f hf=>?_⟩
 cases hf with
 | tail _ hf=>cases hf
 | head _=>
 show RDo (rvAt (q10.map (valD ρ)) 0) (rvAt (q10.map (valD ρ)) 39)
 rw [e21,e20]
 exact ⟨_,.inl rfl,.inr (.inr (.inr (.inr (.inr ⟨_,h0⟩))))⟩
def lem_r513 : Lem:=⟨tl_r513,lo_r513⟩
def tl_room4 : TC:={ k:=1,pre:={ n:=2,P:=[(0,.s (.c (cP 133 0)))],C:=[⟨0,[(1,1)]⟩,⟨3,[(1,-1)]⟩],adr:=[],M:=[⟨0,⟨1,[(0,1)]⟩,.int 197 .i64 (-9223372036854775808) 9223372036854775807,cI .i64 1⟩] },W:=[],post:=[{ n:=0,P:=[],C:=[⟨0,[(1,1)]⟩,⟨0,[(1,-1)]⟩],adr:=[] },{ n:=0,P:=[],C:=[⟨-1,[(1,1)]⟩,⟨1,[(1,-1)]⟩],adr:=[] },{ n:=0,P:=[],C:=[⟨-2,[(1,1)]⟩,⟨2,[(1,-1)]⟩],adr:=[] },{ n:=0,P:=[],C:=[⟨-3,[(1,1)]⟩,⟨3,[(1,-1)]⟩],adr:=[] }] }
theorem lo_room4 : LemOk tl_room4:=LemOk.gen (by decide +kernel) (by decide +kernel) (by decide +kernel) fun ρ hC _=>by
 have h0:=hC _ (List.Mem.head _)
 have h1:=hC _ (List.Mem.tail _ (List.Mem.head _))
 simp only [Lin.den,Tm.den] at h0 h1
 have hr : ρ.i 1 = 0 \/ ρ.i 1 = 1 \/ ρ.i 1 = 2 \/ ρ.i 1 = 3:=by omega
 rcases hr with e | e | e | e
 ·exact ⟨_,List.Mem.head _,two_le (by simp only [Lin.den,Tm.den,e];omega) (by simp only [Lin.den,Tm.den,e];omega),fun f hf=>(by cases hf)⟩
 ·exact ⟨_,List.Mem.tail _ (List.Mem.head _),two_le (by simp only [Lin.den,Tm.den,e];omega) (by simp only [Lin.den,Tm.den,e];omega),fun f hf=>(by cases hf)⟩
 ·exact ⟨_,List.Mem.tail _ (List.Mem.tail _ (List.Mem.head _)),two_le (by simp only [Lin.den,Tm.den,e];omega) (by simp only [Lin.den,Tm.den,e];omega),fun f hf=>(by cases hf)⟩
 ·exact ⟨_,List.Mem.tail _ (List.Mem.tail _ (List.Mem.tail _ (List.Mem.head _))),two_le (by simp only [Lin.den,Tm.den,e];omega) (by simp only [Lin.den,Tm.den,e];omega),fun f hf=>(by cases hf)⟩
def lem_room4 : Lem:=⟨tl_room4,lo_room4⟩
def tl_kind9 : TC:={ k:=1,pre:={ n:=2,P:=[(0,.s (.c (cP 133 0)))],C:=[⟨-1,[(1,1)]⟩,⟨9,[(1,-1)]⟩],adr:=[],M:=[⟨0,⟨0,[(0,1)]⟩,.int 196 .i64 (-9223372036854775808) 9223372036854775807,cI .i64 1⟩] },W:=[],post:=[{ n:=0,P:=[],C:=[⟨-1,[(1,1)]⟩,⟨1,[(1,-1)]⟩],adr:=[] },{ n:=0,P:=[],C:=[⟨-2,[(1,1)]⟩,⟨2,[(1,-1)]⟩],adr:=[] },{ n:=0,P:=[],C:=[⟨-3,[(1,1)]⟩,⟨3,[(1,-1)]⟩],adr:=[] },{ n:=0,P:=[],C:=[⟨-4,[(1,1)]⟩,⟨4,[(1,-1)]⟩],adr:=[] },{ n:=0,P:=[],C:=[⟨-5,[(1,1)]⟩,⟨5,[(1,-1)]⟩],adr:=[] },{ n:=0,P:=[],C:=[⟨-6,[(1,1)]⟩,⟨6,[(1,-1)]⟩],adr:=[] },{ n:=0,P:=[],C:=[⟨-7,[(1,1)]⟩,⟨7,[(1,-1)]⟩],adr:=[] },{ n:=0,P:=[],C:=[⟨-8,[(1,1)]⟩,⟨8,[(1,-1)]⟩],adr:=[] },{ n:=0,P:=[],C:=[⟨-9,[(1,1)]⟩,⟨9,[(1,-1)]⟩],adr:=[] }] }
theorem lo_kind9 : LemOk tl_kind9:=LemOk.gen (by decide +kernel) (by decide +kernel) (by decide +kernel) fun ρ hC _=>by
 have h0:=hC _ (List.Mem.head _)
 have h1:=hC _ (List.Mem.tail _ (List.Mem.head _))
 simp only [Lin.den,Tm.den] at h0 h1
 have hr : ρ.i 1 = 1 \/ ρ.i 1 = 2 \/ ρ.i 1 = 3 \/ ρ.i 1 = 4 \/ ρ.i 1 = 5 \/ ρ.i 1 = 6 \/ ρ.i 1 = 7 \/ ρ.i 1 = 8 \/ ρ.i 1 = 9:=by omega
 rcases hr with e | e | e | e | e | e | e | e | e
 ·exact ⟨_,List.Mem.head _,two_le (by simp only [Lin.den,Tm.den,e];omega) (by simp only [Lin.den,Tm.den,e];omega),fun f hf=>(by cases hf)⟩
 ·exact ⟨_,List.Mem.tail _ (List.Mem.head _),two_le (by simp only [Lin.den,Tm.den,e];omega) (by simp only [Lin.den,Tm.den,e];omega),fun f hf=>(by cases hf)⟩
 ·exact ⟨_,List.Mem.tail _ (List.Mem.tail _ (List.Mem.head _)),two_le (by simp only [Lin.den,Tm.den,e];omega) (by simp only [Lin.den,Tm.den,e];omega),fun f hf=>(by cases hf)⟩
 ·exact ⟨_,List.Mem.tail _ (List.Mem.tail _ (List.Mem.tail _ (List.Mem.head _))),two_le (by simp only [Lin.den,Tm.den,e];omega) (by simp only [Lin.den,Tm.den,e];omega),fun f hf=>(by cases hf)⟩
 ·exact ⟨_,List.Mem.tail _ (List.Mem.tail _ (List.Mem.tail _ (List.Mem.tail _ (List.Mem.head _)))),two_le (by simp only [Lin.den,Tm.den,e];omega) (by simp only [Lin.den,Tm.den,e];omega),fun f hf=>(by cases hf)⟩
 ·exact ⟨_,List.Mem.tail _ (List.Mem.tail _ (List.Mem.tail _ (List.Mem.tail _ (List.Mem.tail _ (List.Mem.head _))))),two_le (by simp only [Lin.den,Tm.den,e];omega) (by simp only [Lin.den,Tm.den,e];omega),fun f hf=>(by cases hf)⟩
 ·exact ⟨_,List.Mem.tail _ (List.Mem.tail _ (List.Mem.tail _ (List.Mem.tail _ (List.Mem.tail _ (List.Mem.tail _ (List.Mem.head _)))))),two_le (by simp only [Lin.den,Tm.den,e];omega) (by simp only [Lin.den,Tm.den,e];omega),fun f hf=>(by cases hf)⟩
 ·exact ⟨_,List.Mem.tail _ (List.Mem.tail _ (List.Mem.tail _ (List.Mem.tail _ (List.Mem.tail _ (List.Mem.tail _ (List.Mem.tail _ (List.Mem.head _))))))),two_le (by simp only [Lin.den,Tm.den,e];omega) (by simp only [Lin.den,Tm.den,e];omega),fun f hf=>(by cases hf)⟩
 ·exact ⟨_,List.Mem.tail _ (List.Mem.tail _ (List.Mem.tail _ (List.Mem.tail _ (List.Mem.tail _ (List.Mem.tail _ (List.Mem.tail _ (List.Mem.tail _ (List.Mem.head _)))))))),two_le (by simp only [Lin.den,Tm.den,e];omega) (by simp only [Lin.den,Tm.den,e];omega),fun f hf=>(by cases hf)⟩
def lem_kind9 : Lem:=⟨tl_kind9,lo_kind9⟩
def tl_wh : TC:={ k:=2,pre:={ n:=158,P:=[(0,.s (.c (cP 92 0))),(1,.s (.c (cI .i64 1)))],C:=[],adr:=[],M:=rM 0 0 2 ++ (rM 0 367 41 ++ (rM 0 734 80 ++ (rM 0 1101 119))) },W:=[],post:=[{ n:=0,P:=[],C:=[],adr:=[],F:=[⟨611,[cB 2,cB 3,cB 4,cB 5,cB 6,cB 7,cB 8,cB 9,cI .i64 10,cI .i64 11,cI .i64 12,cI .i64 13,cI .i64 14,cI .i64 15,cI .i64 16,cI .i64 17,cI .i64 1]⟩] },{ n:=0,P:=[],C:=[],adr:=[],F:=[⟨610,[cB 2,cB 3,cB 4,cB 5,cB 6,cB 7,cB 8,cB 9,cI .i64 10,cI .i64 11,cI .i64 12,cI .i64 13,cI .i64 14,cI .i64 15,cI .i64 16,cI .i64 17,cI .i64 1]⟩,⟨611,[cB 41,cB 42,cB 43,cB 44,cB 45,cB 46,cB 47,cB 48,cI .i64 49,cI .i64 50,cI .i64 51,cI .i64 52,cI .i64 53,cI .i64 54,cI .i64 55,cI .i64 56,cI .i64 1]⟩] },{ n:=0,P:=[],C:=[],adr:=[],F:=[⟨610,[cB 2,cB 3,cB 4,cB 5,cB 6,cB 7,cB 8,cB 9,cI .i64 10,cI .i64 11,cI .i64 12,cI .i64 13,cI .i64 14,cI .i64 15,cI .i64 16,cI .i64 17,cI .i64 1]⟩,⟨610,[cB 41,cB 42,cB 43,cB 44,cB 45,cB 46,cB 47,cB 48,cI .i64 49,cI .i64 50,cI .i64 51,cI .i64 52,cI .i64 53,cI .i64 54,cI .i64 55,cI .i64 56,cI .i64 1]⟩,⟨611,[cB 80,cB 81,cB 82,cB 83,cB 84,cB 85,cB 86,cB 87,cI .i64 88,cI .i64 89,cI .i64 90,cI .i64 91,cI .i64 92,cI .i64 93,cI .i64 94,cI .i64 95,cI .i64 1]⟩] },{ n:=0,P:=[],C:=[],adr:=[],F:=[⟨610,[cB 2,cB 3,cB 4,cB 5,cB 6,cB 7,cB 8,cB 9,cI .i64 10,cI .i64 11,cI .i64 12,cI .i64 13,cI .i64 14,cI .i64 15,cI .i64 16,cI .i64 17,cI .i64 1]⟩,⟨610,[cB 41,cB 42,cB 43,cB 44,cB 45,cB 46,cB 47,cB 48,cI .i64 49,cI .i64 50,cI .i64 51,cI .i64 52,cI .i64 53,cI .i64 54,cI .i64 55,cI .i64 56,cI .i64 1]⟩,⟨610,[cB 80,cB 81,cB 82,cB 83,cB 84,cB 85,cB 86,cB 87,cI .i64 88,cI .i64 89,cI .i64 90,cI .i64 91,cI .i64 92,cI .i64 93,cI .i64 94,cI .i64 95,cI .i64 1]⟩,⟨611,[cB 119,cB 120,cB 121,cB 122,cB 123,cB 124,cB 125,cB 126,cI .i64 127,cI .i64 128,cI .i64 129,cI .i64 130,cI .i64 131,cI .i64 132,cI .i64 133,cI .i64 134,cI .i64 1]⟩] },{ n:=0,P:=[],C:=[],adr:=[],F:=[⟨610,[cB 2,cB 3,cB 4,cB 5,cB 6,cB 7,cB 8,cB 9,cI .i64 10,cI .i64 11,cI .i64 12,cI .i64 13,cI .i64 14,cI .i64 15,cI .i64 16,cI .i64 17,cI .i64 1]⟩,⟨610,[cB 41,cB 42,cB 43,cB 44,cB 45,cB 46,cB 47,cB 48,cI .i64 49,cI .i64 50,cI .i64 51,cI .i64 52,cI .i64 53,cI .i64 54,cI .i64 55,cI .i64 56,cI .i64 1]⟩,⟨610,[cB 80,cB 81,cB 82,cB 83,cB 84,cB 85,cB 86,cB 87,cI .i64 88,cI .i64 89,cI .i64 90,cI .i64 91,cI .i64 92,cI .i64 93,cI .i64 94,cI .i64 95,cI .i64 1]⟩,⟨610,[cB 119,cB 120,cB 121,cB 122,cB 123,cB 124,cB 125,cB 126,cI .i64 127,cI .i64 128,cI .i64 129,cI .i64 130,cI .i64 131,cI .i64 132,cI .i64 133,cI .i64 134,cI .i64 1]⟩] }] }
theorem lo_wh : LemOk tl_wh:=LemOk.gen (by decide +kernel) (by decide +kernel) (by decide +kernel) fun ρ _ _=>by
 by_cases h0 : atomV 611 (([cB 2,cB 3,cB 4,cB 5,cB 6,cB 7,cB 8,cB 9,cI .i64 10,cI .i64 11,cI .i64 12,cI .i64 13,cI .i64 14,cI .i64 15,cI .i64 16,cI .i64 17,cI .i64 1]).map (valD ρ))
 ·exact ⟨_,List.Mem.head _,fun l hl=>(by cases hl),all_cons h0 all_nil⟩
 have n0 : atomV 610 (([cB 2,cB 3,cB 4,cB 5,cB 6,cB 7,cB 8,cB 9,cI .i64 10,cI .i64 11,cI .i64 12,cI .i64 13,cI .i64 14,cI .i64 15,cI .i64 16,cI .i64 17,cI .i64 1]).map (valD ρ)):=by
  show (findG _ _ _).2 = false
  exact Bool.eq_false_iff.2 h0
 by_cases h1 : atomV 611 (([cB 41,cB 42,cB 43,cB 44,cB 45,cB 46,cB 47,cB 48,cI .i64 49,cI .i64 50,cI .i64 51,cI .i64 52,cI .i64 53,cI .i64 54,cI .i64 55,cI .i64 56,cI .i64 1]).map (valD ρ))
 ·exact ⟨_,List.Mem.tail _ (List.Mem.head _),fun l hl=>(by cases hl),all_cons n0 (all_cons h1 all_nil)⟩
 have n1 : atomV 610 (([cB 41,cB 42,cB 43,cB 44,cB 45,cB 46,cB 47,cB 48,cI .i64 49,cI .i64 50,cI .i64 51,cI .i64 52,cI .i64 53,cI .i64 54,cI .i64 55,cI .i64 56,cI .i64 1]).map (valD ρ)):=by
  show (findG _ _ _).2 = false
  exact Bool.eq_false_iff.2 h1
 by_cases h2 : atomV 611 (([cB 80,cB 81,cB 82,cB 83,cB 84,cB 85,cB 86,cB 87,cI .i64 88,cI .i64 89,cI .i64 90,cI .i64 91,cI .i64 92,cI .i64 93,cI .i64 94,cI .i64 95,cI .i64 1]).map (valD ρ))
 ·exact ⟨_,List.Mem.tail _ (List.Mem.tail _ (List.Mem.head _)),fun l hl=>(by cases hl),all_cons n0 (all_cons n1 (all_cons h2 all_nil))⟩
 have n2 : atomV 610 (([cB 80,cB 81,cB 82,cB 83,cB 84,cB 85,cB 86,cB 87,cI .i64 88,cI .i64 89,cI .i64 90,cI .i64 91,cI .i64 92,cI .i64 93,cI .i64 94,cI .i64 95,cI .i64 1]).map (valD ρ)):=by
  show (findG _ _ _).2 = false
  exact Bool.eq_false_iff.2 h2
 by_cases h3 : atomV 611 (([cB 119,cB 120,cB 121,cB 122,cB 123,cB 124,cB 125,cB 126,cI .i64 127,cI .i64 128,cI .i64 129,cI .i64 130,cI .i64 131,cI .i64 132,cI .i64 133,cI .i64 134,cI .i64 1]).map (valD ρ))
 ·exact ⟨_,List.Mem.tail _ (List.Mem.tail _ (List.Mem.tail _ (List.Mem.head _))),fun l hl=>(by cases hl),all_cons n0 (all_cons n1 (all_cons n2 (all_cons h3 all_nil)))⟩
 have n3 : atomV 610 (([cB 119,cB 120,cB 121,cB 122,cB 123,cB 124,cB 125,cB 126,cI .i64 127,cI .i64 128,cI .i64 129,cI .i64 130,cI .i64 131,cI .i64 132,cI .i64 133,cI .i64 134,cI .i64 1]).map (valD ρ)):=by
  show (findG _ _ _).2 = false
  exact Bool.eq_false_iff.2 h3
 exact ⟨_,List.Mem.tail _ (List.Mem.tail _ (List.Mem.tail _ (List.Mem.tail _ (List.Mem.head _)))),fun l hl=>(by cases hl),all_cons n0 (all_cons n1 (all_cons n2 (all_cons n3 (all_nil))))⟩
def lem_wh : Lem:=⟨tl_wh,lo_wh⟩
end
end VtTop
