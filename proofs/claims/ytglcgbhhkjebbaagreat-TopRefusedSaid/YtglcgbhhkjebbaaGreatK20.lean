/- A part of the proof: lemmas. No condition of its own. -/
import Derived.KernelRfl
import Derived.Test.YtglcgbhhkjebbaaGreatK07
import Derived.Test.YtglcgbhhkjebbaaGreatK17
import Derived.Test.YtglcgbhhkjebbaaGreatK18
import Derived.Test.YtglcgbhhkjebbaaGreatK19
set_option linter.unusedVariables false
set_option linter.unusedSimpArgs false
namespace VtTop
noncomputable section
open Go Zx Vx
theorem cS_ok {sg : Sig} {ρ : Vl} {t v : Nat} {u : Value} (h : ((cS t v).den ρ).ok (mu sg) u) : ∃ (a : Option Addr) (n c : Nat),u = .slice a n c /\ n = (ρ.i (v + 1)).toNat /\ c = (ρ.i (v + 2)).toNat /\ n <= c ∧
  (0 < c -> 0 <= (ρ.a v).1 /\ a = some ⟨(ρ.a v).1.toNat,(ρ.a v).2 + (ρ.i v).toNat,none⟩ /\ ∀ i,i < c -> Sits sg (ρ.a v).1.toNat ((ρ.a v).2 + (ρ.i v).toNat + i * (zTab t).length) (zTab t)):=by
 simp only [cS,DC.den,Lin.var_den] at h
 split at h
 ·rename_i h0
  obtain ⟨a,rfl,h1,h2,h3⟩:=h
  refine ⟨a,_,_,rfl,rfl,rfl,h1,fun hc=>⟨?_,(h3 hc).1,(h3 hc).2⟩⟩
  rcases h0 with h0 | h0
  ·exact h0
  ·omega
 ·obtain ⟨l,_,h1,_⟩:=h
  cases h1
theorem rowTo_step {st f g : Nat} {P : Int -> Int -> Prop} {a : Option Addr} {n c : Nat} {kk kj : IntKind} {k j : Int} {sg : Sig} {w : World} (h : rowTo st f g P [.slice a n c,.int kk k,.int kj j] sg w) (h0 : 0 <= j) (hj : j < (n : Int)) (hr : rowAt st f g (P k) a j.toNat sg w) : rowTo st f g P [.slice a n c,.int kk k,.int kj (1 + j)] sg w:=by
 refine ⟨by omega,fun i hi=>?_⟩
 rcases Int.lt_or_le (i : Int) j with h1 | h1
 ·exact h.2 i h1
 ·have e : i = j.toNat:=by omega
  rw [e];exact hr
theorem rowTo_all {st f g : Nat} {P : Int -> Int -> Prop} {a : Option Addr} {n c : Nat} {kk kj : IntKind} {k j : Int} {sg : Sig} {w : World} (h : rowTo st f g P [.slice a n c,.int kk k,.int kj j] sg w) (hj : (n : Int) <= j) : rowAll st f g P [.slice a n c,.int kk k] sg w:=fun i hi=>h.2 i (by omega)
theorem rowAt_cell {sg : Sig} {ρ : Vl} {w : World} {st f g nm mx t vj vd : Nat} {P : Int -> Prop} {a : Option Addr} (hm : Cell.ok sg ρ w ⟨0,⟨(f : Int),[(vj,(st : Int)),(0,1)]⟩,.sli g nm mx,cS t vd⟩)
  (ha : a = some ⟨(ρ.a 0).1.toNat,(ρ.a 0).2 + (ρ.i 0).toNat,none⟩) (hs : 0 <= ρ.i 0) (hj : 0 <= ρ.i vj) (hP : P ((ρ.i (vd + 1)).toNat : Int)) : rowAt st f g P a (ρ.i vj).toNat sg w:=by
 obtain ⟨_,b,tt,cur,v,h1,h2,h3,h4,h5⟩:=hm
 obtain ⟨a',m,c',rfl,e1,_⟩:=cS_ok h5
 simp only [Lin.den,Tm.den] at h3 h4
 have e : ((f : Int) + ((st : Int) * ρ.i vj + (1 * ρ.i 0 + 0))).toNat = (ρ.i 0).toNat + (ρ.i vj).toNat * st + f:=by
  obtain ⟨x,hx⟩:=Int.eq_ofNat_of_zero_le hs
  obtain ⟨y,hy⟩:=Int.eq_ofNat_of_zero_le hj
  rw [hx,hy]
  simp only [Int.toNat_natCast]
  have : (f : Int) + ((st : Int) * (y : Int) + (1 * (x : Int) + 0)) = ((x + y * st + f : Nat) : Int):=by push_cast;rw [Int.mul_comm (st : Int)];omega
  rw [this];rfl
 simp only [e,← Nat.add_assoc] at h3 h4
 simp only [] at h1
 refine ⟨b,(ρ.a 0).2 + (ρ.i 0).toNat,cur,tt,a',m,c',nm,mx, ?_,h2,h3,by rw [e1];exact hP,h4⟩
 rw [ha,show (ρ.a 0).1.toNat = b by omega]
theorem cell_rowAt {sg : Sig} {ρ : Vl} {w : World} {st f g nm mx vj vd tz : Nat} {P : Int -> Prop} {a : Option Addr} (hz : ZoneOk sg w) (hr : rowAt st f g P a (ρ.i vj).toNat sg w) (ha : a = some ⟨(ρ.a 0).1.toNat,(ρ.a 0).2 + (ρ.i 0).toNat,none⟩) (h0 : 0 <= (ρ.a 0).1) (hs : 0 <= ρ.i 0) (hj : 0 <= ρ.i vj)
  (hk : (zTab tz)[f]? = some (.sli g nm mx)) (hlen : (zTab tz).length = st) (hnm : 0 < (zTab nm).length) (hsit : Sits sg (ρ.a 0).1.toNat ((ρ.a 0).2 + (ρ.i 0).toNat + (ρ.i vj).toNat * (zTab tz).length) (zTab tz)) (h0d : 0 < vd) (hjd : vj < vd) :
  ∃ (ρ' : Vl) (m : Nat),Agr vd ρ ρ' /\ Cell.ok sg ρ' w ⟨0,⟨(f : Int),[(vj,(st : Int)),(0,1)]⟩,.sli g nm mx,cS nm vd⟩ /\ ρ'.i vd = 0 /\ ρ'.i (vd + 1) = (m : Int) /\ P m /\ (m : Int) <= ρ'.i (vd + 2) /\ ρ'.i (vd + 2) <= maxLen /\ (ρ'.a vd).1 < (w.heap.size : Int):=by
 obtain ⟨b,o,cur,tt,a',m,c',nm',mx',h1,h2,h3,h4,h5⟩:=hr
 rw [ha] at h1
 cases h1
 have hk2:=hsit f _ hk
 rw [hlen] at hk2
 rw [h5] at hk2
 cases hk2
 obtain ⟨cur2,t2,v2,g1,g2,g3,_⟩:=hz _ _ _ h5
 obtain ⟨rfl,rfl⟩:=cells_inj h2 g1
 rw [h3] at g2
 cases g2
 obtain ⟨a2,n2,c2,e2,k1,k2,k3,k4⟩:=g3
 cases e2
 obtain ⟨ad,had,had2⟩ : ∃ ad : Int × Nat,ad.1 < (w.heap.size : Int) /\ (0 < c' -> ∃ b2 : Nat,ad.1 = (b2 : Int) /\ a' = some ⟨b2,ad.2,none⟩ /\ ∀ i,i < c' -> Sits sg b2 (ad.2 + i * (zTab nm).length) (zTab nm)):=by
  rcases Nat.eq_zero_or_pos c' with h0' | h0'
  ·exact ⟨(-1,0),by show (-1 : Int) < _;omega,fun h=>by omega⟩
  ·obtain ⟨b2,o2,e9,hs2⟩:=k4 h0'
   obtain ⟨z0,hz0⟩ : ∃ z0,(zTab nm)[0]? = some z0:=⟨_,List.getElem?_eq_getElem hnm⟩
   have:=hz.lt (hs2 0 h0' 0 z0 hz0)
   exact ⟨((b2 : Int),o2),by show (b2 : Int) < _;omega,fun _=>⟨b2,rfl,e9,hs2⟩⟩
 let ρ' : Vl:=⟨fun x=>if x = vd then 0 else if x = vd + 1 then (m : Int) else if x = vd + 2 then (c' : Int) else ρ.i x,ρ.s,fun x=>if x = vd then ad else ρ.a x,ρ.A⟩
 have hi : ∀ x,x < vd -> ρ'.i x = ρ.i x:=fun x hx=>by simp only [ρ'];rw [if_neg (by omega),if_neg (by omega),if_neg (by omega)]
 have hA : ∀ x,x < vd -> ρ'.a x = ρ.a x:=fun x hx=>by simp only [ρ'];rw [if_neg (by omega)]
 have e0 : ρ'.i vd = 0:=by simp [ρ']
 have e1 : ρ'.i (vd + 1) = (m : Int):=by simp [ρ']
 have e2 : ρ'.i (vd + 2) = (c' : Int):=by simp [ρ']
 have ea : ρ'.a vd = ad:=by simp [ρ']
 have e : ((f : Int) + ((st : Int) * ρ.i vj + (1 * ρ.i 0 + 0))) = (((ρ.i 0).toNat + (ρ.i vj).toNat * st + f : Nat) : Int):=by
  obtain ⟨x,hx⟩:=Int.eq_ofNat_of_zero_le hs
  obtain ⟨y,hy⟩:=Int.eq_ofNat_of_zero_le hj
  rw [hx,hy]
  simp only [Int.toNat_natCast]
  push_cast
  rw [Int.mul_comm (st : Int)];omega
 have ed : (Lin.den ρ'.i ⟨(f : Int),[(vj,(st : Int)),(0,1)]⟩) = (((ρ.i 0).toNat + (ρ.i vj).toNat * st + f : Nat) : Int):=by
  simp only [Lin.den,Tm.den];rw [hi vj hjd,hi 0 h0d];exact e
 refine ⟨ρ',m,⟨fun x hx=>(hi x hx).symm,fun _ _=>rfl,fun x hx=>(hA x hx).symm,rfl⟩,⟨by simp only [];rw [ed];omega,(ρ.a 0).1.toNat,tt,cur,.slice a' m c', ?_,h2, ?_, ?_, ?_⟩,e0,e1,h4,by rw [e2];omega,by rw [e2];omega,by rw [ea];exact had⟩
 ·simp only [];rw [hA 0 h0d];omega
 ·simp only [];rw [ed,hA 0 h0d,Int.toNat_natCast,← Nat.add_assoc,← Nat.add_assoc];exact h3
 ·simp only [];rw [ed,hA 0 h0d,Int.toNat_natCast,← Nat.add_assoc,← Nat.add_assoc];exact h5
 ·simp only [cS,DC.den,Lin.var_den]
  rw [if_pos (by
   rcases Nat.eq_zero_or_pos c' with h0' | h0'
   ·right;rw [e2];omega
   ·left;obtain ⟨b2,e9,_⟩:=had2 h0';rw [ea,e9];exact Int.natCast_nonneg _),e0,e1,e2]
  refine ⟨a',by simp,by simpa using k1,by simpa using k2,fun hc=>?_⟩
  have hc' : 0 < c':=by simpa using hc
  obtain ⟨b2,e9,e8,hs2⟩:=had2 hc'
  rw [ea,e9]
  simp only [Int.toNat_natCast,Int.toNat_zero,Nat.add_zero]
  exact ⟨e8,fun i hi'=>hs2 i (by simpa using hi')⟩
theorem z230l : (zTab 230).length = 5:=rfl
theorem z230d : (zTab 230)[2]? = some (.sli 275 3 1024):=rfl
theorem z33l : (zTab 33).length = 4:=rfl
theorem z33d : (zTab 33)[3]? = some (.sli 18 5 9223372036854775807):=rfl
theorem hG {E : Ent} {sg : Sig} {ρ : Vl} {w : World} {G : List Atom} {C : List Lin} (hC : Sat ρ.i C) (h : ∀ f ∈ G,f.wok sg ρ w) : Shp.Holds { n:=0,P:=[],C:=C,adr:=[],G:=G } E sg ρ (fun _=>none) w:=
 ⟨hC,fun _ h=>(by cases h),fun _ h=>(by cases h),fun _ h=>(by cases h),fun _ h=>(by cases h),fun _ h=>(by cases h),h⟩
theorem sat0 {ρ : Val} : Sat ρ []:=fun _ h=>(by cases h)
theorem g1 {sg : Sig} {ρ : Vl} {w : World} {f : Atom} (h : f.wok sg ρ w) : ∀ x ∈ [f],x.wok sg ρ w:=fun x hx=>by rw [List.mem_singleton.1 hx];exact h
theorem w217 {vs : List Value} {sg : Sig} {w : World} (h : rowTo 5 2 275 isLen vs sg w) : atomW 217 vs sg w:=by unfold atomW;rw [if_pos rfl];exact h
theorem u217 {vs : List Value} {sg : Sig} {w : World} (h : atomW 217 vs sg w) : rowTo 5 2 275 isLen vs sg w:=by unfold atomW at h;rw [if_pos rfl] at h;exact h
theorem w2170 {vs : List Value} {sg : Sig} {w : World} (h : rowAll 5 2 275 isLen vs sg w) : atomW 2170 vs sg w:=by unfold atomW;rw [if_neg (by decide)];rw [if_pos rfl];exact h
theorem u2170 {vs : List Value} {sg : Sig} {w : World} (h : atomW 2170 vs sg w) : rowAll 5 2 275 isLen vs sg w:=by unfold atomW at h;rw [if_neg (by decide)] at h;rw [if_pos rfl] at h;exact h
theorem w218 {vs : List Value} {sg : Sig} {w : World} (h : rowTo 4 3 18 atMost vs sg w) : atomW 218 vs sg w:=by unfold atomW;rw [if_neg (by decide)];rw [if_neg (by decide)];rw [if_pos rfl];exact h
theorem u218 {vs : List Value} {sg : Sig} {w : World} (h : atomW 218 vs sg w) : rowTo 4 3 18 atMost vs sg w:=by unfold atomW at h;rw [if_neg (by decide)] at h;rw [if_neg (by decide)] at h;rw [if_pos rfl] at h;exact h
theorem w2180 {vs : List Value} {sg : Sig} {w : World} (h : rowAll 4 3 18 atMost vs sg w) : atomW 2180 vs sg w:=by unfold atomW;rw [if_neg (by decide)];rw [if_neg (by decide)];rw [if_neg (by decide)];rw [if_pos rfl];exact h
theorem u2180 {vs : List Value} {sg : Sig} {w : World} (h : atomW 2180 vs sg w) : rowAll 4 3 18 atMost vs sg w:=by unfold atomW at h;rw [if_neg (by decide)] at h;rw [if_neg (by decide)] at h;rw [if_neg (by decide)] at h;rw [if_pos rfl] at h;exact h
def tl_start217 : TC:={ k:=2,pre:={ n:=5,P:=[(0,.s (.c (cS 230 0))),(1,.s (.c (.clo 169 [(3,.var 3,zTab 77)])))],C:=[],adr:=[],M:=[⟨3,⟨1,[(3,1)]⟩,.int 97 .i64 (-9223372036854775808) 9223372036854775807,cI .i64 4⟩] },W:=[],post:=[{ n:=0,P:=[],C:=[],adr:=[],G:=[⟨217,[cS 230 0,cI .i64 4,.num .i64 0]⟩] }] }
def tl_step217 : TC:={ k:=3,pre:={ n:=9,P:=[(0,.s (.c (cS 230 0))),(1,.s (.c (.clo 169 [(3,.var 3,zTab 77)]))),(2,.s (.c (cI .i64 4)))],C:=[⟨0,[(0,1)]⟩,⟨0,[(4,1)]⟩,⟨-1,[(4,-1),(1,1)]⟩,⟨0,[(2,1),(1,-1)]⟩,⟨0,[(7,1),(5,-1)]⟩,⟨0,[(7,-1),(5,1)]⟩,⟨0,[(7,1)]⟩],adr:=[],M:=[⟨3,⟨1,[(3,1)]⟩,.int 97 .i64 (-9223372036854775808) 9223372036854775807,cI .i64 5⟩,⟨0,⟨2,[(4,5),(0,1)]⟩,.sli 275 3 1024,cS 3 6⟩],G:=[⟨217,[cS 230 0,cI .i64 5,cI .i64 4]⟩] },W:=[],post:=[{ n:=0,P:=[],C:=[],adr:=[],G:=[⟨217,[cS 230 0,cI .i64 5,.int .i64 ⟨1,[(4,1)]⟩]⟩] }] }
def tl_end217 : TC:={ k:=3,pre:={ n:=6,P:=[(0,.s (.c (cS 230 0))),(1,.s (.c (.clo 169 [(3,.var 3,zTab 77)]))),(2,.s (.c (cI .i64 4)))],C:=[⟨0,[(4,1),(1,-1)]⟩,⟨0,[(4,-1),(1,1)]⟩,⟨0,[(1,1)]⟩],adr:=[],M:=[⟨3,⟨1,[(3,1)]⟩,.int 97 .i64 (-9223372036854775808) 9223372036854775807,cI .i64 5⟩],G:=[⟨217,[cS 230 0,cI .i64 5,cI .i64 4]⟩] },W:=[],post:=[{ n:=0,P:=[],C:=[],adr:=[],G:=[⟨2170,[cS 230 0,cI .i64 5]⟩] }] }
def tl_use217 : TC:={ k:=2,pre:={ n:=5,P:=[(0,.s (.c (cS 230 0))),(1,.s (.c (cI .i64 3)))],C:=[⟨0,[(0,1)]⟩,⟨0,[(3,1)]⟩,⟨-1,[(3,-1),(1,1)]⟩,⟨0,[(2,1),(1,-1)]⟩],adr:=[],G:=[⟨2170,[cS 230 0,cI .i64 4]⟩] },W:=[],post:=[{ n:=3,P:=[],C:=[⟨0,[(5,1)]⟩,⟨0,[(6,1)]⟩,⟨0,[(6,1),(4,-1)]⟩,⟨0,[(6,-1),(4,1)]⟩,⟨0,[(7,1),(6,-1)]⟩,⟨9223372036854775807,[(7,-1)]⟩],adr:=[(5,0)],M:=[⟨0,⟨2,[(3,5),(0,1)]⟩,.sli 275 3 1024,cS 3 5⟩] }] }
def tl_start218 : TC:={ k:=1,pre:={ n:=3,P:=[(0,.s (.c (cS 33 0)))],C:=[],adr:=[] },W:=[],post:=[{ n:=0,P:=[],C:=[],adr:=[],G:=[⟨218,[cS 33 0,.num .i64 2000,.num .i64 0]⟩] }] }
def tl_step218 : TC:={ k:=2,pre:={ n:=7,P:=[(0,.s (.c (cS 33 0))),(1,.s (.c (cI .i64 3)))],C:=[⟨0,[(0,1)]⟩,⟨0,[(3,1)]⟩,⟨-1,[(3,-1),(1,1)]⟩,⟨0,[(2,1),(1,-1)]⟩,⟨2000,[(5,-1)]⟩],adr:=[],M:=[⟨0,⟨3,[(3,4),(0,1)]⟩,.sli 18 5 9223372036854775807,cS 5 4⟩],G:=[⟨218,[cS 33 0,.num .i64 2000,cI .i64 3]⟩] },W:=[],post:=[{ n:=0,P:=[],C:=[],adr:=[],G:=[⟨218,[cS 33 0,.num .i64 2000,.int .i64 ⟨1,[(3,1)]⟩]⟩] }] }
def tl_end218 : TC:={ k:=2,pre:={ n:=4,P:=[(0,.s (.c (cS 33 0))),(1,.s (.c (cI .i64 3)))],C:=[⟨0,[(3,1),(1,-1)]⟩,⟨0,[(1,1)]⟩],adr:=[],G:=[⟨218,[cS 33 0,.num .i64 2000,cI .i64 3]⟩] },W:=[],post:=[{ n:=0,P:=[],C:=[],adr:=[],G:=[⟨2180,[cS 33 0,.num .i64 2000]⟩] }] }
def tl_far218 : TC:={ k:=2,pre:={ n:=4,P:=[(0,.s (.c (cS 33 0))),(1,.s (.c (cI .i64 3)))],C:=[⟨-200,[(3,1)]⟩,⟨-1,[(3,-1),(1,1)]⟩],adr:=[] },W:=[],post:=[{ n:=0,P:=[],C:=[⟨-201,[(1,1)]⟩],adr:=[] }] }
def tl_use218 : TC:={ k:=2,pre:={ n:=4,P:=[(0,.s (.c (cS 33 0))),(1,.s (.c (cI .i64 3)))],C:=[⟨0,[(0,1)]⟩,⟨0,[(3,1)]⟩,⟨-1,[(3,-1),(1,1)]⟩,⟨0,[(2,1),(1,-1)]⟩],adr:=[],G:=[⟨2180,[cS 33 0,.num .i64 2000]⟩] },W:=[],post:=[{ n:=3,P:=[],C:=[⟨0,[(4,1)]⟩,⟨0,[(5,1)]⟩,⟨2000,[(5,-1)]⟩,⟨0,[(6,1),(5,-1)]⟩,⟨9223372036854775807,[(6,-1)]⟩],adr:=[(4,0)],M:=[⟨0,⟨3,[(3,4),(0,1)]⟩,.sli 18 5 9223372036854775807,cS 5 4⟩] }] }
theorem lo_start217 : LemOk tl_start217:=⟨by decide +kernel,fun sg w ρ vs hz hl hp=>by
 obtain ⟨v,_,hv⟩:=hp.P (0,_) (List.Mem.head _)
 obtain ⟨a,n,c,rfl,_⟩:=cS_ok hv
 exact ⟨_,List.Mem.head _,ρ,Agr.refl _ _,hG sat0 (g1 ⟨[.slice a n c,.int .i64 (ρ.i 4),.int .i64 0],⟨hv,by simp [cI,DC.den,SC.ok,Lin.var_den],rfl,trivial⟩,w217 (show rowTo 5 2 275 isLen [.slice a n c,.int .i64 (ρ.i 4),.int .i64 0] sg w from ⟨Int.natCast_nonneg _,fun i hi=>by omega⟩)⟩)⟩⟩
def lem_start217 : Lem:=⟨tl_start217,lo_start217⟩
theorem lo_step217 : LemOk tl_step217:=⟨by decide +kernel,fun sg w ρ vs hz hl hp=>by
 obtain ⟨us,h1,h2⟩:=hp.G _ (List.Mem.head _)
 match us,h1,h2 with
 | [v,k,j],⟨hv,hk,hj,_⟩,h2=>
  obtain ⟨a,n,c,rfl,e1,e2,hnc,hs⟩:=cS_ok hv
  simp only [Nat.zero_add] at e1 e2
  simp only [cI,DC.den,SC.ok,Lin.var_den] at hk hj
  subst hk;subst hj
  have c0:=hp.C _ (List.Mem.head _)
  have c1:=hp.C _ (List.Mem.tail _ (List.Mem.head _))
  have c2:=hp.C _ (List.Mem.tail _ (List.Mem.tail _ (List.Mem.head _)))
  have c3:=hp.C _ (List.Mem.tail _ (List.Mem.tail _ (List.Mem.tail _ (List.Mem.head _))))
  have c4:=hp.C _ (List.Mem.tail _ (List.Mem.tail _ (List.Mem.tail _ (List.Mem.tail _ (List.Mem.head _)))))
  have c5:=hp.C _ (List.Mem.tail _ (List.Mem.tail _ (List.Mem.tail _ (List.Mem.tail _ (List.Mem.tail _ (List.Mem.head _))))))
  have c6:=hp.C _ (List.Mem.tail _ (List.Mem.tail _ (List.Mem.tail _ (List.Mem.tail _ (List.Mem.tail _ (List.Mem.tail _ (List.Mem.head _)))))))
  simp only [Lin.den,Tm.den] at c0 c1 c2 c3 c4 c5 c6
  have hm:=hp.M _ (List.Mem.tail _ (List.Mem.head _))
  obtain ⟨h5,h6,h7⟩:=hs (by omega)
  refine ⟨_,List.Mem.head _,ρ,Agr.refl _ _,hG sat0 (g1 ⟨[.slice a n c,_,.int .i64 (1 + ρ.i 4)],⟨hv,by simp [cI,DC.den,SC.ok,Lin.var_den], ?_,trivial⟩,w217 (rowTo_step (u217 h2) (by omega) (by omega) (rowAt_cell hm h6 (by omega) (by omega) (show _ = _ by simp only [Nat.reduceAdd];omega)))⟩)⟩
  simp [DC.den,SC.ok,Lin.den,Tm.den]⟩
def lem_step217 : Lem:=⟨tl_step217,lo_step217⟩
theorem lo_end217 : LemOk tl_end217:=⟨by decide +kernel,fun sg w ρ vs hz hl hp=>by
 obtain ⟨us,h1,h2⟩:=hp.G _ (List.Mem.head _)
 match us,h1,h2 with
 | [v,k,j],⟨hv,hk,hj,_⟩,h2=>
  obtain ⟨a,n,c,rfl,e1,e2,hnc,hs⟩:=cS_ok hv
  simp only [Nat.zero_add] at e1 e2
  have hj':=hj
  simp only [cI,DC.den,SC.ok,Lin.var_den] at hj'
  subst hj'
  have c0:=hp.C _ (List.Mem.head _)
  have c1:=hp.C _ (List.Mem.tail _ (List.Mem.tail _ (List.Mem.head _)))
  simp only [Lin.den,Tm.den] at c0 c1
  match k,hk,h2 with
  | .int kk k,hk,h2=>
  have h3:=u217 h2
  exact ⟨_,List.Mem.head _,ρ,Agr.refl _ _,hG sat0 (g1 ⟨[.slice a n c,.int kk k],⟨hv,hk,trivial⟩,w2170 (rowTo_all h3 (by omega))⟩)⟩⟩
def lem_end217 : Lem:=⟨tl_end217,lo_end217⟩
theorem lo_use217 : LemOk tl_use217:=⟨by decide +kernel,fun sg w ρ vs hz hl hp=>by
 obtain ⟨us,h1,h2⟩:=hp.G _ (List.Mem.head _)
 match us,h1,h2 with
 | [v,k],⟨hv,hk,_⟩,h2=>
  obtain ⟨a,n,c,rfl,e1,e2,hnc,hs⟩:=cS_ok hv
  simp only [Nat.zero_add] at e1 e2
  simp only [cI,DC.den,SC.ok,Lin.var_den] at hk
  subst hk
  have c0:=hp.C _ (List.Mem.head _)
  have c1:=hp.C _ (List.Mem.tail _ (List.Mem.head _))
  have c2:=hp.C _ (List.Mem.tail _ (List.Mem.tail _ (List.Mem.head _)))
  have c3:=hp.C _ (List.Mem.tail _ (List.Mem.tail _ (List.Mem.tail _ (List.Mem.head _))))
  simp only [Lin.den,Tm.den] at c0 c1 c2 c3
  have h3:=u2170 h2
  obtain ⟨h5,h6,h7⟩:=hs (by omega)
  obtain ⟨ρ',m,ag,k1,k2,k3,k4,k5,k6,k9⟩:=cell_rowAt (vj:=3) (vd:=5) hz (h3 (ρ.i 3).toNat (by omega)) h6 h5 (by omega) (by omega) z230d z230l (by decide +kernel) (h7 _ (by omega)) (by omega) (by omega)
  simp only [isLen] at k4
  refine ⟨_,List.Mem.head _,ρ',ag,fun l hl=>?_,fun _ h=>(by cases h),fun m hm=>by rw [List.mem_singleton.1 hm];exact k1,fun p hp=>by rw [List.mem_singleton.1 hp];exact k9,fun p hp h=>by rw [List.mem_singleton.1 hp] at h;exact absurd h (by decide),fun _ h=>(by cases h),fun _ h=>(by cases h)⟩
  simp only [Nat.reduceAdd,maxLen] at k2 k3 k5 k6
  have k7:=ag.i 4 (by omega)
  rcases List.mem_cons.1 hl with rfl | hl
  ·simp only [Lin.den,Tm.den];omega
  rcases List.mem_cons.1 hl with rfl | hl
  ·simp only [Lin.den,Tm.den];omega
  rcases List.mem_cons.1 hl with rfl | hl
  ·simp only [Lin.den,Tm.den];omega
  rcases List.mem_cons.1 hl with rfl | hl
  ·simp only [Lin.den,Tm.den];omega
  rcases List.mem_cons.1 hl with rfl | hl
  ·simp only [Lin.den,Tm.den];omega
  rcases List.mem_cons.1 hl with rfl | hl
  ·simp only [Lin.den,Tm.den];omega
  ·cases hl⟩
def lem_use217 : Lem:=⟨tl_use217,lo_use217⟩
theorem lo_start218 : LemOk tl_start218:=⟨by decide +kernel,fun sg w ρ vs hz hl hp=>by
 obtain ⟨v,_,hv⟩:=hp.P (0,_) (List.Mem.head _)
 obtain ⟨a,n,c,rfl,_⟩:=cS_ok hv
 exact ⟨_,List.Mem.head _,ρ,Agr.refl _ _,hG sat0 (g1 ⟨[.slice a n c,.int .i64 2000,.int .i64 0],⟨hv,rfl,rfl,trivial⟩,w218 (show rowTo 4 3 18 atMost [.slice a n c,.int .i64 2000,.int .i64 0] sg w from ⟨Int.natCast_nonneg _,fun i hi=>by omega⟩)⟩)⟩⟩
def lem_start218 : Lem:=⟨tl_start218,lo_start218⟩
theorem lo_step218 : LemOk tl_step218:=⟨by decide +kernel,fun sg w ρ vs hz hl hp=>by
 obtain ⟨us,h1,h2⟩:=hp.G _ (List.Mem.head _)
 match us,h1,h2 with
 | [v,k,j],⟨hv,hk,hj,_⟩,h2=>
  obtain ⟨a,n,c,rfl,e1,e2,hnc,hs⟩:=cS_ok hv
  simp only [Nat.zero_add] at e1 e2
  simp only [cI,DC.den,SC.ok,Lin.var_den] at hk hj
  subst hk;subst hj
  have c0:=hp.C _ (List.Mem.head _)
  have c1:=hp.C _ (List.Mem.tail _ (List.Mem.head _))
  have c2:=hp.C _ (List.Mem.tail _ (List.Mem.tail _ (List.Mem.head _)))
  have c3:=hp.C _ (List.Mem.tail _ (List.Mem.tail _ (List.Mem.tail _ (List.Mem.head _))))
  have c4:=hp.C _ (List.Mem.tail _ (List.Mem.tail _ (List.Mem.tail _ (List.Mem.tail _ (List.Mem.head _)))))
  simp only [Lin.den,Tm.den] at c0 c1 c2 c3 c4
  have hm:=hp.M _ (List.Mem.head _)
  obtain ⟨h5,h6,h7⟩:=hs (by omega)
  refine ⟨_,List.Mem.head _,ρ,Agr.refl _ _,hG sat0 (g1 ⟨[.slice a n c,_,.int .i64 (1 + ρ.i 3)],⟨hv,rfl, ?_,trivial⟩,w218 (rowTo_step (u218 h2) (by omega) (by omega) (rowAt_cell hm h6 (by omega) (by omega) (show _ <= _ by simp only [Nat.reduceAdd];omega)))⟩)⟩
  simp [DC.den,SC.ok,Lin.den,Tm.den]⟩
def lem_step218 : Lem:=⟨tl_step218,lo_step218⟩
theorem lo_end218 : LemOk tl_end218:=⟨by decide +kernel,fun sg w ρ vs hz hl hp=>by
 obtain ⟨us,h1,h2⟩:=hp.G _ (List.Mem.head _)
 match us,h1,h2 with
 | [v,k,j],⟨hv,hk,hj,_⟩,h2=>
  obtain ⟨a,n,c,rfl,e1,e2,hnc,hs⟩:=cS_ok hv
  simp only [Nat.zero_add] at e1 e2
  have hj':=hj
  simp only [cI,DC.den,SC.ok,Lin.var_den] at hj'
  subst hj'
  have c0:=hp.C _ (List.Mem.head _)
  have c1:=hp.C _ (List.Mem.tail _ (List.Mem.head _))
  simp only [Lin.den,Tm.den] at c0 c1
  match k,hk,h2 with
  | .int kk k,hk,h2=>
  have h3:=u218 h2
  exact ⟨_,List.Mem.head _,ρ,Agr.refl _ _,hG sat0 (g1 ⟨[.slice a n c,.int kk k],⟨hv,hk,trivial⟩,w2180 (rowTo_all h3 (by omega))⟩)⟩⟩
def lem_end218 : Lem:=⟨tl_end218,lo_end218⟩
theorem lo_use218 : LemOk tl_use218:=⟨by decide +kernel,fun sg w ρ vs hz hl hp=>by
 obtain ⟨us,h1,h2⟩:=hp.G _ (List.Mem.head _)
 match us,h1,h2 with
 | [v,k],⟨hv,hk,_⟩,h2=>
  obtain ⟨a,n,c,rfl,e1,e2,hnc,hs⟩:=cS_ok hv
  simp only [Nat.zero_add] at e1 e2
  simp only [cI,DC.den,SC.ok,Lin.var_den] at hk
  subst hk
  have c0:=hp.C _ (List.Mem.head _)
  have c1:=hp.C _ (List.Mem.tail _ (List.Mem.head _))
  have c2:=hp.C _ (List.Mem.tail _ (List.Mem.tail _ (List.Mem.head _)))
  have c3:=hp.C _ (List.Mem.tail _ (List.Mem.tail _ (List.Mem.tail _ (List.Mem.head _))))
  simp only [Lin.den,Tm.den] at c0 c1 c2 c3
  have h3:=u2180 h2
  obtain ⟨h5,h6,h7⟩:=hs (by omega)
  obtain ⟨ρ',m,ag,k1,k2,k3,k4,k5,k6,k9⟩:=cell_rowAt (vj:=3) (vd:=4) hz (h3 (ρ.i 3).toNat (by omega)) h6 h5 (by omega) (by omega) z33d z33l (by decide +kernel) (h7 _ (by omega)) (by omega) (by omega)
  simp only [atMost] at k4
  refine ⟨_,List.Mem.head _,ρ',ag,fun l hl=>?_,fun _ h=>(by cases h),fun m hm=>by rw [List.mem_singleton.1 hm];exact k1,fun p hp=>by rw [List.mem_singleton.1 hp];exact k9,fun p hp h=>by rw [List.mem_singleton.1 hp] at h;exact absurd h (by decide),fun _ h=>(by cases h),fun _ h=>(by cases h)⟩
  simp only [Nat.reduceAdd,maxLen] at k2 k3 k5 k6
  rcases List.mem_cons.1 hl with rfl | hl
  ·simp only [Lin.den,Tm.den];omega
  rcases List.mem_cons.1 hl with rfl | hl
  ·simp only [Lin.den,Tm.den];omega
  rcases List.mem_cons.1 hl with rfl | hl
  ·simp only [Lin.den,Tm.den];omega
  rcases List.mem_cons.1 hl with rfl | hl
  ·simp only [Lin.den,Tm.den];omega
  rcases List.mem_cons.1 hl with rfl | hl
  ·simp only [Lin.den,Tm.den];omega
  ·cases hl⟩
def lem_use218 : Lem:=⟨tl_use218,lo_use218⟩
theorem lo_far218 : LemOk tl_far218:=⟨by decide +kernel,fun sg w ρ vs hz hl hp=>by
 have c0:=hp.C _ (List.Mem.head _)
 have c1:=hp.C _ (List.Mem.tail _ (List.Mem.head _))
 simp only [Lin.den,Tm.den] at c0 c1
 refine ⟨_,List.Mem.head _,ρ,Agr.refl _ _,hG (fun l hl=>?_) (fun _ h=>(by cases h))⟩
 rw [List.mem_singleton.1 hl]
 simp only [Lin.den,Tm.den];omega⟩
def lem_far218 : Lem:=⟨tl_far218,lo_far218⟩
end
end VtTop
namespace VtTop
noncomputable section
open Go Zx Zx.Zr Vx
set_option maxRecDepth 100000
theorem HDo.eq {r n : RV} (h : HDo r n) : REq r n:=by
 rcases h with rfl | ⟨a,now,rfl⟩
 ·exact ⟨rfl,rfl,rfl,rfl,rfl⟩
 ·unfold aliveRm
  split <;> exact ⟨rfl,rfl,rfl,rfl,rfl⟩
theorem take22 (ρ : Vl) (v : Nat) : ((rC v).take 22).map (valD ρ) = (roomV ρ v).u.map Value.bool ++ ((roomV ρ v).a.map (Value.int .i64) ++ [.int .i64 (roomV ρ v).k.ep,.bool (roomV ρ v).k.op,.int .i64 (roomV ρ v).k.nx,.int .i64 (roomV ρ v).k.nd,.int .i64 (roomV ρ v).k.hv,.int .i64 (roomV ρ v).k.bn]):=by
 simp [rC,rnB,rnI,roomV,valD,cB,cI,Lin.var_den]
theorem drop30 (ρ : Vl) (v : Nat) : ((rC v).drop 30).map (valD ρ) = (roomV ρ v).c.map (Value.int .i64) ++ [.bool (roomV ρ v).o]:=by
 simp [rC,rnB,rnI,roomV,valD,cB,cI,Lin.var_den]
theorem get300 {ρ : Vl} {v u : Nat} (h : atomV 300 ((rC v ++ rC u).map (valD ρ))) : HDo (roomV ρ v) (roomV ρ u):=by
 have h : HDo (rvAt _ 0) (rvAt _ 39):=h
 have e1 : rvAt ((rC v ++ rC u).map (valD ρ)) 0 = roomV ρ v:=rvAt_mid (pre:=[]) (post:=rC u) (v:=v) rfl rfl
 have e2 : rvAt ((rC v ++ rC u).map (valD ρ)) 39 = roomV ρ u:=rvAt_mid (pre:=rC v) (post:=[]) (v:=u) (by simp) (by simp [rC,rnB,rnI])
 rw [e1,e2] at h
 exact h
theorem lt4 {p : Nat -> Prop} (h0 : p 0) (h1 : p 1) (h2 : p 2) (h3 : p 3) : ∀ k,k < 4 -> p k
 | 0,_=>h0
 | 1,_=>h1
 | 2,_=>h2
 | 3,_=>h3
theorem lo_s300 : ∀ k,k < 4 -> LemOk (tlS300 k):=fun k hk=>by
 refine LemOk.genM ?_ rfl ?_ ?_ fun ρ hC hF=>?_
 ·revert k;exact lt4 (by decide +kernel) (by decide +kernel) (by decide +kernel) (by decide +kernel)
 ·revert k;exact lt4 (by decide +kernel) (by decide +kernel) (by decide +kernel) (by decide +kernel)
 ·revert k;exact lt4 (by decide +kernel) (by decide +kernel) (by decide +kernel) (by decide +kernel)
 ·obtain ⟨e1,e2,e3,e4,e5⟩:=HDo.eq (get300 (hF _ List.mem_cons_self))
  refine ⟨_,List.mem_cons_self,ρ,Agr.refl _ _,fun l hl=>(by cases hl),all_nil,Tells.app (Tells.right (tells_pre ?_)) (Tells.right (tells_at (k:=30) ?_))⟩
  ·have e : ((rC 2).take 22).length = 22:=by simp [rC,rnB,rnI]
   rw [e,take22,take22,e1,e2,e3]
  ·have e : ((rC 41).drop 30).take ((rC 2).drop 30).length = (rC 41).drop 30:=by simp [rC,rnB,rnI]
   rw [e,drop30,drop30,e4,e5]
def lem_s300 : Nat -> Lem
 | 0=>⟨tlS300 0,lo_s300 0 (by decide)⟩
 | 1=>⟨tlS300 1,lo_s300 1 (by decide)⟩
 | 2=>⟨tlS300 2,lo_s300 2 (by decide)⟩
 | _=>⟨tlS300 3,lo_s300 3 (by decide)⟩
theorem z33l' : (zTab 33).length = 4:=rfl
theorem z33k : ∃ g lo hi,(zTab 33)[0]? = some (.int g .i64 lo hi):=⟨_,_,_,rfl⟩
theorem z33g {g : Nat} {lo hi : Int} (h : (zTab 33)[0]? = some (.int g .i64 lo hi)) : (zTab 33).getD 0 (.bool 0) = .int g .i64 lo hi:=by rw [List.getD_eq_getElem?_getD,h];rfl
theorem lo_kind : LemOk tlKind:=⟨by decide +kernel,fun sg w ρ vs hz hl hp=>by
 obtain ⟨v,_,hv⟩:=hp.P (0,_) (List.Mem.head _)
 obtain ⟨a,n,c,rfl,e1,e2,hnc,hs⟩:=cS_ok hv
 simp only [Nat.zero_add] at e1 e2
 have c0:=hp.C _ (List.Mem.head _)
 have c1:=hp.C _ (List.Mem.tail _ (List.Mem.head _))
 have c2:=hp.C _ (List.Mem.tail _ (List.Mem.tail _ (List.Mem.head _)))
 have c3:=hp.C _ (List.Mem.tail _ (List.Mem.tail _ (List.Mem.tail _ (List.Mem.head _))))
 simp only [Lin.den,Tm.den] at c0 c1 c2 c3
 obtain ⟨h5,h6,h7⟩:=hs (by omega)
 obtain ⟨g,lo,hi,hk⟩:=z33k
 have hsg:=h7 (ρ.i 3).toNat (by omega) 0 _ hk
 obtain ⟨cur,t,x,g1,g2,⟨z,rfl,_⟩,_⟩:=hz _ _ _ hsg
 rw [z33l'] at g2 hsg
 have e : ((0 : Int) + ((4 : Int) * ρ.i 3 + (1 * ρ.i 0 + 0))).toNat = (ρ.i 0).toNat + (ρ.i 3).toNat * 4 + 0:=by omega
 have cell : ∀ (ρ' : Vl) (d : DC),Agr 4 ρ ρ' -> (d.den ρ').ok (mu sg) (.int .i64 z) -> Cell.ok sg ρ' w (kC d):=fun ρ' d ag hd=>by
  have i0:=ag.i 0 (by omega)
  have i3:=ag.i 3 (by omega)
  have a0:=ag.a 0 (by omega)
  refine ⟨?_,(ρ.a 0).1.toNat,t,cur,.int .i64 z, ?_,g1, ?_, ?_,hd⟩
  ·simp only [kC,Lin.den,Tm.den,← i0,← i3];omega
  ·simp only [kC,← a0];omega
  ·simp only [kC,Lin.den,Tm.den,← i0,← i3,← a0,e]
   rw [← g2];congr 1;omega
  ·simp only [kC,Lin.den,Tm.den,← i0,← i3,← a0,e]
   rw [z33g hk,← hsg];congr 1;omega
 have one : ∀ k : Int,z = k -> (kN k).Holds (tlKind.ent sg w ρ) sg ρ (fun _=>none) w:=fun k hk=>⟨sat0,fun _ h=>(by cases h),fun m hm=>(by
  rw [List.mem_singleton.1 hm]
  exact cell ρ _ (Agr.refl _ _) (by rw [hk];rfl)),fun _ h=>(by cases h),fun _ h=>(by cases h),fun _ h=>(by cases h),fun _ h=>(by cases h)⟩
 have hA : Agr 4 ρ (setL ρ 4 [z]):=setL_agr ρ 4 _
 have h4 : (setL ρ 4 [z]).i 4 = z:=setL_at0 ρ 4 _
 have two : ∀ l : Lin,0 <= l.den (setL ρ 4 [z]).i -> (evX l).Holds (tlKind.ent sg w ρ) sg (setL ρ 4 [z]) (fun _=>none) w:=fun l hl=>⟨fun x hx=>(by rw [List.mem_singleton.1 hx];exact hl),fun _ h=>(by cases h),fun m hm=>(by
  rw [List.mem_singleton.1 hm]
  exact cell _ _ hA (by simp only [cI,DC.den,SC.ok,Lin.var_den,h4])),fun _ h=>(by cases h),fun _ h=>(by cases h),fun _ h=>(by cases h),fun _ h=>(by cases h)⟩
 by_cases z1 : z = 1
 ·exact ⟨_,List.Mem.head _,ρ,Agr.refl _ _,one 1 z1⟩
 by_cases z2 : z = 2
 ·exact ⟨_,List.Mem.tail _ (List.Mem.head _),ρ,Agr.refl _ _,one 2 z2⟩
 by_cases z3 : z = 3
 ·exact ⟨_,List.Mem.tail _ (List.Mem.tail _ (List.Mem.head _)),ρ,Agr.refl _ _,one 3 z3⟩
 by_cases z4 : z = 4
 ·exact ⟨_,List.Mem.tail _ (List.Mem.tail _ (List.Mem.tail _ (List.Mem.head _))),ρ,Agr.refl _ _,one 4 z4⟩
 by_cases z5 : z = 5
 ·exact ⟨_,List.Mem.tail _ (List.Mem.tail _ (List.Mem.tail _ (List.Mem.tail _ (List.Mem.head _)))),ρ,Agr.refl _ _,one 5 z5⟩
 by_cases z0 : z <= 0
 ·exact ⟨_,List.Mem.tail _ (List.Mem.tail _ (List.Mem.tail _ (List.Mem.tail _ (List.Mem.tail _ (List.Mem.head _))))),_,hA,two _ (by simp only [Lin.den,Tm.den,h4];omega)⟩
 ·exact ⟨_,List.Mem.tail _ (List.Mem.tail _ (List.Mem.tail _ (List.Mem.tail _ (List.Mem.tail _ (List.Mem.tail _ (List.Mem.head _)))))),_,hA,two _ (by simp only [Lin.den,Tm.den,h4];omega)⟩⟩
def lem_kind : Lem:=⟨tlKind,lo_kind⟩
theorem z33k1 : ∃ g lo hi,(zTab 33)[1]? = some (.int g .i64 lo hi):=⟨_,_,_,rfl⟩
theorem z33g1 {g : Nat} {lo hi : Int} (h : (zTab 33)[1]? = some (.int g .i64 lo hi)) : (zTab 33).getD 1 (.bool 0) = .int g .i64 lo hi:=by rw [List.getD_eq_getElem?_getD,h];rfl
theorem lo_addr : LemOk tlAddr:=⟨by decide +kernel,fun sg w ρ vs hz hl hp=>by
 obtain ⟨v,_,hv⟩:=hp.P (0,_) (List.Mem.head _)
 obtain ⟨a,n,c,rfl,e1,e2,hnc,hs⟩:=cS_ok hv
 simp only [Nat.zero_add] at e1 e2
 have c0:=hp.C _ (List.Mem.head _)
 have c1:=hp.C _ (List.Mem.tail _ (List.Mem.head _))
 have c2:=hp.C _ (List.Mem.tail _ (List.Mem.tail _ (List.Mem.head _)))
 have c3:=hp.C _ (List.Mem.tail _ (List.Mem.tail _ (List.Mem.tail _ (List.Mem.head _))))
 simp only [Lin.den,Tm.den] at c0 c1 c2 c3
 obtain ⟨h5,h6,h7⟩:=hs (by omega)
 obtain ⟨g,lo,hi,hk⟩:=z33k1
 have hsg:=h7 (ρ.i 3).toNat (by omega) 1 _ hk
 obtain ⟨cur,t,x,g1,g2,⟨z,rfl,_⟩,_⟩:=hz _ _ _ hsg
 rw [z33l'] at g2 hsg
 have e : ((1 : Int) + ((4 : Int) * ρ.i 3 + (1 * ρ.i 0 + 0))).toNat = (ρ.i 0).toNat + (ρ.i 3).toNat * 4 + 1:=by omega
 have hA : Agr 4 ρ (setL ρ 4 [z]):=setL_agr ρ 4 _
 have h4 : (setL ρ 4 [z]).i 4 = z:=setL_at0 ρ 4 _
 have i0:=hA.i 0 (by omega)
 have i3:=hA.i 3 (by omega)
 have a0:=hA.a 0 (by omega)
 refine ⟨_,List.Mem.head _,_,hA,sat0,fun _ h=>(by cases h),fun m hm=>?_,fun _ h=>(by cases h),fun _ h=>(by cases h),fun _ h=>(by cases h),fun _ h=>(by cases h)⟩
 rw [List.mem_singleton.1 hm]
 refine ⟨?_,(ρ.a 0).1.toNat,t,cur,.int .i64 z, ?_,g1, ?_, ?_, ?_⟩
 ·simp only [evC,Lin.den,Tm.den,← i0,← i3];omega
 ·simp only [evC,← a0];omega
 ·simp only [evC,Lin.den,Tm.den,← i0,← i3,← a0,e]
  rw [← g2];congr 1;omega
 ·simp only [evC,Lin.den,Tm.den,← i0,← i3,← a0,e]
  rw [z33g1 hk,← hsg];congr 1;omega
 ·simp only [evC,cI,DC.den,SC.ok,Lin.var_den,h4]⟩
def lem_addr : Lem:=⟨tlAddr,lo_addr⟩
theorem lo_wh3 : LemOk tlWh3:=LemOk.gen (by decide +kernel) rfl (by decide +kernel) fun ρ _ _=>by
 have no : ∀ k,¬atomV 611 ((fW 611 k).xs.map (valD ρ)) -> atomV 610 ((fW 610 k).xs.map (valD ρ)):=fun k h=>Bool.eq_false_iff.2 h
 by_cases h0 : atomV 611 ((fW 611 0).xs.map (valD ρ))
 ·exact ⟨_,List.Mem.head _,sat0,all_cons h0 all_nil⟩
 by_cases h1 : atomV 611 ((fW 611 1).xs.map (valD ρ))
 ·exact ⟨_,List.Mem.tail _ (List.Mem.head _),sat0,all_cons (no 0 h0) (all_cons h1 all_nil)⟩
 by_cases h2 : atomV 611 ((fW 611 2).xs.map (valD ρ))
 ·exact ⟨_,List.Mem.tail _ (List.Mem.tail _ (List.Mem.head _)),sat0,all_cons (no 0 h0) (all_cons (no 1 h1) (all_cons h2 all_nil))⟩
 by_cases h3 : atomV 611 ((fW 611 3).xs.map (valD ρ))
 ·exact ⟨_,List.Mem.tail _ (List.Mem.tail _ (List.Mem.tail _ (List.Mem.head _))),sat0,all_cons (no 0 h0) (all_cons (no 1 h1) (all_cons (no 2 h2) (all_cons h3 all_nil)))⟩
 ·exact ⟨_,List.Mem.tail _ (List.Mem.tail _ (List.Mem.tail _ (List.Mem.tail _ (List.Mem.head _)))),sat0,all_cons (no 0 h0) (all_cons (no 1 h1) (all_cons (no 2 h2) (all_cons (no 3 h3) all_nil)))⟩
def lem_wh3 : Lem:=⟨tlWh3,lo_wh3⟩
theorem lt8 {p : Nat -> Prop} (h0 : p 0) (h1 : p 1) (h2 : p 2) (h3 : p 3) (h4 : p 4) (h5 : p 5) (h6 : p 6) (h7 : p 7) : ∀ k,k < 8 -> p k
 | 0,_=>h0
 | 1,_=>h1
 | 2,_=>h2
 | 3,_=>h3
 | 4,_=>h4
 | 5,_=>h5
 | 6,_=>h6
 | 7,_=>h7
theorem b18 (ρ : Vl) (v a : Nat) (x : DC) : ∀ i,i < 8 -> bAt ((r18 v a x).map (valD ρ)) i = decide (ρ.i (v + i) = 1):=lt8 (valB_cB ρ v) (valB_cB ρ (v + 1)) (valB_cB ρ (v + 2)) (valB_cB ρ (v + 3)) (valB_cB ρ (v + 4)) (valB_cB ρ (v + 5)) (valB_cB ρ (v + 6)) (valB_cB ρ (v + 7))
theorem a18 (ρ : Vl) (v a : Nat) (x : DC) : ∀ i,i < 8 -> iAt ((r18 v a x).map (valD ρ)) (8 + i) = ρ.i (v + 8 + i):=lt8 (valI_cI ρ (v + 8)) (valI_cI ρ (v + 8 + 1)) (valI_cI ρ (v + 8 + 2)) (valI_cI ρ (v + 8 + 3)) (valI_cI ρ (v + 8 + 4)) (valI_cI ρ (v + 8 + 5)) (valI_cI ρ (v + 8 + 6)) (valI_cI ρ (v + 8 + 7))
theorem x18 (ρ : Vl) (v a : Nat) (x : DC) : iAt ((r18 v a x).map (valD ρ)) 16 = ρ.i a:=valI_cI ρ a
theorem b17 (ρ : Vl) (v a : Nat) : ∀ i,i < 8 -> bAt ((r17 v a).map (valD ρ)) i = decide (ρ.i (v + i) = 1):=lt8 (valB_cB ρ v) (valB_cB ρ (v + 1)) (valB_cB ρ (v + 2)) (valB_cB ρ (v + 3)) (valB_cB ρ (v + 4)) (valB_cB ρ (v + 5)) (valB_cB ρ (v + 6)) (valB_cB ρ (v + 7))
theorem a17 (ρ : Vl) (v a : Nat) : ∀ i,i < 8 -> iAt ((r17 v a).map (valD ρ)) (8 + i) = ρ.i (v + 8 + i):=lt8 (valI_cI ρ (v + 8)) (valI_cI ρ (v + 8 + 1)) (valI_cI ρ (v + 8 + 2)) (valI_cI ρ (v + 8 + 3)) (valI_cI ρ (v + 8 + 4)) (valI_cI ρ (v + 8 + 5)) (valI_cI ρ (v + 8 + 6)) (valI_cI ρ (v + 8 + 7))
theorem x17 (ρ : Vl) (v a : Nat) : iAt ((r17 v a).map (valD ρ)) 16 = ρ.i a:=valI_cI ρ a
def noneTo (ρ : Vl) (v a : Nat) (n : Int) : Prop:=∀ i : Nat,(i : Int) < n -> i < 8 -> ¬(ρ.i (v + i) = 1 /\ ρ.i (v + 8 + i) = ρ.i a)
theorem get612 {ρ : Vl} {v a : Nat} {x : DC} (h : atomV 612 ((r18 v a x).map (valD ρ))) : noneTo ρ v a (valI (valD ρ x)):=fun i hi h8 hh=>by
 have h : ∀ i : Nat,(i : Int) < iAt _ 17 -> ¬(bAt _ i = true /\ iAt _ (8 + i) = iAt _ 16):=h
 refine h i hi ⟨?_, ?_⟩
 ·rw [b18 ρ v a x i h8];exact decide_eq_true hh.1
 ·rw [a18 ρ v a x i h8,x18];exact hh.2
theorem put612 {ρ : Vl} {v a : Nat} {x : DC} (h8 : valI (valD ρ x) <= 8) (h : noneTo ρ v a (valI (valD ρ x))) : atomV 612 ((r18 v a x).map (valD ρ)):=by
 show ∀ i : Nat,(i : Int) < valI (valD ρ x) -> ¬(bAt _ i = true /\ iAt _ (8 + i) = iAt _ 16)
 intro i hi
 have i8 : i < 8:=by omega
 rw [b18 ρ v a x i i8,a18 ρ v a x i i8,x18]
 exact fun hh=>h i hi i8 ⟨of_decide_eq_true hh.1,hh.2⟩
theorem lo_b612 : LemOk tlB612:=LemOk.gen (by decide +kernel) rfl (by decide +kernel) fun ρ hC hF=>⟨_,List.mem_cons_self,sat0,all_cons (put612 (show (0 : Int) <= 8 by decide) fun i hi _=>absurd hi (show ¬((i : Int) < 0) by omega)) all_nil⟩
def lem_b612 : Lem:=⟨tlB612,lo_b612⟩
theorem rmG_mem {b : Nat} : ∀ {xs : List DC} {cs : List CS} {off : Int} {j : Nat} {c : CS} {x : DC},cs[j]? = some c -> xs[j]? = some x -> (⟨b,⟨off + (j : Int),[(b,1)]⟩,c,x⟩ : Cell) ∈ rmG b off cs xs
 | [],_,_,_,_,_,_,h=>by simp at h
 | _ :: _,[],_,_,_,_,h,_=>by simp at h
 | x :: xs,c :: cs,off,0,_,_,h,k=>by
  simp only [List.getElem?_cons_zero,Option.some.injEq] at h k
  subst h;subst k
  simp only [rmG,gI_eq,Int.natCast_zero,Int.add_zero]
  exact List.mem_cons_self
 | x :: xs,c :: cs,off,j + 1,_,_,h,k=>by
  simp only [List.getElem?_cons_succ] at h k
  have:=rmG_mem (b:=b) (off:=off + 1) h k
  rw [show off + 1 + (j : Int) = off + ((j + 1 : Nat) : Int) by omega] at this
  simp only [rmG,gI_eq]
  exact List.mem_cons_of_mem _ this
theorem z49u : ∀ j,j < 8 -> (zTab 49)[j]? = some ((zTab 49).getD 0 (.bool 0)):=lt8 rfl rfl rfl rfl rfl rfl rfl rfl
theorem z49a : ∀ j,j < 8 -> (zTab 49)[8 + j]? = some ((zTab 49).getD 8 (.bool 0)):=lt8 rfl rfl rfl rfl rfl rfl rfl rfl
theorem rT16u (v : Nat) : ∀ j,j < 8 -> (rT16 v)[j]? = some (cB (v + j)):=lt8 rfl rfl rfl rfl rfl rfl rfl rfl
theorem rT16a (v : Nat) : ∀ j,j < 8 -> (rT16 v)[8 + j]? = some (cI .i64 (v + 8 + j)):=lt8 rfl rfl rfl rfl rfl rfl rfl rfl
theorem lo_slot : LemOk tlSlot:=by
 refine LemOk.genM (by decide +kernel) rfl (by decide +kernel) (by decide +kernel) fun ρ hC hF=>?_
 have c0:=hC _ (List.Mem.head _)
 have c1:=hC _ (List.Mem.tail _ (List.Mem.head _))
 simp only [Lin.den,Tm.den] at c0 c1
 obtain ⟨j,hj,hi⟩ : ∃ j : Nat,j < 8 /\ ρ.i 2 = (j : Int):=⟨(ρ.i 2).toNat,by omega,by omega⟩
 have h1 : noneTo ρ 3 1 (valI (valD ρ (cI .i64 2))):=get612 (hF _ List.mem_cons_self)
 rw [valI_cI] at h1
 have offE : ∀ (ρ' : Vl) (k : Int),Agr 19 ρ ρ' -> (⟨k,[(2,1),(0,1)]⟩ : Lin).den ρ'.i = (⟨0 + ((j : Int) + k),[(0,1)]⟩ : Lin).den ρ.i:=fun ρ' k ag=>by
  have i0:=ag.i 0 (by omega)
  have i2:=ag.i 2 (by omega)
  simp only [Lin.den,Tm.den,← i0,← i2,hi];omega
 have hU : ∀ (ρ' : Vl) (x : DC),Agr 19 ρ ρ' -> valD ρ (cB (3 + j)) = valD ρ' x -> Tells ρ ρ' tlSlot.pre.M [uJ x]:=fun ρ' x ag hx m hm=>by
  rw [List.mem_singleton.1 hm]
  refine ⟨_,rmG_mem (z49u j hj) (rT16u 3 j hj),rfl,.inr ?_,rfl,hx⟩
  rw [show (uJ x).o = ⟨0,[(2,1),(0,1)]⟩ from rfl,offE ρ' 0 ag,Int.add_zero]
 have hA : ∀ (ρ' : Vl) (x : DC),Agr 19 ρ ρ' -> valD ρ (cI .i64 (3 + 8 + j)) = valD ρ' x -> Tells ρ ρ' tlSlot.pre.M [aJ x]:=fun ρ' x ag hx m hm=>by
  rw [List.mem_singleton.1 hm]
  refine ⟨_,rmG_mem (z49a j hj) (rT16a 3 j hj),rfl,.inr ?_,rfl,hx⟩
  rw [show (aJ x).o = ⟨8,[(2,1),(0,1)]⟩ from rfl,offE ρ' 8 ag]
  rw [show ((8 + j : Nat) : Int) = (j : Int) + 8 by omega]
 have hN : ∀ ρ' : Vl,Agr 19 ρ ρ' -> ¬(ρ.i (3 + j) = 1 /\ ρ.i (3 + 8 + j) = ρ.i 1) -> atomV 612 ((r18 3 1 (.int .i64 ⟨1,[(2,1)]⟩)).map (valD ρ')):=fun ρ' ag hn=>by
  have e : valI (valD ρ' (.int .i64 ⟨1,[(2,1)]⟩)) = (j : Int) + 1:=by
   have i2:=ag.i 2 (by omega)
   simp only [valI,valD,Lin.den,Tm.den,← i2,hi];omega
  refine put612 (by rw [e];omega) ?_
  rw [e]
  intro i hi' h8 hh
  rw [← ag.i (3 + i) (by omega),← ag.i (3 + 8 + i) (by omega),← ag.i 1 (by omega)] at hh
  rcases Nat.lt_or_ge i j with h | h
  ·exact h1 i (by omega) h8 hh
  ·have : i = j:=by omega
   subst this
   exact hn hh
 have ar:=Agr.refl 19 ρ
 have ah:=setL_agr ρ 19 [ρ.i (3 + 8 + j)]
 have hx : (setL ρ 19 [ρ.i (3 + 8 + j)]).i 19 = ρ.i (3 + 8 + j):=setL_at0 ρ 19 _
 have hx1 : (setL ρ 19 [ρ.i (3 + 8 + j)]).i 1 = ρ.i 1:=(ah.i 1 (by omega)).symm
 have vB : ∀ b : Bool,decide (ρ.i (3 + j) = 1) = b -> ∀ ρ' : Vl,valD ρ (cB (3 + j)) = valD ρ' (.tru b):=fun b hb ρ'=>by
  subst hb;simp [valD,cB]
 have vI : valD ρ (cI .i64 (3 + 8 + j)) = valD (setL ρ 19 [ρ.i (3 + 8 + j)]) (cI .i64 19):=by
  simp only [valD,cI,Lin.var_den,hx]
 by_cases u : ρ.i (3 + j) = 1
 ·by_cases e : ρ.i (3 + 8 + j) = ρ.i 1
  ·refine ⟨_,List.Mem.tail _ (List.Mem.tail _ (List.Mem.tail _ (List.Mem.head _))),ρ,ar,sat0,all_nil, ?_⟩
   refine Tells.app (A:=[_]) (hU ρ _ ar (vB true (decide_eq_true u) ρ)) (hA ρ _ ar ?_)
   simp only [valD,cI,Lin.var_den,e]
  ·have hn:=hN _ ah fun hh=>e hh.2
   rcases Int.lt_or_gt_of_ne e with l | l
   ·refine ⟨_,List.Mem.tail _ (List.Mem.head _),_,ah,fun x hx'=>?_,all_cons hn all_nil,Tells.app (A:=[_]) (hU _ _ ah (vB true (decide_eq_true u) _)) (hA _ _ ah vI)⟩
    rw [List.mem_singleton.1 hx']
    simp only [Lin.den,Tm.den,hx,hx1];omega
   ·refine ⟨_,List.Mem.tail _ (List.Mem.tail _ (List.Mem.head _)),_,ah,fun x hx'=>?_,all_cons hn all_nil,Tells.app (A:=[_]) (hU _ _ ah (vB true (decide_eq_true u) _)) (hA _ _ ah vI)⟩
    rw [List.mem_singleton.1 hx']
    simp only [Lin.den,Tm.den,hx,hx1];omega
 ·exact ⟨_,List.Mem.head _,ρ,ar,sat0,all_cons (hN ρ ar fun hh=>u hh.1) all_nil,hU ρ _ ar (vB false (decide_eq_false u) ρ)⟩
def lem_slot : Lem:=⟨tlSlot,lo_slot⟩
theorem findGo_none (x : Int) : ∀ (U : List Bool) (A : List Int) (k : Int),(∀ i,¬(U.getD i false = true /\ A.getD i 0 = x)) -> (findGo k U A x).2 = false
 | [],A,k,h=>by cases A <;> simp [findGo]
 | u :: us,[],k,h=>by simp [findGo]
 | u :: us,a :: az,k,h=>by
  have h0 : ¬(u = true /\ a = x):=h 0
  rw [findGo,if_neg h0]
  exact findGo_none x us az (k + 1) fun i=>h (i + 1)
theorem findG_none {x : Int} {U : List Bool} {A : List Int} (h : ∀ i,¬(U.getD i false = true /\ A.getD i 0 = x)) : (findG U A x).2 = false:=by
 unfold findG
 split
 ·exact findGo_none x U A 0 h
 ·rfl
theorem lo_f612 : LemOk tlF612:=LemOk.gen (by decide +kernel) rfl (by decide +kernel) fun ρ hC hF=>by
 have h1 : noneTo ρ 3 1 (valI (valD ρ (cI .i64 2))):=get612 (hF _ List.mem_cons_self)
 have c0:=hC _ List.mem_cons_self
 simp only [Lin.den,Tm.den] at c0
 rw [valI_cI] at h1
 refine ⟨_,List.mem_cons_self,sat0,all_cons ?_ all_nil⟩
 show (findG (uAt _ 0) (lAt _ 8) (iAt _ 16)).2 = false
 refine findG_none fun i=>?_
 have hU : ∀ i,i < 8 -> (uAt ((r17 3 1).map (valD ρ)) 0).getD i false = bAt ((r17 3 1).map (valD ρ)) i:=lt8 rfl rfl rfl rfl rfl rfl rfl rfl
 have hL : ∀ i,i < 8 -> (lAt ((r17 3 1).map (valD ρ)) 8).getD i 0 = iAt ((r17 3 1).map (valD ρ)) (8 + i):=lt8 rfl rfl rfl rfl rfl rfl rfl rfl
 rcases Nat.lt_or_ge i 8 with h | h
 ·rw [hU i h,hL i h,b17 ρ 3 1 i h,a17 ρ 3 1 i h,x17]
  exact fun hh=>h1 i (by omega) h ⟨of_decide_eq_true hh.1,hh.2⟩
 ·intro hh
  rw [List.getD_eq_getElem?_getD,List.getElem?_eq_none (show (uAt ((r17 3 1).map (valD ρ)) 0).length <= i from h)] at hh
  exact absurd hh.1 (by decide)
def lem_f612 : Lem:=⟨tlF612,lo_f612⟩
end
end VtTop
namespace Zx.Zr
open Go Go.Proofs Go.RowKit
abbrev RS:=St
def stL (s : RS) : List SC:=[.int .i64 s.ep,.boo s.op,.int .i64 s.nx,.int .i64 s.nd,.int .i64 s.hv,.int .i64 s.bn]
def stK : List LK:=[.i .i64,.b,.i .i64,.i .i64,.i .i64,.i .i64]
def gS (L : List Leaf) (i : Nat) : RS:=⟨gI L i,gB L (i+1),gI L (i+2),gI L (i+3),gI L (i+4),gI L (i+5)⟩
def rI (n : Int) : Out SV:=.eqn n fun x=>.ret (one (.int .i64 x))
def rB (n : Bool) : Out SV:=.eqn n fun x=>.ret (one (.boo x))
def goodC : Con0:={ pat:=[.a stK],out:=fun L=>rB (goodS (gS L 0)) }
def comC : Con0:={ pat:=[.a stK],out:=fun L=>rI (comS (gS L 0)) }
def raiseC : Con0:={ pat:=[.a stK,.c (.i .i64),.c (.i .i64)],out:=fun L=>.eqn (raiseF (gS L 0) (gI L 6) (gI L 7)) fun r=>.ret (.t [.a (stL r.1),.c (.int .i64 r.2)]) }
def joinC : Con0:={ pat:=[.a stK,.c (.i .i64)],out:=fun L=>.eqn (joinF (gS L 0) (gI L 6)) fun r=>.ret (.t [.a (stL r.1),.c (.int .i64 r.2)]) }
def ackC : Con0:={ pat:=[.a stK,.c (.i .i64),.c (.i .i64)],out:=fun L=>.eqn (ackF (gS L 0) (gI L 6) (gI L 7)) fun r=>.ret (.t [.a (stL r.1),.c (.boo r.2.1),.c (.int .i64 r.2.2)]) }
theorem fit_st {ks : List LK} {L : List Leaf} (h : fits (stK ++ ks) L = true) : ∃ ep op nx nd hv bn L',L = .I ep :: .B op :: .I nx :: .I nd :: .I hv :: .I bn :: L' /\ fits ks L' = true:=by
 obtain ⟨ep,_,rfl,h1⟩:=fit_i h
 obtain ⟨op,_,rfl,h2⟩:=fit_b h1
 obtain ⟨nx,_,rfl,h3⟩:=fit_i h2
 obtain ⟨nd,_,rfl,h4⟩:=fit_i h3
 obtain ⟨hv,_,rfl,h5⟩:=fit_i h4
 obtain ⟨bn,L',rfl,h6⟩:=fit_i h5
 exact ⟨ep,op,nx,nd,hv,bn,L',rfl,h6⟩
theorem com_ok : SpecOk Tryz.prog 16 comC.spec:=comC.of_calls fun L h _ w=>by
 obtain ⟨ep,op,nx,nd,hv,bn,_,rfl,h1⟩:=fit_st h
 obtain rfl:=fit_nil h1
 exact (coming_any ep op nx nd hv bn w).mono fun e w' ⟨h1,h2⟩=>⟨_,one (.int .i64 (comS ⟨ep,op,nx,nd,hv,bn⟩)),h1,rfl,rfl,h2⟩
theorem good_ok : SpecOk Tryz.prog 33 goodC.spec:=goodC.of_calls fun L h _ w=>by
 obtain ⟨ep,op,nx,nd,hv,bn,_,rfl,h1⟩:=fit_st h
 obtain rfl:=fit_nil h1
 exact (good_any ep op nx nd hv bn w).mono fun e w' ⟨h1,h2⟩=>⟨_,one (.boo (goodS ⟨ep,op,nx,nd,hv,bn⟩)),h1,rfl,rfl,h2⟩
theorem raise_ok : SpecOk Tryz.prog 147 raiseC.spec:=raiseC.of_calls fun L h _ w=>by
 obtain ⟨ep,op,nx,nd,hv,bn,_,rfl,h1⟩:=fit_st h
 obtain ⟨n,_,rfl,h2⟩:=fit_i h1
 obtain ⟨now,_,rfl,h3⟩:=fit_i h2
 obtain rfl:=fit_nil h3
 exact (raise_any ep op nx nd hv bn n now w).mono fun e w' ⟨h1,h2⟩=>⟨_,.t [.a (stL (raiseF ⟨ep,op,nx,nd,hv,bn⟩ n now).1),.c (.int .i64 (raiseF ⟨ep,op,nx,nd,hv,bn⟩ n now).2)],h1,rfl,⟨[_,_],rfl,⟨_,rfl,rfl,rfl,rfl,rfl,rfl,rfl,trivial⟩,rfl,trivial⟩,h2⟩
theorem join_ok : SpecOk Tryz.prog 140 joinC.spec:=joinC.of_calls fun L h _ w=>by
 obtain ⟨ep,op,nx,nd,hv,bn,_,rfl,h1⟩:=fit_st h
 obtain ⟨n,_,rfl,h2⟩:=fit_i h1
 obtain rfl:=fit_nil h2
 exact (join_any ep op nx nd hv bn n w).mono fun e w' ⟨h1,h2⟩=>⟨_,.t [.a (stL (joinF ⟨ep,op,nx,nd,hv,bn⟩ n).1),.c (.int .i64 (joinF ⟨ep,op,nx,nd,hv,bn⟩ n).2)],h1,rfl,⟨[_,_],rfl,⟨_,rfl,rfl,rfl,rfl,rfl,rfl,rfl,trivial⟩,rfl,trivial⟩,h2⟩
theorem ack_ok : SpecOk Tryz.prog 146 ackC.spec:=ackC.of_calls fun L h _ w=>by
 obtain ⟨ep,op,nx,nd,hv,bn,_,rfl,h1⟩:=fit_st h
 obtain ⟨n,_,rfl,h2⟩:=fit_i h1
 obtain ⟨e,_,rfl,h3⟩:=fit_i h2
 obtain rfl:=fit_nil h3
 exact (ack_any ep op nx nd hv bn n e w).mono fun x w' ⟨h1,h2⟩=>⟨_,.t [.a (stL (ackF ⟨ep,op,nx,nd,hv,bn⟩ n e).1),.c (.boo (ackF ⟨ep,op,nx,nd,hv,bn⟩ n e).2.1),.c (.int .i64 (ackF ⟨ep,op,nx,nd,hv,bn⟩ n e).2.2)],h1,rfl,⟨[_,_,_],rfl,⟨_,rfl,rfl,rfl,rfl,rfl,rfl,rfl,trivial⟩,rfl,rfl,trivial⟩,h2⟩
theorem mixed : Tryz.prog.follows .mixedOrders = true:=by kernel_rfl
end Zx.Zr
namespace Zx.Zr
open Go Go.Proofs Go.RowKit
def tabK : List LK:=[.b,.b,.b,.b,.b,.b,.b,.b,.i .i64,.i .i64,.i .i64,.i .i64,.i .i64,.i .i64,.i .i64,.i .i64]
def gBs (L : List Leaf) : Nat -> Nat -> List Bool
 | _,0=>[]
 | i,n + 1=>gB L i :: gBs L (i + 1) n
def gIs (L : List Leaf) : Nat -> Nat -> List Int
 | _,0=>[]
 | i,n + 1=>gI L i :: gIs L (i + 1) n
def cBs (L : List SC) : Nat -> Nat -> List Bool
 | _,0=>[]
 | i,n + 1=>cellB L i :: cBs L (i + 1) n
def cIs (L : List SC) : Nat -> Nat -> List Int
 | _,0=>[]
 | i,n + 1=>cellI L i :: cIs L (i + 1) n
def addrC : Con0:={ pat:=[.c (.i .i64)],out:=fun L=>rB (addrB (gI L 0)) }
def slot8C : Con0:={ pat:=[.c (.i .i64)],out:=fun L=>rB (slot8 (gI L 0)) }
def findC : Con0:={ pat:=[.a tabK,.c (.i .i64)],out:=fun L=>.eqn (findGo 0 (gBs L 0 8) (gIs L 8 8) (gI L 16)) fun r=>.ret (.t [.c (.int .i64 r.1),.c (.boo r.2)]) }
def goodTC : Con0:={ pat:=[.a tabK],out:=fun L=>rB (goodGo (gBs L 0 8) (gIs L 8 8) 0 (gBs L 0 8) (gIs L 8 8)) }
def noCtl : Ctl:={ lp:=fun _=>none,cut:=fun _=>none,fuel:=0,spl:=fun _=>none }
def findAnn : Ann where
 A:=Unit
 names:=fun s=>[ptrN (s.slots.getD 2 .u)]
 st:=fun k _ s=>{ s with slots:=((keepS [1,2,9] 0 s.slots).set 10 (one (.num .i64 (Int.ofNat k)))) }
 inv:=fun s k _=>match cellsN (s.heap (ptrN (s.slots.getD 2 .u))) with
  | cs=>findGo 0 (cBs cs 0 8) (cIs cs 8 8) (intN (s.slots.getD 1 .u)) = findGo (Int.ofNat k) (cBs cs k (8 - k)) (cIs cs (8 + k) (8 - k)) (intN (s.slots.getD 1 .u))
 wit:=fun _=>()
 lit:=some 8
def goodAnn : Ann where
 A:=Unit
 names:=fun s=>[ptrN (s.slots.getD 1 .u)]
 st:=fun k _ s=>{ s with slots:=((keepS [1,8] 0 s.slots).set 9 (one (.num .i64 (Int.ofNat k)))) }
 inv:=fun s k _=>match cellsN (s.heap (ptrN (s.slots.getD 1 .u))) with
  | cs=>goodGo (cBs cs 0 8) (cIs cs 8 8) 0 (cBs cs 0 8) (cIs cs 8 8) = goodGo (cBs cs 0 8) (cIs cs 8 8) (Int.ofNat k) (cBs cs k (8 - k)) (cIs cs (8 + k) (8 - k))
 wit:=fun _=>()
 lit:=some 8
def ctl1 (i : Nat) (X : Ann) : Ctl:={ lp:=fun j=>if j = i then some X else none,cut:=fun _=>none,fuel:=0,spl:=fun _=>none }
def envA : List (FuncId × Spec):=[(59,addrC.spec),(58,findC.spec)]
theorem addrS_vc (a : Int) : addrC.vc Tryz.prog (envL []) noCtl Tryz.f59 [.I a]:=of_eq (b:=(0 <= a -> (a <= 63 -> ∀ (y : Bool),y = addrB a -> true = y) /\ (¬a <= 63 -> ∀ (y : Bool),y = addrB a -> false = y)) /\ (¬0 <= a -> ∀ (y : Bool),y = addrB a -> false = y)) (by kernel_rfl) (by
 repeat' (first | apply And.intro | intro _)
 all_goals (simp_all [addrB];try omega))
theorem slot8_vc (a : Int) : slot8C.vc Tryz.prog (envL []) noCtl Tryz.f197 [.I a]:=of_eq (b:=(0 <= a -> (a < 8 -> ∀ (y : Bool),y = slot8 a -> true = y) /\ (¬a < 8 -> ∀ (y : Bool),y = slot8 a -> false = y)) /\ (¬0 <= a -> ∀ (y : Bool),y = slot8 a -> false = y)) (by kernel_rfl) (by
 repeat' (first | apply And.intro | intro _)
 all_goals (simp_all [slot8];try omega))
theorem findGo_no1 {k : Int} {u : Bool} {us : List Bool} {a x : Int} {az : List Int} (h : u = false) : findGo k (u :: us) (a :: az) x = findGo (k + 1) us az x:=by simp [findGo,h]
theorem findGo_no2 {k : Int} {u : Bool} {us : List Bool} {a x : Int} {az : List Int} (h : ¬x = a) : findGo k (u :: us) (a :: az) x = findGo (k + 1) us az x:=by
 simp only [findGo]
 rw [if_neg]
 rintro ⟨_,e⟩
 exact h e.symm
theorem findGo_hit {k : Int} {u : Bool} {us : List Bool} {a x : Int} {az : List Int} {y F : Int × Bool} (hy : y = F) (hF : F = findGo k (u :: us) (a :: az) x) (h : u = true) (e : x = a) : k = y.fst /\ true = y.snd /\ True:=by
 subst hy;subst hF;subst h;subst e
 simp [findGo]
theorem findGo_end {k : Int} {x : Int} {y F : Int × Bool} (hy : y = F) (hF : F = findGo k [] [] x) : (0 : Int) = y.fst /\ false = y.snd /\ True:=by
 subst hy;subst hF
 simp [findGo]
set_option maxRecDepth 100000 in
set_option maxHeartbeats 8000000 in
theorem findS_vc (b0 b1 b2 b3 b4 b5 b6 b7 : Bool) (a0 a1 a2 a3 a4 a5 a6 a7 x : Int) : findC.vc Tryz.prog (envL []) (ctl1 2 findAnn) Tryz.f58 [.B b0,.B b1,.B b2,.B b3,.B b4,.B b5,.B b6,.B b7,.I a0,.I a1,.I a2,.I a3,.I a4,.I a5,.I a6,.I a7,.I x]:=of_eq (b:=let w3:=[a1,a2,a3,a4,a5,a6,a7];let w2:=[b1,b2,b3,b4,b5,b6,b7];let w1:=[a0,a1,a2,a3,a4,a5,a6,a7];let w0:=[b0,b1,b2,b3,b4,b5,b6,b7];let v0:=(b0 = b0 /\ b1 = b1 /\ b2 = b2 /\ b3 = b3 /\ b4 = b4 /\ b5 = b5 /\ b6 = b6 /\ b7 = b7 /\ a0 = a0 /\ a1 = a1 /\ a2 = a2 /\ a3 = a3 /\ a4 = a4 /\ a5 = a5 /\ a6 = a6 /\ a7 = a7) /\ True;let v1:=a0 = a0 /\ a1 = a1 /\ a2 = a2 /\ a3 = a3 /\ a4 = a4 /\ a5 = a5 /\ a6 = a6 /\ a7 = a7;let v2:=((x = x /\ ((0 : Nat) = 0 /\ (0 : Nat) = 0) /\ (v1) /\ (2 : Int) = 2 /\ True) /\ v0) /\ Lf (findGo 0 w0 w1 x = findGo 2 [b2,b3,b4,b5,b6,b7] [a2,a3,a4,a5,a6,a7] x);let v3:=((x = x /\ ((0 : Nat) = 0 /\ (0 : Nat) = 0) /\ (v1) /\ (3 : Int) = 3 /\ True) /\ v0) /\ Lf (findGo 0 w0 w1 x = findGo 3 [b3,b4,b5,b6,b7] [a3,a4,a5,a6,a7] x);let v4:=((x = x /\ ((0 : Nat) = 0 /\ (0 : Nat) = 0) /\ (v1) /\ (4 : Int) = 4 /\ True) /\ v0) /\ Lf (findGo 0 w0 w1 x = findGo 4 [b4,b5,b6,b7] [a4,a5,a6,a7] x);let v5:=((x = x /\ ((0 : Nat) = 0 /\ (0 : Nat) = 0) /\ (v1) /\ (5 : Int) = 5 /\ True) /\ v0) /\ Lf (findGo 0 w0 w1 x = findGo 5 [b5,b6,b7] [a5,a6,a7] x);let v6:=((x = x /\ ((0 : Nat) = 0 /\ (0 : Nat) = 0) /\ (v1) /\ (6 : Int) = 6 /\ True) /\ v0) /\ Lf (findGo 0 w0 w1 x = findGo 6 [b6,b7] [a6,a7] x);let v7:=((x = x /\ ((0 : Nat) = 0 /\ (0 : Nat) = 0) /\ (v1) /\ (7 : Int) = 7 /\ True) /\ v0) /\ Lf (findGo 0 w0 w1 x = findGo 7 [b7] [a7] x);let v8:=((x = x /\ ((0 : Nat) = 0 /\ (0 : Nat) = 0) /\ (v1) /\ (1 : Int) = 1 /\ True) /\ v0) /\ Lf (findGo 0 w0 w1 x = findGo 1 w2 w3 x);let v9:=((x = x /\ ((0 : Nat) = 0 /\ (0 : Nat) = 0) /\ (v1) /\ (8 : Int) = 8 /\ True) /\ v0) /\ Lf (findGo 0 w0 w1 x = findGo 8 [] [] x);(((x = x /\ ((0 : Nat) = 0 /\ (0 : Nat) = 0) /\ (v1) /\ (0 : Int) = 0 /\ True) /\ v0) /\ Lf (findGo 0 w0 w1 x = findGo 0 w0 w1 x)) /\ (∀ (x_1 : Unit),findGo 0 w0 w1 x = findGo 0 w0 w1 x -> (b0 = true -> (x = a0 -> ∀ (y : Int × Bool),y = findGo 0 w0 w1 x -> 0 = y.1 /\ true = y.2 /\ True) /\ (¬x = a0 -> v8)) /\ (b0 = false -> v8)) /\ (∀ (x_1 : Unit),findGo 0 w0 w1 x = findGo 1 w2 w3 x -> (b1 = true -> (x = a1 -> ∀ (y : Int × Bool),y = findGo 0 w0 w1 x -> 1 = y.1 /\ true = y.2 /\ True) /\ (¬x = a1 -> v2)) /\ (b1 = false -> v2)) /\ (∀ (x_1 : Unit),findGo 0 w0 w1 x = findGo 2 [b2,b3,b4,b5,b6,b7] [a2,a3,a4,a5,a6,a7] x -> (b2 = true -> (x = a2 -> ∀ (y : Int × Bool),y = findGo 0 w0 w1 x -> 2 = y.1 /\ true = y.2 /\ True) /\ (¬x = a2 -> v3)) /\ (b2 = false -> v3)) /\ (∀ (x_1 : Unit),findGo 0 w0 w1 x = findGo 3 [b3,b4,b5,b6,b7] [a3,a4,a5,a6,a7] x -> (b3 = true -> (x = a3 -> ∀ (y : Int × Bool),y = findGo 0 w0 w1 x -> 3 = y.1 /\ true = y.2 /\ True) /\ (¬x = a3 -> v4)) /\ (b3 = false -> v4)) /\ (∀ (x_1 : Unit),findGo 0 w0 w1 x = findGo 4 [b4,b5,b6,b7] [a4,a5,a6,a7] x -> (b4 = true -> (x = a4 -> ∀ (y : Int × Bool),y = findGo 0 w0 w1 x -> 4 = y.1 /\ true = y.2 /\ True) /\ (¬x = a4 -> v5)) /\ (b4 = false -> v5)) /\ (∀ (x_1 : Unit),findGo 0 w0 w1 x = findGo 5 [b5,b6,b7] [a5,a6,a7] x -> (b5 = true -> (x = a5 -> ∀ (y : Int × Bool),y = findGo 0 w0 w1 x -> 5 = y.1 /\ true = y.2 /\ True) /\ (¬x = a5 -> v6)) /\ (b5 = false -> v6)) /\ (∀ (x_1 : Unit),findGo 0 w0 w1 x = findGo 6 [b6,b7] [a6,a7] x -> (b6 = true -> (x = a6 -> ∀ (y : Int × Bool),y = findGo 0 w0 w1 x -> 6 = y.1 /\ true = y.2 /\ True) /\ (¬x = a6 -> v7)) /\ (b6 = false -> v7)) /\ (∀ (x_1 : Unit),findGo 0 w0 w1 x = findGo 7 [b7] [a7] x -> (b7 = true -> (x = a7 -> ∀ (y : Int × Bool),y = findGo 0 w0 w1 x -> 7 = y.1 /\ true = y.2 /\ True) /\ (¬x = a7 -> v9)) /\ (b7 = false -> v9)) /\ ∀ (x_1 : Unit),findGo 0 w0 w1 x = findGo 8 [] [] x -> ∀ (y : Int × Bool),y = findGo 0 w0 w1 x -> 0 = y.1 /\ false = y.2 /\ True) (by kernel_rfl) (by
 dsimp only
 repeat' (first | exact findGo_hit (by assumption) (by assumption) (by assumption) (by assumption) | exact findGo_end (by assumption) (by assumption) | apply And.intro | apply Lf.mk | intro _)
 all_goals first
  | rfl
  | trivial
  | exact Eq.trans (by assumption) (findGo_no1 (by assumption))
  | exact Eq.trans (by assumption) (findGo_no2 (by assumption)))
theorem goodGo_n1 {U : List Bool} {A : List Int} {k : Int} {u : Bool} {us : List Bool} {a : Int} {az : List Int} (h : (!u) = true) (e : a = 0) : goodGo U A k (u :: us) (a :: az) = goodGo U A (k + 1) us az:=by
 simp at h;subst h;subst e;simp [goodGo]
theorem goodGo_n2 {U : List Bool} {A : List Int} {k : Int} {u : Bool} {us : List Bool} {a : Int} {az : List Int} {r : Int × Bool} {G z : Bool} (hG : G = goodGo U A k (u :: us) (a :: az)) (h : (!u) = false) (hr : r = findGo 0 U A a) (hk : r.fst = k) (h2 : (!z) = false) (hz : z = addrB a) : G = goodGo U A (k + 1) us az:=by
 simp at h h2;subst hG;subst hz;subst hr;subst h;simp [goodGo,hk,h2]
theorem goodGo_f1 {U : List Bool} {A : List Int} {k : Int} {u : Bool} {us : List Bool} {a : Int} {az : List Int} {y G : Bool} (hy : y = G) (hG : G = goodGo U A k (u :: us) (a :: az)) (h : (!u) = true) (e : ¬a = 0) : false = y:=by
 simp at h;subst h;subst hy;subst hG;simp [goodGo,e]
theorem goodGo_f2 {U : List Bool} {A : List Int} {k : Int} {u : Bool} {us : List Bool} {a : Int} {az : List Int} {y G : Bool} {r : Int × Bool} {z : Bool} (hy : y = G) (hG : G = goodGo U A k (u :: us) (a :: az)) (h : (!u) = false) (h2 : (!z) = true) (hz : z = addrB a) : false = y:=by
 simp at h h2;subst hy;subst hG;subst hz;subst h;simp [goodGo,h2]
theorem goodGo_f3 {U : List Bool} {A : List Int} {k : Int} {u : Bool} {us : List Bool} {a : Int} {az : List Int} {y G : Bool} {r : Int × Bool} (hy : y = G) (hG : G = goodGo U A k (u :: us) (a :: az)) (h : (!u) = false) (hr : r = findGo 0 U A a) (hk : ¬r.fst = k) : false = y:=by
 simp at h;subst hy;subst hG;subst hr;subst h;simp [goodGo,hk]
theorem goodGo_e {U : List Bool} {A : List Int} {k : Int} {y G : Bool} (hy : y = G) (hG : G = goodGo U A k [] []) : true = y:=by subst hy;subst hG;simp [goodGo]
set_option maxRecDepth 100000 in
set_option maxHeartbeats 8000000 in
theorem goodS_vc (b0 b1 b2 b3 b4 b5 b6 b7 : Bool) (a0 a1 a2 a3 a4 a5 a6 a7 : Int) : goodTC.vc Tryz.prog (envL envA) (ctl1 2 goodAnn) Tryz.f32 [.B b0,.B b1,.B b2,.B b3,.B b4,.B b5,.B b6,.B b7,.I a0,.I a1,.I a2,.I a3,.I a4,.I a5,.I a6,.I a7]:=of_eq (b:=let w3:=[a1,a2,a3,a4,a5,a6,a7];let w2:=[b1,b2,b3,b4,b5,b6,b7];let w1:=[a0,a1,a2,a3,a4,a5,a6,a7];let w0:=[b0,b1,b2,b3,b4,b5,b6,b7];let v0:=(b0 = b0 /\ b1 = b1 /\ b2 = b2 /\ b3 = b3 /\ b4 = b4 /\ b5 = b5 /\ b6 = b6 /\ b7 = b7 /\ a0 = a0 /\ a1 = a1 /\ a2 = a2 /\ a3 = a3 /\ a4 = a4 /\ a5 = a5 /\ a6 = a6 /\ a7 = a7) /\ True;let v1:=a0 = a0 /\ a1 = a1 /\ a2 = a2 /\ a3 = a3 /\ a4 = a4 /\ a5 = a5 /\ a6 = a6 /\ a7 = a7;let v2:=∀ (y : Bool),y = goodGo w0 w1 0 w0 w1 -> false = y;let v3:=((((0 : Nat) = 0 /\ (0 : Nat) = 0) /\ (v1) /\ (2 : Int) = 2 /\ True) /\ v0) /\ Lf (goodGo w0 w1 0 w0 w1 = goodGo w0 w1 2 [b2,b3,b4,b5,b6,b7] [a2,a3,a4,a5,a6,a7]);let v4:=((((0 : Nat) = 0 /\ (0 : Nat) = 0) /\ (v1) /\ (3 : Int) = 3 /\ True) /\ v0) /\ Lf (goodGo w0 w1 0 w0 w1 = goodGo w0 w1 3 [b3,b4,b5,b6,b7] [a3,a4,a5,a6,a7]);let v5:=((((0 : Nat) = 0 /\ (0 : Nat) = 0) /\ (v1) /\ (4 : Int) = 4 /\ True) /\ v0) /\ Lf (goodGo w0 w1 0 w0 w1 = goodGo w0 w1 4 [b4,b5,b6,b7] [a4,a5,a6,a7]);let v6:=((((0 : Nat) = 0 /\ (0 : Nat) = 0) /\ (v1) /\ (5 : Int) = 5 /\ True) /\ v0) /\ Lf (goodGo w0 w1 0 w0 w1 = goodGo w0 w1 5 [b5,b6,b7] [a5,a6,a7]);let v7:=((((0 : Nat) = 0 /\ (0 : Nat) = 0) /\ (v1) /\ (6 : Int) = 6 /\ True) /\ v0) /\ Lf (goodGo w0 w1 0 w0 w1 = goodGo w0 w1 6 [b6,b7] [a6,a7]);let v8:=((((0 : Nat) = 0 /\ (0 : Nat) = 0) /\ (v1) /\ (7 : Int) = 7 /\ True) /\ v0) /\ Lf (goodGo w0 w1 0 w0 w1 = goodGo w0 w1 7 [b7] [a7]);let v9:=((((0 : Nat) = 0 /\ (0 : Nat) = 0) /\ (v1) /\ (1 : Int) = 1 /\ True) /\ v0) /\ Lf (goodGo w0 w1 0 w0 w1 = goodGo w0 w1 1 w2 w3);let v10:=((((0 : Nat) = 0 /\ (0 : Nat) = 0) /\ (v1) /\ (8 : Int) = 8 /\ True) /\ v0) /\ Lf (goodGo w0 w1 0 w0 w1 = goodGo w0 w1 8 [] []);(((((0 : Nat) = 0 /\ (0 : Nat) = 0) /\ (v1) /\ (0 : Int) = 0 /\ True) /\ v0) /\ Lf (goodGo w0 w1 0 w0 w1 = goodGo w0 w1 0 w0 w1)) /\ (∀ (x : Unit),goodGo w0 w1 0 w0 w1 = goodGo w0 w1 0 w0 w1 -> ((!b0) = true -> (a0 = 0 -> v9) /\ (¬a0 = 0 -> v2)) /\ ((!b0) = false -> ∀ (x : Int × Bool),x = findGo 0 w0 w1 a0 -> (x.1 = 0 -> ∀ (x : Bool),x = addrB a0 -> ((!x) = true -> v2) /\ ((!x) = false -> v9)) /\ (¬x.1 = 0 -> v2))) /\ (∀ (x : Unit),goodGo w0 w1 0 w0 w1 = goodGo w0 w1 1 w2 w3 -> ((!b1) = true -> (a1 = 0 -> v3) /\ (¬a1 = 0 -> v2)) /\ ((!b1) = false -> ∀ (x : Int × Bool),x = findGo 0 w0 w1 a1 -> (x.1 = 1 -> ∀ (x : Bool),x = addrB a1 -> ((!x) = true -> v2) /\ ((!x) = false -> v3)) /\ (¬x.1 = 1 -> v2))) /\ (∀ (x : Unit),goodGo w0 w1 0 w0 w1 = goodGo w0 w1 2 [b2,b3,b4,b5,b6,b7] [a2,a3,a4,a5,a6,a7] -> ((!b2) = true -> (a2 = 0 -> v4) /\ (¬a2 = 0 -> v2)) /\ ((!b2) = false -> ∀ (x : Int × Bool),x = findGo 0 w0 w1 a2 -> (x.1 = 2 -> ∀ (x : Bool),x = addrB a2 -> ((!x) = true -> v2) /\ ((!x) = false -> v4)) /\ (¬x.1 = 2 -> v2))) /\ (∀ (x : Unit),goodGo w0 w1 0 w0 w1 = goodGo w0 w1 3 [b3,b4,b5,b6,b7] [a3,a4,a5,a6,a7] -> ((!b3) = true -> (a3 = 0 -> v5) /\ (¬a3 = 0 -> v2)) /\ ((!b3) = false -> ∀ (x : Int × Bool),x = findGo 0 w0 w1 a3 -> (x.1 = 3 -> ∀ (x : Bool),x = addrB a3 -> ((!x) = true -> v2) /\ ((!x) = false -> v5)) /\ (¬x.1 = 3 -> v2))) /\ (∀ (x : Unit),goodGo w0 w1 0 w0 w1 = goodGo w0 w1 4 [b4,b5,b6,b7] [a4,a5,a6,a7] -> ((!b4) = true -> (a4 = 0 -> v6) /\ (¬a4 = 0 -> v2)) /\ ((!b4) = false -> ∀ (x : Int × Bool),x = findGo 0 w0 w1 a4 -> (x.1 = 4 -> ∀ (x : Bool),x = addrB a4 -> ((!x) = true -> v2) /\ ((!x) = false -> v6)) /\ (¬x.1 = 4 -> v2))) /\ (∀ (x : Unit),goodGo w0 w1 0 w0 w1 = goodGo w0 w1 5 [b5,b6,b7] [a5,a6,a7] -> ((!b5) = true -> (a5 = 0 -> v7) /\ (¬a5 = 0 -> v2)) /\ ((!b5) = false -> ∀ (x : Int × Bool),x = findGo 0 w0 w1 a5 -> (x.1 = 5 -> ∀ (x : Bool),x = addrB a5 -> ((!x) = true -> v2) /\ ((!x) = false -> v7)) /\ (¬x.1 = 5 -> v2))) /\ (∀ (x : Unit),goodGo w0 w1 0 w0 w1 = goodGo w0 w1 6 [b6,b7] [a6,a7] -> ((!b6) = true -> (a6 = 0 -> v8) /\ (¬a6 = 0 -> v2)) /\ ((!b6) = false -> ∀ (x : Int × Bool),x = findGo 0 w0 w1 a6 -> (x.1 = 6 -> ∀ (x : Bool),x = addrB a6 -> ((!x) = true -> v2) /\ ((!x) = false -> v8)) /\ (¬x.1 = 6 -> v2))) /\ (∀ (x : Unit),goodGo w0 w1 0 w0 w1 = goodGo w0 w1 7 [b7] [a7] -> ((!b7) = true -> (a7 = 0 -> v10) /\ (¬a7 = 0 -> v2)) /\ ((!b7) = false -> ∀ (x : Int × Bool),x = findGo 0 w0 w1 a7 -> (x.1 = 7 -> ∀ (x : Bool),x = addrB a7 -> ((!x) = true -> v2) /\ ((!x) = false -> v10)) /\ (¬x.1 = 7 -> v2))) /\ ∀ (x : Unit),goodGo w0 w1 0 w0 w1 = goodGo w0 w1 8 [] [] -> ∀ (y : Bool),y = goodGo w0 w1 0 w0 w1 -> true = y) (by kernel_rfl) (by
 dsimp only
 repeat' (first | apply And.intro | apply Lf.mk | intro _)
 all_goals first
  | rfl
  | trivial
  | exact Eq.trans (by assumption) (goodGo_n1 (by assumption) (by assumption))
  | exact goodGo_n2 (by assumption) (by assumption) (by assumption) (by assumption) (by assumption) (by assumption)
  | exact goodGo_f1 (by assumption) (by assumption) (by assumption) (by assumption)
  | exact goodGo_f2 (r:=(0,false)) (by assumption) (by assumption) (by assumption) (by assumption) (by assumption)
  | exact goodGo_f3 (by assumption) (by assumption) (by assumption) (by assumption) (by assumption)
  | exact goodGo_e (by assumption) (by assumption))
end Zx.Zr
