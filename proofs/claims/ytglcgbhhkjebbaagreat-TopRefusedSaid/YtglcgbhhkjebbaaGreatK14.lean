/- A part of the proof: lemmas. No condition of its own. -/
import Derived.Test.YtglcgbhhkjebbaaGreatK03
import Derived.Test.YtglcgbhhkjebbaaGreatK13
set_option linter.unusedVariables false
set_option linter.unusedSimpArgs false
namespace Vx
noncomputable section
open Go Zx
theorem Shp.enter_ok {sh : Shp} {σ : Sb} {E E' : Ent} {sg : Sig} {κ κ' : Kn} {ρ ρp : Vl} {d d' : Ds} {w : World} {old : Bool} {q : Nat -> Nat} {ps : List (Nat × DV)} {get : Nat -> Option Value} (hm : MOk E sg κ ρ d w) (hh : sh.Holds E' sg ρp get w) (hold : old = true -> ∀ f ∈ sh.G,f.wok (cutS E.w.heap.size sg) ρp (cutW E.w.heap.size w)) (hk : σ.keysB σ.r = true) (hb : σ.b = κ.n) (hin : σ.In σ.r κ.n)
  (hag : Agr σ.r (σ.app ρ) ρp) (hlt : sh.Lt (σ.r + sh.n)) (hnew : ∀ p ∈ sh.adr,σ.r <= p.1)
  (hy : ∀ p ∈ sh.adr,1 <= q p.2 -> 0 <= (ρp.a p.1).1 -> E.yg (ρp.a p.1).1) (hf : ∀ p ∈ sh.adr,2 <= q p.2 -> 0 <= (ρp.a p.1).1 -> sh.adr = [p] /\ ∀ x ∈ d.adr,(ρ.a x.1).1 < (ρp.a p.1).1)
  (he : sh.enter old σ κ d q = some (κ',d',ps)) :
  ∃ ρ',Gr κ κ' ρ ρ' /\ MOk E sg κ' ρ' d' w /\ (∀ p ∈ ps,p.2.lt κ'.n /\ ∃ v,get p.1 = some v /\ (p.2.den ρ').ok (mu sg) v) /\ Agr (σ.r + sh.n) (σ.app ρ') ρp:=by
 unfold Shp.enter at he
 split at he
 ·rename_i ps' ms fs gs hps hms hfs hgs
  cases he
  let ρ':=ρ.over ρp κ.n σ.r
  have hA : Agr κ.n ρ ρ':=Vl.over_agr ρ ρp κ.n σ.r
  have happ : Agr (σ.r + sh.n) (σ.app ρ') ρp:=over_app hk hb hin hag
  have hσ : σ.In (σ.r + sh.n) (κ.n + sh.n):=by
   refine ⟨fun v hv=>?_,fun v hv=>?_,fun v hv=>?_⟩
   ·rcases Nat.lt_or_ge v σ.r with h | h
    ·exact Tm.lt_mono (Nat.le_add_right _ _) (hin.i v h)
    ·rw [(Sb.fresh hk h).1];exact Lin.var_lt (by omega)
   ·rcases Nat.lt_or_ge v σ.r with h | h
    ·have:=hin.a v h;omega
    ·rw [(Sb.fresh hk h).2.1];omega
   ·rcases Nat.lt_or_ge v σ.r with h | h
    ·have:=hin.s v h;omega
    ·rw [(Sb.fresh hk h).2.2];omega
  have av_new : ∀ p ∈ sh.adr,σ.av p.1 = p.1 - σ.r + κ.n:=fun p hp=>by rw [(Sb.fresh hk (hnew p hp)).2.1,hb]
  have a_new : ∀ p ∈ sh.adr,ρ'.a (σ.av p.1) = ρp.a p.1:=fun p hp=>happ.a p.1 (hlt.adr p hp)
  have a_old : ∀ x ∈ d.adr,ρ'.a x.1 = ρ.a x.1:=fun x hx=>(hA.a _ (hm.alt x hx)).symm
  have kn : (⟨κ.n + sh.n,sh.C.map (Lin.sbs σ) ++ κ.C,fs ++ κ.F⟩ : Kn).Ok ρ':=by
   refine ⟨fun l hl=>?_,fun l hl=>?_,fun f hf=>(List.mem_append.1 hf).elim (fun hf=>?_) (fun hf=>Atom.lt_mono (Nat.le_add_right _ _) (hm.kn.flt f hf)),fun f hf=>(List.mem_append.1 hf).elim (fun hf=>?_) (fun hf=>by rw [← Atom.den_eq hA (hm.kn.flt f hf)];exact hm.kn.fact f hf)⟩
   rotate_left 2
   ·obtain ⟨f0,k1,_,k3⟩:=sbsF_mem hfs f hf
    exact sbsL_lt hσ k3 (hlt.F f0 k1)
   ·obtain ⟨f0,k1,k2,k3⟩:=sbsF_mem hfs f hf
    have h0:=hh.F f0 k1
    rw [← Atom.den_eq happ (hlt.F f0 k1)] at h0
    obtain ⟨vs,h1,h2⟩:=h0
    exact ⟨vs,fun sg=>(sbsL_ok k3).2 (h1 sg),by rw [k2];exact h2⟩
   rotate_left 0
   ·rcases List.mem_append.1 hl with hl | hl
    ·obtain ⟨m,hm',rfl⟩:=List.mem_map.1 hl
     exact Lin.sbs_lt hσ (hlt.C m hm')
    ·exact Tm.lt_mono (Nat.le_add_right _ _) (hm.kn.lt l hl)
   ·rcases List.mem_append.1 hl with hl | hl
    ·obtain ⟨m,hm',rfl⟩:=List.mem_map.1 hl
     rw [Lin.sbs_den,Lin.den_eq happ.i (hlt.C m hm')]
     exact hh.C m hm'
    ·rw [← Lin.den_eq hA.i (hm.kn.lt l hl)]
     exact hm.kn.sat l hl
  have gr : Gr κ ⟨κ.n + sh.n,sh.C.map (Lin.sbs σ) ++ κ.C,fs ++ κ.F⟩ ρ ρ':=⟨Nat.le_add_right _ _,hA,kn⟩
  have hm1:=hm.gr gr
  refine ⟨ρ',gr,{ kn:=kn,zone:=hm.zone,fr:=hm.fr,mlt:=fun m hmm=>?_,memo:=fun m hmm=>?_,alt:=fun p hp=>?_,asz:=fun p hp=>?_,young:=fun p hp=>?_,fresh:=fun p hp=>?_,glt:=fun f hf=>?_,gok:=fun f hf=>?_ },fun p hp=>?_,happ⟩
  rotate_left 6
  ·rcases List.mem_append.1 hf with h | h
   ·obtain ⟨f1,h1,rfl⟩:=List.mem_map.1 h
    obtain ⟨f0,k1,k2,k3⟩:=sbsF_mem hgs f1 h1
    exact sbsL_lt hσ k3 (hlt.G f0 k1)
   ·exact hm1.glt f h
  ·rcases List.mem_append.1 hf with h | h
   ·obtain ⟨f1,h1,rfl⟩:=List.mem_map.1 h
    obtain ⟨f0,k1,k2,k3⟩:=sbsF_mem hgs f1 h1
    have tr : ∀ (s : Sig) (u : World),f0.wok s ρp u -> f1.wok s ρ' u:=fun s u h0=>by
     have h0:=Atom.wok_eq happ.symm (hlt.G f0 k1) h0
     obtain ⟨vs,q1,q2⟩:=h0
     exact ⟨vs,(sbsL_ok k3).2 q1,by rw [k2];exact q2⟩
    cases old with
    | true=>exact tr _ _ (hold rfl f0 k1)
    | false=>exact tr _ _ (hh.G f0 k1)
   ·exact hm1.gok f h
  rotate_left 1
  ·rcases List.mem_append.1 hmm with h | h
   ·obtain ⟨m0,k1,k2,k3,k4,k5⟩:=sbsM_mem hms m h
    have:=hlt.M m0 k1
    exact ⟨by rw [k2];exact hσ.a _ this.a,by rw [k3];exact Lin.sbs_lt hσ this.o,DC.sbs_lt hσ this.v k5⟩
   ·exact hm1.mlt m h
  ·rcases List.mem_append.1 hmm with h | h
   ·obtain ⟨m0,k1,k2,k3,k4,k5⟩:=sbsM_mem hms m h
    have l0:=hlt.M m0 k1
    obtain ⟨g0,b,t,cur,v,g1,g2,g3,g4,g5⟩:=hh.M m0 k1
    have e1 : ρ'.a m.a = ρp.a m0.a:=by rw [k2];exact happ.a _ l0.a
    have e2 : m.o.den ρ'.i = m0.o.den ρp.i:=by rw [k3,Lin.sbs_den];exact Lin.den_eq happ.i l0.o
    refine ⟨by rw [e2];exact g0,b,t,cur,v,by rw [e1];exact g1,g2,by rw [e1,e2];exact g3,by rw [e1,e2,k4];exact g4, ?_⟩
    rw [DC.sbs_ok k5 ρ' (mu sg) v,DC.den_eq happ l0.v]
    exact g5
   ·exact hm1.memo m h
  ·rcases List.mem_append.1 hp with h | h
   ·obtain ⟨x,hx,rfl⟩:=List.mem_map.1 h
    exact hσ.a _ (hlt.adr x hx)
   ·exact hm1.alt p h
  ·rcases List.mem_append.1 hp with h | h
   ·obtain ⟨x,hx,rfl⟩:=List.mem_map.1 h
    simp only []
    rw [a_new x hx]
    exact hh.asz x hx
   ·exact hm1.asz p h
  ·rcases List.mem_append.1 hp with h | h
   ·obtain ⟨x,hx,rfl⟩:=List.mem_map.1 h
    simp only []
    rw [a_new x hx]
    exact hy x hx
   ·exact hm1.young p h
  ·rcases List.mem_append.1 hp with h | h
   ·obtain ⟨x,hx,rfl⟩:=List.mem_map.1 h
    simp only []
    rw [a_new x hx]
    intro h2 h0 z hz hzlt
    obtain ⟨f1,f2⟩:=hf x hx h2 h0
    rcases List.mem_append.1 hz with hz | hz
    ·obtain ⟨y,hy',rfl⟩:=List.mem_map.1 hz
     rw [f1] at hy'
     simp at hy'
     subst hy'
     simp at hzlt
    ·rw [a_old z hz]
     have:=f2 z hz
     omega
   ·intro h2 h0 z hz hzlt
    rcases List.mem_append.1 hz with hz | hz
    ·obtain ⟨y,hy',rfl⟩:=List.mem_map.1 hz
     simp only [] at hzlt
     rw [av_new y hy'] at hzlt
     have:=hm.alt p h
     omega
    ·exact hm1.fresh p h h2 h0 z hz hzlt
  ·obtain ⟨p0,k1,k2,k3⟩:=sbsP_mem hps p hp
   have l0:=hlt.P p0 k1
   obtain ⟨v,hv,hok⟩:=hh.P p0 k1
   refine ⟨DV.sbs_lt hσ l0 k3,v,by rw [← k2];exact hv, ?_⟩
   rw [DV.sbs_ok k3 ρ' (mu sg) v,DV.den_eq happ l0]
   exact hok
 ·cases he
def Wt.all (W : Wt) : List Nat:=W.ys ++ W.W
def Wt.old (W Wf : Wt) : List Nat:=match W.hasY with
 | true=>Wf.all
 | false=>Wf.W
theorem MOk.after {E : Ent} {sg sg' : Sig} {κ : Kn} {ρ : Vl} {d : Ds} {w w' : World} {Wf : Wt} {own : Nat -> Prop} (hm : MOk E sg κ ρ d w) (hg : Grows sg sg') (hz : ZoneOk sg' w') (hf : Frm ⟨w,sg,Wf,own⟩ sg' w') (hW : ∀ g ∈ Wf.W,g ∈ E.W.W) (hY : E.W.hasY = true -> ∀ g ∈ Wf.ys,g ∈ E.W.W \/ g ∈ E.W.ys) (hown : ∀ b,(Ent.mk w sg Wf own).ow b -> E.yg (b : Int)) :
  MOk E sg' κ ρ ⟨dropC Wf.all d.memo,d.adr,keepG Wf.all (E.W.old Wf) d.G⟩ w':=by
 have hsz : w.heap.size <= w'.heap.size:=hf.size
 have hF : Frm (Ent.none w sg Wf.all) sg' w':=⟨hf.size,hf.os,hf.tape,hf.output,hf.sig,fun b hb=>by
  rcases hf.keep b hb with h2 | ⟨c1,c2,t,h2,h3,h4,h5⟩
  ·exact .inl h2
  ·exact .inr ⟨c1,c2,t,h2,h3,h4,fun o ho=>h5 o fun c hc=>⟨fun h=>(ho c hc).1 (List.mem_append.2 (.inr h)),fun _ h=>(ho c hc).1 (List.mem_append.2 (.inl h))⟩⟩⟩
 have hO : Frm (Ent.none (cutW E.w.heap.size w) (cutS E.w.heap.size sg) (E.W.old Wf)) (cutS E.w.heap.size sg') (cutW E.w.heap.size w'):=by
  unfold Wt.old
  cases e : E.W.hasY with
  | true=>exact Frm.cut hm.fr.size hF
  | false=>
   refine Frm.cut1 hm.fr.size hf fun b hb ho=>?_
   rcases hown b ho with h | ⟨b',_,h⟩
   ·omega
   ·exact absurd h.1 (by rw [e];decide)
 refine ⟨hm.kn,hz,⟨Nat.le_trans hm.fr.size hsz,hf.os.trans hm.fr.os,hf.tape.trans hm.fr.tape,hf.output.trans hm.fr.output,fun b o hb=>(hf.sig b o (Nat.lt_of_lt_of_le hb hm.fr.size)).trans (hm.fr.sig b o hb),fun b hb=>?_⟩,fun m hmm=>hm.mlt m (dropC_ok hmm).1,fun m hmm=>?_,hm.alt,fun p hp=>?_,hm.young,hm.fresh,fun f hf=>hm.glt f (keepG_ok hf).1,gok_step hm.gok hg hF hO⟩
 ·have hb' : b < w.heap.size:=Nat.lt_of_lt_of_le hb hm.fr.size
  have h1:=hm.fr.keep b hb
  rcases hf.keep b hb' with h2 | ⟨c1,c2,t,h2,h3,h4,h5⟩
  ·simp only [] at h2
   rw [h2];exact h1
  ·simp only [] at h2
   have base : ∃ cur0,E.w.heap[b]? = some (.cells cur0 t.1 t.2) /\ c1.size = cur0.size /\ ∀ o,(∀ c,E.sg b o = some c -> c.tag ∉ E.W.W /\ (E.ow b -> c.tag ∉ E.W.ys)) -> c1[o]? = cur0[o]?:=by
    rcases h1 with h | ⟨d1,d2,t',k1,k2,k3,k4⟩
    ·rw [h2] at h
     exact ⟨c1,h.symm,rfl,fun _ _=>rfl⟩
    ·obtain ⟨rfl,rfl⟩:=cells_inj h2 k2
     exact ⟨d1,k1,k3,k4⟩
   obtain ⟨cur0,g1,g2,g3⟩:=base
   refine .inr ⟨cur0,c2,t,g1,h3,by rw [h4,g2],fun o ho=>(h5 o fun c hc=>?_).trans (g3 o ho)⟩
   have ho:=ho c (by rw [← hm.fr.sig b o hb];exact hc)
   refine ⟨fun hin=>ho.1 (hW _ hin),fun how hin=>?_⟩
   rcases hown b how with h | ⟨b',e,h⟩
   ·omega
   ·have : b = b':=by omega
    subst this
    rcases hY h.1 _ hin with k | k
    ·exact ho.1 k
    ·exact ho.2 h k
 ·obtain ⟨h1,h2⟩:=dropC_ok hmm
  obtain ⟨m0,b,t,cur,v,g1,g2,g3,g4,g5⟩:=hm.memo m h1
  have hbw:=heap_lt g2
  have hok : (m.v.den ρ).ok (mu sg') v:=SC.ok_ext (mu_ext hg) g5
  rcases hf.keep b hbw with h3 | ⟨c1,c2,t',h3,h4,h5,h6⟩
  ·exact ⟨m0,b,t,cur,v,g1,h3.trans g2,g3,hg _ _ _ g4,hok⟩
  ·simp only [] at h3
   obtain ⟨rfl,rfl⟩:=cells_inj g2 h3
   refine ⟨m0,b,t,c2,v,g1,h4, ?_,hg _ _ _ g4,hok⟩
   rw [h6 _ fun c hc=>?_]
   ·exact g3
   ·simp only [] at hc
    rw [g4] at hc
    cases hc
    exact ⟨fun h=>h2 (List.mem_append.2 (.inr h)),fun _ h=>h2 (List.mem_append.2 (.inl h))⟩
 ·have:=hm.asz p hp;omega
structure TC where
 k : Nat
 pre : Shp
 W : List Nat
 post : List Shp
 Y : Option (List Nat):=none
def TC.wt (tc : TC) : Wt:=⟨tc.W,tc.Y⟩
def TC.own (tc : TC) (ρ : Vl) (b : Nat) : Prop:=∃ p ∈ tc.pre.adr,1 <= p.2 /\ (ρ.a p.1).1 = (b : Int)
def TC.ent (tc : TC) (sg : Sig) (w : World) (ρ : Vl) : Ent:=⟨w,sg,tc.wt,tc.own ρ⟩
def res1 (v : Value) : Nat -> Option Value
 | 0=>some v
 | _=>none
def TC.Post (tc : TC) (sg : Sig) (w : World) (ρ : Vl) (v : Value) (w' : World) : Prop:=
 ∃ sg',Grows sg sg' /\ ZoneOk sg' w' /\ Frm (tc.ent sg w ρ) sg' w' /\ ∃ sh ∈ tc.post,∃ ρ',Agr tc.pre.n ρ ρ' /\ sh.Holds (tc.ent sg w ρ) sg' ρ' (res1 v) w'
def TC.wf (tc : TC) : Bool:=(tc.pre.ltB tc.pre.n && allB (fun p=>match p.2 with
 | 0=>true
 | 1=>tc.wt.hasY
 | _=>false) tc.pre.adr) && allB (fun sh=>sh.ltB (tc.pre.n + sh.n) && allB (fun p=>Nat.ble tc.pre.n p.1) sh.adr) tc.post
structure TCok (P : Program) (f : FuncId) (tc : TC) : Prop where
 call : Callable P f
 wf : tc.wf = true
 ok : ∀ (sg : Sig) (w : World) (ρ : Vl) (vs : List Value),ZoneOk sg w -> vs.length = tc.k -> tc.pre.Holds (tc.ent sg w ρ) sg ρ (fun i=>vs[i]?) w -> Calls P f vs.toArray w fun e w'=>∃ v,e = .returned v /\ tc.Post sg w ρ v w'
def Sb.bi (σ : Sb) (v : Nat) (e : Lin) (K : Sb -> Sb) : Sb:=match σ with
 | ⟨i,a,s,r,b⟩=>match i.get v with
  | some _=>K ⟨i,a,s,r,b⟩
  | none=>gL e fun e=>Tr.setK (v,e) 24 i v fun i=>K ⟨i,a,s,r,b⟩
def Sb.ba (σ : Sb) (v x : Nat) (K : Sb -> Sb) : Sb:=match σ with
 | ⟨i,a,s,r,b⟩=>match a.get v with
  | some _=>K ⟨i,a,s,r,b⟩
  | none=>gN x fun x=>Tr.setK (v,x) 24 a v fun a=>K ⟨i,a,s,r,b⟩
def Sb.bs (σ : Sb) (v x : Nat) (K : Sb -> Sb) : Sb:=match σ with
 | ⟨i,a,s,r,b⟩=>match s.get v with
  | some _=>K ⟨i,a,s,r,b⟩
  | none=>gN x fun x=>Tr.setK (v,x) 24 s v fun s=>K ⟨i,a,s,r,b⟩
def matI (p e : Lin) (σ : Sb) (K : Sb -> Sb) : Sb:=match p.t with
 | [(v,x)]=>match decide (x = 1) && decide (p.c = 0) with
  | true=>σ.bi v e K
  | false=>K σ
 | _=>K σ
def matCaps (ps xs : List (Nat × Lin × List CS)) (σ : Sb) (K : Sb -> Sb) : Sb:=match ps,xs with
 | p :: ps,x :: xs=>σ.ba p.1 x.1 fun σ=>matI p.2.1 x.2.1 σ fun σ=>matCaps ps xs σ K
 | _,_=>K σ
def matC (nl : Nat) (p x : DC) (σ : Sb) (K : Sb -> Sb) : Sb:=match p,x with
 | .int _ e,.int _ e'=>matI e e' σ K
 | .int _ e,.num _ n=>matI e (Lin.num n) σ K
 | .boo p v,.boo p' w=>match p == p' with
  | true=>σ.bi v (.var w) K
  | false=>K σ
 | .boo p v,.tru b=>σ.bi v (Lin.num (match p == b with
  | true=>1
  | false=>0)) K
 | .str v,.str w=>σ.bs v w K
 | .zp a o _,.zp a' o' _=>σ.ba a a' fun σ=>matI o o' σ K
 | .zp a o _,.np a' _ o' _=>σ.ba a a' fun σ=>matI o o' σ K
 | .np a v o _,.zp a' o' _=>σ.ba a a' fun σ=>σ.bi v (Lin.num 1) fun σ=>matI o o' σ K
 | .np a v o _,.nil=>σ.ba a nl fun σ=>σ.bi v L0 fun σ=>matI o L0 σ K
 | .np a v o _,.np a' v' o' _=>σ.ba a a' fun σ=>σ.bi v (.var v') fun σ=>matI o o' σ K
 | .zs a o _ n c,.zs a' o' _ n' c'=>σ.ba a a' fun σ=>matI o o' σ fun σ=>matI n n' σ fun σ=>matI c c' σ K
 | .zs a o _ n c,.nos=>σ.ba a nl fun σ=>matI o L0 σ fun σ=>matI n L0 σ fun σ=>matI c L0 σ K
 | .clo _ ps,.clo _ xs=>matCaps ps xs σ K
 | _,_=>K σ
def matL (nl : Nat) : List DC -> List DC -> Sb -> (Sb -> Sb) -> Sb
 | p :: ps,x :: xs,σ,K=>matC nl p x σ fun σ=>matL nl ps xs σ K
 | _,_,σ,K=>K σ
def mat1 (nl : Nat) (p x : D1) (σ : Sb) (K : Sb -> Sb) : Sb:=match p,x with
 | .c p,.c x=>matC nl p x σ K
 | .a ps,.a xs=>matL nl ps xs σ K
 | _,_=>K σ
def matT (nl : Nat) : List D1 -> List D1 -> Sb -> (Sb -> Sb) -> Sb
 | p :: ps,x :: xs,σ,K=>mat1 nl p x σ fun σ=>matT nl ps xs σ K
 | _,_,σ,K=>K σ
def matV (nl : Nat) (p x : DV) (σ : Sb) (K : Sb -> Sb) : Sb:=match p,x with
 | .s p,.s x=>mat1 nl p x σ K
 | .t ps,.t xs=>matT nl ps xs σ K
 | _,_=>K σ
def matP (nl : Nat) (get : Nat -> Option DV) : List (Nat × DV) -> Sb -> (Sb -> Sb) -> Sb
 | [],σ,K=>K σ
 | p :: ps,σ,K=>match get p.1 with
  | some x=>matV nl p.2 x σ fun σ=>matP nl get ps σ K
  | none=>matP nl get ps σ K
def matM (nl : Nat) (all : List Cell) : List Cell -> List Cell -> Sb -> (Sb -> Sb) -> Sb
 | _,[],σ,K=>K σ
 | tl,m :: qs,σ,K=>gN (σ.av m.a) fun a=>gL (m.o.sbs σ) fun o=>match findT tl a o with
  | some (x,t)=>matC nl m.v x.v σ fun σ=>matM nl all t qs σ K
  | none=>match findT all a o with
   | some (x,t)=>matC nl m.v x.v σ fun σ=>matM nl all t qs σ K
   | none=>matM nl all tl qs σ K
def fitsA (κ : Kn) (nl : Nat) (σ : Sb) (f g : Atom) : Bool:=match Nat.beq g.id f.id with
 | true=>match sbsL (matL nl f.xs g.xs σ fun σ=>σ) f.xs with
  | some ys=>leL κ g.xs ys
  | none=>false
 | false=>false
def pickA (κ : Kn) (nl : Nat) (σ : Sb) (f : Atom) : List Atom -> Option Atom
 | []=>none
 | g :: gs=>match fitsA κ nl σ f g with
  | true=>some g
  | false=>pickA κ nl σ f gs
def matF (κ : Kn) (nl : Nat) (gs : List Atom) : List Atom -> Sb -> (Sb -> Sb) -> Sb
 | [],σ,K=>K σ
 | f :: fs,σ,K=>match pickA κ nl σ f gs with
  | some g=>matL nl f.xs g.xs σ fun σ=>matF κ nl gs fs σ K
  | none=>matF κ nl gs fs σ K
def nullD (d : Ds) : Nat:=match d.adr.getLast? with
 | some p=>p.1
 | none=>0
def Shp.mat (sh : Shp) (get : Nat -> Option DV) (κ : Kn) (d : Ds) (σ : Sb) : Sb:=
 gN (nullD d) fun nl=>matP nl get sh.P σ fun σ=>matM nl d.memo d.memo sh.M σ fun σ=>matF κ nl (d.G.map Fct.f) sh.G σ fun σ=>matF κ nl κ.F sh.F σ fun σ=>σ
def Sb.fix {β : Type} (σ : Sb) (r b : Nat) (K : Sb -> β) : β:=match σ with
 | ⟨i,a,s,_,_⟩=>K ⟨i,a,s,r,b⟩
theorem Sb.fix_eq {β : Type} (σ : Sb) (r b : Nat) (K : Sb -> β) : σ.fix r b K = K { σ with r:=r,b:=b }:=by cases σ;rfl
def oneNew : List (Nat × Nat) -> Bool
 | [_]=>true
 | _=>false
def newCls (l : List (Nat × Nat)) (y : Bool) (q : Nat) : Nat:=match q with
 | 0=>0
 | _=>if oneNew l && !y then 2 else 1
def backP (sh : Shp) (y : Bool) (σ : Sb) (κ : Kn) (d : Ds) (kk : Kn -> Ds -> DV -> Bool) : Bool:=
 match sh.enter false σ κ d (newCls sh.adr y) with
 | some (κ',d',[(0,y)])=>kk κ' d' y
 | _=>false
def subW (W Wf : Wt) : Bool:=subN Wf.W W.W && (match W.hasY with
 | true=>tagsY W Wf.ys
 | false=>true)
def callGo (tc : TC) (W : Wt) (σ : Sb) (args : List DV) (κ : Kn) (d : Ds) (kk : Kn -> Ds -> DV -> Bool) : Bool:=
 Nat.beq args.length tc.k && (σ.inB tc.pre.n κ.n && (σ.keysB tc.pre.n && (tc.pre.chk σ κ d (fun i=>args[i]?) && (subW W tc.wt &&
  allB (fun sh=>backP sh tc.wt.hasY { σ with r:=tc.pre.n,b:=κ.n } κ ⟨dropC tc.wt.all d.memo,d.adr,keepG tc.wt.all (W.old tc.wt) d.G⟩ kk) tc.post))))
def callT (tc : TC) (W : Wt) (args : List DV) (κ : Kn) (d : Ds) (kk : Kn -> Ds -> DV -> Bool) : Bool:=
 (tc.pre.mat (fun i=>args[i]?) κ d {}).fix tc.pre.n 0 fun σ=>callGo tc W σ args κ d kk
theorem Sb.rebase {σ : Sb} {b : Nat} {v : Nat} (hv : v < σ.r) : ({ σ with b:=b } : Sb).iv v = σ.iv v /\ ({ σ with b:=b } : Sb).av v = σ.av v /\ ({ σ with b:=b } : Sb).sv v = σ.sv v:=by
 have e : Nat.blt v σ.r = true:=by simpa [Nat.blt_eq] using hv
 refine ⟨?_, ?_, ?_⟩ <;> simp only [Sb.iv,Sb.av,Sb.sv,Sb.mv,e]
def AllV2 (sg : Sig) (ρ : Vl) (n : Nat) (xs : List DV) (vs : List Value) : Prop:=xs.length = vs.length /\ ∀ (i : Nat) (x : DV),xs[i]? = some x -> x.lt n /\ ∃ v,vs[i]? = some v /\ (x.den ρ).ok (mu sg) v
theorem callT_ok {P : Program} {f : FuncId} {tc : TC} {E : Ent} {sg : Sig} {κ : Kn} {ρ : Vl} {d : Ds} {w : World} {kk : Kn -> Ds -> DV -> Bool} {args : List DV} {vs : List Value} (hf : TCok P f tc) (hm : MOk E sg κ ρ d w) (ha : AllV2 sg ρ κ.n args vs) (h : callT tc E.W args κ d kk = true) :
  Calls P f vs.toArray w fun e w'=>∃ v,e = .returned v /\ (tc.W = [] -> tc.Y = none -> Keep w w') /\ GotM E sg κ ρ kk v w':=by
 unfold callT at h
 rw [Sb.fix_eq] at h
 generalize hσ : ({ tc.pre.mat (fun i=>args[i]?) κ d {} with r:=tc.pre.n,b:=0 } : Sb) = σ at h
 have hr : σ.r = tc.pre.n:=by rw [← hσ]
 clear hσ
 simp only [callGo,Bool.and_eq_true] at h
 obtain ⟨h1,h2,h3,h4,h5,h6⟩:=h
 have hlen:=Nat.eq_of_beq_eq_true h1
 have hin:=Sb.inB_ok h2
 have hH:=Shp.chk_ok (gv:=fun i=>vs[i]?) hm (fun i x hx=>(ha.2 i x hx).2) h4
 have hwf:=hf.wf
 simp only [TC.wf,Bool.and_eq_true] at hwf
 have hcl : ∀ p ∈ tc.pre.adr,1 <= p.2 -> tc.wt.hasY = true:=fun p hp hq=>by
  have:=allB_ok hwf.1.2 p hp
  split at this
  ·omega
  ·exact this
  ·cases this
 have hH0 : tc.pre.Holds (tc.ent sg w (σ.app ρ)) sg (σ.app ρ) (fun i=>vs[i]?) w:=⟨hH.C,hH.P,hH.M,hH.asz,fun p hp hq h0=>.inr ⟨((σ.app ρ).a p.1).1.toNat,by omega,hcl p hp hq,p,hp,hq,by omega⟩,hH.F,hH.G⟩
 simp only [subW,Bool.and_eq_true] at h5
 have hW:=subN_ok h5.1
 have hY : E.W.hasY = true -> ∀ g ∈ tc.wt.ys,g ∈ E.W.W \/ g ∈ E.W.ys:=fun e=>by
  have:=h5.2
  rw [e] at this
  exact tagsY_ok this
 have hown : ∀ b,(Ent.mk w sg tc.wt (tc.own (σ.app ρ))).ow b -> E.yg (b : Int):=fun b ho=>by
  obtain ⟨_,p,hp,hq,hb⟩:=ho
  have:=hH.young p hp hq (by rw [hb];omega)
  rw [hb] at this
  exact this
 refine (hf.ok sg w (σ.app ρ) vs hm.zone (by rw [← ha.1];exact hlen) hH0).mono fun e w' he=>?_
 obtain ⟨v,rfl,sg',g1,g2,g3,sh,hsh,ρ2,g4,g5⟩:=he
 refine ⟨v,rfl,fun hW0 hY0=>?_, ?_⟩
 ·refine ⟨g3.size,fun b hb=>?_⟩
  rcases g3.keep b hb with k | ⟨c1,c2,t,k1,k2,k3,k4⟩
  ·exact k
  ·have k1 : w.heap[b]? = _:=k1
   rw [k1,k2]
   congr 2
   apply Array.ext_getElem?
   intro i
   refine k4 i fun c hc=>⟨?_,fun ho=>?_⟩
   ·show c.tag ∉ tc.W
    rw [hW0];simp
   ·have:=ho.1
    simp only [TC.ent,TC.wt,Wt.hasY,hY0] at this
    cases this
 ·have hm':=hm.after (Wf:=tc.wt) g1 g2 g3 hW hY hown
  have hb:=allB_ok h6 sh hsh
  have hshw:=allB_ok hwf.2 sh hsh
  rw [Bool.and_eq_true] at hshw
  have hshl:=Shp.ltB_ok hshw.1
  unfold backP at hb
  split at hb
  ·rename_i κ' d' y he
   have hr' : ({ σ with r:=tc.pre.n,b:=κ.n } : Sb) = { σ with b:=κ.n }:=by rw [← hr]
   rw [hr'] at he
   have hagr : Agr σ.r (({ σ with b:=κ.n } : Sb).app ρ) ρ2:=by
    refine ⟨fun u hu=>?_,fun u hu=>?_,fun u hu=>?_,g4.A⟩
    ·rw [← g4.i u (by rw [← hr];exact hu)];simp only [Sb.app];rw [(Sb.rebase hu).1]
    ·rw [← g4.s u (by rw [← hr];exact hu)];simp only [Sb.app];rw [(Sb.rebase hu).2.2]
    ·rw [← g4.a u (by rw [← hr];exact hu)];simp only [Sb.app];rw [(Sb.rebase hu).2.1]
   have hin' : ({ σ with b:=κ.n } : Sb).In σ.r κ.n:=by
    refine ⟨fun u hu=>?_,fun u hu=>?_,fun u hu=>?_⟩
    ·rw [(Sb.rebase hu).1];exact hin.i u (by rw [← hr];exact hu)
    ·rw [(Sb.rebase hu).2.1];exact hin.a u (by rw [← hr];exact hu)
    ·rw [(Sb.rebase hu).2.2];exact hin.s u (by rw [← hr];exact hu)
   have hsz : E.w.heap.size <= w.heap.size:=hm.fr.size
   have ha1 : ∀ p ∈ sh.adr,1 <= newCls sh.adr tc.wt.hasY p.2 -> 0 <= (ρ2.a p.1).1 -> E.yg (ρ2.a p.1).1:=fun p hp hq h0=>by
    have hp1 : 1 <= p.2:=by
     cases e : p.2 with
     | zero=>rw [e] at hq;simp [newCls] at hq
     | succ n=>omega
    rcases g5.young p hp hp1 h0 with k | ⟨b,k1,k2⟩
    ·have k : (w.heap.size : Int) <= (ρ2.a p.1).1:=k
     exact .inl (by omega)
    ·rw [k1];exact hown b k2
   have ha2 : ∀ p ∈ sh.adr,2 <= newCls sh.adr tc.wt.hasY p.2 -> 0 <= (ρ2.a p.1).1 -> sh.adr = [p] /\ ∀ x ∈ d.adr,(ρ.a x.1).1 < (ρ2.a p.1).1:=fun p hp hq h0=>by
    have hp1 : 1 <= p.2 /\ oneNew sh.adr = true /\ tc.wt.hasY = false:=by
     cases e : p.2 with
     | zero=>rw [e] at hq;simp [newCls] at hq
     | succ n=>
      rw [e] at hq
      simp only [newCls] at hq
      split at hq
      ·rename_i h1
       rw [Bool.and_eq_true,Bool.not_eq_true'] at h1
       exact ⟨by omega,h1⟩
      ·omega
    have hy : (w.heap.size : Int) <= (ρ2.a p.1).1:=by
     rcases g5.young p hp hp1.1 h0 with k | ⟨b,k1,k2⟩
     ·exact k
     ·have : tc.wt.hasY = true:=k2.1
      rw [hp1.2.2] at this;cases this
    refine ⟨?_,fun x hx=>?_⟩
    ·have:=hp1.2.1
     unfold oneNew at this
     split at this
     ·rename_i z hz
      rw [hz] at hp ⊢
      simp at hp
      rw [hp]
     ·cases this
    ·have:=hm.asz x hx
     omega
   obtain ⟨ρ',q1,q2,q3,_⟩:=Shp.enter_ok (σ:={ σ with b:=κ.n }) hm' g5 (fun h=>by cases h) (by rw [← hr] at h3;exact h3) rfl hin' hagr (by rw [hr];exact hshl) (fun p hp=>by
     rw [hr]
     exact Nat.le_of_ble_eq_true (allB_ok hshw.2 p hp)) ha1 ha2 he
   obtain ⟨k1,v',k2,k3⟩:=q3 (0,y) (by simp)
   simp only [res1] at k2
   cases k2
   exact ⟨sg',κ',d',y,ρ',hb,q1,k1,k3,g1,q2⟩
  ·cases hb
end
end Vx
namespace Vx
noncomputable section
open Go Zx
def okLeaf : TypeDesc -> DC -> Bool
 | .int _, .num _ _ => true
 | .int _, .int _ _ => true
 | .bool, .tru _ => true
 | .bool, .boo _ _ => true
 | _, _ => false
theorem okLeaf_ok {d : TypeDesc} {x : DC} (h : okLeaf d x = true) (ρ : Vl) : ∃ p, eqLeaf d (x.den ρ) (x.den ρ) = some p /\ p := by
 unfold okLeaf at h
 split at h
 ·rename_i k k' n
  exact ⟨n = n, by simp only [DC.den, eqLeaf, if_true], rfl⟩
 ·rename_i k k' e
  exact ⟨e.den ρ.i = e.den ρ.i, by simp only [DC.den, eqLeaf, if_true], rfl⟩
 ·rename_i b
  exact ⟨b = b, by simp only [DC.den, eqLeaf], rfl⟩
 ·rename_i q v
  exact ⟨(q == decide (ρ.i v = 1)) = (q == decide (ρ.i v = 1)), by simp only [DC.den, eqLeaf], rfl⟩
 ·cases h
def partQ (P : Program) (t : TypeId) (cs : List DC) (off : Nat) : Option (List DC) :=
 match P.underlying t, P.info? t with
 | some d, some inf => match agD d with
  | true => some ((cs.drop off).take inf.size)
  | false => match cs[off]? with
   | some c => some [c]
   | none => none
 | _, _ => none
theorem partQ_ok {P : Program} {t : TypeId} {cs xs : List DC} {off : Nat} (h : partQ P t cs off = some xs) (ρ : Vl) : partS P t (cs.map (DC.den ρ)) off = some (xs.map (DC.den ρ)) := by
 unfold partQ at h
 unfold partS
 split at h
 ·rename_i d inf hu hi
  rw [hu, hi]
  simp only []
  split at h
  ·rename_i ha
   cases h
   rw [if_pos ha, List.map_take, List.map_drop]
  ·rename_i ha
   rw [if_neg (by rw [ha]; simp)]
   split at h
   ·rename_i c hc
    cases h
    rw [List.getElem?_map, hc]; rfl
   ·cases h
 ·cases h
def eqFsB (P : Program) (rec : TypeId -> List DC -> Bool) (xs : List DC) : List Field -> Bool
 | [] => true
 | f :: fs => match f.name == "_" with
  | true => eqFsB P rec xs fs
  | false => match partQ P f.type xs f.offset with
   | some a => rec f.type a && eqFsB P rec xs fs
   | none => false
def eqIsB (P : Program) (rec : List DC -> Bool) (e : TypeId) (n : Nat) (xs : List DC) : List Nat -> Bool
 | [] => true
 | i :: is => match partQ P e xs (i * n) with
  | some a => rec a && eqIsB P rec e n xs is
  | none => false
def eqB (P : Program) : Nat -> TypeId -> List DC -> Bool
 | 0, _, _ => false
 | d + 1, t, xs => match P.underlying t with
  | some (.struct fs) => !P.stoodInHeld t && eqFsB P (eqB P d) xs fs.toList
  | some (.array n e) => match P.info? e with
   | some _ => eqIsB P (eqB P d e) e (P.cellsOf e) xs (List.range n)
   | none => false
  | some dd => match xs with
   | [x] => okLeaf dd x
   | _ => false
  | none => false
theorem eqFsB_ok {P : Program} {rec : TypeId -> List DC -> Bool} {rec' : TypeId -> List SC -> List SC -> Option (List Prop)} {ρ : Vl} (hr : ∀ t xs, rec t xs = true -> ∃ ps, rec' t (xs.map (DC.den ρ)) (xs.map (DC.den ρ)) = some ps /\ conjP ps) {xs : List DC} :
  ∀ {fs : List Field}, eqFsB P rec xs fs = true -> ∃ ps, eqFs P rec' (xs.map (DC.den ρ)) (xs.map (DC.den ρ)) fs = some ps /\ conjP ps
 | [], _ => ⟨[], rfl, trivial⟩
 | f :: fs, h => by
  simp only [eqFsB] at h
  simp only [eqFs]
  split at h
  ·rename_i hn
   rw [if_pos (by simpa using hn)]
   exact eqFsB_ok hr h
  ·rename_i hn
   rw [if_neg (by simpa using hn)]
   split at h
   ·rename_i a ha
    rw [Bool.and_eq_true] at h
    obtain ⟨p, h1, h2⟩ := hr _ _ h.1
    obtain ⟨q, h3, h4⟩ := eqFsB_ok hr h.2
    refine ⟨p ++ q, ?_, (conjP_append p q).2 ⟨h2, h4⟩⟩
    rw [partQ_ok ha ρ]
    simp only [h1, h3]
   ·cases h
theorem eqIsB_ok {P : Program} {rec : List DC -> Bool} {rec' : List SC -> List SC -> Option (List Prop)} {e : TypeId} {n : Nat} {ρ : Vl} (hr : ∀ xs, rec xs = true -> ∃ ps, rec' (xs.map (DC.den ρ)) (xs.map (DC.den ρ)) = some ps /\ conjP ps) {xs : List DC} :
  ∀ {is : List Nat}, eqIsB P rec e n xs is = true -> ∃ ps, eqIs P rec' e n (xs.map (DC.den ρ)) (xs.map (DC.den ρ)) is = some ps /\ conjP ps
 | [], _ => ⟨[], rfl, trivial⟩
 | i :: is, h => by
  simp only [eqIsB] at h
  simp only [eqIs]
  split at h
  ·rename_i a ha
   rw [Bool.and_eq_true] at h
   obtain ⟨p, h1, h2⟩ := hr _ h.1
   obtain ⟨q, h3, h4⟩ := eqIsB_ok hr h.2
   refine ⟨p ++ q, ?_, (conjP_append p q).2 ⟨h2, h4⟩⟩
   rw [partQ_ok ha ρ]
   simp only [h1, h3]
  ·cases h
theorem eqB_ok {P : Program} {ρ : Vl} : ∀ {d : Nat} {t : TypeId} {xs : List DC}, eqB P d t xs = true -> ∃ ps, eqP P d t (xs.map (DC.den ρ)) (xs.map (DC.den ρ)) = some ps /\ conjP ps
 | 0, _, _, h => by simp [eqB] at h
 | d + 1, t, xs, h => by
  simp only [eqB] at h
  simp only [eqP]
  split at h
  ·rename_i fs hu
   rw [hu]
   rw [Bool.and_eq_true] at h
   simp only []
   rw [if_neg (by simpa using h.1)]
   exact eqFsB_ok (fun t xs hh => eqB_ok hh) h.2
  ·rename_i n e hu
   rw [hu]
   simp only []
   split at h
   ·rename_i inf hi
    rw [hi]
    exact eqIsB_ok (fun xs hh => eqB_ok hh) h
   ·cases h
  ·rename_i dd hns hna hu
   split at h
   ·rename_i x
    obtain ⟨p, h1, h2⟩ := okLeaf_ok h ρ
    rw [hu]
    refine ⟨[p], ?_, h2⟩
    cases dd <;> first | exact absurd rfl (hns _) | exact absurd rfl (hna _ _) | simp [h1]
   ·cases h
  ·cases h
def eqAg (P : Program) (op : BinOp) (t : TypeId) (x y : DV) (κ : Kn) (kk : Kn -> DV -> Bool) : Bool := match x, y with
 | .s (.a xs), .s (.a ys) => match P.underlying t with
  | some d => agD d && (!P.eqGuardType P.depth t && (eqB P 20 t xs && (leL κ ys xs && match op with
   | .eql => kk κ tT
   | .neq => kk κ tF
   | _ => false)))
  | none => false
 | _, _ => false
theorem eqAg_uni {P : Program} {op : BinOp} {t : TypeId} {xo yo : Operand} {x y : DV} {κ : Kn} {ρ : Vl} {sg : Sig} {u v : Value} {kk : Kn -> DV -> Bool} (hκ : κ.Ok ρ) (hx : (x.den ρ).ok (mu sg) u) (hy : (y.den ρ).ok (mu sg) v) (h : eqAg P op t x y κ kk = true) :
  ∃ z, (∀ w, (do eqGuard op t xo yo u v; Go.binOp op t u v).run P w = .ok z w) /\ GotP sg κ ρ kk z := by
 unfold eqAg at h
 split at h
 ·rename_i xs ys
  split at h
  ·rename_i d hd
   simp only [Bool.and_eq_true, Bool.not_eq_true'] at h
   obtain ⟨hag, hg, he, hl, h⟩ := h
   obtain ⟨us, rfl, hxa⟩ := hx
   obtain ⟨vs, rfl, hya⟩ := hy
   have hya := leL_ok hκ hl hya
   obtain ⟨ps, hp1, hp2⟩ := eqB_ok (ρ := ρ) he
   have hb : ∀ w, (Op.equalIn 10000 t (.agg us.toArray) (.agg vs.toArray)).run P w = .ok true w := fun w => by
    obtain ⟨b, h1, h2⟩ := eqP_ok (P := P) (μ := mu sg) (w := w) 20 9980 t _ _ ps (.agg us.toArray) (.agg vs.toArray) hp1 ⟨d, hd, by rw [if_pos hag]; exact ⟨us, rfl, hxa⟩⟩ ⟨d, hd, by rw [if_pos hag]; exact ⟨vs, rfl, hya⟩⟩
    rw [h2.2 hp2] at h1
    exact h1
   have hr : ∀ w, (eqGuard op t xo yo (.agg us.toArray) (.agg vs.toArray)).run P w = .ok () w := fun w => run_eqGuard_agg (P := P) w op t xo yo us.toArray vs.toArray hg
   cases op <;> simp only [] at h <;> try (cases h; done)
   ·refine ⟨.bool true, fun w => ?_, κ, tT, ρ, h, Gr.refl hκ, trivial, rfl⟩
    rw [Sem.run_bind, hr w]; simp only [Result.andThen_ok]; rw [run_eql_struct, hb w]; rfl
   ·refine ⟨.bool false, fun w => ?_, κ, tF, ρ, h, Gr.refl hκ, trivial, rfl⟩
    rw [Sem.run_bind, hr w]; simp only [Result.andThen_ok]; rw [run_neq_struct, hb w]; rfl
  ·cases h
 ·cases h
end
end Vx
namespace Vx
noncomputable section
open Go Zx
def slG (l : List DV) (i : Nat) : DV:=@Nat.rec (fun _=>List DV -> DV) (fun l=>@List.rec DV (fun _=>DV) .u (fun x _ _=>x) l) (fun _ ih l=>@List.rec DV (fun _=>DV) .u (fun _ t _=>ih t) l) i l
theorem slG_eq : ∀ (l : List DV) (i : Nat),slG l i = l.getD i .u
 | [],0=>rfl
 | _ :: _,0=>rfl
 | [],_ + 1=>rfl
 | _ :: l,i + 1=>by
  show slG l i = _
  rw [slG_eq l i];simp
def slP {β : Type} (x : DV) (l : List DV) (i : Nat) (K : List DV -> β) : β:=@Nat.rec (fun _=>List DV -> (List DV -> β) -> β) (fun l K=>@List.rec DV (fun _=>β) (K []) (fun _ t _=>K (x :: t)) l) (fun _ ih l K=>@List.rec DV (fun _=>β) (K []) (fun h t _=>ih t fun t=>K (h :: t)) l) i l K
theorem slP_eq {β : Type} (x : DV) : ∀ (l : List DV) (i : Nat) (K : List DV -> β),slP x l i K = K (l.set i x)
 | [],0,_=>rfl
 | _ :: _,0,_=>rfl
 | [],_ + 1,_=>rfl
 | h :: l,i + 1,K=>by
  show slP x l i (fun t=>K (h :: t)) = _
  rw [slP_eq x l i];rfl
def evD (slots : List DV) : Operand -> DV
 | .tmp t=>slG slots t
 | .const v=>constDV v
 | .func f=>d1 (.fn f)
 | .global _=>.u
def isBl (P : Program) : Op -> Bool
 | .move _=>true
 | .assign _=>true
 | .pick _ _ _=>true
 | .build _ _=>true
 | .nilCheck _=>true
 | .binOp _ _ _ _ _=>true
 | .unOp _ _ _=>true
 | .convert _ t _=>match P.underlying t with
  | some .string=>false
  | _=>true
 | .slice _ _ _ _ _=>true
 | .fieldAddr _ _ _=>true
 | .field _ _ _=>true
 | .indexAddr _ _ _=>true
 | .index _ _ _=>true
 | .extract _ _=>true
 | .makeFunc _ _ _=>true
 | .call c=>match c.callee with
  | .builtin .len=>true
  | .builtin .min=>true
  | .builtin .max=>true
  | _=>false
 | _=>false
def isAgT : DV -> Bool
 | .s (.a _)=>true
 | _=>false
def blT (P : Program) (o : Op) (ev : Operand -> DV) (κ : Kn) (d : Ds) (kk : Kn -> Ds -> DV -> Bool) : Bool:=
 match o with
 | .move x=>kk κ d (ev x)
 | .assign x=>kk κ d (ev x)
 | .pick c a b=>pickD (ev c) (ev a) (ev b) κ fun κ' y=>kk κ' d y
 | .build t ps=>match buildD P t (ps.toList.map fun p=>(p.1,ev p.2)) with
  | some y=>kk κ d y
  | none=>false
 | .nilCheck x=>match ev x with
  | .s (.c (.zp a o L))=>kk κ d (d1 (.zp a o L))
  | .s (.c (.np a v o L))=>κ.has ((Lin.var v).addc (-1)) && (κ.has ((Lin.num 1).sub (.var v)) && kk κ d (d1 (.zp a o L)))
  | _=>false
 | .binOp op t x y _=>match isNilC y && slcT P t with
  | true=>nilD op (ev x) κ fun κ' y=>kk κ' d y
  | false=>match npD op (ev x) (ev y),P.underlying t with
   | some r,some (.pointer _)=>kk κ d r
   | _,_=>match (ev x).isStr with
    | true=>strD P op t (ev x) (ev y) κ fun κ' y=>kk κ' d y
    | false=>match isAgT (ev x) with
     | true=>eqAg P op t (ev x) (ev y) κ fun κ' y=>kk κ' d y
     | false=>binD P op t (ev x) (ev y) κ fun κ' y=>kk κ' d y
 | .unOp op _ x=>unD op (ev x) κ fun κ' y=>kk κ' d y
 | .convert s t x=>convD P s t (ev x) κ fun κ' y=>kk κ' d y
 | .slice t x lo hi mx=>match sliceT P t (ev x) (lo.map ev) (hi.map ev) (mx.map ev) κ with
  | some y=>kk κ d y
  | none=>false
 | .fieldAddr s x f=>match fieldT P s (ev x) f κ with
  | some y=>kk κ d y
  | none=>false
 | .field s x f=>match fieldD P s (ev x) f with
  | some y=>kk κ d y
  | none=>false
 | .indexAddr t x i=>match indexT P t (ev x) (ev i) κ with
  | some y=>kk κ d y
  | none=>false
 | .index t x i=>indexA P t (ev x) (ev i) κ d kk
 | .extract x i=>match extractD (ev x) i with
  | some y=>kk κ d y
  | none=>false
 | .makeFunc fn first caps=>match makeD fn (first.toList.map ev) (caps.toList.map ev) with
  | some y=>kk κ d y
  | none=>false
 | .call c=>match c.callee,c.args.toList,c.argTypes.toList with
  | .builtin .len,[x],[t]=>lenD P t (ev x) κ fun κ' y=>kk κ' d y
  | .builtin .min,x :: ys,_=>match (ev x).int? with
   | some (k,a,_)=>minD false k (fun κ' y=>kk κ' d y) a (ys.map ev) κ
   | none=>false
  | .builtin .max,x :: ys,_=>match (ev x).int? with
   | some (k,a,_)=>minD true k (fun κ' y=>kk κ' d y) a (ys.map ev) κ
   | none=>false
  | _,_,_=>false
 | _=>false
def EvOk (sg : Sig) (ρ : Vl) (n : Nat) (ev : Operand -> DV) (a : Act) : Prop:=∀ x,(ev x).lt n /\ ((ev x).den ρ).ok (mu sg) (a.eval x)
theorem GotP.toM {E : Ent} {sg : Sig} {κ : Kn} {ρ : Vl} {d : Ds} {w : World} {kk : Kn -> Ds -> DV -> Bool} {z : Value} (hm : MOk E sg κ ρ d w) (h : GotP sg κ ρ (fun κ' y=>kk κ' d y) z) : GotM E sg κ ρ kk z w:=by
 obtain ⟨κ',y,ρ',h1,h2,h3,h4⟩:=h
 exact ⟨sg,κ',d,y,ρ',h1,h2,h3,h4,Grows.refl _,hm.gr h2⟩
theorem Now.toM {E : Ent} {sg : Sig} {κ : Kn} {ρ : Vl} {d : Ds} {w : World} {kk : Kn -> Ds -> DV -> Bool} {z : Value} {y : DV} (hm : MOk E sg κ ρ d w) (h : Now sg κ ρ y z) (hk : kk κ d y = true) : GotM E sg κ ρ kk z w:=⟨sg,κ,d,y,ρ,hk,Gr.refl hm.kn,h.1,h.2,Grows.refl _,hm⟩
theorem allD_map {sg : Sig} {ρ : Vl} {n : Nat} {ev : Operand -> DV} {a : Act} (h : EvOk sg ρ n ev a) : ∀ l : List Operand,AllD sg ρ (l.map ev) (l.map a.eval)
 | []=>trivial
 | x :: l=>⟨(h x).2,allD_map h l⟩
theorem allPD_map {sg : Sig} {ρ : Vl} {n : Nat} {ev : Operand -> DV} {a : Act} (h : EvOk sg ρ n ev a) : ∀ l : List (Nat × Operand),AllPD sg ρ (l.map fun p=>(p.1,ev p.2)) (l.map fun p=>(p.1,a.eval p.2))
 | []=>trivial
 | x :: l=>⟨rfl,(h x.2).2,allPD_map h l⟩
theorem allPS_map {sg : Sig} {ρ : Vl} {n : Nat} {ev : Operand -> DV} {a : Act} (h : EvOk sg ρ n ev a) : ∀ l : List (Nat × Operand),AllP (mu sg) ((l.map fun p=>(p.1,ev p.2)).map fun p=>(p.1,p.2.den ρ)) (l.map fun p=>(p.1,a.eval p.2))
 | []=>trivial
 | x :: l=>⟨rfl,(h x.2).2,allPS_map h l⟩
theorem optT_map {sg : Sig} {ρ : Vl} {n : Nat} {ev : Operand -> DV} {a : Act} (h : EvOk sg ρ n ev a) : ∀ o : Option Operand,optT sg ρ (o.map ev) (o.map a.eval) /\ optLt n (o.map ev)
 | none=>⟨trivial,trivial⟩
 | some x=>⟨(h x).2,(h x).1⟩
theorem exV {P : Program} {x : Sem Value} {y : Sem Next} {z : Value} (he : y = (do pure (.value (← x)))) (h : ∀ w,x.run P w = .ok z w) : ∀ w,y.run P w = .ok (.value z) w:=fun w=>by
 rw [he,Sem.run_bind,h w]
 simp
theorem blT_ok {E : Ent} {sg : Sig} {P : Program} {o : Oper} {ev : Operand -> DV} {κ : Kn} {ρ : Vl} {d : Ds} {w : World} {a : Act} {kk : Kn -> Ds -> DV -> Bool} (hm : MOk E sg κ ρ d w) (hev : EvOk sg ρ κ.n ev a) (h : blT P o.op ev κ d kk = true) :
  ∃ z,(∀ w',(execOp a.eval o).run P w' = .ok (.value z) w') /\ GotM E sg κ ρ kk z w:=by
 obtain ⟨dst,op,type,pos,after,guard⟩:=o
 have hκ:=hm.kn
 cases op <;> simp only [blT] at h <;> try (cases h;done)
 case move x=>exact ⟨a.eval x,fun w'=>by simp [execOp],Now.toM hm (hev x) h⟩
 case assign x=>exact ⟨a.eval x,fun w'=>by simp [execOp],Now.toM hm (hev x) h⟩
 case pick c x y=>
  obtain ⟨z,h1,h2⟩:=pickD_uni (P:=P) hκ (hev c).1 (hev x).1 (hev y).1 (hev c).2 (hev x).2 (hev y).2 h
  refine ⟨z,fun w'=>?_,h2.toM hm⟩
  have:=h1 w'
  simp only [execOp]
  rw [Sem.run_bind] at this ⊢
  cases hb : (asBool (a.eval c)).run P w' with
  | halt q w1=>rw [hb] at this;simp [Result.andThen] at this
  | ok b w1=>
   rw [hb] at this
   simp only [Result.andThen_ok,Sem.run_pure,Result.ok.injEq] at this ⊢
   exact ⟨by rw [this.1],this.2⟩
 case build t ps=>
  split at h
  ·rename_i y hy
   obtain ⟨g1,g2⟩:=buildD_ok hy (n:=κ.n) (fun p hp=>by
    obtain ⟨q,hq,rfl⟩:=List.mem_map.1 hp
    exact (hev q.2).1) ρ
   obtain ⟨z,sv,q1,q2,q3⟩:=build_ok (w:=w) (allPS_map hev ps.toList) g2.run
   subst q2
   refine ⟨z,exV (x:=Instr.build t (ps.map fun (i,x)=>(i,a.eval x))) (by simp only [execOp]) fun w'=>?_,Now.toM hm ⟨g1,q3⟩ h⟩
   refine (Bl.build t _).run (w:=w) (w':=w) ?_ w'
   rw [← q1]
   congr 2
   apply Array.toList_inj.1
   simp
  ·cases h
 case nilCheck x=>
  split at h
  ·rename_i ad o' L e
   have hx:=hev x
   rw [e] at hx
   obtain ⟨b,hb,hu,hs⟩:=zp_ok hx.2
   exact ⟨a.eval x,fun w'=>by simp [execOp,hu],Now.toM hm hx h⟩
  ·rename_i ad v o' L e
   have hx:=hev x
   rw [e] at hx
   simp only [Bool.and_eq_true] at h
   have k1:=Kn.has_ok hκ h.1
   have k2:=Kn.has_ok hκ h.2.1
   rw [Lin.addc_den,Lin.var_den] at k1
   rw [Lin.sub_den,Lin.num_den,Lin.var_den] at k2
   rcases np_ok hx.2 with ⟨_,hz⟩ | ⟨hne,_⟩
   ·obtain ⟨b,hb,hu,hs⟩:=zp_ok hz
    exact ⟨a.eval x,fun w'=>by simp [execOp,hu],Now.toM (y:=d1 (.zp ad o' L)) hm ⟨(⟨hx.1.1,hx.1.2.2⟩ : ad < κ.n /\ o'.lt κ.n),hz⟩ h.2.2⟩
   ·omega
  ·cases h
 case binOp op t x y t2=>
  split at h
  ·rename_i hc
   rw [Bool.and_eq_true] at hc
   have hy : a.eval y = .slice none 0 0:=isNil_ok (μ:=mu sg) hc.1 a.eval fun v=>rfl
   have hu : ∃ el,P.underlying t = some (.slice el):=by
    have:=hc.2
    unfold slcT at this
    split at this
    ·rename_i el hu;exact ⟨el,hu⟩
    ·cases this
   obtain ⟨el,hu⟩:=hu
   obtain ⟨z,h1,h2⟩:=nilD_uni (P:=P) (xo:=x) (yo:=y) hκ (hev x).1 hu (hev x).2 h
   rw [← hy] at h1
   exact ⟨z,exV (by simp only [execOp]) h1,h2.toM hm⟩
  ·split at h
   ·rename_i r e hnp hut
    obtain ⟨z,h1,h2⟩:=npD_uni (P:=P) (xo:=x) (yo:=y) (hev x).1 hut (hev x).2 (hev y).2 hnp
    exact ⟨z,exV (by simp only [execOp]) h1,Now.toM hm h2 h⟩
   split at h
   ·obtain ⟨z,h1,h2⟩:=strD_uni (P:=P) (xo:=x) (yo:=y) hκ (hev x).2 (hev y).2 h
    exact ⟨z,exV (by simp only [execOp]) h1,h2.toM hm⟩
   ·split at h
    ·obtain ⟨z,h1,h2⟩:=eqAg_uni (P:=P) (xo:=x) (yo:=y) hκ (hev x).2 (hev y).2 h
     exact ⟨z,exV (by simp only [execOp]) h1,h2.toM hm⟩
    ·obtain ⟨z,h1,h2⟩:=binD_uni (P:=P) (xo:=x) (yo:=y) w hκ (hev x).1 (hev y).1 (hev x).2 (hev y).2 h
     exact ⟨z,exV (by simp only [execOp]) h1,h2.toM hm⟩
 case unOp op t x=>
  obtain ⟨z,h1,h2⟩:=unD_uni (P:=P) w hκ (hev x).1 (hev x).2 h
  exact ⟨z,exV (by simp only [execOp]) h1,h2.toM hm⟩
 case convert s t x=>
  obtain ⟨z,h1,h2⟩:=convD_uni (P:=P) w hκ (hev x).1 (hev x).2 h
  exact ⟨z,exV (by simp only [execOp]) h1,h2.toM hm⟩
 case slice t x lo hi mx=>
  split at h
  ·rename_i y hy
   obtain ⟨z,h1,h2⟩:=sliceT_ok hκ (hev x).1 (optT_map hev lo).2 (optT_map hev hi).2 (optT_map hev mx).2 (hev x).2 (optT_map hev lo).1 (optT_map hev hi).1 (optT_map hev mx).1 hy
   exact ⟨z,exV (by simp only [execOp]) h1,Now.toM hm h2 h⟩
  ·cases h
 case fieldAddr s x f=>
  split at h
  ·rename_i y hy
   obtain ⟨z,h1,h2⟩:=fieldT_ok hκ (hev x).1 (hev x).2 hy
   exact ⟨z,exV (by simp only [execOp]) h1,Now.toM hm h2 h⟩
  ·cases h
 case field s x f=>
  split at h
  ·rename_i y hy
   obtain ⟨g1,g2⟩:=fieldD_ok hy (hev x).1 ρ
   obtain ⟨z,sv,q1,q2,q3⟩:=fieldV_ok (w:=w) (hev x).2 g2.run
   subst q2
   exact ⟨z,exV (by simp only [execOp]) fun w'=>(Bl.field _ _ _).run q1 w',Now.toM hm ⟨g1,q3⟩ h⟩
  ·cases h
 case indexAddr t x i=>
  split at h
  ·rename_i y hy
   obtain ⟨z,h1,h2⟩:=indexT_ok hκ (hev x).1 (hev i).1 (hev x).2 (hev i).2 hy
   exact ⟨z,exV (by simp only [execOp]) h1,Now.toM hm h2 h⟩
  ·cases h
 case index t x i=>
  obtain ⟨z,h1,h2⟩:=indexA_ok hm (hev x).1 (hev i).1 (hev x).2 (hev i).2 h
  exact ⟨z,exV (by simp only [execOp]) h1,h2⟩
 case extract x i=>
  split at h
  ·rename_i y hy
   obtain ⟨g1,g2⟩:=extractD_ok hy (hev x).1 ρ
   obtain ⟨z,sv,q1,q2,q3⟩:=extract_ok (P:=P) (w:=w) (hev x).2 g2.run
   subst q2
   exact ⟨z,exV (by simp only [execOp]) fun w'=>(Bl.extract _ _).run q1 w',Now.toM hm ⟨g1,q3⟩ h⟩
  ·cases h
 case makeFunc fn first caps=>
  split at h
  ·rename_i y hy
   obtain ⟨z,h1,h2⟩:=makeD_uni (P:=P) (κ:=κ) (vf:=first.map a.eval) (vc:=caps.map a.eval) (fun x hx=>by
    obtain ⟨q,_,rfl⟩:=List.mem_map.1 hx
    exact (hev q).1) (by have:=allD_map hev first.toList;simpa using this) (by have:=allD_map hev caps.toList;simpa using this) hy
   exact ⟨z,exV (by simp only [execOp]) h1,Now.toM hm h2 h⟩
  ·cases h
 case call c=>
  obtain ⟨callee,args,argTypes⟩:=c
  obtain ⟨args⟩:=args
  obtain ⟨argTypes⟩:=argTypes
  simp only [] at h
  split at h
  ·rename_i x t
   obtain ⟨z,h1,h2⟩:=lenD_uni (P:=P) (ty:=type) hκ (hev x).1 (hev x).2 h
   refine ⟨z,fun w'=>?_,h2.toM hm⟩
   have:=h1 w'
   simp [execOp,resolve,invoke,builtin,this]
  ·rename_i x ys
   split at h
   ·rename_i k e c he
    have e1:=SV.int_ok (DV.int?_den he ρ) (hev x).2
    obtain ⟨z,h1,h2⟩:=minD_uni (P:=P) (mx:=false) hκ (DV.int?_lt he (hev x).1) (fun y hy=>by
     obtain ⟨q,_,rfl⟩:=List.mem_map.1 hy
     exact (hev q).1) (allD_map hev ys) h
    refine ⟨z,fun w'=>?_,h2.toM hm⟩
    have:=h1 w'
    simp [execOp,resolve,invoke,builtin,Builtin.min_,e1] at this ⊢
    simp [this]
   ·cases h
  ·rename_i x ys
   split at h
   ·rename_i k e c he
    have e1:=SV.int_ok (DV.int?_den he ρ) (hev x).2
    obtain ⟨z,h1,h2⟩:=minD_uni (P:=P) (mx:=true) hκ (DV.int?_lt he (hev x).1) (fun y hy=>by
     obtain ⟨q,_,rfl⟩:=List.mem_map.1 hy
     exact (hev q).1) (allD_map hev ys) h
    refine ⟨z,fun w'=>?_,h2.toM hm⟩
    have:=h1 w'
    simp [execOp,resolve,invoke,builtin,Builtin.max_,e1] at this ⊢
    simp [this]
   ·cases h
  ·cases h
end
end Vx
namespace Vx
noncomputable section
open Go Zx
theorem ibq_self (a : Int) : ibq a a = true:=by
 cases a <;> exact Nat.beq_refl _
theorem eqCS_int (g : Nat) (k : IntKind) (lo hi : Int) : eqCS [.int g k lo hi] [.int g k lo hi] = true:=by
 rw [eqCS_cons,Bool.and_eq_true]
 refine ⟨?_,rfl⟩
 show andR (Nat.beq g g) (andR (Nat.beq (kix k) (kix k)) (andR (ibq lo lo) (ibq hi hi))) = true
 rw [Nat.beq_refl,Nat.beq_refl,ibq_self,ibq_self]
 rfl
def narrow (E F : List CS) : Option (Nat × IntKind × Int × Int):=match E,F with
 | [.int g k lo hi],[.int g' k' lo' hi']=>match Nat.beq g g' && (decide (k = k') && (iLe lo' 0 && (iLe 0 hi' && !(iBeq lo lo' && iBeq hi hi')))) with
  | true=>some (g,k,lo',hi')
  | false=>none
 | _,_=>none
def oneN (κ : Kn) (d : Ds) (y : DV) (m : Lin) (k : IntKind) (lo hi : Int) : Bool:=match y with
 | .s (.c (.zs a o _ _ _))=>match m.t with
  | []=>iBeq m.c 1 && match findM d.memo a (o.addc ((0 : Nat) : Int)) with
   | some q=>match q.v with
    | .int k' e=>decide (k = k') && (κ.has (e.addc (-lo)) && κ.has ((Lin.num hi).sub e))
    | .num k' n=>decide (k = k') && (iLe lo n && iLe n hi)
    | _=>false
   | none=>false
  | _ :: _=>false
 | _=>false
def appT3 (P : Program) (W : Wt) (t tx : TypeId) (x y : DV) (κ : Kn) (d : Ds) (kk : Kn -> Ds -> DV -> Bool) : Bool:=match zelem P t,x with
 | some (_,inf,E),.s (.c (.zs a o F n c))=>match narrow E F with
  | some (g,k,lo,hi)=>match srcT2 P tx E y with
   | some m=>oneN κ d y m k lo hi && (match inf.zero with
    | some z=>zeroL [.int g k lo hi] z.cells.toList
    | none=>false) && appE W inf [.int g k lo hi] (some (a,o)) n m (.s (.c (.zs a o F n c))) y κ d kk
   | none=>false
  | none=>appT2 P W t tx x y κ d kk
 | _,_=>appT2 P W t tx x y κ d kk
theorem oneN_ok {En : Ent} {sg : Sig} {κ : Kn} {ρ : Vl} {d : Ds} {w : World} {y : DV} {m : Lin} {k : IntKind} {lo hi : Int} {news : List Value} (hm : MOk En sg κ ρ d w) (h : oneN κ d y m k lo hi = true)
  (hnews : ∀ a o F m' c',y = .s (.c (.zs a o F m' c')) -> m' = m /\ (0 < (m.den ρ.i).toNat -> ∃ b : Nat,(ρ.a a).1 = (b : Int) /\ ∀ (j : Nat) (z : Value),news[j]? = some z -> w.cell? ⟨b,(ρ.a a).2 + (o.den ρ.i).toNat + j,none⟩ = some z)) (hy0 : ∀ a o F m' c',y = .s (.c (.zs a o F m' c')) -> 0 <= o.den ρ.i \/ True) :
  m.den ρ.i = 1 /\ ∀ z,news[0]? = some z -> ∃ n,z = .int k n /\ lo <= n /\ n <= hi:=by
 unfold oneN at h
 split at h
 ·rename_i a o F m' c'
  split at h
  ·rename_i ht
   rw [Bool.and_eq_true] at h
   have hmc:=iBeq_eq h.1
   have h1 : m.den ρ.i = 1:=by simp [Lin.den,ht,Tm.den,hmc]
   refine ⟨h1,fun z hz=>?_⟩
   obtain ⟨_,hb⟩:=hnews _ _ _ _ _ rfl
   obtain ⟨b,hb1,hb2⟩:=hb (by rw [h1];decide)
   have hc:=hb2 0 z hz
   have h2:=h.2
   split at h2
   ·rename_i q hq
    obtain ⟨f1,f2,f3⟩:=findM_ok hq
    obtain ⟨k1,b',t,cur,u,k2,k3,k4,k5,k6⟩:=hm.memo q f1
    rw [f2] at k2 k4 k5
    rw [f3] at k1 k4 k5
    rw [Lin.addc_den] at k1 k4 k5
    have : b' = b:=by omega
    subst this
    have hcu : w.cell? ⟨b',(ρ.a a).2 + (o.den ρ.i).toNat + 0,none⟩ = some u:=by
     simp only [World.cell?,k3]
     simpa using k4
    rw [hcu] at hc
    cases hc
    split at h2
    ·rename_i k' e he
     simp only [Bool.and_eq_true,decide_eq_true_eq] at h2
     rw [he] at k6
     have r1:=Kn.has_ok hm.kn h2.2.1
     have r2:=Kn.has_ok hm.kn h2.2.2
     rw [Lin.addc_den] at r1
     rw [Lin.sub_den,Lin.num_den] at r2
     exact ⟨e.den ρ.i,by rw [h2.1];exact k6,by omega,by omega⟩
    ·rename_i k' n he
     simp only [Bool.and_eq_true,decide_eq_true_eq] at h2
     rw [he] at k6
     exact ⟨n,by rw [h2.1];exact k6,iLe_ok h2.2.1,iLe_ok h2.2.2⟩
    ·cases h2
   ·cases h2
  ·cases h
 ·cases h
theorem narrow_ok {E F : List CS} {g : Nat} {k : IntKind} {lo hi : Int} (h : narrow E F = some (g,k,lo,hi)) : (∃ lo0 hi0,E = [.int g k lo0 hi0]) /\ F = [.int g k lo hi]:=by
 unfold narrow at h
 split at h
 ·split at h
  ·rename_i hc
   simp only [Option.some.injEq,Prod.mk.injEq] at h
   obtain ⟨rfl,rfl,rfl,rfl⟩:=h
   simp only [Bool.and_eq_true,decide_eq_true_eq] at hc
   obtain ⟨e1,e2,_⟩:=hc
   have e1:=Nat.eq_of_beq_eq_true e1
   subst e1
   subst e2
   exact ⟨⟨_,_,rfl⟩,rfl⟩
  ·cases h
 ·cases h
theorem appT3_ok {En : Ent} {sg : Sig} {P : Program} {t tx ty : TypeId} {x y : DV} {κ : Kn} {ρ : Vl} {d : Ds} {w : World} {kk : Kn -> Ds -> DV -> Bool} {u v : Value} (hm : MOk En sg κ ρ d w) (hl : x.lt κ.n) (hly : y.lt κ.n) (hx : (x.den ρ).ok (mu sg) u) (hy : (y.den ρ).ok (mu sg) v)
  (h : appT3 P En.W t tx x y κ d kk = true) : ∃ z w',(Builtin.append_ #[t,tx] ty #[u,v]).run P w = .ok z w' /\ GotM En sg κ ρ kk z w':=by
 unfold appT3 at h
 split at h
 ·rename_i el inf E a o F n c hzel
  split at h
  ·rename_i g k lo hi hnar
   split at h
   ·rename_i m hsrc
    simp only [Bool.and_eq_true] at h
    obtain ⟨⟨h0,hzz⟩,h⟩:=h
    obtain ⟨hu,hi',_,hEl,hE0,hb0,z,hz,hzero⟩:=zelem_ok hzel
    have h':=h
    simp only [appE,Bool.and_eq_true] at h'
    have m0:=Kn.has_ok hm.kn h'.2.1
    obtain ⟨mlt,news,hs,hrow,hnews⟩:=srcT2_ok hEl hz (hzero sg) hm.zone hsrc hly hy m0
    obtain ⟨h1,hone⟩:=oneN_ok hm h0 hnews (fun _ _ _ _ _ _=>.inr trivial)
    obtain ⟨⟨lo1,hi1,rfl⟩,rfl⟩:=narrow_ok hnar
    have hz1 : ∀ sg,AllC sg [.int g k lo hi] z.cells.toList:=fun sg=>by
     rw [hz] at hzz
     exact zeroL_ok hzz
    refine appE_ok (E:=[.int g k lo hi]) hm hl hly hx hu hi' (by simpa using hEl) hE0 hb0 hz hz1 ?_ m0 ⟨mlt,news,hs,⟨by simpa using hrow.1,fun i j c hi0 hj=>?_⟩,hnews⟩ h
    ·unfold headT
     simp only [eqCS_int,if_true]
    ·rw [h1] at hi0
     have hi1 : i = 0:=by simpa using hi0
     subst hi1
     match j,hj with
     | 0,hj=>
      cases hj
      obtain ⟨u0,q1,q2⟩:=hrow.2 0 0 _ (by rw [h1];decide) rfl
      simp only [Nat.zero_mul,Nat.add_zero] at q1 ⊢
      obtain ⟨n0,r1,r2,r3⟩:=hone u0 q1
      exact ⟨u0,q1,n0,r1,.inr ⟨r2,r3⟩⟩
     | j + 1,hj=>simp at hj
   ·cases h
  ·exact appT2_ok hm hl hly hx hy h
 ·exact appT2_ok hm hl hly hx hy h
end
end Vx
