/- A part of the proof: lemmas. No condition of its own. -/
import Derived.KernelRfl
import Derived.Test.YtglcgbhhkjebbaaGreatK16
set_option linter.unusedVariables false
set_option linter.unusedSimpArgs false
namespace Vx
noncomputable section
open Go Zx Go.RowKit
def res1T (P : Program) (sl : List DV) (r : ResultVar) (κ : Kn) (d : Ds) (kk : Kn -> Ds -> D1 -> Bool) : Bool:=
 match r with
 | .tmp t=>match slG sl t with
  | .s x=>kk κ d x
  | _=>false
 | .cell a t=>loadT P t (slG sl a) κ d fun κ d y=>match y with
  | .s x=>kk κ d x
  | _=>false
def resLT (P : Program) (sl : List DV) : List ResultVar -> Kn -> Ds -> (Kn -> Ds -> List D1 -> Bool) -> Bool
 | [],κ,d,kk=>kk κ d []
 | r :: rs,κ,d,kk=>res1T P sl r κ d fun κ d x=>resLT P sl rs κ d fun κ d xs=>kk κ d (x :: xs)
theorem res1T_ok {P : Program} {E : Ent} {sg : Sig} {κ : Kn} {ρ : Vl} {d : Ds} {sl : List DV} {a : Act} {w : World} {r : ResultVar} {kk : Kn -> Ds -> D1 -> Bool} (hm : Sm E sg κ ρ d sl a w) (h : res1T P sl r κ d kk = true) :
  ∃ v,(oneRes a.tmps r).run P w = .ok v w /\ ∃ sg' κ' d' x ρ',kk κ' d' x = true /\ Gr κ κ' ρ ρ' /\ x.lt κ'.n /\ (x.den ρ').ok (mu sg') v /\ Grows sg sg' /\ Sm E sg' κ' ρ' d' sl a w:=by
 cases r with
 | tmp t=>
  simp only [res1T] at h
  split at h
  ·rename_i x hx
   have:=sm_get hm t
   rw [hx] at this
   exact ⟨_,rfl,sg,κ,d,x,ρ,h,Gr.refl hm.m.kn,this.1,this.2,Grows.refl _,hm⟩
  ·cases h
 | cell ad t=>
  simp only [res1T] at h
  obtain ⟨hl,hok⟩:=sm_get hm ad
  have hz : ∃ q,zpD (slG sl ad) = some q:=by
   unfold loadT at h
   split at h
   ·rename_i a o L inf td hz hi hu;exact ⟨_,hz⟩
   ·cases h
  obtain ⟨⟨a0,o0,L0'⟩,hz⟩:=hz
  have hx:=zpD_eq hz
  have hok':=hok
  rw [hx] at hok'
  obtain ⟨b,hb,hu,hs⟩:=zp_ok hok'
  obtain ⟨z,h1,sg',κ',d',y,ρ',h2,h3,h4,h5,h6,h7⟩:=loadT_ok hm.m hl hok h
  dsimp only at h2
  split at h2
  ·rename_i x
   refine ⟨z, ?_,sg',κ',d',x,ρ',h2,h3,h4,h5,h6,hm.load h3 h6 h7⟩
   have:=h1 w (Keep.refl w)
   rw [hu] at this
   simp only [oneRes,hu]
   simpa [Instr.loadAt,Instr.sureAddr,asAddr] using this
  ·cases h2
theorem resLT_ok {P : Program} {E : Ent} {sl : List DV} {a : Act} {w : World} : ∀ {rs : List ResultVar} {sg : Sig} {κ : Kn} {ρ : Vl} {d : Ds} {kk : Kn -> Ds -> List D1 -> Bool},Sm E sg κ ρ d sl a w -> resLT P sl rs κ d kk = true →
  ∃ vs,(rs.mapM (oneRes a.tmps)).run P w = .ok vs w /\ ∃ sg' κ' d' xs ρ',kk κ' d' xs = true /\ Gr κ κ' ρ ρ' /\ (∀ x ∈ xs,x.lt κ'.n) /\ AllS (S1.ok (mu sg')) (xs.map (D1.den ρ')) vs /\ Grows sg sg' /\ Sm E sg' κ' ρ' d' sl a w
 | [],sg,κ,ρ,d,kk,hm,h=>⟨[],rfl,sg,κ,d,[],ρ,h,Gr.refl hm.m.kn,(fun x hx=>by cases hx),trivial,Grows.refl _,hm⟩
 | r :: rs,sg,κ,ρ,d,kk,hm,h=>by
  obtain ⟨v,r1,sg1,κ1,d1,x,ρ1,h1,g1,l1,o1,q1,m1⟩:=res1T_ok hm h
  obtain ⟨vs,r2,sg2,κ2,d2,xs,ρ2,h2,g2,l2,o2,q2,m2⟩:=resLT_ok m1 h1
  refine ⟨v :: vs,by rw [List.mapM_cons];simp [r1,r2],sg2,κ2,d2,x :: xs,ρ2,h2,g1.trans g2,fun y hy=>?_,⟨?_,o2⟩,Grows.trans q1 q2,m2⟩
  ·rcases List.mem_cons.1 hy with rfl | hy
   ·exact D1.lt_mono g2.le l1
   ·exact l2 y hy
  ·rw [← D1.den_eq g2.agr l1];exact S1.ok_ext (mu_ext q2) o1
def resVD : List D1 -> DV
 | [x]=>.s x
 | xs=>.t xs
theorem resVD_ok {P : Program} {a : Act} {w : World} {fn : Func} {vs : List Value} {xs : List D1} {ρ : Vl} {μ : Mu} (h : (fn.results.toList.mapM (oneRes a.tmps)).run P w = .ok vs w) (ha : AllS (S1.ok μ) (xs.map (D1.den ρ)) vs) :
  ∃ v,(results fn a.tmps).run P w = .ok v w /\ ((resVD xs).den ρ).ok μ v:=by
 have hrun : (results fn a.tmps).run P w = .ok (if h : vs.toArray.size = 1 then vs.toArray[0] else .tuple vs.toArray) w:=by
  have e : results fn a.tmps = (do let vs ← fn.results.mapM (oneRes a.tmps);pure (if h : vs.size = 1 then vs[0] else .tuple vs)):=by
   unfold results
   congr 1
  rw [e,Array.mapM_eq_mapM_toList]
  simp [h]
 refine ⟨_,hrun, ?_⟩
 match xs,vs,ha with
 | [],[],_=>exact ⟨[],rfl,trivial⟩
 | [x],[v],h2=>exact h2.1
 | x :: y :: xs,u :: v :: vs,h2=>exact ⟨u :: v :: vs,by simp,h2⟩
 | [],_ :: _,h2=>exact h2.elim
 | _ :: _,[],h2=>exact h2.elim
 | [_],_ :: _ :: _,h2=>exact h2.2.elim
 | _ :: _ :: _,[_],h2=>exact h2.2.elim
def sbPre : Sb:={ b:=1 }
def sbId : Nat -> Nat -> Sb -> (Sb -> Sb) -> Sb
 | 0,_,σ,K=>K σ
 | k + 1,v,σ,K=>gN (v + 1) fun u=>σ.bi v (.var u) fun σ=>σ.ba v u fun σ=>σ.bs v u fun σ=>sbId k u σ K
def sbOut (n : Nat) : Sb:=sbId n 0 { r:=n,b:=0 } fun σ=>σ
def res1D (y : DV) : Nat -> Option DV
 | 0=>some y
 | _=>none
def outP (n : Nat) (sh : Shp) (y : DV) (κ : Kn) (d : Ds) (σ : Sb) : Bool:=
 sameB σ sbPre n && (σ.inB (n + sh.n) κ.n && sh.chk σ κ d (res1D y))
def outT (tc : TC) (y : DV) (κ : Kn) (d : Ds) : Bool:=
 tc.post.any fun sh=>(sh.mat (res1D y) κ d (sbOut tc.pre.n)).fix (tc.pre.n + sh.n) 0 fun σ=>outP tc.pre.n sh y κ d σ
def retT (P : Program) (fn : Func) (tc : TC) : Ex -> Kc
 | .nor,sl,κ,d=>resLT P sl fn.results.toList κ d fun κ d xs=>gK κ fun κ=>gD d fun d=>gV (resVD xs) fun y=>outT tc y κ d
 | .ret,sl,κ,d=>resLT P sl fn.results.toList κ d fun κ d xs=>gK κ fun κ=>gD d fun d=>gV (resVD xs) fun y=>outT tc y κ d
 | .exi _,_,_,_=>false
def argSl (ps : List (Nat × DV)) : Nat -> Nat -> List DV
 | _,0=>[]
 | i,n + 1=>(match lkP ps i with
  | some y=>y
  | none=>.u) :: argSl ps (i + 1) n
theorem argSl_len {ps : List (Nat × DV)} : ∀ {n i : Nat},(argSl ps i n).length = n
 | 0,_=>rfl
 | n + 1,i=>by simp [argSl,argSl_len]
theorem argSl_get {ps : List (Nat × DV)} : ∀ {n i j : Nat} {y : DV},(argSl ps i n)[j]? = some y -> (i + j,y) ∈ ps \/ y = .u
 | 0,_,j,y,h=>by simp [argSl] at h
 | n + 1,i,0,y,h=>by
  simp only [argSl,List.getElem?_cons_zero,Option.some.injEq] at h
  split at h
  ·rename_i z hz;subst h;exact .inl (lkP_mem hz)
  ·exact .inr h.symm
 | n + 1,i,j + 1,y,h=>by
  simp only [argSl,List.getElem?_cons_succ] at h
  have:=argSl_get h
  rw [show i + (j + 1) = i + 1 + j by omega]
  exact this
theorem cutW_self {w : World} : cutW w.heap.size w = w:=by simp [cutW]
theorem cutS_self {sg : Sig} {w : World} (hz : ZoneOk sg w) : cutS w.heap.size sg = sg:=by
 funext b o
 unfold cutS
 split
 ·rfl
 ·rename_i h
  cases e : sg b o with
  | none=>rfl
  | some c=>exact absurd (hz.lt e) h
def fnT (P : Program) (Γ : EnvT) (C : Cl) (fn : Func) (c : Code) (tc : TC) : Bool:=
 tc.wf && (Nat.ble tc.k fn.ntmps && match tc.pre.enter (!tc.wt.hasY) sbPre ⟨1,[],[]⟩ ⟨[],[(0,2)],[]⟩ id with
  | some (κ,d,ps)=>gK κ fun κ=>gD d fun d=>gVs (argSl ps 0 fn.ntmps) fun sl=>ghT sl C.gh κ d fun κ d=>cwT P Γ tc.wt C c [] sl κ d fun e sl κ d=>lemsT C.lx sl κ d fun κ d=>retT P fn tc e sl κ d
  | none=>false)
theorem fnT_ok {P : Program} {Γ : EnvT} (hΓ : EnvTOk P Γ) (hmix : P.follows .mixedOrders = true) {C : Cl} {f : FuncId} {fn : Func} {c : Code} {tc : TC} (hf : P.funcs[f]? = some fn) (hb : fn.body = some c) (hcall : Callable P f) (hp : ∀ e ∈ C.pcs,∃ c',atC c e.path = some c' /\ PCok P c' e.pc) (h : fnT P Γ C fn c tc = true) : TCok P f tc:=by
 simp only [fnT,Bool.and_eq_true] at h
 obtain ⟨hwf,hk,h⟩:=h
 have hk:=Nat.le_of_ble_eq_true hk
 refine ⟨hcall,hwf,fun sg w ρp vs hz hlen hpre=>?_⟩
 simp only [TC.wf,Bool.and_eq_true] at hwf
 split at h
 ·rename_i κ d ps hen
  simp only [gK_eq,gD_eq,gVs_eq] at h
  let E : Ent:=tc.ent sg w ρp
  let ρ0 : Vl:=⟨fun _=>0,fun _=>ByteArray.empty,fun _=>(-1,0),ρp.A⟩
  have hm0 : MOk E sg ⟨1,[],[]⟩ ρ0 ⟨[],[(0,2)],[]⟩ w:=by
   refine ⟨⟨fun l hl=>(by cases hl),fun l hl=>(by cases hl),fun l hl=>(by cases hl),fun l hl=>(by cases hl)⟩,hz,⟨Nat.le_refl _,rfl,rfl,rfl,fun _ _ _=>rfl,fun b hb=>.inl rfl⟩,fun m hm=>(by cases hm),fun m hm=>(by cases hm),fun p hp=>?_,fun p hp=>?_,fun p hp h1 h0=>?_,fun p hp h2 h0=>?_,fun f hf=>(by cases hf),fun f hf=>(by cases hf)⟩
   ·simp at hp;subst hp;exact Nat.zero_lt_one
   ·simp at hp;subst hp;simp [ρ0];omega
   ·simp at hp;subst hp;simp [ρ0] at h0
   ·simp at hp;subst hp;simp [ρ0] at h0
  obtain ⟨ρ1,q1,q2,q3,q4⟩:=Shp.enter_ok (σ:=sbPre) (E:=E) hm0 hpre (fun _ f hf=>by
    have h1:=hpre.G f hf
    show f.wok (cutS w.heap.size sg) ρp (cutW w.heap.size w)
    rw [cutS_self hz,cutW_self]
    exact h1) rfl rfl ⟨fun v hv=>absurd hv (Nat.not_lt_zero v),fun v hv=>absurd hv (Nat.not_lt_zero v),fun v hv=>absurd hv (Nat.not_lt_zero v)⟩
   ⟨fun v hv=>absurd hv (Nat.not_lt_zero v),fun v hv=>absurd hv (Nat.not_lt_zero v),fun v hv=>absurd hv (Nat.not_lt_zero v),rfl⟩ (by rw [show sbPre.r + tc.pre.n = tc.pre.n from Nat.zero_add _];exact Shp.ltB_ok hwf.1.1) (fun p hp=>Nat.zero_le _) (fun p hp hq h0=>hpre.young p hp hq h0) (fun p hp hq=>by
    have:=allB_ok hwf.1.2 p hp
    split at this
    ·rename_i e;simp only [id,e] at hq;omega
    ·rename_i e;simp only [id,e] at hq;omega
    ·cases this) hen
  have hS : Sm E sg κ ρ1 d (argSl ps 0 fn.ntmps) { tmps:=vs.toArray ++ Array.replicate (fn.ntmps - vs.toArray.size) undef,defers:=[] } w:=by
   refine ⟨q2,by rw [argSl_len];simp;omega,fun i x hx=>?_,rfl⟩
   have hi : i < fn.ntmps:=by
    have:=(List.getElem?_eq_some_iff.1 hx).1
    rwa [argSl_len] at this
   have hv : ∃ v,(vs.toArray ++ Array.replicate (fn.ntmps - vs.toArray.size) undef)[i]? = some v /\ ∀ u,vs[i]? = some u -> v = u:=by
    rcases Nat.lt_or_ge i vs.length with h' | h'
    ·refine ⟨vs[i],by rw [Array.getElem?_append_left (by simpa using h')];simp [h'],fun u hu=>?_⟩
     rw [List.getElem?_eq_getElem h'] at hu
     exact Option.some.inj hu
    ·refine ⟨undef, ?_,fun u hu=>?_⟩
     ·rw [Array.getElem?_append_right (by simpa using h')]
      have h2 : i - vs.length < fn.ntmps - vs.length:=by omega
      simp [h2]
     ·rw [List.getElem?_eq_none h'] at hu;cases hu
   obtain ⟨v,hv,hvu⟩:=hv
   rcases argSl_get hx with h' | h'
   ·simp only [Nat.zero_add] at h'
    obtain ⟨k1,u,k2,k3⟩:=q3 _ h'
    exact ⟨k1,v,hv,by rw [hvu u k2];exact k3⟩
   ·subst h'
    exact ⟨trivial,v,hv,trivial⟩
  obtain ⟨κg,ρg,dg,h,gg,hS⟩:=ghT_ok hS h
  refine calls_of_wp hf hb (wp_mono (cwT_ok hΓ hmix C hp c _ [] rfl _ _ _ _ _ _ _ _ hS h) fun e a' w' he=>?_)
  have he:=PostD.more (Grows.refl _) gg he
  have fin : AtD E sg κ ρ1 (fun sl κ d=>lemsT C.lx sl κ d fun κ d=>retT P fn tc .nor sl κ d) a' w' -> a'.defers = [] /\ ∃ v,(results fn a'.tmps).run P w' = .ok v w' /\ ∃ v',Ending.returned v = .returned v' /\ tc.Post sg w ρp v' w':=by
   intro hat
   obtain ⟨sg2,κ2,ρ2,d2,sl2,k1,k2,k3,k4⟩:=AtD.lems hat
   simp only [retT,gK_eq,gD_eq,gV_eq] at k1
   obtain ⟨vs2,r1,sg3,κ3,d3,xs,ρ3,r2,r3,r4,r5,r6,r7⟩:=resLT_ok k4 k1
   obtain ⟨v,s1,s2⟩:=resVD_ok r1 r5
   refine ⟨k4.defers,v,s1,v,rfl,sg3,Grows.trans k2 r6,r7.m.zone,r7.m.fr, ?_⟩
   unfold outT at r2
   rw [List.any_eq_true] at r2
   obtain ⟨sh,hsh,ho⟩:=r2
   rw [Sb.fix_eq] at ho
   generalize ({ sh.mat (res1D (resVD xs)) κ3 d3 (sbOut tc.pre.n) with r:=tc.pre.n + sh.n,b:=0 } : Sb) = σ at ho
   simp only [outP,Bool.and_eq_true] at ho
   obtain ⟨o1,o2,o3⟩:=ho
   have hsame:=sameB_ok o1
   refine ⟨sh,hsh,σ.app ρ3, ?_,Shp.chk_ok (gv:=res1 v) r7.m (fun i x hx=>?_) o3⟩
   ·have hA : Agr κ.n ρ1 ρ3:=(k3.trans r3).agr
    have hn : κ.n = 1 + tc.pre.n:=by
     unfold Shp.enter at hen
     split at hen
     ·cases hen;rfl
     ·cases hen
    have hz1 : sbPre.r + tc.pre.n = tc.pre.n:=Nat.zero_add _
    rw [hz1] at q4
    refine ⟨fun u hu=>?_,fun u hu=>?_,fun u hu=>?_, ?_⟩
    ·rw [← q4.i u hu]
     simp only [Sb.app,(hsame u hu).1]
     refine Lin.den_eq hA.i ?_
     rw [(Sb.fresh (σ:=sbPre) rfl (Nat.zero_le u)).1]
     exact Lin.var_lt (by show u - 0 + 1 < κ.n;omega)
    ·rw [← q4.s u hu]
     simp only [Sb.app,(hsame u hu).2.2]
     refine hA.s _ ?_
     rw [(Sb.fresh (σ:=sbPre) rfl (Nat.zero_le u)).2.2]
     show u - 0 + 1 < κ.n;omega
    ·rw [← q4.a u hu]
     simp only [Sb.app,(hsame u hu).2.1]
     refine hA.a _ ?_
     rw [(Sb.fresh (σ:=sbPre) rfl (Nat.zero_le u)).2.1]
     show u - 0 + 1 < κ.n;omega
    ·have h1:=q4.A
     simp only [Sb.app] at h1 ⊢
     rw [← h1];exact hA.A
   ·cases i with
    | zero=>
     simp only [res1D,Option.some.injEq] at hx
     subst hx
     exact ⟨v,rfl,s2⟩
    | succ i=>simp [res1D] at hx
  cases e with
  | normal=>exact fin he
  | ret=>exact fin he
  | exit i=>obtain ⟨_,_,_,_,_,h,_⟩:=AtD.lems (k:=retT P fn tc (.exi i)) he;simp [retT] at h
  | goto l=>exact he.elim
  | panic ch=>exact he.elim
  | outgrown=>exact he.elim
 ·cases h
def pcOut (pc : PC) (sl : List DV) (κ : Kn) (d : Ds) : Bool:=
 Nat.beq sl.length pc.nt && pc.post.any fun sh=>(sh.mat (fun i=>sl[i]?) κ d (sbOut pc.pre.n)).fix (pc.pre.n + sh.n) 0 fun σ=>sameB σ sbPre pc.pre.n && (σ.inB (pc.pre.n + sh.n) κ.n && sh.chk σ κ d (fun i=>sl[i]?))
def pcRun (P : Program) (Γ : EnvT) (C : Cl) (c : Code) (p : List Nat) (pc : PC) : Bool:=
 pc.wf && match pc.pre.enter false sbPre ⟨1,[],[]⟩ ⟨[],[(0,2)],[]⟩ (fun _=>0) with
  | some (κ,d,ps)=>gK κ fun κ=>gD d fun d=>gVs (argSl ps 0 pc.nt) fun sl=>cwT P Γ ⟨pc.W,none⟩ C c p sl κ d fun e=>match e with
   | .nor=>fun sl κ d=>gK κ fun κ=>gD d fun d=>gVs sl fun sl=>pcOut pc sl κ d
   | _=>fun _ _ _=>false
  | none=>false
theorem pcRun_ok {P : Program} {Γ : EnvT} (hΓ : EnvTOk P Γ) (hmix : P.follows .mixedOrders = true) {C : Cl} {root c : Code} {p : List Nat} {pc : PC} (hat : atC root p = some c) (hp : ∀ e ∈ C.pcs,∃ c',atC root e.path = some c' /\ PCok P c' e.pc) (h : pcRun P Γ C c p pc = true) : PCok P c pc:=by
 simp only [pcRun,Bool.and_eq_true] at h
 obtain ⟨hwf,h⟩:=h
 refine ⟨hwf,fun sg w ρp a hz hd hsz hpre=>?_⟩
 simp only [PC.wf,Bool.and_eq_true] at hwf
 split at h
 ·rename_i κ d ps hen
  simp only [gK_eq,gD_eq,gVs_eq] at h
  let E : Ent:=Ent.none w sg pc.W
  let ρ0 : Vl:=⟨fun _=>0,fun _=>ByteArray.empty,fun _=>(-1,0),ρp.A⟩
  have hm0 : MOk E sg ⟨1,[],[]⟩ ρ0 ⟨[],[(0,2)],[]⟩ w:=by
   refine ⟨⟨fun l hl=>(by cases hl),fun l hl=>(by cases hl),fun l hl=>(by cases hl),fun l hl=>(by cases hl)⟩,hz,⟨Nat.le_refl _,rfl,rfl,rfl,fun _ _ _=>rfl,fun b hb=>.inl rfl⟩,fun m hm=>(by cases hm),fun m hm=>(by cases hm),fun p hp=>?_,fun p hp=>?_,fun p hp h1 h0=>?_,fun p hp h2 h0=>?_,fun f hf=>(by cases hf),fun f hf=>(by cases hf)⟩
   ·simp at hp;subst hp;exact Nat.zero_lt_one
   ·simp at hp;subst hp;simp [ρ0];omega
   ·simp at hp;subst hp;simp [ρ0] at h0
   ·simp at hp;subst hp;simp [ρ0] at h0
  have hn : κ.n = 1 + pc.pre.n:=by
   unfold Shp.enter at hen
   split at hen
   ·cases hen;rfl
   ·cases hen
  obtain ⟨ρ1,q1,q2,q3,q4⟩:=Shp.enter_ok (σ:=sbPre) (E:=E) hm0 hpre (fun h=>by cases h) rfl rfl ⟨fun v hv=>absurd hv (Nat.not_lt_zero v),fun v hv=>absurd hv (Nat.not_lt_zero v),fun v hv=>absurd hv (Nat.not_lt_zero v)⟩
   ⟨fun v hv=>absurd hv (Nat.not_lt_zero v),fun v hv=>absurd hv (Nat.not_lt_zero v),fun v hv=>absurd hv (Nat.not_lt_zero v),rfl⟩ (by rw [show sbPre.r + pc.pre.n = pc.pre.n from Nat.zero_add _];exact Shp.ltB_ok hwf.1.1) (fun p hp=>Nat.zero_le _) (fun p hp hq h0=>absurd hq (by decide)) (fun p hp hq=>absurd hq (by decide)) hen
  have hS : Sm E sg κ ρ1 d (argSl ps 0 pc.nt) a w:=by
   refine ⟨q2,by rw [argSl_len,hsz],fun i x hx=>?_,hd⟩
   rcases argSl_get hx with h' | h'
   ·simp only [Nat.zero_add] at h'
    exact q3 _ h'
   ·subst h'
    have hi:=(List.getElem?_eq_some_iff.1 hx).1
    rw [argSl_len,← hsz] at hi
    exact ⟨trivial,_,Array.getElem?_eq_getElem hi,trivial⟩
  refine wp_mono (cwT_ok hΓ hmix C hp c E p hat _ _ _ _ _ _ _ _ hS h) fun e a' w' he=>?_
  cases e with
  | normal=>
   obtain ⟨sg2,κ2,ρ2,d2,sl2,k1,k2,k3,k4⟩:=he
   simp only [gK_eq,gD_eq,gVs_eq,pcOut,Bool.and_eq_true] at k1
   obtain ⟨k0,k1⟩:=k1
   refine ⟨rfl,k4.defers,by rw [k4.size,Nat.eq_of_beq_eq_true k0],sg2,k2,k4.m.zone,k4.m.fr, ?_⟩
   rw [List.any_eq_true] at k1
   obtain ⟨sh,hsh,ho⟩:=k1
   rw [Sb.fix_eq] at ho
   generalize ({ sh.mat (fun i=>sl2[i]?) κ2 d2 (sbOut pc.pre.n) with r:=pc.pre.n + sh.n,b:=0 } : Sb) = σ at ho
   simp only [Bool.and_eq_true] at ho
   obtain ⟨o1,o2,o3⟩:=ho
   have hsame:=sameB_ok o1
   refine ⟨sh,hsh,σ.app ρ2, ?_,Shp.chk_ok (gv:=fun i=>a'.tmps[i]?) k4.m (fun i x hx=>(k4.slots i x hx).2) o3⟩
   have hA : Agr κ.n ρ1 ρ2:=k3.agr
   have hz1 : sbPre.r + pc.pre.n = pc.pre.n:=Nat.zero_add _
   rw [hz1] at q4
   refine ⟨fun u hu=>?_,fun u hu=>?_,fun u hu=>?_, ?_⟩
   ·rw [← q4.i u hu]
    simp only [Sb.app,(hsame u hu).1]
    refine Lin.den_eq hA.i ?_
    rw [(Sb.fresh (σ:=sbPre) rfl (Nat.zero_le u)).1]
    exact Lin.var_lt (by show u - 0 + 1 < κ.n;omega)
   ·rw [← q4.s u hu]
    simp only [Sb.app,(hsame u hu).2.2]
    refine hA.s _ ?_
    rw [(Sb.fresh (σ:=sbPre) rfl (Nat.zero_le u)).2.2]
    show u - 0 + 1 < κ.n;omega
   ·rw [← q4.a u hu]
    simp only [Sb.app,(hsame u hu).2.1]
    refine hA.a _ ?_
    rw [(Sb.fresh (σ:=sbPre) rfl (Nat.zero_le u)).2.1]
    show u - 0 + 1 < κ.n;omega
   ·have h1:=q4.A
    simp only [Sb.app] at h1 ⊢
    rw [← h1];exact hA.A
  | ret=>obtain ⟨_,_,_,_,_,h,_⟩:=he;cases h
  | exit i=>obtain ⟨_,_,_,_,_,h,_⟩:=he;cases h
  | goto l=>exact he.elim
  | panic ch=>exact he.elim
  | outgrown=>exact he.elim
 ·cases h
end
end Vx
namespace Vx
noncomputable section
open Go Zx
def cI (k : IntKind) (v : Nat) : DC := .int k (.var v)
def cB (v : Nat) : DC := .boo true v
def cP (t v : Nat) : DC := .zp v (.var v) (zTab t)
def cS (t v : Nat) : DC := .zs v (.var v) (zTab t) (.var (v + 1)) (.var (v + 2))
def rI (v : Nat) (lo hi : Int) : List Lin := [(Lin.var v).addc (-lo), (Lin.num hi).sub (.var v)]
def rB (v : Nat) : List Lin := [.var v, (Lin.num 1).sub (.var v)]
def rP (v : Nat) : List Lin := [.var v]
def rS (v : Nat) (mx : Int) : List Lin := [.var v, .var (v + 1), (Lin.num mx).sub (.var (v + 1)), (Lin.var (v + 2)).sub (.var (v + 1)), (Lin.num maxLen).sub (.var (v + 2))]
def mK (c : CS) (v : Nat) (off : Int) (x : DC) : Cell := ⟨v, ⟨off, [(v, 1)]⟩, c, x⟩
def mC (t v : Nat) (off : Int) (x : DC) : Cell := ⟨v, (Lin.var v).addc off, (zTab t).getD off.toNat (.bool 0), x⟩
def codeOf (P : Program) (f : FuncId) : Option (Func × Code) := match P.funcs[f]? with
 | some fn => match fn.body with
  | some c => match fn.name == "runtime.NumGoroutine" with
   | true => none
   | false => some (fn, c)
  | none => none
 | none => none
def tcT (P : Program) (Γ : EnvT) (C : Cl) (f : FuncId) (tc : TC) : Bool := match codeOf P f with
 | some (fn, c) => fnT P Γ C fn c tc
 | none => false
def bodyAt (P : Program) (f : FuncId) (p : List Nat) : Option Code := match codeOf P f with
 | some (_, c) => atC c p
 | none => none
theorem tcT_pcs {P : Program} {Γ : EnvT} (hΓ : EnvTOk P Γ) (hmix : P.follows .mixedOrders = true) {C : Cl} {f : FuncId} {tc : TC} (hp : ∀ e ∈ C.pcs, ∃ c', bodyAt P f e.path = some c' /\ PCok P c' e.pc) (h : tcT P Γ C f tc = true) : TCok P f tc := by
 unfold tcT at h
 split at h
 ·rename_i fn c hc
  have hc0 := hc
  unfold codeOf at hc
  split at hc
  ·rename_i fn' hf
   split at hc
   ·rename_i c' hb
    split at hc
    ·cases hc
    ·rename_i hn
     cases hc
     exact fnT_ok hΓ hmix hf hb ⟨fn, hf, by rw [hb]; rfl, hn⟩ (fun e he => by
      obtain ⟨c', h1, h2⟩ := hp e he
      refine ⟨c', ?_, h2⟩
      unfold bodyAt at h1
      rw [hc0] at h1
      exact h1) h
   ·cases hc
  ·cases hc
 ·cases h
theorem tcT_ok {P : Program} {Γ : EnvT} (hΓ : EnvTOk P Γ) (hmix : P.follows .mixedOrders = true) {C : Cl} {f : FuncId} {tc : TC} (h : tcT P Γ C f tc = true) (h0 : C.pcs = [] := by rfl) : TCok P f tc := tcT_pcs hΓ hmix (fun e he => by rw [h0] at he; cases he) h
def pcT (P : Program) (Γ : EnvT) (C : Cl) (f : FuncId) (p : List Nat) (pc : PC) : Bool := match bodyAt P f p with
 | some c => pcRun P Γ C c p pc
 | none => false
theorem pcT_ok {P : Program} {Γ : EnvT} (hΓ : EnvTOk P Γ) (hmix : P.follows .mixedOrders = true) {C : Cl} {f : FuncId} {p : List Nat} {pc : PC} (hp : ∀ e ∈ C.pcs, ∃ c', bodyAt P f e.path = some c' /\ PCok P c' e.pc) (h : pcT P Γ C f p pc = true) : ∃ c, bodyAt P f p = some c /\ PCok P c pc := by
 unfold pcT at h
 split at h
 ·rename_i c hc
  refine ⟨c, hc, ?_⟩
  unfold bodyAt at hc
  split at hc
  ·rename_i fn root hr
   refine pcRun_ok hΓ hmix hc (fun e he => ?_) h
   obtain ⟨c', h1, h2⟩ := hp e he
   refine ⟨c', ?_, h2⟩
   unfold bodyAt at h1
   rw [hr] at h1
   exact h1
  ·cases hc
 ·cases h
def envL (l : List (FuncId × TC)) : EnvT := fun f => match l with
 | [] => []
 | p :: ps => match Nat.beq p.1 f with
  | true => p.2 :: envL ps f
  | false => envL ps f
theorem envL_nil (P : Program) : EnvTOk P (envL []) := fun f tc h => by cases h
theorem envL_cons {P : Program} {f : FuncId} {tc : TC} {l : List (FuncId × TC)} (h : TCok P f tc) (hl : EnvTOk P (envL l)) : EnvTOk P (envL ((f, tc) :: l)) := fun g tc' hg => by
 unfold envL at hg
 split at hg
 ·rename_i e
  have := Nat.eq_of_beq_eq_true e
  simp only at this
  subst this
  rcases List.mem_cons.1 hg with rfl | hg
  ·exact h
  ·exact hl _ tc' hg
 ·exact hl g tc' hg
end
end Vx
namespace Vx
noncomputable section
open Go Zx
def rnB : Nat -> Nat -> List DC
 | _,0=>[]
 | v,n + 1=>cB v :: rnB (v + 1) n
def rnI : Nat -> Nat -> List DC
 | _,0=>[]
 | v,n + 1=>cI .i64 v :: rnI (v + 1) n
def rC (v : Nat) : List DC:=rnB v 8 ++ (rnI (v + 8) 9 ++ (cB (v + 17) :: (rnI (v + 18) 20 ++ [cB (v + 38)])))
def rgI (lo hi : Int) : Nat -> Nat -> List Lin
 | _,0=>[]
 | v,n + 1=>rI v lo hi ++ rgI lo hi (v + 1) n
def rR (v : Nat) : List Lin:=rgI 0 63 (v + 8) 8 ++ (rgI (-9223372036854775808) 9223372036854775807 (v + 16) 1 ++ rgI (-9223372036854775808) 9223372036854775807 (v + 18) 3)
def rmG (b : Nat) : Int -> List CS -> List DC -> List Cell
 | off,c :: cs,x :: xs=>⟨b,⟨off,[(b,1)]⟩,c,x⟩ :: gI (off + 1) fun off=>rmG b off cs xs
 | _,_,_=>[]
def rM (b : Nat) (off : Int) (v : Nat) : List Cell:=rmG b off (zTab 87) (rC v)
end
end Vx
namespace VtTop
noncomputable section
open Go Zx Vx
def rT16 (v : Nat) : List DC:=rnB v 8 ++ rnI (v + 8) 8
def r17 (v a : Nat) : List DC:=rnB v 8 ++ (rnI (v + 8) 8 ++ [cI .i64 a])
def r18 (v a : Nat) (x : DC) : List DC:=rnB v 8 ++ (rnI (v + 8) 8 ++ [cI .i64 a,x])
def tlS300 (k : Nat) : TC:={ k:=2,pre:={ n:=80,P:=[(0,.s (.c (cP 49 0))),(1,.s (.c (cP 50 1)))],C:=[],M:=rmG 1 ((39 * k : Nat) : Int) (zTab 49) (rC 2) ++ rmG 0 0 (zTab 49) (rC 41),F:=[⟨300,rC 2 ++ rC 41⟩] },W:=[],post:=[{ n:=0,P:=[],C:=[],M:=rmG 0 0 (zTab 49) ((rC 2).take 22) ++ rmG 0 30 ((zTab 49).drop 30) ((rC 2).drop 30) }] }
def kC (x : DC) : Cell:=⟨0,⟨0,[(3,4),(0,1)]⟩,(zTab 33).getD 0 (.bool 0),x⟩
def kN (k : Int) : Shp:={ n:=0,P:=[],C:=[],M:=[kC (.num .i64 k)] }
def evX (l : Lin) : Shp:={ n:=1,P:=[],C:=[l],M:=[kC (cI .i64 4)] }
def tlKind : TC:={ k:=2,pre:={ n:=4,P:=[(0,.s (.c (cS 33 0))),(1,.s (.c (cI .i64 3)))],C:=[⟨0,[(0,1)]⟩,⟨0,[(3,1)]⟩,⟨-1,[(3,-1),(1,1)]⟩,⟨0,[(2,1),(1,-1)]⟩],adr:=[] },W:=[],post:=[kN 1,kN 2,kN 3,kN 4,kN 5,evX ⟨0,[(4,-1)]⟩,evX ⟨-6,[(4,1)]⟩] }
def evC (x : DC) : Cell:=⟨0,⟨1,[(3,4),(0,1)]⟩,(zTab 33).getD 1 (.bool 0),x⟩
def tlAddr : TC:={ k:=2,pre:={ n:=4,P:=[(0,.s (.c (cS 33 0))),(1,.s (.c (cI .i64 3)))],C:=[⟨0,[(0,1)]⟩,⟨0,[(3,1)]⟩,⟨-1,[(3,-1),(1,1)]⟩,⟨0,[(2,1),(1,-1)]⟩],adr:=[] },W:=[],post:=[{ n:=1,P:=[],C:=[],M:=[evC (cI .i64 4)] }] }
def fW (i k : Nat) : Atom:=⟨i,r17 (7 + 39 * k) 6⟩
def tlWh3 : TC:={ k:=3,pre:={ n:=163,P:=[(0,.s (.c (cP 92 0))),(1,.s (.c (cS 33 1))),(2,.s (.c (cI .i64 4)))],C:=[⟨-1,[(5,1)]⟩,⟨2,[(5,-1)]⟩],adr:=[],M:=[⟨1,⟨0,[(4,4),(1,1)]⟩,(zTab 33).getD 0 (.bool 0),cI .i64 5⟩,⟨1,⟨1,[(4,4),(1,1)]⟩,(zTab 33).getD 1 (.bool 0),cI .i64 6⟩] ++ (rM 0 0 7 ++ (rM 0 367 46 ++ (rM 0 734 85 ++ rM 0 1101 124))) },W:=[],post:=[{ n:=0,P:=[],C:=[],F:=[fW 611 0] },{ n:=0,P:=[],C:=[],F:=[fW 610 0,fW 611 1] },{ n:=0,P:=[],C:=[],F:=[fW 610 0,fW 610 1,fW 611 2] },{ n:=0,P:=[],C:=[],F:=[fW 610 0,fW 610 1,fW 610 2,fW 611 3] },{ n:=0,P:=[],C:=[],F:=[fW 610 0,fW 610 1,fW 610 2,fW 610 3] }] }
def tlB612 : TC:={ k:=2,pre:={ n:=18,P:=[(0,.s (.c (cP 49 0))),(1,.s (.c (cI .i64 1)))],C:=[],M:=rmG 0 0 (zTab 49) (rT16 2) },W:=[],post:=[{ n:=0,P:=[],C:=[],F:=[⟨612,r18 2 1 (.num .i64 0)⟩] }] }
def uJ (x : DC) : Cell:=⟨0,⟨0,[(2,1),(0,1)]⟩,(zTab 49).getD 0 (.bool 0),x⟩
def aJ (x : DC) : Cell:=⟨0,⟨8,[(2,1),(0,1)]⟩,(zTab 49).getD 8 (.bool 0),x⟩
def fJ1 : Atom:=⟨612,r18 3 1 (.int .i64 ⟨1,[(2,1)]⟩)⟩
def tlSlot : TC:={ k:=3,pre:={ n:=19,P:=[(0,.s (.c (cP 49 0))),(1,.s (.c (cI .i64 1))),(2,.s (.c (cI .i64 2)))],C:=[⟨0,[(2,1)]⟩,⟨7,[(2,-1)]⟩],M:=rmG 0 0 (zTab 49) (rT16 3),F:=[⟨612,r18 3 1 (cI .i64 2)⟩] },W:=[],post:=[
 { n:=0,P:=[],C:=[],M:=[uJ (.tru false)],F:=[fJ1] },
 { n:=1,P:=[],C:=[⟨-1,[(19,-1),(1,1)]⟩],M:=[uJ (.tru true),aJ (cI .i64 19)],F:=[fJ1] },
 { n:=1,P:=[],C:=[⟨-1,[(19,1),(1,-1)]⟩],M:=[uJ (.tru true),aJ (cI .i64 19)],F:=[fJ1] },
 { n:=0,P:=[],C:=[],M:=[uJ (.tru true),aJ (cI .i64 1)] }] }
def tlF612 : TC:={ k:=3,pre:={ n:=19,P:=[(0,.s (.c (cP 49 0))),(1,.s (.c (cI .i64 1))),(2,.s (.c (cI .i64 2)))],C:=[⟨-8,[(2,1)]⟩],M:=rmG 0 0 (zTab 49) (rT16 3),F:=[⟨612,r18 3 1 (cI .i64 2)⟩] },W:=[],post:=[{ n:=0,P:=[],C:=[],F:=[⟨610,r17 3 1⟩] }] }
end
end VtTop
namespace VtTop
noncomputable section
open Go Zx Vx
def tlAd : TC:={ k:=2,pre:={ n:=10,P:=[(0,.s (.c (cP 49 0))),(1,.s (.c (cI .i64 1)))],C:=rgI 0 7 1 1 ++ rgI 0 63 2 8,M:=rmG 0 8 ((zTab 49).drop 8) (rnI 2 8) },W:=[],post:=[{ n:=1,P:=[],C:=rgI 0 63 10 1,M:=[⟨0,⟨8,[(1,1),(0,1)]⟩,(zTab 49).getD 8 (.bool 0),cI .i64 10⟩] }] }
def zR39 : List DC:=[.tru false,.tru false,.tru false,.tru false,.tru false,.tru false,.tru false,.tru false,.num .i64 0,.num .i64 0,.num .i64 0,.num .i64 0,.num .i64 0,.num .i64 0,.num .i64 0,.num .i64 0,.num .i64 0,.tru false,.num .i64 0,.num .i64 0,.num .i64 0,.num .i64 0,
 .num .i64 0,.num .i64 0,.num .i64 0,.num .i64 0,.num .i64 0,.num .i64 0,.num .i64 0,.num .i64 0,.num .i64 0,.num .i64 0,.num .i64 0,.num .i64 0,.num .i64 0,.num .i64 0,.num .i64 0,.num .i64 0,.tru false]
def z4 (b : Nat) : List Cell:=rmG b 0 (zTab 87) zR39 ++ (rmG b 367 (zTab 87) zR39 ++ (rmG b 734 (zTab 87) zR39 ++ rmG b 1101 (zTab 87) zR39))
def nowC (b : Nat) (x : DC) : Cell:=mC 92 b 1468 x
def kP (b : Bool) : CS:=.ptr 134 116 b
def pCs (b : Nat) (q : Bool) : Nat -> Nat -> List Cell
 | _,0=>[]
 | i,n + 1=>⟨b,⟨((1470 + i : Nat) : Int),[(b,1)]⟩,kP q,cP 116 (1 + i)⟩ :: pCs b q (i + 1) n
def pAd : Nat -> Nat -> List (Nat × Nat)
 | _,0=>[]
 | v,n + 1=>(v,1) :: pAd (v + 1) n
def pGe : Nat -> Nat -> List Lin
 | _,0=>[]
 | v,n + 1=>.var v :: pGe (v + 1) n
def tc8X : TC:={ k:=0,pre:={ n:=0,P:=[],C:=[] },W:=[],post:=[{ n:=66,P:=[(0,.s (.c (.zp 0 (.var 0) (relaxL (zTab 92)))))],C:=pGe 0 66,adr:=pAd 0 66,M:=z4 0 ++ (nowC 0 (.num .i64 0) :: (pCs 0 false 0 64 ++ [⟨0,⟨1534,[(0,1)]⟩,.ptr 135 114 false,cP 114 65⟩,mC 116 6 0 (.num .i64 32),mC 116 6 1 .nos])) }] }
def tc8T : TC:={ k:=0,pre:={ n:=0,P:=[],C:=[] },W:=[],post:=[{ n:=2,P:=[(0,.s (.c (cP 92 0)))],C:=pGe 0 2,adr:=pAd 0 2,M:=z4 0 ++ [nowC 0 (.num .i64 0),⟨0,⟨1475,[(0,1)]⟩,kP true,cP 116 1⟩,mC 116 1 0 (.num .i64 32),mC 116 1 1 .nos],F:=[⟨303,zR39⟩] }] }
def zJ39 : List DC:=[.tru true,.tru false,.tru false,.tru false,.tru false,.tru false,.tru false,.tru false,.num .i64 5] ++ zR39.drop 9
def tcJoin0 : TC:={ k:=3,pre:={ n:=0,P:=[(0,.s (.a zR39)),(1,.s (.c (.num .i64 5))),(2,.s (.c (.num .i64 0)))],C:=[] },W:=[],post:=[{ n:=0,P:=[(0,.t [.a zJ39,.c (.num .i64 0),.c (.num .i64 0)])],C:=[] }] }
def zS16 : List DC:=zR39.take 16
def zT16 : List DC:=zJ39.take 16
def tcFind0 : TC:={ k:=2,pre:={ n:=0,P:=[(0,.s (.a zS16)),(1,.s (.c (.num .i64 5)))],C:=[] },W:=[],post:=[{ n:=0,P:=[(0,.t [.c (.num .i64 0),.c (.tru false)])],C:=[] }] }
def tcMask1 : TC:={ k:=1,pre:={ n:=0,P:=[(0,.s (.a zT16))],C:=[] },W:=[],post:=[{ n:=0,P:=[(0,.s (.c (.num .i64 1)))],C:=[] }] }
def rW (v : Nat) : List Lin:=rI v (-9223372036854775808) 9223372036854775807
def cW (v : Nat) : DC:=cI .i64 v
def sH (n : Nat) (P : List (Nat × DV)) (C : List Lin) (adr : List (Nat × Nat)) : Shp:={ n:=n,P:=P,C:=C,adr:=adr }
def sM (n : Nat) (P : List (Nat × DV)) (C : List Lin) (adr : List (Nat × Nat)) (M : List Cell) : Shp:={ n:=n,P:=P,C:=C,adr:=adr,M:=M }
def sF (n : Nat) (P : List (Nat × DV)) (C : List Lin) (adr : List (Nat × Nat)) (M : List Cell) (F : List Atom) : Shp:={ n:=n,P:=P,C:=C,adr:=adr,M:=M,F:=F }
def tC (k : Nat) (pre : Shp) (W : List Nat) (post : List Shp) : TC:={ k:=k,pre:=pre,W:=W,post:=post }
def aW (i v : Nat) : Nat × DV:=(i,d1 (cW v))
def aP (i t v : Nat) : Nat × DV:=(i,d1 (cP t v))
def aS (i t v : Nat) : Nat × DV:=(i,d1 (cS t v))
def aQ (i : Nat) (l : List DC) : Nat × DV:=(i,.s (.a l))
def laK (sh : Shp) (keep W Wo : List Nat) (r : Nat) (refs : List (Nat × DV)) (dec : Lin) : LA:={ sh:=sh,keep:=keep,W:=W,Wo:=Wo,r:=r,refs:=refs,dec:=dec }
def laC (sh : Shp) (keep W Wo : List Nat) : LA:={ sh:=sh,keep:=keep,W:=W,Wo:=Wo }
def lp1 (k : Nat) (x : LA) (f : Nat -> Option LA) : Nat -> Option LA:=fun i=>match Nat.beq i k with | true=>some x | false=>f i
def lp0 : Nat -> Option LA:=fun _=>none
def mq (b o : Nat) (k : CS) (v : DC) : Cell:=⟨b,⟨(o : Int),[(b,1)]⟩,k,v⟩
def rn (b o n : Nat) (k : CS) (v : DC) (r : List Cell) : List Cell:=@Nat.rec (fun _=>Nat -> List Cell) (fun _=>r) (fun _ ih o=>mq b o k v :: ih (o + 1)) n o
def l1 (k : Nat) (x : LA) : Cl:={ lp:=lp1 k x lp0 }
def cT : List (List Lin) -> List Lin:=fun l=>@List.rec (List Lin) (fun _=>List Lin) [] (fun x _ ih=>x ++ ih) l
theorem eC {P : Program} {f : FuncId} {tc : TC} {l : List (FuncId × TC)} (h : TCok P f tc) (hl : EnvTOk P (envL l)) : EnvTOk P (envL ((f,tc) :: l)):=envL_cons h hl
def rn8 (n b v o : Nat) : List Cell:=@Nat.rec (fun _=>Nat -> Nat -> List Cell) (fun _ _=>[]) (fun _ ih v o=>mq b o (.int 4 .u8 0 255) (cI .u8 v) :: ih (v + 1) (o + 1)) n v o
def mB (b v : Nat) : List Cell:=rn8 11 b v 0
def rO (v : Nat) : List Lin:=cT [rI v 0 255,rI (v + 1) 0 255,rI (v + 2) 0 255,rI (v + 3) 0 255,rI (v + 4) 0 255,rI (v + 5) 0 255,rI (v + 6) 0 255,rI (v + 7) 0 255,rI (v + 8) 0 255,rI (v + 9) 0 255,rI (v + 10) 0 255]
def zR : Nat -> Nat -> List Lin:=fun v n=>@Nat.rec (fun _=>Nat -> List Lin) (fun _=>[]) (fun _ ih v=>⟨0,[(v,1)]⟩ :: ⟨0,[(v,-1)]⟩ :: ih (v + 1)) n v
def W0 : List Nat:=[22,23,24,61,96,97,98,99,100,101,108,109,110,111,112,115,116,117,118,119,120,121,122,123,124,125,143,162,163,208,230,231,237,238,239,240,241,267,275,276,277,281,282,283,291,292,293,294,295,296,297,308,310,328,329,334,338,339,341]
def W1 : List Nat:=[22,23,24,62,96,97,98,99,100,101,108,109,110,111,112,115,116,117,118,119,120,121,122,123,124,125,126,133,143,208,306,307]
def W2 : List Nat:=[22,23,24,143,208,230,231,237,238,239,240,241,281,282,283,328,329]
def W3 : List Nat:=[24,23,22,122,117,121,120,119,118,125,123,124,116,115,202,199,196,201,200,197,198,143,54,49,53,52,51,50,60,58,59,42,41,4]
def W4 : List Nat:=[22,23,24,96,97,98,99,100,101,108,109,110,111,112,126,143,208]
def W5 : List Nat:=[231,237,238,239,240,241,328,329]
def W6 : List Nat:=[22,23,24,143,208]
def W7 : List Nat:=[61,281,282,283,291,292,293,294,295,296,297,308,310,338,339,341]
def W8 : List Nat:=[267,275,276,277,334]
def W9 : List Nat:=[267,334]
def W10 : List Nat:=[334,267,273,274,275,276,277]
def W11 : List Nat:=[143,22,23,24]
def t0 (p0 : Nat) (p1 : Int) : TC:=tC 1 (sH 3 [aS 0 p0 0] (rS 0 p1) [(0,0)]) [] [(sH 3 [aS 0 p0 3] (rS 3 p1 ++ ([⟨0,[(4,1),(1,-1)]⟩,⟨0,[(4,-1),(1,1)]⟩])) [(3,1)])]
def t1 (p0 : Nat) (p1 : Nat) (p2 : Nat) : TC:=tC 2 (sH 4 [aS 0 p0 0,(1,.s (.c (.clo p1 [(3,.var 3,zTab p2)])))] (rS 0 1048576 ++ (rP 3)) [(0,0),(3,0)]) [] [(sH 1 [aW 0 4] (rW 4 ++ ([⟨1,[(4,1)]⟩,⟨-1,[(4,-1),(1,1)]⟩])) [])]
def t2 (p0 : Int) : TC:=tC 2 (sM 3 [(0,d1 (.num .i64 p0)),aP 1 31 0] (rP 0 ++ ([.var 1,(Lin.var 2).addc (-11),(Lin.num maxLen).sub (.var 2)])) [(0,0),(1,0)] (mq 0 0 (.sli 10 5 1048576) (.zs 1 (.var 1) (zTab 5) (Lin.num 11) (.var 2)) :: (mq 1 0 (.int 4 .u8 0 255) (.num .u8 1) :: (rn 1 1 10 (.int 4 .u8 0 255) (.num .u8 0) [])))) [] [(sH 0 [(0,d1 (.num .i64 0))] [] [])]
def t3 (p0 : Int) : TC:=tC 3 (sH 0 [(0,d1 (.num .i64 0)),(1,d1 (.num .i64 0)),(2,d1 (.num .i64 p0))] [] []) [] [(sH 0 [(0,d1 (.tru true))] [] [])]
def t4 (p0 : Int) : TC:=tC 2 (sH 0 [(0,.s (.c (.strL (ByteArray.mk #[114])))),(1,d1 (.num .u8 p0))] [] []) [] [(sH 1 [(0,d1 (cB 0))] (rB 0) [])]
def t5 (p0 : UInt8) (p1 : Int) : TC:=tC 2 (sH 0 [(0,.s (.c (.strL (ByteArray.mk #[p0])))),(1,d1 (.num .u8 p1))] [] []) [] [(sH 0 [(0,d1 (.tru false))] [] [])]
def t6 (p0 : Int) (p1 : Int) (p2 : Nat) (p3 : Int) (p4 : Int) (p5 : Nat) : TC:=tC 3 (sM 2 [(0,.s (.c (.zs 0 (.var 0) (zTab 5) (Lin.num p0) (.var 1)))),(1,d1 (.num .u64 0)),(2,d1 (.num .i64 2))] [.var 0,(Lin.var 1).addc p1,(Lin.num maxLen).sub (.var 1)] [(0,0)] (mq 0 0 (.int 4 .u8 0 255) (.num .u8 1) :: (rn 0 1 p2 (.int 4 .u8 0 255) (.num .u8 0) []))) [] [(sM 2 [(0,.s (.c (.zs 2 (.var 2) (zTab 5) (Lin.num p3) (.var 3))))] [.var 2,(Lin.var 3).addc p4,(Lin.num maxLen).sub (.var 3)] [(2,1)] (mq 2 0 (.int 4 .u8 0 255) (.num .u8 1) :: (rn 2 1 p5 (.int 4 .u8 0 255) (.num .u8 0) [])))]
def t7 (p0 : Int) (p1 : Int) : TC:={ k:=2,pre:={ n:=40,P:=[(0,.s (.c (cP 92 0))),(1,.s (.c (.num .i64 p0)))],C:=rP 0,adr:=[(0,0)],M:=rM 0 p1 1 },W:=[],post:=[{ n:=0,P:=[(0,.t [.a (rC 1),.c (.tru true)])],C:=rR 1,adr:=[] }] }
def t8 (p0 : Int) (p1 : Nat) (p2 : Nat) : TC:=tC 2 (sM 2 [(0,.s (.c (.zs 0 (.var 0) (zTab 5) (Lin.num 11) (.var 1)))),(1,d1 (.num .i64 p0))] [.var 0,(Lin.var 1).addc (-11),(Lin.num maxLen).sub (.var 1)] [(0,0)] [mq 0 p1 (.int 4 .u8 0 255) (.num .u8 0),mq 0 p2 (.int 4 .u8 0 255) (.num .u8 0)]) [] [(sH 0 [(0,d1 (.num .i64 0))] [] [])]
def t9 (p0 : Int) : TC:=tC 3 (sH 1 [aW 0 0,(1,d1 (.num .i64 0)),(2,d1 (.num .i64 p0))] (rI 0 0 p0) []) [] [(sH 0 [(0,d1 (.tru true))] [] [])]
def t10 (p0 : UInt8) (p1 : Int) : TC:=tC 2 (sH 0 [(0,.s (.c (.strL (ByteArray.mk #[p0])))),(1,d1 (.num .u8 p1))] [] []) [] [(sH 0 [(0,d1 (.tru true))] [] [])]
def t11 (p0 : Int) (p1 : Int) : TC:=tC 1 (sH 4 [aQ 0 [.num .i64 p0,cW 0,.num .i64 0,.num .i64 0,.num .i64 0,.num .i64 0,cS 5 1]] (rI 0 0 p1 ++ (rS 1 0)) [(1,0)]) [] [(sH 0 [(0,d1 (.tru true))] [] [])]
def t12 (p0 : Int) (p1 : Int) : TC:={ k:=1,pre:={ n:=3,P:=[(0,.s (.c (.zs 0 (.var 0) (zTab 5) (Lin.num 11) (.var 1))))],C:=[.var 0,(Lin.var 1).addc (-11),(Lin.num maxLen).sub (.var 1)] ++ (rI 2 0 p0),adr:=[(0,0)],M:=[⟨0,⟨0,[(0,1)]⟩,.int 4 .u8 0 255,.num .u8 p1⟩,⟨0,⟨1,[(0,1)]⟩,.int 4 .u8 0 255,cI .u8 2⟩,⟨0,⟨2,[(0,1)]⟩,.int 4 .u8 0 255,.num .u8 0⟩,⟨0,⟨3,[(0,1)]⟩,.int 4 .u8 0 255,.num .u8 0⟩,⟨0,⟨4,[(0,1)]⟩,.int 4 .u8 0 255,.num .u8 0⟩,⟨0,⟨5,[(0,1)]⟩,.int 4 .u8 0 255,.num .u8 0⟩,⟨0,⟨6,[(0,1)]⟩,.int 4 .u8 0 255,.num .u8 0⟩,⟨0,⟨7,[(0,1)]⟩,.int 4 .u8 0 255,.num .u8 0⟩,⟨0,⟨8,[(0,1)]⟩,.int 4 .u8 0 255,.num .u8 0⟩,⟨0,⟨9,[(0,1)]⟩,.int 4 .u8 0 255,.num .u8 0⟩,⟨0,⟨10,[(0,1)]⟩,.int 4 .u8 0 255,.num .u8 0⟩] },W:=[],post:=[{ n:=8,P:=[(0,.t [.a [.num .i64 p1,cI .i64 3,cI .i64 4,cI .i64 5,cI .i64 6,cI .i64 7,cS 5 8],.c (.num .i64 0)])],C:=rI 3 (-9223372036854775808) 9223372036854775807 ++ (rI 4 (-9223372036854775808) 9223372036854775807 ++ (rI 5 (-9223372036854775808) 9223372036854775807 ++ (rI 6 (-9223372036854775808) 9223372036854775807 ++ (rI 7 (-9223372036854775808) 9223372036854775807 ++ (rS 8 1048576))))),adr:=[(8,0)] }] }
def t13 (p0 : UInt8) (p1 : UInt8) (p2 : Int) : TC:=tC 2 (sH 0 [(0,.s (.c (.strL (ByteArray.mk #[p0,p1])))),(1,d1 (.num .u8 p2))] [] []) [] [(sH 0 [(0,d1 (.tru false))] [] [])]
def t14 (p0 : UInt8) (p1 : UInt8) (p2 : Int) : TC:=tC 2 (sH 0 [(0,.s (.c (.strL (ByteArray.mk #[p0,p1])))),(1,d1 (.num .u8 p2))] [] []) [] [(sH 0 [(0,d1 (.tru true))] [] [])]
def t15 (p0 : UInt8) (p1 : UInt8) (p2 : UInt8) (p3 : Int) : TC:=tC 2 (sH 0 [(0,.s (.c (.strL (ByteArray.mk #[p0,p1,p2])))),(1,d1 (.num .u8 p3))] [] []) [] [(sH 0 [(0,d1 (.tru false))] [] [])]
def t16 (p0 : UInt8) (p1 : UInt8) (p2 : UInt8) (p3 : Int) : TC:=tC 2 (sH 0 [(0,.s (.c (.strL (ByteArray.mk #[p0,p1,p2])))),(1,d1 (.num .u8 p3))] [] []) [] [(sH 0 [(0,d1 (.tru true))] [] [])]
def t17 (p0 : Int) : TC:=tC 2 (sH 0 [(0,.s (.c (.strL (ByteArray.mk #[114,115,101,110,109,98])))),(1,d1 (.num .u8 p0))] [] []) [] [(sH 0 [(0,d1 (.tru true))] [] [])]
def t18 (p0 : UInt8) (p1 : Int) : TC:=tC 2 (sH 0 [(0,.s (.c (.strL (ByteArray.mk #[115,101,110,p0])))),(1,d1 (.num .u8 p1))] [] []) [] [(sH 0 [(0,d1 (.tru false))] [] [])]
def t19 (p0 : UInt8) (p1 : Int) : TC:=tC 2 (sH 0 [(0,.s (.c (.strL (ByteArray.mk #[115,101,110,p0])))),(1,d1 (.num .u8 p1))] [] []) [] [(sH 0 [(0,d1 (.tru true))] [] [])]
def t20 (p0 : Int) : TC:=tC 2 (sH 0 [(0,.s (.c (.strL (ByteArray.mk #[])))),(1,d1 (.num .u8 p0))] [] []) [] [(sH 0 [(0,d1 (.tru false))] [] [])]
def t21 (p0 : Int) (p1 : Nat) (p2 : Nat) (p3 : Nat) (p4 : Nat) (p5 : Nat) : TC:=tC 3 (sM 159 [aP 0 92 0,(1,.s (.c (.zp 0 ⟨p0,[(0,1)]⟩ (zTab 87)))),aW 2 1] (cT [rP 0,rW 1,rW 158]) [(0,0)] (rM 0 0 2 ++ (rM 0 367 41 ++ (rM 0 734 80 ++ (rM 0 1101 119 ++ ([mq 0 1468 (iW 132) (cW 158)])))))) [115,116,117,118,119,120,121,122,123,124,125] [(sF 39 [(0,.t [])] [] [] (rM 0 0 p1 ++ (rM 0 367 p2 ++ (rM 0 734 p3 ++ (rM 0 1101 p4)))) [⟨300,rC p5 ++ (rC 159)⟩])]
def t22 (p0 : Int) (p1 : Int) : TC:=tC 2 (sH 1 [aP 0 296 0,(1,d1 (.num .i64 p0))] (rP 0) [(0,0)]) [334] [(sH 2 [(0,.t [.c (cI .u64 1),.c (cW 2)])] (rI 1 0 p1 ++ (rI 2 0 3)) [])]
def t23 (p0 : Int) (p1 : Int) : TC:=tC 2 (sM 2 [aP 0 225 0,(1,d1 (.num .i64 p0))] (rP 0 ++ (rI 1 0 100)) [(0,0)] [mK (iW 267) 0 1 (cW 1)]) W9 [(sM 2 [aW 0 2] (rI 2 0 p1 ++ (rI 3 0 100)) [] [mK (iW 267) 0 1 (cW 3)])]
def t24 (p0 : Int) (p1 : Int) (p2 : Int) : TC:=tC 2 (sM 3 [aP 0 225 0,aW 1 1] (cT [rP 0,rI 1 p0 p1,rI 2 0 100]) [(0,0)] [mK (iW 267) 0 1 (cW 2)]) W9 [(sM 2 [aW 0 3] (rI 3 0 p2 ++ (rI 4 0 100)) [] [mK (iW 267) 0 1 (cW 4)])]
def t25 (p0 : Int) : TC:=tC 1 (sM 2 [aP 0 225 0] (rP 0 ++ (rI 1 0 100)) [(0,0)] [mK (iW 267) 0 1 (cW 1)]) W9 [(sM 4 [aS 0 3 2] (rS 2 p0 ++ (rI 5 0 100)) [(2,1)] [mK (iW 267) 0 1 (cW 5)])]
def t26 (p0 : Int) (p1 : Nat) (p2 : Nat) : TC:=tC 2 (sM 4 [(0,d1 (.num .i64 p0)),aP 1 31 0] (cT [rP 0,rS 1 1048576,[(Lin.var 2).addc (-11)]]) [(0,0),(1,0)] [mq 0 0 (.sli 10 5 1048576) (cS 5 1)]) [] [(sM 3 [aW 0 4] (cT [rI 4 0 65535,rI 5 0 255,rI 6 0 255,[⟨0,[(5,-256),(4,1)]⟩,⟨0,[(6,-1),(4,1)]⟩,⟨0,[(6,1),(5,256),(4,-1)]⟩]]) [] [mq 1 p1 (.int 4 .u8 0 255) (cI .u8 5),mq 1 p2 (.int 4 .u8 0 255) (cI .u8 6)])]
def t27 (p0 : Int) (p1 : Nat) (p2 : Nat) (p3 : Nat) (p4 : Nat) (p5 : Nat) : TC:=tC 3 (sM 167 [aP 0 92 0,aW 1 1,aQ 2 [cW 2,.num .i64 p0,cW 3,cW 4,cW 5,cW 6,cS 5 7]] (cT [rP 0,rI 1 0 63,rW 2,rI 3 0 7,rI 4 0 65535,rI 5 0 255,rI 6 0 65535,rS 7 200,rW 166]) [(0,0),(7,0)] (rM 0 0 10 ++ (rM 0 367 49 ++ (rM 0 734 88 ++ (rM 0 1101 127 ++ ([mq 0 1468 (iW 132) (cW 166)])))))) [22,23,24,115,116,117,118,119,120,121,122,123,124,125,143,208] [(sM 1 [aW 0 167] (rW 167) [] (rM 0 0 10 ++ (rM 0 367 49 ++ (rM 0 734 88 ++ (rM 0 1101 127))))),(sF 40 [aW 0 167] (rW 167) [] (rM 0 0 p1 ++ (rM 0 367 p2 ++ (rM 0 734 p3 ++ (rM 0 1101 p4)))) [⟨301,rC p5 ++ (rC 168)⟩])]
def t28 (p0 : Int) (p1 : Int) (p2 : Nat) (p3 : Nat) (p4 : Nat) (p5 : Nat) (p6 : Nat) : TC:=tC 4 (sF 206 [aP 0 92 0,(1,.s (.c (.zp 0 ⟨p0,[(0,1)]⟩ (zTab 87)))),aW 2 1,aQ 3 [.num .i64 p1,cW 2,cW 3,cW 4,cW 5,cW 6,cS 5 7]] (cT [rP 0,rI 1 0 7,rI 2 0 3,rI 3 0 7,rI 4 0 65535,rI 5 0 255,rI 6 0 65535,rS 7 200,rW 166]) [(0,0),(7,0)] (rM 0 0 10 ++ (rM 0 367 49 ++ (rM 0 734 88 ++ (rM 0 1101 127 ++ ([mq 0 1468 (iW 132) (cW 166)]))))) [⟨300,rC 167 ++ (rC p2)⟩]) W1 [(sM 1 [aW 0 206] (rW 206) [] (rM 0 0 10 ++ (rM 0 367 49 ++ (rM 0 734 88 ++ (rM 0 1101 127))))),(sF 40 [aW 0 206] (rW 206) [] (rM 0 0 p3 ++ (rM 0 367 p4 ++ (rM 0 734 p5 ++ (rM 0 1101 p6)))) [⟨301,rC 167 ++ (rC 207)⟩])]
def t29 (p0 : Int) (p1 : Nat) : TC:=tC 4 (sF 206 [aP 0 92 0,(1,.s (.c (.zp 0 ⟨p0,[(0,1)]⟩ (zTab 87)))),aW 2 1,aQ 3 [.num .i64 4,cW 2,cW 3,cW 4,cW 5,cW 6,cS 5 7]] (cT [rP 0,rI 1 0 7,rI 2 0 3,rI 3 0 7,rI 4 0 65535,rI 5 0 2,rI 6 0 65535,rS 7 4,[(Lin.var 8).addc (-4)],rW 166]) [(0,0),(7,0)] (rM 0 0 10 ++ (rM 0 367 49 ++ (rM 0 734 88 ++ (rM 0 1101 127 ++ ([mq 0 1468 (iW 132) (cW 166)]))))) [⟨300,rC 167 ++ (rC p1)⟩]) W1 [(sM 1 [aW 0 206] (rW 206) [] (rM 0 0 10 ++ (rM 0 367 49 ++ (rM 0 734 88 ++ (rM 0 1101 127)))))]
def t30 (p0 : Int) (p1 : Int) (p2 : Nat) : TC:=tC 4 (sF 206 [aP 0 92 0,(1,.s (.c (.zp 0 ⟨p0,[(0,1)]⟩ (zTab 87)))),aW 2 1,aQ 3 [.num .i64 p1,cW 2,cW 3,cW 4,cW 5,cW 6,cS 5 7]] (cT [rP 0,rI 1 0 7,rI 2 0 3,rI 3 0 7,rI 4 0 65535,rI 5 0 255,rI 6 0 65535,rS 7 200,rW 166]) [(0,0),(7,0)] (rM 0 0 10 ++ (rM 0 367 49 ++ (rM 0 734 88 ++ (rM 0 1101 127 ++ ([mq 0 1468 (iW 132) (cW 166)]))))) [⟨300,rC 167 ++ (rC p2)⟩]) W1 [(sM 1 [aW 0 206] (rW 206) [] (rM 0 0 10 ++ (rM 0 367 49 ++ (rM 0 734 88 ++ (rM 0 1101 127)))))]
def t31 (p0 : Int) (p1 : Int) : TC:={ k:=2,pre:={ n:=164,P:=[(0,.s (.c (cP 92 0))),(1,.s (.a [cI .i64 1,cI .i64 2,cI .i64 3,cS 5 4]))],C:=rP 0 ++ (rI 1 p0 p1 ++ (rI 2 (-9223372036854775808) 9223372036854775807 ++ (rI 3 (-9223372036854775808) 9223372036854775807 ++ (rS 4 1048576 ++ (rI 163 (-9223372036854775808) 9223372036854775807))))),adr:=[(0,0),(4,0)],M:=rM 0 0 7 ++ (rM 0 367 46 ++ (rM 0 734 85 ++ (rM 0 1101 124 ++ ([⟨0,⟨1468,[(0,1)]⟩,.int 132 .i64 (-9223372036854775808) 9223372036854775807,cI .i64 163⟩])))) },W:=[115,116,117,118,119,120,121,122,123,124,125,132],post:=[{ n:=4,P:=[(0,.t [.c (cS 35 164),.c (.num .i64 1)])],C:=rS 164 65536 ++ (rI 167 (-9223372036854775808) 9223372036854775807),adr:=[(164,0)],M:=rM 0 0 7 ++ (rM 0 367 46 ++ (rM 0 734 85 ++ (rM 0 1101 124 ++ ([⟨0,⟨1468,[(0,1)]⟩,.int 132 .i64 (-9223372036854775808) 9223372036854775807,cI .i64 167⟩])))) }] }
end
end VtTop
namespace Vx
noncomputable section
open Go Zx Zx.Zr
theorem scal_F {ρ : Vl} {f : Atom} (hs : f.xs.all scalD = true) (h : f.den ρ) : atomV f.id (f.xs.map (valD ρ)):=by
 obtain ⟨vs,h1,h2⟩:=h
 rw [← valsD_eq hs (h1 fun _ _=>none)];exact h2
theorem den_F {ρ : Vl} {f : Atom} (hs : f.xs.all scalD = true) (h : atomV f.id (f.xs.map (valD ρ))) : f.den ρ:=⟨_,fun sg=>valsD_ok _ hs,h⟩
def plainB (sh : Shp) : Bool:=match sh.P,sh.M,sh.adr,sh.G with
 | [],[],[],[]=>sh.F.all fun f=>f.xs.all scalD
 | _,_,_,_=>false
theorem LemOk.gen {tc : TC} (hwf : tc.wf = true) (hs : (tc.pre.F.all fun f=>f.xs.all scalD) = true) (hp : tc.post.all plainB = true)
  (h : ∀ ρ : Vl,Sat ρ.i tc.pre.C -> (∀ f ∈ tc.pre.F,atomV f.id (f.xs.map (valD ρ))) -> ∃ sh ∈ tc.post,Sat ρ.i sh.C /\ ∀ f ∈ sh.F,atomV f.id (f.xs.map (valD ρ))) : LemOk tc:=by
 refine ⟨hwf,fun sg w ρ vs hz hl hpre=>?_⟩
 obtain ⟨sh,h1,h2,h3⟩:=h ρ hpre.C fun f hf=>scal_F (List.all_eq_true.1 hs f hf) (hpre.F f hf)
 have hb:=List.all_eq_true.1 hp sh h1
 unfold plainB at hb
 split at hb
 ·rename_i e1 e2 e3 e4
  refine ⟨sh,h1,ρ,Agr.refl _ _,h2, ?_, ?_, ?_, ?_,fun f hf=>den_F (List.all_eq_true.1 hb f hf) (h3 f hf), ?_⟩
  ·rw [e1];intro p hp;cases hp
  ·rw [e2];intro p hp;cases hp
  ·rw [e3];intro p hp;cases hp
  ·rw [e3];intro p hp;cases hp
  ·rw [e4];intro p hp;cases hp
 ·cases hb
def roomV (ρ : Vl) (v : Nat) : RV:=⟨[decide (ρ.i v = 1),decide (ρ.i (v + 1) = 1),decide (ρ.i (v + 2) = 1),decide (ρ.i (v + 3) = 1),decide (ρ.i (v + 4) = 1),decide (ρ.i (v + 5) = 1),decide (ρ.i (v + 6) = 1),decide (ρ.i (v + 7) = 1)],[ρ.i (v + 8),ρ.i (v + 9),ρ.i (v + 10),ρ.i (v + 11),ρ.i (v + 12),ρ.i (v + 13),ρ.i (v + 14),ρ.i (v + 15)],⟨ρ.i (v + 16),decide (ρ.i (v + 17) = 1),ρ.i (v + 18),ρ.i (v + 19),ρ.i (v + 20),ρ.i (v + 21)⟩,[ρ.i (v + 22),ρ.i (v + 23),ρ.i (v + 24),ρ.i (v + 25),ρ.i (v + 26),ρ.i (v + 27),ρ.i (v + 28),ρ.i (v + 29)],[ρ.i (v + 30),ρ.i (v + 31),ρ.i (v + 32),ρ.i (v + 33),ρ.i (v + 34),ρ.i (v + 35),ρ.i (v + 36),ρ.i (v + 37)],decide (ρ.i (v + 38) = 1)⟩
theorem rnB_get : ∀ (n v i : Nat),i < n -> (rnB v n)[i]? = some (cB (v + i))
 | n + 1,v,0,_=>rfl
 | n + 1,v,i + 1,h=>by
  simp only [rnB,List.getElem?_cons_succ]
  rw [rnB_get n (v + 1) i (by omega)]
  simp [Nat.add_assoc,Nat.add_comm 1 i]
theorem rnI_get : ∀ (n v i : Nat),i < n -> (rnI v n)[i]? = some (cI .i64 (v + i))
 | n + 1,v,0,_=>rfl
 | n + 1,v,i + 1,h=>by
  simp only [rnI,List.getElem?_cons_succ]
  rw [rnI_get n (v + 1) i (by omega)]
  simp [Nat.add_assoc,Nat.add_comm 1 i]
theorem valB_cB (ρ : Vl) (v : Nat) : valB (valD ρ (cB v)) = decide (ρ.i v = 1):=by simp [valB,valD,cB]
theorem valI_cI (ρ : Vl) (v : Nat) : valI (valD ρ (cI .i64 v)) = ρ.i v:=by simp [valI,valD,cI,Lin.var,Lin.den,Tm.den]
theorem rC_get (v i : Nat) (h : i < 39) : (rC v)[i]? = some (if i < 8 \/ i = 17 \/ i = 38 then cB (v + i) else cI .i64 (v + i)):=by
 simp only [rC]
 rcases Nat.lt_or_ge i 8 with h1 | h1
 ·rw [List.getElem?_append_left (by simp [rnB];omega),rnB_get 8 v i h1,if_pos (.inl h1)]
 ·rw [List.getElem?_append_right (by simp [rnB];omega)]
  have e8 : (rnB v 8).length = 8:=by simp [rnB]
  rw [e8]
  rcases Nat.lt_or_ge i 17 with h2 | h2
  ·rw [List.getElem?_append_left (by simp [rnI];omega),rnI_get 9 (v + 8) (i - 8) (by omega),if_neg (by omega)]
   rw [show v + 8 + (i - 8) = v + i by omega]
  ·have e9 : (rnI (v + 8) 9).length = 9:=by simp [rnI]
   rw [List.getElem?_append_right (by omega),e9]
   rcases Nat.lt_or_ge i 18 with h3 | h3
   ·have : i = 17:=by omega
    subst this
    simp
   ·rw [show i - 8 - 9 = (i - 18) + 1 by omega,List.getElem?_cons_succ]
    rcases Nat.lt_or_ge i 38 with h4 | h4
    ·rw [List.getElem?_append_left (by simp [rnI];omega),rnI_get 20 (v + 18) (i - 18) (by omega),if_neg (by omega)]
     rw [show v + 18 + (i - 18) = v + i by omega]
    ·have : i = 38:=by omega
     subst this
     simp [rnI]
theorem rC_at (ρ : Vl) (v i : Nat) (h : i < 39) : ((rC v).map (valD ρ)).getD i undef = valD ρ (if i < 8 \/ i = 17 \/ i = 38 then cB (v + i) else cI .i64 (v + i)):=by
 rw [List.getD_eq_getElem?_getD,List.getElem?_map,rC_get v i h];rfl
theorem rC_b (ρ : Vl) (v i : Nat) (h : i < 8 \/ i = 17 \/ i = 38) : bAt ((rC v).map (valD ρ)) i = decide (ρ.i (v + i) = 1):=by
 unfold bAt
 rw [rC_at ρ v i (by omega),if_pos h,valB_cB]
theorem rC_i (ρ : Vl) (v i : Nat) (h : i < 39 /\ 8 <= i /\ i ≠ 17 /\ i ≠ 38) : iAt ((rC v).map (valD ρ)) i = ρ.i (v + i):=by
 unfold iAt
 rw [rC_at ρ v i h.1,if_neg (by omega),valI_cI]
theorem rvAt_rC0 (ρ : Vl) (v : Nat) : rvAt ((rC v).map (valD ρ)) 0 = roomV ρ v:=by
 simp only [rvAt,uAt,lAt,Nat.add_assoc,Nat.reduceAdd,Nat.zero_add,roomV,rC_b ρ v 0 (by omega),rC_b ρ v 1 (by omega),rC_b ρ v 2 (by omega),rC_b ρ v 3 (by omega),rC_b ρ v 4 (by omega),rC_b ρ v 5 (by omega),rC_b ρ v 6 (by omega),rC_b ρ v 7 (by omega),rC_b ρ v 17 (by omega),rC_b ρ v 38 (by omega),rC_i ρ v 8 (by omega),rC_i ρ v 9 (by omega),rC_i ρ v 10 (by omega),rC_i ρ v 11 (by omega),rC_i ρ v 12 (by omega),rC_i ρ v 13 (by omega),rC_i ρ v 14 (by omega),rC_i ρ v 15 (by omega),rC_i ρ v 16 (by omega),rC_i ρ v 18 (by omega),rC_i ρ v 19 (by omega),rC_i ρ v 20 (by omega),rC_i ρ v 21 (by omega),rC_i ρ v 22 (by omega),rC_i ρ v 23 (by omega),rC_i ρ v 24 (by omega),rC_i ρ v 25 (by omega),rC_i ρ v 26 (by omega),rC_i ρ v 27 (by omega),rC_i ρ v 28 (by omega),rC_i ρ v 29 (by omega),rC_i ρ v 30 (by omega),rC_i ρ v 31 (by omega),rC_i ρ v 32 (by omega),rC_i ρ v 33 (by omega),rC_i ρ v 34 (by omega),rC_i ρ v 35 (by omega),rC_i ρ v 36 (by omega),rC_i ρ v 37 (by omega),Nat.add_zero]
theorem rvAt_rC {ρ : Vl} {xs : List DC} {k v : Nat} (h : ∀ i,i < 39 -> xs[k + i]? = (rC v)[i]?) : rvAt (xs.map (valD ρ)) k = roomV ρ v:=by
 rw [← rvAt_rC0]
 refine rvAt_same fun i hi=>?_
 have e : (xs.map (valD ρ)).getD (k + i) undef = ((rC v).map (valD ρ)).getD i undef:=by
  simp only [List.getD_eq_getElem?_getD,List.getElem?_map,h i hi]
 exact ⟨by unfold iAt;rw [e],by unfold bAt;rw [e]⟩
theorem rvAt_mid {ρ : Vl} {pre post xs : List DC} {k v : Nat} (hx : xs = pre ++ (rC v ++ post)) (hk : pre.length = k) : rvAt (xs.map (valD ρ)) k = roomV ρ v:=by
 refine rvAt_rC fun i hi=>?_
 rw [hx,List.getElem?_append_right (by omega),hk,show k + i - k = i by omega,List.getElem?_append_left]
 have:=rC_get v i hi
 exact (List.getElem?_eq_some_iff.1 this).1
theorem two_le {ρ : Val} {a b : Lin} (h : 0 <= a.den ρ) (k : 0 <= b.den ρ) : Sat ρ [a,b]:=fun l hl=>by
 rcases List.mem_cons.1 hl with rfl | hl
 ·exact h
 ·rw [List.mem_singleton.1 hl];exact k
theorem all_nil {ρ : Vl} : ∀ f ∈ ([] : List Atom),atomV f.id (f.xs.map (valD ρ)):=fun f hf=>by cases hf
theorem all_cons {ρ : Vl} {id : Nat} {xs : List DC} {F : List Atom} (h : atomV id (xs.map (valD ρ))) (k : ∀ f ∈ F,atomV f.id (f.xs.map (valD ρ))) : ∀ f ∈ (⟨id,xs⟩ : Atom) :: F,atomV f.id (f.xs.map (valD ρ)):=fun f hf=>by
 rcases List.mem_cons.1 hf with rfl | hf
 ·exact h
 ·exact k f hf
end
end Vx
namespace Vx
noncomputable section
open Go Zx Zx.Zr
def plainMB (sh : Shp) : Bool:=match sh.P,sh.adr,sh.G with
 | [],[],[]=>(sh.F.all fun f=>f.xs.all scalD) && sh.M.all fun m=>scalD m.v
 | _,_,_=>false
def Tells (ρ ρ' : Vl) (L L' : List Cell) : Prop:=∀ m' ∈ L',∃ m ∈ L,m'.a = m.a /\ (m'.o = m.o \/ m'.o.den ρ'.i = m.o.den ρ.i) /\ m'.c = m.c /\ valD ρ m.v = valD ρ' m'.v
theorem LemOk.genM {tc : TC} (hwf : tc.wf = true) (hs : (tc.pre.F.all fun f=>f.xs.all scalD) = true) (hm : (tc.pre.M.all fun m=>scalD m.v) = true) (hp : tc.post.all plainMB = true)
  (h : ∀ ρ : Vl,Sat ρ.i tc.pre.C -> (∀ f ∈ tc.pre.F,atomV f.id (f.xs.map (valD ρ))) -> ∃ sh ∈ tc.post,∃ ρ',Agr tc.pre.n ρ ρ' /\ Sat ρ'.i sh.C /\ (∀ f ∈ sh.F,atomV f.id (f.xs.map (valD ρ'))) /\ Tells ρ ρ' tc.pre.M sh.M) : LemOk tc:=by
 refine ⟨hwf,fun sg w ρ vs hz hl hpre=>?_⟩
 obtain ⟨sh,h1,ρ',hA,h2,h3,h4⟩:=h ρ hpre.C fun f hf=>scal_F (List.all_eq_true.1 hs f hf) (hpre.F f hf)
 have hb:=List.all_eq_true.1 hp sh h1
 simp only [TC.wf,Bool.and_eq_true] at hwf
 have hlt:=Shp.ltB_ok hwf.1.1
 unfold plainMB at hb
 split at hb
 ·rename_i e1 e3 e4
  rw [Bool.and_eq_true] at hb
  refine ⟨sh,h1,ρ',hA,h2, ?_,fun m' hm'=>?_, ?_, ?_,fun f hf=>den_F (List.all_eq_true.1 hb.1 f hf) (h3 f hf), ?_⟩
  ·rw [e1];intro p hp;cases hp
  ·obtain ⟨m,k1,k2,k3,k4,k5⟩:=h4 m' hm'
   obtain ⟨g0,b,t,cur,v,g1,g2,g3,g4,g5⟩:=hpre.M m k1
   have l0:=hlt.M m k1
   have ea : ρ'.a m.a = ρ.a m.a:=(hA.a _ l0.a).symm
   have eo : m'.o.den ρ'.i = m.o.den ρ.i:=k3.elim (fun e=>by rw [e];exact (Lin.den_eq hA.i l0.o).symm) id
   refine ⟨by rw [eo];exact g0,b,t,cur,v,by rw [k2,ea];exact g1,g2,by rw [k2,ea,eo];exact g3,by rw [k2,k4,ea,eo];exact g4, ?_⟩
   rw [valD_eq (List.all_eq_true.1 hm m k1) g5,k5]
   exact valD_ok (List.all_eq_true.1 hb.2 m' hm') ρ' _
  ·rw [e3];intro p hp;cases hp
  ·rw [e3];intro p hp;cases hp
  ·rw [e4];intro p hp;cases hp
 ·cases hb
theorem Tells.cons {ρ ρ' : Vl} {L L' : List Cell} {m' : Cell} (m : Cell) (h : m ∈ L) (e1 : m'.a = m.a) (e2 : m'.o = m.o) (e3 : m'.c = m.c) (e4 : valD ρ m.v = valD ρ' m'.v) (k : Tells ρ ρ' L L') : Tells ρ ρ' L (m' :: L'):=fun x hx=>by
 rcases List.mem_cons.1 hx with rfl | hx
 ·exact ⟨m,h,e1,.inl e2,e3,e4⟩
 ·exact k x hx
theorem Tells.app {ρ ρ' : Vl} {L A B : List Cell} (h : Tells ρ ρ' L A) (k : Tells ρ ρ' L B) : Tells ρ ρ' L (A ++ B):=fun m hm=>(List.mem_append.1 hm).elim (h m) (k m)
theorem Tells.right {ρ ρ' : Vl} {L M A : List Cell} (h : Tells ρ ρ' M A) : Tells ρ ρ' (L ++ M) A:=fun m hm=>by
 obtain ⟨x,h1,h2⟩:=h m hm
 exact ⟨x,List.mem_append_right _ h1,h2⟩
theorem tells_pre {ρ ρ' : Vl} {b : Nat} : ∀ {cs : List CS} {xs ys : List DC} {off : Int},ys.map (valD ρ') = (xs.take ys.length).map (valD ρ) -> Tells ρ ρ' (rmG b off cs xs) (rmG b off cs ys)
 | [],xs,ys,off,_=>fun m hm=>by cases ys <;> cases hm
 | c :: cs,xs,[],off,_=>fun m hm=>by cases hm
 | c :: cs,[],y :: ys,off,h=>by simp at h
 | c :: cs,x :: xs,y :: ys,off,h=>by
  simp only [List.length_cons,List.take_succ_cons,List.map_cons,List.cons.injEq] at h
  have ih:=tells_pre (ρ:=ρ) (ρ':=ρ') (b:=b) (cs:=cs) (off:=off + 1) h.2
  simp only [rmG,gI_eq]
  refine Tells.cons _ List.mem_cons_self rfl rfl rfl h.1.symm fun m hm=>?_
  obtain ⟨z,h1,h2⟩:=ih m hm
  exact ⟨z,List.mem_cons_of_mem _ h1,h2⟩
theorem rmG_drop {b : Nat} : ∀ (k : Nat) {cs : List CS} {xs : List DC} {off : Int},∀ m ∈ rmG b (off + (k : Int)) (cs.drop k) (xs.drop k),m ∈ rmG b off cs xs
 | 0,cs,xs,off,m,h=>by simpa using h
 | k + 1,[],xs,off,m,h=>by simp [rmG] at h
 | k + 1,c :: cs,[],off,m,h=>by
  simp only [List.drop_nil,List.drop_succ_cons] at h
  cases hc : cs.drop k <;> rw [hc] at h <;> cases h
 | k + 1,c :: cs,x :: xs,off,m,h=>by
  simp only [List.drop_succ_cons] at h
  simp only [rmG,gI_eq]
  refine List.mem_cons_of_mem _ (rmG_drop k (off:=off + 1) m ?_)
  rwa [show off + 1 + (k : Int) = off + ((k + 1 : Nat) : Int) by omega]
theorem tells_at {ρ ρ' : Vl} {b k : Nat} {cs : List CS} {xs ys : List DC} {off : Int} (h : ys.map (valD ρ') = ((xs.drop k).take ys.length).map (valD ρ)) : Tells ρ ρ' (rmG b off cs xs) (rmG b (off + (k : Int)) (cs.drop k) ys):=fun m hm=>by
 obtain ⟨z,h1,h2⟩:=tells_pre (ρ:=ρ) (xs:=xs.drop k) h m hm
 exact ⟨z,rmG_drop k z h1,h2⟩
end
end Vx
