/- A part of the proof: lemmas. No condition of its own. -/
import Derived.Test.YtglcgbhhkjebbaaGreatK15
set_option linter.unusedVariables false
set_option linter.unusedSimpArgs false
namespace Vx
noncomputable section
open Go Zx
theorem sm_get {E : Ent} {sg : Sig} {κ : Kn} {ρ : Vl} {d : Ds} {sl : List DV} {a : Act} {w : World} (hm : Sm E sg κ ρ d sl a w) (t : Nat) : (slG sl t).lt κ.n /\ ((slG sl t).den ρ).ok (mu sg) (a.tmps.getD t undef):=by
 have:=evD_ok hm (.tmp t)
 simpa [evD,Act.eval] using this
theorem Sm.load {E : Ent} {sg sg' : Sig} {κ κ' : Kn} {ρ ρ' : Vl} {d d' : Ds} {sl : List DV} {a : Act} {w w' : World} (hm : Sm E sg κ ρ d sl a w) (g : Gr κ κ' ρ ρ') (hg : Grows sg sg') (hm' : MOk E sg' κ' ρ' d' w') : Sm E sg' κ' ρ' d' sl a w':=by
 have:=hm.put g hg hm' (dst:=none) (z:=undef) (y:=.u) trivial trivial
 exact ⟨this.m,this.size,this.slots,this.defers⟩
def ghV (sl : List DV) (d : Ds) (i : Nat) : DV:=match Nat.blt i 1000 with
 | true=>slG sl i
 | false=>match zpD (slG sl (i % 1000)) with
  | some (a,o,_)=>match findM d.memo a (o.addc ((i / 1000 - 1 : Nat) : Int)) with
   | some m=>d1 m.v
   | none=>.u
  | none=>.u
theorem ghV_ok {E : Ent} {sg : Sig} {κ : Kn} {ρ : Vl} {d : Ds} {sl : List DV} {a : Act} {w : World} (hm : Sm E sg κ ρ d sl a w) (i : Nat) : (ghV sl d i).lt κ.n /\ ∃ v,((ghV sl d i).den ρ).ok (mu sg) v:=by
 have hu : (DV.u).lt κ.n /\ ∃ v,(DV.u.den ρ).ok (mu sg) v:=⟨trivial,undef,trivial⟩
 unfold ghV
 split
 ·exact ⟨(sm_get hm i).1,_,(sm_get hm i).2⟩
 ·split
  ·split
   ·rename_i m hf
    have hmm:=(findM_ok hf).1
    obtain ⟨_,_,_,_,v,_,_,_,_,hv⟩:=hm.m.memo m hmm
    exact ⟨(hm.m.mlt m hmm).v,v,hv⟩
   ·exact hu
  ·exact hu
structure LemOk (tc : TC) : Prop where
 wf : tc.wf = true
 ok : ∀ (sg : Sig) (w : World) (ρ : Vl) (vs : List Value),ZoneOk sg w -> vs.length = tc.k -> tc.pre.Holds (tc.ent sg w ρ) sg ρ (fun i=>vs[i]?) w -> ∃ sh ∈ tc.post,∃ ρ',Agr tc.pre.n ρ ρ' /\ sh.Holds (tc.ent sg w ρ) sg ρ' (fun _=>none) w
structure Lem where
 tc : TC
 ok : LemOk tc
def adr0 : List (Nat × Nat) -> Bool
 | []=>true
 | p :: ps=>Nat.beq p.2 0 && adr0 ps
def backL (sh : Shp) (σ : Sb) (κ : Kn) (d : Ds) (k : Kn -> Ds -> Bool) : Bool:=
 match sh.enter false σ κ d (fun _=>0) with
 | some (κ',d',_)=>gK κ' fun κ'=>match deadB κ'.n κ' (Nat.min 4 (κ'.C.length - κ.C.length)) κ'.C with
  | true=>true
  | false=>gD d' fun d'=>k κ' d'
 | none=>false
def lemGo (tc : TC) (σ : Sb) (args : List DV) (κ : Kn) (d : Ds) (k : Kn -> Ds -> Bool) : Bool:=
 match Nat.beq args.length tc.k && (σ.inB tc.pre.n κ.n && (σ.keysB tc.pre.n && (adr0 tc.pre.adr && tc.pre.chk σ κ d (fun i=>args[i]?)))) with
 | true=>allB (fun sh=>backL sh { σ with r:=tc.pre.n,b:=κ.n } κ d k) tc.post
 | false=>k κ d
def lemT (tc : TC) (args : List DV) (κ : Kn) (d : Ds) (k : Kn -> Ds -> Bool) : Bool:=match quickT tc args κ d with
 | true=>(tc.pre.mat (fun i=>args[i]?) κ d {}).fix tc.pre.n 0 fun σ=>lemGo tc σ args κ d k
 | false=>k κ d
def lemsT : List (Lem × List Nat) -> List DV -> Kn -> Ds -> (Kn -> Ds -> Bool) -> Bool
 | [],_,κ,d,k=>k κ d
 | l :: ls,sl,κ,d,k=>lemT l.1.tc (l.2.map (ghV sl d)) κ d fun κ d=>lemsT ls sl κ d k
theorem adr0_ok : ∀ {l : List (Nat × Nat)},adr0 l = true -> ∀ p ∈ l,p.2 = 0
 | x :: l,h,p,hp=>by
  simp only [adr0,Bool.and_eq_true] at h
  rcases List.mem_cons.1 hp with rfl | hp
  ·exact Nat.eq_of_beq_eq_true h.1
  ·exact adr0_ok h.2 p hp
theorem lemT_ok {l : Lem} {E : Ent} {sg : Sig} {κ : Kn} {ρ : Vl} {d : Ds} {w : World} {k : Kn -> Ds -> Bool} {args : List DV} {vs : List Value} (hm : MOk E sg κ ρ d w) (ha : AllV2 sg ρ κ.n args vs) (h : lemT l.tc args κ d k = true) :
  ∃ κ' ρ' d',k κ' d' = true /\ Gr κ κ' ρ ρ' /\ MOk E sg κ' ρ' d' w:=by
 obtain ⟨tc,hf⟩:=l
 unfold lemT at h
 split at h
 case h_2=>exact ⟨κ,ρ,d,h,Gr.refl hm.kn,hm⟩
 rw [Sb.fix_eq] at h
 generalize hσ : ({ tc.pre.mat (fun i=>args[i]?) κ d {} with r:=tc.pre.n,b:=0 } : Sb) = σ at h
 have hr : σ.r = tc.pre.n:=by rw [← hσ]
 clear hσ
 unfold lemGo at h
 split at h
 ·rename_i hc
  simp only [Bool.and_eq_true] at hc
  obtain ⟨h1,h2,h3,hq,h4⟩:=hc
  have hlen:=Nat.eq_of_beq_eq_true h1
  have hin:=Sb.inB_ok h2
  have hH:=Shp.chk_ok (gv:=fun i=>vs[i]?) hm (fun i x hx=>(ha.2 i x hx).2) h4
  have hwf:=hf.wf
  simp only [TC.wf,Bool.and_eq_true] at hwf
  have hH0 : tc.pre.Holds (tc.ent sg w (σ.app ρ)) sg (σ.app ρ) (fun i=>vs[i]?) w:=⟨hH.C,hH.P,hH.M,hH.asz,fun p hp hq'=>absurd hq' (by rw [adr0_ok hq p hp];omega),hH.F,hH.G⟩
  obtain ⟨sh,hsh,ρ2,g4,g5⟩:=hf.ok sg w (σ.app ρ) vs hm.zone (by rw [← ha.1];exact hlen) hH0
  have hb:=allB_ok h sh hsh
  have hshw:=allB_ok hwf.2 sh hsh
  rw [Bool.and_eq_true] at hshw
  have hshl:=Shp.ltB_ok hshw.1
  unfold backL at hb
  split at hb
  ·rename_i κ' d' ps he
   simp only [gK_eq,gD_eq] at hb
   have hr' : ({ σ with r:=tc.pre.n,b:=κ.n } : Sb) = { σ with b:=κ.n }:=by rw [← hr]
   rw [hr'] at he
   have hagr : Agr σ.r (({ σ with b:=κ.n } : Sb).app ρ) ρ2:=by
    refine ⟨fun u hu=>?_,fun u hu=>?_,fun u hu=>?_,g4.A⟩
    ·rw [← g4.i u (by rw [← hr];exact hu)];simp only [Sb.app];rw [(Sb.rebase hu).1]
    ·rw [← g4.s u (by rw [← hr];exact hu)];simp only [Sb.app];rw [(Sb.rebase hu).2.2]
    ·rw [← g4.a u (by rw [← hr];exact hu)];simp only [Sb.app];rw [(Sb.rebase hu).2.1]
   have hin' : ({ σ with b:=κ.n } : Sb).In σ.r κ.n:=by
    refine ⟨fun u hu=>?_,fun u hu=>?_,fun u hu=>?_⟩
    ·rw [(Sb.rebase hu).1];exact hin.i u (by rw [← hr];exact hu)
    ·rw [(Sb.rebase hu).2.1];exact hin.a u (by rw [← hr];exact hu)
    ·rw [(Sb.rebase hu).2.2];exact hin.s u (by rw [← hr];exact hu)
   obtain ⟨ρ',q1,q2,_,_⟩:=Shp.enter_ok (σ:={ σ with b:=κ.n }) hm g5 (fun h=>by cases h) (by rw [← hr] at h3;exact h3) rfl hin' hagr (by rw [hr];exact hshl) (fun p hp=>by
     rw [hr]
     exact Nat.le_of_ble_eq_true (allB_ok hshw.2 p hp)) (fun p hp hq=>absurd hq (by omega)) (fun p hp hq=>absurd hq (by omega)) he
   split at hb
   ·rename_i hd
    exact (deadB_ok q2.kn q2.kn.sat hd).elim
   ·exact ⟨κ',ρ',d',hb,q1,q2⟩
  ·cases hb
 ·exact ⟨κ,ρ,d,h,Gr.refl hm.kn,hm⟩
theorem lemsT_ok {E : Ent} {sl : List DV} {a : Act} {w : World} : ∀ {ls : List (Lem × List Nat)} {sg : Sig} {κ : Kn} {ρ : Vl} {d : Ds} {k : Kn -> Ds -> Bool},Sm E sg κ ρ d sl a w -> lemsT ls sl κ d k = true -> ∃ κ' ρ' d',k κ' d' = true /\ Gr κ κ' ρ ρ' /\ Sm E sg κ' ρ' d' sl a w
 | [],sg,κ,ρ,d,k,hm,h=>⟨κ,ρ,d,h,Gr.refl hm.m.kn,hm⟩
 | l :: ls,sg,κ,ρ,d,k,hm,h=>by
  simp only [lemsT] at h
  have ha : ∃ vs,AllV2 sg ρ κ.n (l.2.map (ghV sl d)) vs:=by
   refine ⟨l.2.map fun i=>(ghV_ok hm i).2.choose,by simp,fun i x hx=>?_⟩
   rw [List.getElem?_map] at hx
   cases e : l.2[i]? with
   | none=>rw [e] at hx;cases hx
   | some j=>
    rw [e] at hx
    cases hx
    exact ⟨(ghV_ok hm j).1,_,by rw [List.getElem?_map,e];rfl,(ghV_ok hm j).2.choose_spec⟩
  obtain ⟨vs,ha⟩:=ha
  obtain ⟨κ1,ρ1,d1,k1,g1,m1⟩:=lemT_ok (l:=l.1) hm.m ha h
  obtain ⟨κ2,ρ2,d2,k2,g2,m2⟩:=lemsT_ok (hm.load g1 (Grows.refl _) m1) k1
  exact ⟨κ2,ρ2,d2,k2,g1.trans g2,m2⟩
theorem AtD.lems {E : Ent} {sg : Sig} {κ : Kn} {ρ : Vl} {L : List (Lem × List Nat)} {k : Kc} {a : Act} {w : World} (h : AtD E sg κ ρ (fun sl κ d=>lemsT L sl κ d fun κ d=>k sl κ d) a w) : AtD E sg κ ρ k a w:=by
 obtain ⟨sg2,κ2,ρ2,d2,sl2,h1,h2,h3,h4⟩:=h
 obtain ⟨κ3,ρ3,d3,k3,g3,m3⟩:=lemsT_ok h4 h1
 exact ⟨sg2,κ3,ρ3,d3,sl2,k3,h2,h3.trans g3,m3⟩
end
end Vx
namespace Vx
noncomputable section
open Go Zx
structure Sub where
 R : List (Nat × Nat × Nat × Nat)
 nC : Nat
 vs : Nat
 ids : List Nat
def numS (sl : List DV) (i : Nat) : Nat:=match slG sl i with
 | .s (.c (.num _ n))=>n.toNat
 | _=>1000000
structure Rng where
 a : Nat
 o : Lin
 lo : Int
 hi : Int
def rngS (sl : List DV) : List (Nat × Nat × Nat × Nat) -> List Rng
 | []=>[]
 | (p,i,m,n) :: rs=>match zpD (slG sl p) with
  | some (a,o,_)=>match m with
   | 0=>⟨a,o,o.c,o.c + (n : Int) - 1⟩ :: rngS sl rs
   | m + 1=>⟨a,o,o.c + (((m + 1) * numS sl i : Nat) : Int),o.c + (((m + 1) * numS sl i + n : Nat) : Int) - 1⟩ :: rngS sl rs
  | none=>rngS sl rs
def inRng (rs : List Rng) (m : Cell) : Bool:=@List.rec Rng (fun _=>Bool) false (fun r _ ih=>@Bool.rec (fun _=>Bool) ih (@Bool.rec (fun _=>Bool) ih (iLe m.o.c r.hi) (iLe r.lo m.o.c)) (Nat.beq r.a m.a)) rs
def onlyC (rs : List Rng) (l : List Cell) : List Cell:=@List.rec Cell (fun _=>List Cell) [] (fun m _ ih=>@Bool.rec (fun _=>List Cell) ih (m :: ih) (inRng rs m)) l
theorem onlyC_sub {L : List Rng} : ∀ {l : List Cell},∀ m ∈ onlyC L l,m ∈ l
 | [],m,h=>by cases h
 | x :: l,m,h=>by
  have h : m ∈ @Bool.rec (fun _=>List Cell) (onlyC L l) (x :: onlyC L l) (inRng L x):=h
  cases e : inRng L x with
  | false=>rw [e] at h;exact List.mem_cons_of_mem _ (onlyC_sub m h)
  | true=>
   rw [e] at h
   rcases List.mem_cons.1 h with rfl | h
   ·exact List.mem_cons_self
   ·exact List.mem_cons_of_mem _ (onlyC_sub m h)
def lowT (vs : Nat) (l : Lin) : Bool:=match l.t with
 | []=>false
 | p :: _=>Nat.blt p.1 vs
def onlyL (vs : Nat) (l : List Lin) : List Lin:=@List.rec Lin (fun _=>List Lin) [] (fun m _ ih=>@Bool.rec (fun _=>List Lin) ih (m :: ih) (lowT vs m)) l
theorem onlyL_sub {n : Nat} : ∀ {l : List Lin},∀ m ∈ onlyL n l,m ∈ l
 | [],m,h=>by cases h
 | x :: l,m,h=>by
  have h : m ∈ @Bool.rec (fun _=>List Lin) (onlyL n l) (x :: onlyL n l) (lowT n x):=h
  cases e : lowT n x with
  | false=>rw [e] at h;exact List.mem_cons_of_mem _ (onlyL_sub m h)
  | true=>
   rw [e] at h
   rcases List.mem_cons.1 h with rfl | h
   ·exact List.mem_cons_self
   ·exact List.mem_cons_of_mem _ (onlyL_sub m h)
def onlyF (L : List Nat) (l : List Atom) : List Atom:=@List.rec Atom (fun _=>List Atom) [] (fun m _ ih=>@Bool.rec (fun _=>List Atom) ih (m :: ih) (memN m.id L)) l
theorem onlyF_sub {L : List Nat} : ∀ {l : List Atom},∀ m ∈ onlyF L l,m ∈ l
 | [],m,h=>by cases h
 | x :: l,m,h=>by
  have h : m ∈ @Bool.rec (fun _=>List Atom) (onlyF L l) (x :: onlyF L l) (memN x.id L):=h
  cases e : memN x.id L with
  | false=>rw [e] at h;exact List.mem_cons_of_mem _ (onlyF_sub m h)
  | true=>
   rw [e] at h
   rcases List.mem_cons.1 h with rfl | h
   ·exact List.mem_cons_self
   ·exact List.mem_cons_of_mem _ (onlyF_sub m h)
def Sub.kn (S : Sub) (κ : Kn) : Kn:=⟨κ.n,κ.C.take S.nC ++ onlyL S.vs (κ.C.drop S.nC),onlyF S.ids κ.F⟩
theorem Sub.kn_sub {S : Sub} {κ : Kn} : ∀ l ∈ (S.kn κ).C,l ∈ κ.C:=fun l hl=>(List.mem_append.1 hl).elim List.mem_of_mem_take fun h=>List.mem_of_mem_drop (onlyL_sub l h)
def adrZ (l : List (Nat × Nat)) : List (Nat × Nat):=@List.rec (Nat × Nat) (fun _=>List (Nat × Nat)) [] (fun p _ ih=>(p.1,0) :: ih) l
theorem adrZ_mem : ∀ {l : List (Nat × Nat)},∀ p ∈ adrZ l,p.2 = 0 /\ ∃ q ∈ l,q.1 = p.1
 | [],p,h=>by cases h
 | x :: l,p,h=>by
  have h : p ∈ (x.1,0) :: adrZ l:=h
  rcases List.mem_cons.1 h with rfl | h
  ·exact ⟨rfl,x,List.mem_cons_self,rfl⟩
  ·obtain ⟨e,q,h1,h2⟩:=adrZ_mem p h
   exact ⟨e,q,List.mem_cons_of_mem _ h1,h2⟩
def Sub.ds (S : Sub) (sl : List DV) (d : Ds) : Ds:=⟨onlyC (rngS sl S.R) d.memo,adrZ d.adr,[]⟩
structure LA where
 r : Nat:=0
 refs : List (Nat × DV):=[]
 sh : Shp
 keep : List Nat
 W : List Nat:=[]
 dec : Lin:=L0
 gh : List Nat:=[]
 md : Nat:=0
 Wo : List Nat:=[]
 lem : List (Lem × List Nat):=[]
 rF : List Atom:=[]
 rM : List Cell:=[]
 sub : Option Sub:=none
def nullOf (d : Ds) : Nat:=match d.adr.getLast? with
 | some p=>p.1
 | none=>0
def LA.sb (X : LA) (sl : List DV) (κ : Kn) (d : Ds) : Sb:=(matP (nullOf d) (fun i=>sl[i]?) X.refs {} fun σ=>matM (nullOf d) d.memo d.memo X.rM σ fun σ=>matF κ (nullOf d) κ.F X.rF σ fun σ=>σ).fix X.r κ.n fun σ=>σ
def lkP : List (Nat × DV) -> Nat -> Option DV
 | [],_=>none
 | p :: ps,i=>match Nat.beq p.1 i with
  | true=>some p.2
  | false=>lkP ps i
theorem lkP_mem : ∀ {l : List (Nat × DV)} {v : Nat} {e : DV},lkP l v = some e -> (v,e) ∈ l
 | [],_,_,h=>by simp [lkP] at h
 | p :: ps,v,e,h=>by
  simp only [lkP] at h
  split at h
  ·rename_i hb
   cases h
   have:=Nat.eq_of_beq_eq_true hb
   subst this
   simp
  ·exact List.mem_cons_of_mem _ (lkP_mem h)
def headSl (keep : List Nat) (ps : List (Nat × DV)) : Nat -> List DV -> List DV
 | _,[]=>[]
 | i,x :: xs=>(match lkP ps i with
  | some y=>y
  | none=>match memN i keep with
   | true=>x
   | false=>.u) :: headSl keep ps (i + 1) xs
theorem headSl_len {keep : List Nat} {ps : List (Nat × DV)} : ∀ {i : Nat} {xs : List DV},(headSl keep ps i xs).length = xs.length
 | _,[]=>rfl
 | i,x :: xs=>by simp [headSl,headSl_len]
theorem headSl_get {keep : List Nat} {ps : List (Nat × DV)} : ∀ {i : Nat} {xs : List DV} {j : Nat} {y : DV},(headSl keep ps i xs)[j]? = some y -> (i + j,y) ∈ ps \/ (xs[j]? = some y /\ i + j ∈ keep) \/ y = .u
 | _,[],j,y,h=>by simp [headSl] at h
 | i,x :: xs,0,y,h=>by
  simp only [headSl,List.getElem?_cons_zero,Option.some.injEq] at h
  split at h
  ·rename_i z hz;subst h;exact .inl (lkP_mem hz)
  ·split at h
   ·rename_i hk;subst h;exact .inr (.inl ⟨by simp,memN_ok hk⟩)
   ·exact .inr (.inr h.symm)
 | i,x :: xs,j + 1,y,h=>by
  simp only [headSl,List.getElem?_cons_succ] at h
  have:=headSl_get h
  rw [show i + (j + 1) = i + 1 + j by omega]
  simpa using this
def LA.head (X : LA) (sl : List DV) (κ : Kn) (d : Ds) : Option (Kn × Ds × List DV):=
 match X.sh.enter false (X.sb sl κ d) κ ⟨dropC X.W d.memo,d.adr,keepG X.W X.Wo d.G⟩ (fun q=>match q with
  | 0=>0
  | _=>1) with
 | some (κ',d',ps)=>some (κ',d',headSl X.keep ps 0 sl)
 | none=>none
def sameB (σ τ : Sb) : Nat -> Bool
 | 0=>true
 | n + 1=>(σ.iv n).eqb (τ.iv n) && (Nat.beq (σ.av n) (τ.av n) && (Nat.beq (σ.sv n) (τ.sv n) && sameB σ τ n))
theorem sameB_ok {σ τ : Sb} : ∀ {n : Nat},sameB σ τ n = true -> ∀ v,v < n -> σ.iv v = τ.iv v /\ σ.av v = τ.av v /\ σ.sv v = τ.sv v
 | 0,_,v,hv=>by omega
 | n + 1,h,v,hv=>by
  simp only [sameB,Bool.and_eq_true] at h
  by_cases e : v = n
  ·subst e
   exact ⟨Lin.eqb_eq h.1,Nat.eq_of_beq_eq_true h.2.1,Nat.eq_of_beq_eq_true h.2.2.1⟩
  ·exact sameB_ok h.2.2.2 v (by omega)
def keptS (κ2 : Kn) (sl sl2 : List DV) (i : Nat) : Bool:=match sl[i]?,sl2[i]? with
 | some y,some x=>leDV κ2 x y
 | _,_=>false
def keptMs (κ2 : Kn) (all : List Cell) : List Cell -> List Cell -> Bool
 | _,[]=>true
 | tl,m :: ms=>match nextT tl all m.a m.o with
  | some (x,t)=>andR (x.c.eqb m.c) (andR (leDC κ2 x.v m.v) (keptMs κ2 all t ms))
  | none=>false
theorem keptMs_ok {κ2 : Kn} {all : List Cell} : ∀ {ms tl : List Cell},keptMs κ2 all tl ms = true -> (∀ x ∈ tl,x ∈ all) -> ∀ m ∈ ms,∃ x ∈ all,x.a = m.a /\ x.o = m.o /\ x.c.eqb m.c = true /\ leDC κ2 x.v m.v = true
 | m :: ms,tl,h,ht,q,hq=>by
  simp only [keptMs] at h
  split at h
  ·rename_i x t hf
   obtain ⟨⟨f1,f2,f3⟩,f4⟩:=nextT_ok ht hf
   obtain ⟨h1,h⟩:=andR_ok h
   obtain ⟨h2,h3⟩:=andR_ok h
   rcases List.mem_cons.1 hq with rfl | hq
   ·exact ⟨x,f1,f2,f3,h1,h2⟩
   ·exact keptMs_ok h3 f4 q hq
  ·cases h
def keptG (κ2 : Kn) (d2 : Ds) (f : Fct) : Bool:=d2.G.any fun g=>(match f.old with
 | true=>g.old
 | false=>true) && (Nat.beq g.f.id f.f.id && leL κ2 g.f.xs f.f.xs)
theorem keptG_ok {E : Ent} {sg : Sig} {κ2 : Kn} {ρ : Vl} {d2 : Ds} {w : World} (hm : MOk E sg κ2 ρ d2 w) {f : Fct} (h : keptG κ2 d2 f = true) : f.ok E sg ρ w:=by
 unfold keptG at h
 rw [List.any_eq_true] at h
 obtain ⟨g,hg,h⟩:=h
 simp only [Bool.and_eq_true] at h
 obtain ⟨h1,h2,h3⟩:=h
 have h2:=Nat.eq_of_beq_eq_true h2
 have hk:=hm.gok g hg
 unfold Fct.ok
 split
 ·rename_i e
  rw [e] at h1
  simp only [] at h1
  unfold Fct.ok at hk
  rw [h1] at hk
  obtain ⟨vs,q1,q2⟩:=hk
  exact ⟨vs,leL_ok hm.kn h3 q1,by rw [← h2];exact q2⟩
 ·obtain ⟨vs,q1,q2⟩:=Fct.now hm.fr.size hk
  exact ⟨vs,leL_ok hm.kn h3 q1,by rw [← h2];exact q2⟩
def LA.sb2 (X : LA) (σ : Sb) (κ2 : Kn) (d2 : Ds) (sl2 : List DV) : Sb:=(X.sh.mat (fun i=>sl2[i]?) κ2 d2 σ).fix (X.r + X.sh.n) 0 fun σ=>σ
def LA.wf (X : LA) (sl : List DV) (κ : Kn) (d : Ds) : Bool:=
 X.sh.ltB (X.r + X.sh.n) && (allB (fun p=>Nat.ble X.r p.1) X.sh.adr && ((X.sb sl κ d).keysB X.r && ((X.sb sl κ d).inB X.r κ.n && Tm.ltB (X.r + X.sh.n) X.dec.t)))
def LA.chk (X : LA) (sl : List DV) (κ : Kn) (d : Ds) (σ2 : Sb) (sl2 : List DV) (κ2 : Kn) (d2 : Ds) : Bool:=
 sameB σ2 (X.sb sl κ d) X.r && (σ2.inB (X.r + X.sh.n) κ2.n && (X.sh.chk σ2 κ2 d2 (fun i=>sl2[i]?) && (allB (keptS κ2 sl sl2) X.keep && (keptMs κ2 d2.memo d2.memo (dropC X.W d.memo) && (allB (fun p=>Nat.ble 1 (cls d2 p.1)) d.adr && allB (keptG κ2 d2) (keepG X.W X.Wo d.G))))))
theorem clsI (x : Nat) : (match x with
  | 0=>0
  | _=>1) <= 1:=by split <;> omega
theorem LA.fit {X : LA} {E : Ent} {sg sg2 : Sig} {κ κ2 κh : Kn} {ρ ρ2 : Vl} {d d2 dh : Ds} {sl sl2 slh : List DV} {a a2 : Act} {w w2 : World} {σ2 : Sb} (hwf : X.wf sl κ d = true) (hm : Sm E sg κ ρ d sl a w) (hg : Grows sg sg2) (g : Gr κ κ2 ρ ρ2) (hm2 : Sm E sg2 κ2 ρ2 d2 sl2 a2 w2)
  (hlen : sl2.length = sl.length) (hh : X.head sl κ d = some (κh,dh,slh)) (h : X.chk sl κ d σ2 sl2 κ2 d2 = true) :
  ∃ ρ',Gr κ κh ρ ρ' /\ Sm E sg2 κh ρ' dh slh a2 w2 /\ Agr (X.r + X.sh.n) ((X.sb sl κ d).app ρ') (σ2.app ρ2):=by
 simp only [LA.wf,Bool.and_eq_true] at hwf
 obtain ⟨w1,w2',w3,w4,w5⟩:=hwf
 have hlt:=Shp.ltB_ok w1
 have hin:=Sb.inB_ok w4
 simp only [LA.chk,Bool.and_eq_true] at h
 obtain ⟨h1,h2,h3,h4,h5,h6,h8⟩:=h
 have hs:=sameB_ok h1
 have hH:=Shp.chk_ok (gv:=fun i=>a2.tmps[i]?) hm2.m (fun i x hx=>(hm2.slots i x hx).2) h3
 have hr : (X.sb sl κ d).r = X.r:=by unfold LA.sb;rw [Sb.fix_eq]
 have hag : Agr (X.sb sl κ d).r ((X.sb sl κ d).app ρ) (σ2.app ρ2):=by
  refine ⟨fun v hv=>?_,fun v hv=>?_,fun v hv=>?_,g.agr.A⟩
  ·simp only [Sb.app]
   rw [(hs v hv).1]
   exact Lin.den_eq g.agr.i (hin.i v hv)
  ·simp only [Sb.app]
   rw [(hs v hv).2.2]
   exact g.agr.s _ (hin.s v hv)
  ·simp only [Sb.app]
   rw [(hs v hv).2.1]
   exact g.agr.a _ (hin.a v hv)
 have hm1 : MOk E sg2 κ ρ ⟨dropC X.W d.memo,d.adr,keepG X.W X.Wo d.G⟩ w2:=by
  refine ⟨hm.m.kn,hm2.m.zone,hm2.m.fr,fun m hmm=>hm.m.mlt m (dropC_ok hmm).1,fun m hmm=>?_,hm.m.alt,fun p hp=>?_,hm.m.young,hm.m.fresh,fun f hf=>hm.m.glt f (keepG_ok hf).1,fun f hf=>Fct.ok_eq g.agr.symm (hm.m.glt f (keepG_ok hf).1) (keptG_ok hm2.m (allB_ok h8 f hf))⟩
  ·obtain ⟨m',f1,f2,f3,hk1,hk2⟩:=keptMs_ok h5 (fun _ h=>h) m hmm
   have hl:=hm.m.mlt m (dropC_ok hmm).1
   obtain ⟨g0,b,t,cur,v,g1,g2,g3,g4,g5⟩:=hm2.m.memo m' f1
   refine Cell.ok_eq (n:=κ.n) (ρ:=ρ2) ⟨fun v hv=>(g.agr.i v hv).symm,fun v hv=>(g.agr.s v hv).symm,fun v hv=>(g.agr.a v hv).symm,g.agr.A.symm⟩ hl ?_
   rw [f2] at g1 g3 g4
   rw [f3] at g0 g3 g4
   exact ⟨g0,b,t,cur,v,g1,g2,g3,by rw [← CS.eqb_eq hk1];exact g4,leDC_ok hm2.m.kn hk2 g5⟩
  ·have:=allB_ok h6 p hp
   obtain ⟨q,m1,_⟩:=cls_ok (n:=0) this
   have h7:=hm2.m.asz _ m1
   simp only [] at h7 ⊢
   rw [g.agr.a _ (hm.m.alt p hp)]
   exact h7
 unfold LA.head at hh
 split at hh
 ·rename_i κ' d' ps he
  cases hh
  obtain ⟨ρ',q1,q2,q3,q4⟩:=Shp.enter_ok (E':=E) hm1 hH (fun h=>by cases h) w3 rfl hin hag hlt (fun p hp=>Nat.le_of_ble_eq_true (allB_ok w2' p hp)) (fun p hp hq h0=>by
   refine hH.young p hp ?_ h0
   cases e : p.2 with
   | zero=>rw [e] at hq;simp at hq
   | succ n=>omega) (fun p hp hq=>by have:=clsI p.2;omega) he
  refine ⟨ρ',q1,⟨q2,by rw [headSl_len,hm2.size,hlen],fun i x hx=>?_,hm2.defers⟩, ?_⟩
  ·rcases headSl_get hx with h' | ⟨h',hk⟩ | h'
   ·simp only [Nat.zero_add] at h'
    exact q3 _ h'
   ·simp only [Nat.zero_add] at hk
    have hks:=allB_ok h4 i hk
    unfold keptS at hks
    rw [h'] at hks
    split at hks
    ·rename_i y x' hy hx'
     cases hy
     obtain ⟨hl0,_⟩:=hm.slots i _ h'
     obtain ⟨_,v,hv,hok⟩:=hm2.slots i x' hx'
     refine ⟨DV.lt_mono q1.le hl0,v,hv, ?_⟩
     rw [← DV.den_eq q1.agr hl0,DV.den_eq g.agr hl0]
     exact leDV_ok hm2.m.kn hks hok
    ·cases hks
   ·subst h'
    have hi:=(List.getElem?_eq_some_iff.1 hx).1
    rw [headSl_len,← hlen,← hm2.size] at hi
    exact ⟨trivial,_,Array.getElem?_eq_getElem hi,trivial⟩
  ·exact q4
 ·cases hh
def LA.chkS (X : LA) (sl : List DV) (κ : Kn) (d : Ds) (σ2 : Sb) (sl2 : List DV) (κ2 : Kn) (d2 : Ds) : Bool:=
 sameB σ2 (X.sb sl κ d) X.r && (σ2.inB (X.r + X.sh.n) κ2.n && (X.sh.chk σ2 κ2 d2 (fun i=>sl2[i]?) && allB (keptS κ2 sl sl2) X.keep))
def LA.againS (X : LA) (sl : List DV) (κ : Kn) (d : Ds) (sl2 : List DV) (κ2 : Kn) (d2 : Ds) : Bool:=
 Nat.beq sl2.length sl.length && X.chkS sl κ d (X.sb2 (X.sb sl κ d) κ2 d2 sl2) sl2 κ2 d2
theorem Sub.ok {S : Sub} {E : Ent} {sg : Sig} {κ : Kn} {ρ : Vl} {d : Ds} {sl : List DV} {a : Act} {w : World} {T : List Nat} (hm : Sm E sg κ ρ d sl a w) : Sm (Ent.none w sg T) sg (S.kn κ) ρ (S.ds sl d) sl a w:=by
 refine ⟨⟨⟨fun l hl=>hm.m.kn.lt l (Sub.kn_sub l hl),fun l hl=>hm.m.kn.sat l (Sub.kn_sub l hl),fun f hf=>hm.m.kn.flt f (onlyF_sub f hf),fun f hf=>hm.m.kn.fact f (onlyF_sub f hf)⟩,hm.m.zone,Frm.refl,fun m hmm=>hm.m.mlt m (onlyC_sub m hmm),fun m hmm=>hm.m.memo m (onlyC_sub m hmm),fun p hp=>?_,fun p hp=>?_,fun p hp hq=>?_,fun p hp hq=>?_,fun f hf=>(by cases hf),fun f hf=>(by cases hf)⟩,hm.size,hm.slots,hm.defers⟩
 ·obtain ⟨_,q,h1,h2⟩:=adrZ_mem p hp
  rw [← h2];exact hm.m.alt q h1
 ·obtain ⟨_,q,h1,h2⟩:=adrZ_mem p hp
  rw [← h2];exact hm.m.asz q h1
 ·have:=(adrZ_mem p hp).1;omega
 ·have:=(adrZ_mem p hp).1;omega
theorem LA.fitS {X : LA} {S : Sub} {E : Ent} {sg sg2 : Sig} {κ κ2 κh : Kn} {ρ ρ2 : Vl} {d d2 dh : Ds} {sl sl2 slh : List DV} {a a2 : Act} {w w2 : World} (hwf : X.wf sl κ d = true) (hm : Sm E sg κ ρ d sl a w) (hg : Grows sg sg2) (g : Gr (S.kn κ) κ2 ρ ρ2) (hm2 : Sm (Ent.none w sg X.W) sg2 κ2 ρ2 d2 sl2 a2 w2)
  (hW : ∀ g ∈ X.W,g ∈ E.W.W) (hWo : X.Wo = X.W) (h0 : adr0 X.sh.adr = true) (hh : X.head sl κ d = some (κh,dh,slh)) (h : X.againS sl κ d sl2 κ2 d2 = true) :
  ∃ ρ',Gr κ κh ρ ρ' /\ Sm E sg2 κh ρ' dh slh a2 w2:=by
 simp only [LA.wf,Bool.and_eq_true] at hwf
 obtain ⟨w1,w2',w3,w4,w5⟩:=hwf
 have hlt:=Shp.ltB_ok w1
 have hin:=Sb.inB_ok w4
 simp only [LA.againS,LA.chkS,Bool.and_eq_true] at h
 obtain ⟨hlen,h1,h2,h3,h4⟩:=h
 have hlen:=Nat.eq_of_beq_eq_true hlen
 generalize X.sb2 (X.sb sl κ d) κ2 d2 sl2 = σ2 at h1 h2 h3
 have hs:=sameB_ok h1
 have hH:=Shp.chk_ok (gv:=fun i=>a2.tmps[i]?) hm2.m (fun i x hx=>(hm2.slots i x hx).2) h3
 have hr : (X.sb sl κ d).r = X.r:=by unfold LA.sb;rw [Sb.fix_eq]
 have hag : Agr (X.sb sl κ d).r ((X.sb sl κ d).app ρ) (σ2.app ρ2):=by
  refine ⟨fun v hv=>?_,fun v hv=>?_,fun v hv=>?_,g.agr.A⟩
  ·simp only [Sb.app]
   rw [(hs v hv).1]
   exact Lin.den_eq g.agr.i (hin.i v hv)
  ·simp only [Sb.app]
   rw [(hs v hv).2.2]
   exact g.agr.s _ (hin.s v hv)
  ·simp only [Sb.app]
   rw [(hs v hv).2.1]
   exact g.agr.a _ (hin.a v hv)
 have hm1:=hm.m.after (Wf:=⟨X.W,none⟩) (own:=fun _=>False) hg hm2.m.zone hm2.m.fr hW (fun _ g hg=>by cases hg) (fun b hb=>hb.2.elim)
 have hm1 : MOk E sg2 κ ρ ⟨dropC X.W d.memo,d.adr,keepG X.W X.Wo d.G⟩ w2:=by
  have e : E.W.old ⟨X.W,none⟩ = X.Wo:=by
   rw [hWo]
   unfold Wt.old
   split <;> rfl
  rw [e] at hm1
  exact hm1
 unfold LA.head at hh
 split at hh
 ·rename_i κ' d' ps he
  cases hh
  obtain ⟨ρ',q1,q2,q3,q4⟩:=Shp.enter_ok hm1 hH (fun h=>by cases h) w3 rfl hin hag hlt (fun p hp=>Nat.le_of_ble_eq_true (allB_ok w2' p hp)) (fun p hp hq _=>by
   rw [adr0_ok h0 p hp] at hq
   exact absurd hq (by decide)) (fun p hp hq=>by have:=clsI p.2;omega) he
  refine ⟨ρ',q1,⟨q2,by rw [headSl_len,hm2.size,hlen],fun i x hx=>?_,hm2.defers⟩⟩
  rcases headSl_get hx with h' | ⟨h',hk⟩ | h'
  ·simp only [Nat.zero_add] at h'
   exact q3 _ h'
  ·simp only [Nat.zero_add] at hk
   have hks:=allB_ok h4 i hk
   unfold keptS at hks
   rw [h'] at hks
   split at hks
   ·rename_i y x' hy hx'
    cases hy
    obtain ⟨hl0,_⟩:=hm.slots i _ h'
    obtain ⟨_,v,hv,hok⟩:=hm2.slots i x' hx'
    refine ⟨DV.lt_mono q1.le hl0,v,hv, ?_⟩
    have hl1 : _:=hl0
    rw [← DV.den_eq q1.agr hl0,DV.den_eq (n:=κ.n) g.agr hl0]
    exact leDV_ok hm2.m.kn hks hok
   ·cases hks
  ·subst h'
   have hi:=(List.getElem?_eq_some_iff.1 hx).1
   rw [headSl_len,← hlen,← hm2.size] at hi
   exact ⟨trivial,_,Array.getElem?_eq_getElem hi,trivial⟩
 ·cases hh
def eqN : List Nat -> List Nat -> Bool
 | [],[]=>true
 | a :: as,b :: bs=>Nat.beq a b && eqN as bs
 | _,_=>false
theorem eqN_ok : ∀ {a b : List Nat},eqN a b = true -> a = b
 | [],[],_=>rfl
 | a :: as,b :: bs,h=>by
  simp only [eqN,Bool.and_eq_true] at h
  rw [Nat.eq_of_beq_eq_true h.1,eqN_ok h.2]
 | [],_ :: _,h=>by cases h
 | _ :: _,[],h=>by cases h
end
end Vx
namespace Vx
noncomputable section
open Go Zx
def childC : Nat -> Code -> Option Code
 | 0,.seq a _=>some a
 | 1,.seq _ b=>some b
 | 0,.cond _ a _=>some a
 | 1,.cond _ _ b=>some b
 | 0,.block _ b=>some b
 | 0,.loop b=>some b
 | 0,.scope b=>some b
 | _,_=>none
def atC (root : Code) : List Nat -> Option Code
 | []=>some root
 | i :: p=>match atC root p with
  | some c=>childC i c
  | none=>none
theorem atC_child {root c c' : Code} {p : List Nat} {i : Nat} (h : atC root p = some c) (hc : childC i c = some c') : atC root (i :: p) = some c':=by
 simp only [atC,h,hc]
structure PC where
 nt : Nat
 pre : Shp
 W : List Nat
 post : List Shp
def PC.wf (pc : PC) : Bool:=(pc.pre.ltB pc.pre.n && adr0 pc.pre.adr) && allB (fun sh=>sh.ltB (pc.pre.n + sh.n) && (adr0 sh.adr && allB (fun p=>Nat.ble pc.pre.n p.1) sh.adr)) pc.post
structure PCok (P : Program) (c : Code) (pc : PC) : Prop where
 wf : pc.wf = true
 ok : ∀ (sg : Sig) (w : World) (ρ : Vl) (a : Act),ZoneOk sg w -> a.defers = [] -> a.tmps.size = pc.nt -> pc.pre.Holds (Ent.none w sg pc.W) sg ρ (fun i=>a.tmps[i]?) w →
  c.wp P (fun e a' w'=>e = .normal /\ a'.defers = [] /\ a'.tmps.size = pc.nt /\ ∃ sg',Grows sg sg' /\ ZoneOk sg' w' /\ Frm (Ent.none w sg pc.W) sg' w' /\ ∃ sh ∈ pc.post,∃ ρ',Agr pc.pre.n ρ ρ' /\ sh.Holds (Ent.none w sg pc.W) sg' ρ' (fun i=>a'.tmps[i]?) w') a w
structure PcE where
 path : List Nat
 pc : PC
def gVs {β : Type} : List DV -> (List DV -> β) -> β
 | [],K=>K []
 | l :: ls,K=>gV l fun l=>gVs ls fun ls=>K (l :: ls)
theorem gVs_eq {β : Type} : ∀ (t : List DV) (K : List DV -> β),gVs t K = K t
 | [],_=>rfl
 | l :: t,K=>by simp only [gVs,gV_eq,gVs_eq t]
def pieceGo (pc : PC) (W : Wt) (σ : Sb) (sl : List DV) (κ : Kn) (d : Ds) (k : Kc) : Bool:=
 allB (fun sh=>match sh.enter false { σ with r:=pc.pre.n,b:=κ.n } κ ⟨dropC pc.W d.memo,d.adr,keepG pc.W (W.old ⟨pc.W,none⟩) d.G⟩ (fun _=>0) with
  | some (κ',d',ps)=>gK κ' fun κ'=>gD d' fun d'=>gVs (headSl [] ps 0 sl) fun sl=>k sl κ' d'
  | none=>false) pc.post
def pieceChk (pc : PC) (W : Wt) (σ : Sb) (sl : List DV) (κ : Kn) (d : Ds) : Bool:=
 Nat.beq sl.length pc.nt && (σ.inB pc.pre.n κ.n && (σ.keysB pc.pre.n && (subN pc.W W.W && pc.pre.chk σ κ d (fun i=>sl[i]?))))
def pieceQ (pc : PC) (sl : List DV) (κ : Kn) (d : Ds) : Bool:=
 (gN (nullD d) fun nl=>matP nl (fun i=>sl[i]?) pc.pre.P {} fun σ=>matM nl d.memo d.memo (pc.pre.M.take 1) σ fun σ=>σ).fix pc.pre.n 0 fun σ=>allB (chkP σ κ (fun i=>sl[i]?)) pc.pre.P && chkMs σ κ d.memo d.memo (pc.pre.M.take 1)
def pieceT (pc : PC) (W : Wt) (sl : List DV) (κ : Kn) (d : Ds) (k : Kc) (no : Bool) : Bool:=match pieceQ pc sl κ d with
 | true=>(pc.pre.mat (fun i=>sl[i]?) κ d {}).fix pc.pre.n 0 fun σ=>match pieceChk pc W σ sl κ d with
  | true=>pieceGo pc W σ sl κ d k
  | false=>no
 | false=>no
def piecesT : List PcE -> List Nat -> Wt -> List DV -> Kn -> Ds -> Kc -> Bool -> Bool
 | [],_,_,_,_,_,_,no=>no
 | e :: es,p,W,sl,κ,d,k,no=>match eqN e.path p with
  | true=>pieceT e.pc W sl κ d k (piecesT es p W sl κ d k no)
  | false=>piecesT es p W sl κ d k no
theorem pieceGo_ok {P : Program} {c : Code} {pc : PC} {E : Ent} {sg : Sig} {κ : Kn} {ρ : Vl} {d : Ds} {sl : List DV} {a : Act} {w : World} {k : Kc} {σ : Sb} (hf : PCok P c pc) (hm : Sm E sg κ ρ d sl a w) (hr : σ.r = pc.pre.n) (hc : pieceChk pc E.W σ sl κ d = true) (h : pieceGo pc E.W σ sl κ d k = true) :
  c.wp P (fun e a' w'=>e = .normal /\ AtD E sg κ ρ k a' w') a w:=by
 simp only [pieceChk,Bool.and_eq_true] at hc
 obtain ⟨h1,h2,h3,hW,h4⟩:=hc
 have hlen:=Nat.eq_of_beq_eq_true h1
 have hin:=Sb.inB_ok h2
 have hW:=subN_ok hW
 have hH:=Shp.chk_ok (gv:=fun i=>a.tmps[i]?) hm.m (fun i x hx=>(hm.slots i x hx).2) h4
 have hwf:=hf.wf
 simp only [PC.wf,Bool.and_eq_true] at hwf
 have hH0 : pc.pre.Holds (Ent.none w sg pc.W) sg (σ.app ρ) (fun i=>a.tmps[i]?) w:=⟨hH.C,hH.P,hH.M,hH.asz,fun p hp hq'=>absurd hq' (by rw [adr0_ok hwf.1.2 p hp];omega),hH.F,hH.G⟩
 refine wp_mono (hf.ok sg w (σ.app ρ) a hm.m.zone hm.defers (by rw [hm.size,hlen]) hH0) fun e a' w' he=>?_
 obtain ⟨e1,hd,hsz,sg',g1,g2,g3,sh,hsh,ρ2,g4,g5⟩:=he
 refine ⟨e1, ?_⟩
 have hm':=hm.m.after (Wf:=⟨pc.W,none⟩) (own:=fun _=>False) g1 g2 g3 hW (fun _ g hg=>by cases hg) (fun b hb=>hb.2.elim)
 have hm' : MOk E sg' κ ρ ⟨dropC pc.W d.memo,d.adr,keepG pc.W (E.W.old ⟨pc.W,none⟩) d.G⟩ w':=hm'
 have hb:=allB_ok h sh hsh
 have hshw:=allB_ok hwf.2 sh hsh
 simp only [Bool.and_eq_true] at hshw
 have hshl:=Shp.ltB_ok hshw.1
 split at hb
 ·rename_i κ' d' ps he
  simp only [gK_eq,gD_eq,gVs_eq] at hb
  have hr' : ({ σ with r:=pc.pre.n,b:=κ.n } : Sb) = { σ with b:=κ.n }:=by rw [← hr]
  rw [hr'] at he
  have hagr : Agr σ.r (({ σ with b:=κ.n } : Sb).app ρ) ρ2:=by
   refine ⟨fun u hu=>?_,fun u hu=>?_,fun u hu=>?_,g4.A⟩
   ·rw [← g4.i u (by rw [← hr];exact hu)];simp only [Sb.app];rw [(Sb.rebase hu).1]
   ·rw [← g4.s u (by rw [← hr];exact hu)];simp only [Sb.app];rw [(Sb.rebase hu).2.2]
   ·rw [← g4.a u (by rw [← hr];exact hu)];simp only [Sb.app];rw [(Sb.rebase hu).2.1]
  have hin' : ({ σ with b:=κ.n } : Sb).In σ.r κ.n:=by
   refine ⟨fun u hu=>?_,fun u hu=>?_,fun u hu=>?_⟩
   ·rw [(Sb.rebase hu).1];exact hin.i u (by rw [← hr];exact hu)
   ·rw [(Sb.rebase hu).2.1];exact hin.a u (by rw [← hr];exact hu)
   ·rw [(Sb.rebase hu).2.2];exact hin.s u (by rw [← hr];exact hu)
  obtain ⟨ρ',q1,q2,q3,_⟩:=Shp.enter_ok (σ:={ σ with b:=κ.n }) hm' g5 (fun h=>by cases h) (by rw [← hr] at h3;exact h3) rfl hin' hagr (by rw [hr];exact hshl) (fun p hp=>by
    rw [hr]
    exact Nat.le_of_ble_eq_true (allB_ok hshw.2.2 p hp)) (fun p hp hq=>absurd hq (by omega)) (fun p hp hq=>absurd hq (by omega)) he
  refine ⟨sg',κ',ρ',d',_,hb,g1,q1,⟨q2,by rw [headSl_len,hsz,hlen],fun i x hx=>?_,hd⟩⟩
  rcases headSl_get hx with h' | ⟨h',hk⟩ | h'
  ·simp only [Nat.zero_add] at h'
   exact q3 _ h'
  ·cases hk
  ·subst h'
   have hi:=(List.getElem?_eq_some_iff.1 hx).1
   rw [headSl_len,hlen,← hsz] at hi
   exact ⟨trivial,_,Array.getElem?_eq_getElem hi,trivial⟩
 ·cases hb
theorem pieceT_ok {P : Program} {c : Code} {pc : PC} {E : Ent} {sg : Sig} {κ : Kn} {ρ : Vl} {d : Ds} {sl : List DV} {a : Act} {w : World} {k : Kc} {no : Bool} (hf : PCok P c pc) (hm : Sm E sg κ ρ d sl a w) (h : pieceT pc E.W sl κ d k no = true) :
  c.wp P (fun e a' w'=>e = .normal /\ AtD E sg κ ρ k a' w') a w \/ no = true:=by
 unfold pieceT at h
 split at h
 ·rw [Sb.fix_eq] at h
  split at h
  ·rename_i hc
   exact .inl (pieceGo_ok hf hm rfl hc h)
  ·exact .inr h
 ·exact .inr h
theorem piecesT_ok {P : Program} {root c : Code} {p : List Nat} {E : Ent} {sg : Sig} {κ : Kn} {ρ : Vl} {d : Ds} {sl : List DV} {a : Act} {w : World} {k : Kc} {no : Bool} (hat : atC root p = some c) (hm : Sm E sg κ ρ d sl a w) :
  ∀ {l : List PcE},(∀ e ∈ l,∃ c',atC root e.path = some c' /\ PCok P c' e.pc) -> piecesT l p E.W sl κ d k no = true -> c.wp P (fun e a' w'=>e = .normal /\ AtD E sg κ ρ k a' w') a w \/ no = true
 | [],_,h=>.inr h
 | e :: es,hl,h=>by
  unfold piecesT at h
  have ih:=piecesT_ok (no:=no) (k:=k) hat hm (l:=es) fun x hx=>hl x (List.mem_cons_of_mem _ hx)
  split at h
  ·rename_i he
   obtain ⟨c',h1,h2⟩:=hl e List.mem_cons_self
   rw [eqN_ok he,hat] at h1
   cases h1
   rcases pieceT_ok h2 hm h with h | h
   ·exact .inl h
   ·exact ih h
  ·exact ih h
end
end Vx
namespace Vx
noncomputable section
open Go Zx
def ghT (sl : List DV) : List Nat -> Kn -> Ds -> (Kn -> Ds -> Bool) -> Bool
 | [],κ,d,k=>k κ d
 | i :: is,κ,d,k=>match zpD (ghV sl d i) with
  | some (a,o,c :: L)=>κ.has o && cellsT a o (c :: L) κ d [] fun κ d _=>gK κ fun κ=>gD d fun d=>ghT sl is κ d k
  | _=>false
theorem ghT_ok {E : Ent} {sl : List DV} {a : Act} {w : World} : ∀ {is : List Nat} {sg : Sig} {κ : Kn} {ρ : Vl} {d : Ds} {k : Kn -> Ds -> Bool},Sm E sg κ ρ d sl a w -> ghT sl is κ d k = true -> ∃ κ' ρ' d',k κ' d' = true /\ Gr κ κ' ρ ρ' /\ Sm E sg κ' ρ' d' sl a w
 | [],sg,κ,ρ,d,k,hm,h=>⟨κ,ρ,d,h,Gr.refl hm.m.kn,hm⟩
 | i :: is,sg,κ,ρ,d,k,hm,h=>by
  simp only [ghT] at h
  split at h
  ·rename_i ad o c L hz
   rw [Bool.and_eq_true] at h
   have h0:=Kn.has_ok hm.m.kn h.1
   obtain ⟨hl,_,hok⟩:=ghV_ok hm i
   rw [zpD_eq hz] at hl hok
   obtain ⟨b,hb,hu,hs⟩:=zp_ok hok
   obtain ⟨cur,tt,hh,_⟩:=sits_room hm.m.zone hs (n:=1) (by simp) (by omega)
   obtain ⟨vs,κ1,d1,xs,ρ1,k1,g1,_,_,m1,_,_⟩:=cellsT_ok hh hm.m (fun x hx=>by cases hx) hl.1 hl.2 hb h0 hs h.2
   simp only [gK_eq,gD_eq] at k1
   obtain ⟨κ2,ρ2,d2,k2,g2,m2⟩:=ghT_ok (hm.load g1 (Grows.refl _) m1) k1
   exact ⟨κ2,ρ2,d2,k2,g1.trans g2,m2⟩
  ·cases h
structure Cl where
 lp : Nat -> Option LA:=fun _=>none
 cut : Nat -> Option LA:=fun _=>none
 fuel : Nat:=0
 gh : List Nat:=[]
 lem : Nat -> List DV -> List (Lem × List Nat):=fun _ _=>[]
 lx : List (Lem × List Nat):=[]
 pcs : List PcE:=[]
def atL (f : Nat -> Option LA) (c : Code) : Option LA:=
 match firstId c with
 | some i=>f i
 | none=>none
def anyV (f : Nat -> Bool) : Nat -> Bool
 | 0=>false
 | n + 1=>match f n with
  | true=>true
  | false=>anyV f n
theorem anyV_ok {f : Nat -> Bool} : ∀ {n : Nat},anyV f n = true -> ∃ v,f v = true
 | n + 1,h=>by
  unfold anyV at h
  split at h
  ·rename_i e;exact ⟨n,e⟩
  ·exact anyV_ok h
def modB (κ : Kn) (m : Nat) (e e' : Lin) : Bool:=
 κ.has ((e'.sub e).addc (-1)) && (κ.has ((e.addc 1).sub e') && anyV (fun v=>κ.has ((e.sub (Lin.mulc (m : Int) (.var v))).addc (-1)) && κ.has (((Lin.mulc (m : Int) (.var v)).addc ((m : Int) - 1)).sub e)) κ.n)
def LA.mes (X : LA) (e : Int) : Nat:=match X.md with
 | 0=>e.toNat
 | m + 1=>((-e) % ((m + 1 : Nat) : Int)).toNat
theorem modB_ok {κ : Kn} {ρ : Vl} (hκ : κ.Ok ρ) {m : Nat} {e e' : Lin} (h : modB κ (m + 1) e e' = true) : e'.den ρ.i = e.den ρ.i + 1 /\ ((-(e'.den ρ.i)) % ((m + 1 : Nat) : Int)).toNat < ((-(e.den ρ.i)) % ((m + 1 : Nat) : Int)).toNat:=by
 simp only [modB,Bool.and_eq_true] at h
 obtain ⟨h1,h2,h3⟩:=h
 obtain ⟨v,h3⟩:=anyV_ok h3
 rw [Bool.and_eq_true] at h3
 have k1:=Kn.has_ok hκ h1
 have k2:=Kn.has_ok hκ h2
 have k3:=Kn.has_ok hκ h3.1
 have k4:=Kn.has_ok hκ h3.2
 simp only [Lin.addc_den,Lin.sub_den,Lin.mulc_den,Lin.var_den] at k1 k2 k3 k4
 have e1 : e'.den ρ.i = e.den ρ.i + 1:=by omega
 refine ⟨e1, ?_⟩
 rw [e1]
 generalize e.den ρ.i = x at *
 generalize ρ.i v = y at *
 generalize hM : ((m + 1 : Nat) : Int) = M at *
 have hM0 : 0 < M:=by omega
 have r1 : (-x) % M = M * y + M - x:=by
  have : -x = (M * y + M - x) + M * (-(y + 1)):=by rw [Int.mul_neg,Int.mul_add];omega
  rw [this,Int.add_mul_emod_self_left]
  exact Int.emod_eq_of_lt (by omega) (by omega)
 have r2 : (-(x + 1)) % M = M * y + M - (x + 1):=by
  have : -(x + 1) = (M * y + M - (x + 1)) + M * (-(y + 1)):=by rw [Int.mul_neg,Int.mul_add];omega
  rw [this,Int.add_mul_emod_self_left]
  exact Int.emod_eq_of_lt (by omega) (by omega)
 rw [r1,r2]
 omega
def LA.again (X : LA) (sl : List DV) (κ : Kn) (d : Ds) (dc : Bool) (sl2 : List DV) (κ2 : Kn) (d2 : Ds) : Bool:=
 Nat.beq sl2.length sl.length && (X.chk sl κ d (X.sb2 (X.sb sl κ d) κ2 d2 sl2) sl2 κ2 d2 && (!dc || (match X.md with
  | 0=>κ2.has ((X.dec.sbs (X.sb sl κ d)).addc (-1)) && κ2.has (((X.dec.sbs (X.sb sl κ d)).sub (X.dec.sbs (X.sb2 (X.sb sl κ d) κ2 d2 sl2))).addc (-1))
  | m + 1=>modB κ2 (m + 1) (X.dec.sbs (X.sb sl κ d)) (X.dec.sbs (X.sb2 (X.sb sl κ d) κ2 d2 sl2)))))
def LA.go (X : LA) (sl : List DV) (κ : Kn) (d : Ds) (k : Kc) : Bool:=
 match X.head sl κ d with
 | some (κh,dh,slh)=>gVs slh fun slh=>gK κh fun κh=>gD dh fun dh=>k slh κh dh
 | none=>false
def unrollT (B : List DV -> Kn -> Ds -> (Ex -> Kc) -> Bool) (K : Ex -> Kc) : Nat -> Kc
 | 0,_,_,_=>false
 | n + 1,sl,κ,d=>B sl κ d fun e=>match e with
  | .nor=>unrollT B K n
  | .ret=>K .ret
  | .exi i=>K (.exi i)
def LA.cap (X : LA) (sl : List DV) (κ : Kn) (d : Ds) (κh : Kn) : Kn:=match X.md with
 | 0=>κh
 | m + 1=>match Tm.ltB κ.n (X.dec.sbs (X.sb2 (X.sb sl κ d) κ d sl)).t with
  | true=>match Tm.ltB κh.n (X.dec.sbs (X.sb sl κ d)).t with
   | true=>κh.add (((X.dec.sbs (X.sb2 (X.sb sl κ d) κ d sl)).addc (m : Int)).sub (X.dec.sbs (X.sb sl κ d)))
   | false=>κh
  | false=>κh
def cwT (P : Program) (Γ : EnvT) (W : Wt) (C : Cl) : Code -> List Nat -> List DV -> Kn -> Ds -> (Ex -> Kc) -> Bool
 | .skip,pt,sl,κ,d,K=>K .nor sl κ d
 | .label _,pt,sl,κ,d,K=>K .nor sl κ d
 | .region id ops dr,pt,sl,κ,d,K=>lemsT (C.lem id sl) sl κ d fun κ d=>match dr with
  | true=>anyT P Γ W ops sl κ d (K .nor)
  | false=>runT P Γ W ops 0 ops.toList sl κ d (K .nor)
 | .seq a b,pt,sl,κ,d,K=>piecesT C.pcs (0 :: pt) W sl κ d (fun sl κ d=>cwT P Γ W C b (1 :: pt) sl κ d K) (match atL C.cut b with
  | none=>cwT P Γ W C a (0 :: pt) sl κ d fun e=>match e with
   | .nor=>fun sl κ d=>piecesT C.pcs (1 :: pt) W sl κ d (K .nor) (cwT P Γ W C b (1 :: pt) sl κ d K)
   | .ret=>K .ret
   | .exi i=>K (.exi i)
  | some X=>match X.sub with
   | none=>X.wf sl κ d && ((cwT P Γ W C a (0 :: pt) sl κ d fun e=>match e with
    | .nor=>fun sl2 κ2 d2=>lemsT X.lem sl2 κ2 d2 fun κ2 d2=>X.again sl κ d false sl2 κ2 d2
    | .ret=>K .ret
    | .exi i=>K (.exi i)) && X.go sl κ d fun sl κ d=>cwT P Γ W C b (1 :: pt) sl κ d K)
   | some S=>X.wf sl κ d && (subN X.W W.W && (eqN X.Wo X.W && (adr0 X.sh.adr && ((gK (S.kn κ) fun κs=>gD (S.ds sl d) fun ds=>cwT P Γ ⟨X.W,none⟩ C a (0 :: pt) sl κs ds fun e=>match e with
    | .nor=>fun sl2 κ2 d2=>lemsT X.lem sl2 κ2 d2 fun κ2 d2=>X.againS sl κ d sl2 κ2 d2
    | _=>fun _ _ _=>false) && X.go sl κ d fun sl κ d=>cwT P Γ W C b (1 :: pt) sl κ d K)))))
 | .cond c x y,pt,sl,κ,d,K=>match evD sl c with
  | .s (.c (.tru true))=>cwT P Γ W C x (0 :: pt) sl κ d K
  | .s (.c (.tru false))=>cwT P Γ W C y (1 :: pt) sl κ d K
  | .s (.c (.boo p v))=>gK (addB p v true κ) (fun κ=>cwT P Γ W C x (0 :: pt) sl κ d K) && gK (addB p v false κ) fun κ=>cwT P Γ W C y (1 :: pt) sl κ d K
  | _=>false
 | .block id b,pt,sl,κ,d,K=>cwT P Γ W C b (0 :: pt) sl κ d fun e=>match e with
  | .nor=>K .nor
  | .ret=>K .ret
  | .exi i=>match Nat.beq i id with
   | true=>K .nor
   | false=>K (.exi i)
 | .loop b,pt,sl,κ,d,K=>match atL C.lp b with
  | some X=>lemsT X.lem sl κ d fun κ d=>ghT sl X.gh κ d fun κ d=>X.wf sl κ d && (X.again sl κ d false sl κ d && X.go sl κ d fun slh κh dh=>gK (X.cap sl κ d κh) fun κh=>cwT P Γ W C b (0 :: pt) slh κh dh fun e=>match e with
   | .nor=>fun sl2 κ2 d2=>lemsT X.lem sl2 κ2 d2 fun κ2 d2=>X.again sl κ d true sl2 κ2 d2
   | .ret=>K .ret
   | .exi i=>K (.exi i))
  | none=>unrollT (cwT P Γ W C b (0 :: pt)) K C.fuel sl κ d
 | .scope b,pt,sl,κ,d,K=>cwT P Γ W C b (0 :: pt) sl κ d K
 | .exit id,pt,sl,κ,d,K=>K (.exi id) sl κ d
 | .ret,pt,sl,κ,d,K=>K .ret sl κ d
 | _,_,_,_,_,_=>false
def PostD (E : Ent) (sg : Sig) (κ : Kn) (ρ : Vl) (K : Ex -> Kc) : Exit -> Act -> World -> Prop
 | .normal,a,w=>AtD E sg κ ρ (K .nor) a w
 | .ret,a,w=>AtD E sg κ ρ (K .ret) a w
 | .exit i,a,w=>AtD E sg κ ρ (K (.exi i)) a w
 | _,_,_=>False
theorem AtD.of {E : Ent} {sg : Sig} {κ : Kn} {ρ : Vl} {d : Ds} {sl : List DV} {a : Act} {w : World} {k : Kc} (hm : Sm E sg κ ρ d sl a w) (h : k sl κ d = true) : AtD E sg κ ρ k a w:=⟨_,_,_,_,_,h,Grows.refl _,Gr.refl hm.m.kn,hm⟩
def BodyD (P : Program) (E : Ent) (c : Code) (B : List DV -> Kn -> Ds -> (Ex -> Kc) -> Bool) : Prop:=
 ∀ sl κ d K sg ρ a w,Sm E sg κ ρ d sl a w -> B sl κ d K = true -> c.wp P (PostD E sg κ ρ K) a w
theorem PostD.more {E : Ent} {sg sg' : Sig} {κ κ' : Kn} {ρ ρ' : Vl} {K : Ex -> Kc} (hg : Grows sg sg') (g : Gr κ κ' ρ ρ') {e : Exit} {a : Act} {w : World} (h : PostD E sg' κ' ρ' K e a w) : PostD E sg κ ρ K e a w:=by
 cases e with
 | normal=>exact AtD.more hg g h
 | ret=>exact AtD.more hg g h
 | exit i=>exact AtD.more hg g h
 | goto l=>exact h.elim
 | panic c=>exact h.elim
 | outgrown=>exact h.elim
theorem LA.go_ok {X : LA} {sl : List DV} {κ : Kn} {d : Ds} {k : Kc} (h : X.go sl κ d k = true) : ∃ κh dh slh,X.head sl κ d = some (κh,dh,slh) /\ k slh κh dh = true:=by
 unfold LA.go at h
 split at h
 ·rename_i κh dh slh he
  simp only [gVs_eq,gK_eq,gD_eq] at h
  exact ⟨κh,dh,slh,he,h⟩
 ·cases h
theorem LA.again_ok {X : LA} {E : Ent} {sg sg2 : Sig} {κ κ2 κh : Kn} {ρ ρ2 : Vl} {d d2 dh : Ds} {sl sl2 slh : List DV} {a a2 : Act} {w w2 : World} {dc : Bool} (hwf : X.wf sl κ d = true) (hm : Sm E sg κ ρ d sl a w) (hg : Grows sg sg2) (g : Gr κ κ2 ρ ρ2) (hm2 : Sm E sg2 κ2 ρ2 d2 sl2 a2 w2)
  (hh : X.head sl κ d = some (κh,dh,slh)) (h : X.again sl κ d dc sl2 κ2 d2 = true) :
  ∃ ρ',Gr κ κh ρ ρ' /\ Sm E sg2 κh ρ' dh slh a2 w2 /\ (X.dec.sbs (X.sb sl κ d)).den ρ'.i = (X.dec.sbs (X.sb2 (X.sb sl κ d) κ2 d2 sl2)).den ρ2.i ∧
   (dc = true -> X.mes ((X.dec.sbs (X.sb sl κ d)).den ρ'.i) < X.mes ((X.dec.sbs (X.sb sl κ d)).den ρ2.i) /\ (X.md ≠ 0 -> (X.dec.sbs (X.sb sl κ d)).den ρ'.i = (X.dec.sbs (X.sb sl κ d)).den ρ2.i + 1)):=by
 simp only [LA.again,Bool.and_eq_true] at h
 obtain ⟨h1,h2,h3⟩:=h
 obtain ⟨ρ',q1,q2,q3⟩:=LA.fit hwf hm hg g hm2 (Nat.eq_of_beq_eq_true h1) hh h2
 have hdl : X.dec.lt (X.r + X.sh.n):=by
  simp only [LA.wf,Bool.and_eq_true] at hwf
  exact Tm.ltB_ok hwf.2.2.2.2
 have e1 : (X.dec.sbs (X.sb sl κ d)).den ρ'.i = (X.dec.sbs (X.sb2 (X.sb sl κ d) κ2 d2 sl2)).den ρ2.i:=by
  rw [Lin.sbs_den,Lin.sbs_den]
  exact Lin.den_eq q3.i hdl
 refine ⟨ρ',q1,q2,e1,fun e=>?_⟩
 rw [e] at h3
 simp only [Bool.not_true,Bool.false_or] at h3
 rw [e1]
 unfold LA.mes
 split at h3
 ·rename_i em
  rw [Bool.and_eq_true] at h3
  have k1:=Kn.has_ok hm2.m.kn h3.1
  have k2:=Kn.has_ok hm2.m.kn h3.2
  rw [Lin.addc_den] at k1
  rw [Lin.addc_den,Lin.sub_den] at k2
  exact ⟨by omega,fun h=>absurd em h⟩
 ·rename_i m em
  exact ⟨(modB_ok hm2.m.kn h3).2,fun _=>(modB_ok hm2.m.kn h3).1⟩
theorem unrollT_ok {P : Program} {E : Ent} {c : Code} {B : List DV -> Kn -> Ds -> (Ex -> Kc) -> Bool} (hB : BodyD P E c B) {K : Ex -> Kc} {n : Nat} {sg : Sig} {κ : Kn} {ρ : Vl} {d : Ds} {sl : List DV} {a : Act} {w : World}
  (hm : Sm E sg κ ρ d sl a w) (h : unrollT B K n sl κ d = true) : (Code.loop c).wp P (PostD E sg κ ρ K) a w:=by
 refine wp_loop_ghost (fun k a w=>AtD E sg κ ρ (unrollT B K k) a w) n (AtD.of hm h) ?_
 rintro k a w ⟨sg',κ',ρ',d',sl',h,hg,g,hm⟩
 cases k with
 | zero=>simp [unrollT] at h
 | succ k=>
  refine wp_mono (hB _ _ _ _ _ _ _ _ hm h) fun e a' w' he=>?_
  have he:=PostD.more hg g he
  cases e with
  | normal=>exact ⟨k,Nat.lt_succ_self k,he⟩
  | ret=>exact he
  | exit i=>exact he
  | goto l=>exact he.elim
  | panic ch=>exact he.elim
  | outgrown=>exact he.elim
theorem loopT_ok {P : Program} {E : Ent} {c : Code} {B : List DV -> Kn -> Ds -> (Ex -> Kc) -> Bool} (hB : BodyD P E c B) {X : LA} {K : Ex -> Kc} {sg : Sig} {κ : Kn} {ρ : Vl} {d : Ds} {sl : List DV} {a : Act} {w : World}
  (hm : Sm E sg κ ρ d sl a w) (h : (X.wf sl κ d && (X.again sl κ d false sl κ d && X.go sl κ d fun slh κh dh=>gK (X.cap sl κ d κh) fun κh=>B slh κh dh fun e=>match e with
   | .nor=>fun sl2 κ2 d2=>lemsT X.lem sl2 κ2 d2 fun κ2 d2=>X.again sl κ d true sl2 κ2 d2
   | .ret=>K .ret
   | .exi i=>K (.exi i))) = true) : (Code.loop c).wp P (PostD E sg κ ρ K) a w:=by
 simp only [Bool.and_eq_true] at h
 obtain ⟨hwf,h0,h1⟩:=h
 obtain ⟨κh,dh,slh,hh,hb⟩:=LA.go_ok h1
 simp only [gK_eq] at hb
 obtain ⟨ρ0,q1,q2,q3,_⟩:=LA.again_ok hwf hm (Grows.refl _) (Gr.refl hm.m.kn) hm hh h0
 refine wp_loop_ghost (fun k a w=>∃ sg' ρ',k = X.mes ((X.dec.sbs (X.sb sl κ d)).den ρ'.i) /\ Grows sg sg' /\ Gr κ κh ρ ρ' /\ Sm E sg' κh ρ' dh slh a w /\ (∀ m,X.md = m + 1 -> (X.dec.sbs (X.sb sl κ d)).den ρ'.i + k <= (X.dec.sbs (X.sb2 (X.sb sl κ d) κ d sl)).den ρ.i + m)) _ ⟨sg,ρ0,rfl,Grows.refl _,q1,q2,fun m hmd=>by
  have hme : X.mes ((X.dec.sbs (X.sb sl κ d)).den ρ0.i) <= m:=by
   unfold LA.mes
   rw [hmd]
   show Int.toNat _ <= m
   have:=Int.emod_lt_of_pos (-((X.dec.sbs (X.sb sl κ d)).den ρ0.i)) (show (0 : Int) < ((m + 1 : Nat) : Int) by omega)
   have:=Int.emod_nonneg (-((X.dec.sbs (X.sb sl κ d)).den ρ0.i)) (show ((m + 1 : Nat) : Int) ≠ 0 by omega)
   omega
  rw [q3] at hme ⊢
  omega⟩ ?_
 rintro k a w ⟨sg',ρ',rfl,hg,g,hm',hcp⟩
 obtain ⟨gc,hm'⟩ : Gr κh (X.cap sl κ d κh) ρ' ρ' /\ Sm E sg' (X.cap sl κ d κh) ρ' dh slh a w:=by
  unfold LA.cap
  split
  ·exact ⟨Gr.refl hm'.m.kn,hm'⟩
  ·rename_i m hmd
   split
   ·rename_i hl1
    split
    ·rename_i hl2
     have hl1:=Tm.ltB_ok hl1
     have hl2:=Tm.ltB_ok hl2
     have gg : Gr κh (κh.add (((X.dec.sbs (X.sb2 (X.sb sl κ d) κ d sl)).addc (m : Int)).sub (X.dec.sbs (X.sb sl κ d)))) ρ' ρ':=Kn.add_gr hm'.m.kn (Lin.sub_lt (Tm.lt_mono g.le hl1) hl2) (by
      rw [Lin.sub_den,Lin.addc_den]
      have h1:=hcp m hmd
      have h2 : (X.dec.sbs (X.sb2 (X.sb sl κ d) κ d sl)).den ρ'.i = (X.dec.sbs (X.sb2 (X.sb sl κ d) κ d sl)).den ρ.i:=(Lin.den_eq g.agr.i hl1).symm
      rw [h2]
      omega)
     exact ⟨gg,hm'.load gg (Grows.refl _) (hm'.m.gr gg)⟩
    ·exact ⟨Gr.refl hm'.m.kn,hm'⟩
   ·exact ⟨Gr.refl hm'.m.kn,hm'⟩
 refine wp_mono (hB _ _ _ _ _ _ _ _ hm' hb) fun e a' w' he=>?_
 cases e with
 | normal=>
  obtain ⟨sg2,κ2,ρ2,d2,sl2,k1,k2,k3,k4⟩:=AtD.lems he
  have k3:=gc.trans k3
  obtain ⟨ρ3,r1,r2,r4,r3⟩:=LA.again_ok hwf hm (Grows.trans hg k2) (g.trans k3) k4 hh k1
  obtain ⟨s2,s3⟩:=r3 rfl
  have hdl : X.dec.lt (X.r + X.sh.n):=by
   simp only [LA.wf,Bool.and_eq_true] at hwf
   exact Tm.ltB_ok hwf.2.2.2.2
  have e2 : (X.dec.sbs (X.sb sl κ d)).den ρ2.i = (X.dec.sbs (X.sb sl κ d)).den ρ'.i:=by
   have hwf':=hwf
   simp only [LA.wf,Bool.and_eq_true] at hwf'
   have hin:=Sb.inB_ok hwf'.2.2.2.1
   have hk:=hwf'.2.2.1
   have hn : κh.n = κ.n + X.sh.n:=by
    unfold LA.head at hh
    split at hh
    ·rename_i κ' d' ps he
     cases hh
     unfold Shp.enter at he
     split at he
     ·cases he;rfl
     ·cases he
    ·cases hh
   have hl : (X.dec.sbs (X.sb sl κ d)).lt κh.n:=by
    refine Lin.sbs_lt (n:=X.r + X.sh.n) ⟨fun v hv=>?_,fun v hv=>?_,fun v hv=>?_⟩ hdl
    ·rcases Nat.lt_or_ge v X.r with h' | h'
     ·exact Tm.lt_mono g.le (hin.i v h')
     ·rw [(Sb.fresh hk h').1,hn];exact Lin.var_lt (by show v - X.r + κ.n < _;omega)
    ·rcases Nat.lt_or_ge v X.r with h' | h'
     ·have:=hin.a v h';omega
     ·rw [(Sb.fresh hk h').2.1,hn];show v - X.r + κ.n < _;omega
    ·rcases Nat.lt_or_ge v X.r with h' | h'
     ·have:=hin.s v h';omega
     ·rw [(Sb.fresh hk h').2.2,hn];show v - X.r + κ.n < _;omega
   exact (Lin.den_eq k3.agr.i hl).symm
  refine ⟨_,by rw [← e2];exact s2,sg2,ρ3,rfl,Grows.trans hg k2,r1,r2,fun m hmd=>?_⟩
  have h1:=hcp m hmd
  have h2:=s3 (by rw [hmd];omega)
  rw [e2] at s2 h2
  omega
 | ret=>exact AtD.more hg (g.trans gc) he
 | exit i=>exact AtD.more hg (g.trans gc) he
 | goto l=>exact he.elim
 | panic ch=>exact he.elim
 | outgrown=>exact he.elim
set_option maxHeartbeats 2000000 in
theorem cwT_ok {P : Program} {Γ : EnvT} (hΓ : EnvTOk P Γ) (hmix : P.follows .mixedOrders = true) (C : Cl) {root : Code} (hp : ∀ e ∈ C.pcs,∃ c',atC root e.path = some c' /\ PCok P c' e.pc) : ∀ (c : Code) (E : Ent) (p : List Nat),atC root p = some c -> BodyD P E c (cwT P Γ E.W C c p):=by
 have hQp : ∀ {E : Ent} {sg κ ρ K} (c : List PanicEntry) (a : Act) (w : World),¬PostD E sg κ ρ K (.panic c) a w:=fun c a w h=>h
 intro c
 induction c with
 | skip=>intro E pt hat sl κ d K sg ρ a w hm h;exact wp_skip (AtD.of hm h)
 | label l=>intro E pt hat sl κ d K sg ρ a w hm h;exact wp_label (AtD.of hm h)
 | region id ops dr=>
  intro E pt hat sl κ d K sg ρ a w hm h
  simp only [cwT] at h
  obtain ⟨κ1,ρ1,d1,h,g1,hm⟩:=lemsT_ok hm h
  cases dr
  ·exact wp_mono (regT_ok hΓ hm (fun a w h=>h) h) fun e a w he=>PostD.more (Grows.refl _) g1 he
  ·exact wp_mono (anyT_ok hΓ hmix hQp hm (fun a w h=>h) h) fun e a w he=>PostD.more (Grows.refl _) g1 he
 | seq x y ihx ihy=>
  intro E pt hat sl κ d K sg ρ a w hm h
  simp only [cwT] at h
  rcases piecesT_ok (atC_child hat rfl) hm hp h with h | h
  ·refine wp_seq (wp_mono h fun e a' w' he=>?_)
   obtain ⟨rfl,sg2,κ2,ρ2,d2,sl2,k1,k2,k3,k4⟩:=he
   exact wp_mono (ihy E (1 :: pt) (atC_child hat rfl) _ _ _ _ _ _ _ _ k4 k1) fun e a w he=>PostD.more k2 k3 he
  split at h
  ·refine wp_seq (wp_mono (ihx E (0 :: pt) (atC_child hat rfl) _ _ _ _ _ _ _ _ hm h) fun e a' w' he=>?_)
   cases e with
   | normal=>
    obtain ⟨sg2,κ2,ρ2,d2,sl2,k1,k2,k3,k4⟩:=he
    rcases piecesT_ok (atC_child hat rfl) k4 hp k1 with k1 | k1
    ·exact wp_mono k1 fun e a w he=>PostD.more k2 k3 (by obtain ⟨rfl,he⟩:=he;exact he)
    exact wp_mono (ihy E (1 :: pt) (atC_child hat rfl) _ _ _ _ _ _ _ _ k4 k1) fun e a w he=>PostD.more k2 k3 he
   | ret=>exact he
   | exit i=>exact he
   | goto l=>exact he.elim
   | panic ch=>exact he.elim
   | outgrown=>exact he.elim
  ·rename_i X hX
   split at h
   ·skip
    simp only [Bool.and_eq_true] at h
    obtain ⟨hwf,h1,h2⟩:=h
    obtain ⟨κh,dh,slh,hh,hb⟩:=LA.go_ok h2
    refine wp_seq (wp_mono (ihx E (0 :: pt) (atC_child hat rfl) _ _ _ _ _ _ _ _ hm h1) fun e a' w' he=>?_)
    cases e with
    | normal=>
     obtain ⟨sg2,κ2,ρ2,d2,sl2,k1,k2,k3,k4⟩:=AtD.lems he
     obtain ⟨ρ',q1,q2,_⟩:=LA.again_ok hwf hm k2 k3 k4 hh k1
     exact wp_mono (ihy E (1 :: pt) (atC_child hat rfl) _ _ _ _ _ _ _ _ q2 hb) fun e a w he=>PostD.more k2 q1 he
    | ret=>exact he
    | exit i=>exact he
    | goto l=>exact he.elim
    | panic ch=>exact he.elim
    | outgrown=>exact he.elim
   ·rename_i S hS
    simp only [Bool.and_eq_true,gK_eq,gD_eq] at h
    obtain ⟨hwf,hw,hwo,h0,h1,h2⟩:=h
    obtain ⟨κh,dh,slh,hh,hb⟩:=LA.go_ok h2
    refine wp_seq (wp_mono (ihx (Ent.none w sg X.W) (0 :: pt) (atC_child hat rfl) _ _ _ _ _ _ _ _ (Sub.ok (S:=S) hm) h1) fun e a' w' he=>?_)
    cases e with
    | normal=>
     obtain ⟨sg2,κ2,ρ2,d2,sl2,k1,k2,k3,k4⟩:=AtD.lems he
     obtain ⟨ρ',q1,q2⟩:=LA.fitS hwf hm k2 k3 k4 (subN_ok hw) (eqN_ok hwo) h0 hh k1
     exact wp_mono (ihy E (1 :: pt) (atC_child hat rfl) _ _ _ _ _ _ _ _ q2 hb) fun e a w he=>PostD.more k2 q1 he
    | ret=>obtain ⟨_,_,_,_,_,h,_⟩:=he;cases h
    | exit i=>obtain ⟨_,_,_,_,_,h,_⟩:=he;cases h
    | goto l=>exact he.elim
    | panic ch=>exact he.elim
    | outgrown=>exact he.elim
 | cond c x y ihx ihy=>
  intro E pt hat sl κ d K sg ρ a w hm h
  simp only [cwT] at h
  have hev:=evD_ok hm c
  split at h
  ·rename_i hc
   rw [hc] at hev
   exact wp_cond_true hev.2 (ihx E (0 :: pt) (atC_child hat rfl) _ _ _ _ _ _ _ _ hm h)
  ·rename_i hc
   rw [hc] at hev
   exact wp_cond_false hev.2 (ihy E (1 :: pt) (atC_child hat rfl) _ _ _ _ _ _ _ _ hm h)
  ·rename_i p v hc
   rw [hc] at hev
   rw [Bool.and_eq_true] at h
   simp only [gK_eq] at h
   have hv : a.eval c = .bool (bV ρ (.boo p v)):=hev.2
   refine wp_cond_split hv (fun e=>?_) (fun e=>?_)
   ·have g:=addB_gr hm.m.kn hev.1 e
    exact wp_mono (ihx E (0 :: pt) (atC_child hat rfl) _ _ _ _ _ _ _ _ ⟨hm.m.gr g,hm.size,fun i x hx=>by
     obtain ⟨l,v,q1,q2⟩:=hm.slots i x hx
     exact ⟨DV.lt_mono g.le l,v,q1,q2⟩,hm.defers⟩ h.1) fun e a w he=>PostD.more (Grows.refl _) g he
   ·have g:=addB_gr hm.m.kn hev.1 e
    exact wp_mono (ihy E (1 :: pt) (atC_child hat rfl) _ _ _ _ _ _ _ _ ⟨hm.m.gr g,hm.size,fun i x hx=>by
     obtain ⟨l,v,q1,q2⟩:=hm.slots i x hx
     exact ⟨DV.lt_mono g.le l,v,q1,q2⟩,hm.defers⟩ h.2) fun e a w he=>PostD.more (Grows.refl _) g he
  ·cases h
 | block id b ih=>
  intro E pt hat sl κ d K sg ρ a w hm h
  simp only [cwT] at h
  refine wp_block (wp_mono (ih E (0 :: pt) (atC_child hat rfl) _ _ _ _ _ _ _ _ hm h) fun e a' w' he=>?_)
  cases e with
  | normal=>exact he
  | ret=>exact he
  | exit i=>
   obtain ⟨sg2,κ2,ρ2,d2,sl2,k1,k2⟩:=he
   simp only [Exit.inBlock]
   simp only [] at k1
   split
   ·rename_i hid
    subst hid
    rw [Nat.beq_refl] at k1
    exact ⟨sg2,κ2,ρ2,d2,sl2,k1,k2⟩
   ·rename_i hid
    have : Nat.beq i id = false:=by
     cases e : Nat.beq i id
     ·rfl
     ·exact absurd (Nat.eq_of_beq_eq_true e) hid
    rw [this] at k1
    exact ⟨sg2,κ2,ρ2,d2,sl2,k1,k2⟩
  | goto l=>exact he.elim
  | panic ch=>exact he.elim
  | outgrown=>exact he.elim
 | loop b ih=>
  intro E pt hat sl κ d K sg ρ a w hm h
  simp only [cwT] at h
  split at h
  ·obtain ⟨κ1,ρ1,d1,h,g1,hm⟩:=lemsT_ok hm h
   obtain ⟨κ',ρ',d',k',g,m'⟩:=ghT_ok hm h
   exact wp_mono (loopT_ok (ih E (0 :: pt) (atC_child hat rfl)) m' k') fun e a w he=>PostD.more (Grows.refl _) (g1.trans g) he
  ·exact unrollT_ok (ih E (0 :: pt) (atC_child hat rfl)) hm h
 | scope b ih=>
  intro E pt hat sl κ d K sg ρ a w hm h
  simp only [cwT] at h
  refine wp_scope_straight (wp_mono (ih E (0 :: pt) (atC_child hat rfl) _ _ _ _ _ _ _ _ hm h) fun e a' w' he=>?_)
  cases e with
  | normal=>exact he
  | ret=>exact he
  | exit i=>exact he
  | goto l=>exact he.elim
  | panic ch=>exact he.elim
  | outgrown=>exact he.elim
 | exit id=>intro E pt hat sl κ d K sg ρ a w hm h;exact wp_exit (AtD.of hm h)
 | ret=>intro E pt hat sl κ d K sg ρ a w hm h;exact wp_ret (AtD.of hm h)
 | rangeFunc=>intro E pt hat sl κ d K sg ρ a w hm h;simp [cwT] at h
 | goto l=>intro E pt hat sl κ d K sg ρ a w hm h;simp [cwT] at h
 | refuse why=>intro E pt hat sl κ d K sg ρ a w hm h;simp [cwT] at h
end
end Vx
