/- A part of the proof: lemmas. No condition of its own. -/
import Derived.Test.YtglcgbhhkjebbaaGreatProg
import Derived.KernelRfl
import Derived.Test.YtglcgbhhkjebbaaGreatK06
import Derived.Test.YtglcgbhhkjebbaaGreatK07
import Derived.Test.YtglcgbhhkjebbaaGreatK17
set_option linter.unusedVariables false
set_option linter.unusedSimpArgs false
namespace Zx
noncomputable section
open Go Go.RowKit
inductive PA where
 | v (k : LK)
 | a (ks : List LK)
 | r (k : IntKind)
inductive RC where
 | c (x : S1)
 | r (k : IntKind) (L : List Int)
structure Rw where
 L : List Int
 c : Nat
def rowNames : List PA -> List SV -> List Nat
 | .r _ :: ps,x :: xs=>dstN x ++ rowNames ps xs
 | _ :: ps,_ :: xs=>rowNames ps xs
 | _,_=>[]
structure Mt where
 L : List Leaf
 R : List (List Int)
 p : List Prop
def addP (p : Option Prop) (l : List Prop) : List Prop:=
 match p with
 | some p=>p :: l
 | none=>l
def matchA : List PA -> List SV -> List (Option Blk) -> Option Mt
 | [],[],_=>some ⟨[],[],[]⟩
 | .v k :: ps,.s (.c c) :: xs,bl=>match matchC k c,matchA ps xs bl with
  | some l,some m=>some ⟨l :: m.L,m.R,m.p⟩
  | _,_=>none
 | .a ks :: ps,.s (.a cs) :: xs,bl=>match matchL ks cs,matchA ps xs bl with
  | some l,some m=>some ⟨l ++ m.L,m.R,m.p⟩
  | _,_=>none
 | .r k :: ps,x :: xs,bl=>match dstN x with
  | []=>match srcL k x none,matchA ps xs bl with
   | some (p,M),some m=>some ⟨m.L,M :: m.R,addP p m.p⟩
   | _,_=>none
  | [_]=>match bl with
   | b :: bl=>match srcL k x (some b),matchA ps xs bl with
    | some (p,M),some m=>some ⟨m.L,M :: m.R,addP p m.p⟩
    | _,_=>none
   | []=>none
  | _=>none
 | _,_,_=>none
def astL : List Prop -> Out Res -> Out Res
 | [],o=>o
 | p :: ps,o=>.ast p (astL ps o)
def allP : List Prop -> Prop
 | []=>True
 | p :: ps=>p /\ allP ps
theorem astL_ok : ∀ {ps : List Prop} {o : Out Res} {K : Res -> Prop},(astL ps o).wp K -> allP ps /\ o.wp K
 | [],_,_,h=>⟨trivial,h⟩
 | _ :: _,_,_,h=>by obtain ⟨⟨h1⟩,h2⟩:=h;obtain ⟨h3,h4⟩:=astL_ok h2;exact ⟨⟨h1,h3⟩,h4⟩
def rowsN : List RC -> Nat
 | []=>0
 | .c _ :: rs=>rowsN rs
 | .r _ _ :: rs=>rowsN rs + 1
def mkGo (base : Nat) : Nat -> List RC -> (List S1 -> List Blk -> Out Res) -> Out Res
 | _,[],k=>k [] []
 | j,.c x :: rs,k=>mkGo base j rs fun xs bs=>k (x :: xs) bs
 | j,.r q L :: rs,k=>.all (fun c=>L.length <= c) ⟨_,Nat.le_refl _⟩ fun c=>mkGo base (j + 1) rs fun xs bs=>k (.c (.own (base + j) L.length c false) :: xs) (.oints q L :: bs)
def mkRes (base : Nat) (rs : List RC) : Out Res:=if rowsN rs <= 4 then mkGo base 0 rs fun xs bs=>.ret ⟨resV xs,[],bs⟩ else .fail
structure Con1 where
 pat : List PA
 pre : Option (List Leaf -> List (List Int) -> Prop):=none
 out : List Leaf -> List (List Int) -> Out (List RC)
def preO1 (p : Option (List Leaf -> List (List Int) -> Prop)) (L : List Leaf) (R : List (List Int)) (o : Out Res) : Out Res:=
 match p with
 | none=>o
 | some p=>.ast (p L R) o
def preP1 (p : Option (List Leaf -> List (List Int) -> Prop)) (L : List Leaf) (R : List (List Int)) : Prop:=
 match p with
 | none=>True
 | some p=>p L R
theorem preO1_ok {p : Option (List Leaf -> List (List Int) -> Prop)} {L : List Leaf} {R : List (List Int)} {o : Out Res} {K : Res -> Prop} (h : (preO1 p L R o).wp K) : preP1 p L R /\ o.wp K:=by
 cases p with
 | none=>exact ⟨trivial,h⟩
 | some p=>exact ⟨h.1.h,h.2⟩
def Con1.spec (c : Con1) : Spec:=fun base args=>⟨rowNames c.pat args,[],fun bl=>match matchA c.pat args bl with
 | some m=>astL m.p (preO1 c.pre m.L m.R ((c.out m.L m.R).bind (mkRes base)))
 | none=>.fail⟩
def instA : List PA -> List Leaf -> List Rw -> Nat -> List SV
 | .v k :: ps,l :: L,R,i=>one (instC k l) :: instA ps L R i
 | .a ks :: ps,L,R,i=>.s (.a (instL ks L)) :: instA ps (L.drop ks.length) R i
 | .r _ :: ps,L,r :: R,i=>one (.sli i 0 1 0 r.L.length r.c false) :: instA ps L R (i + 1)
 | _,_,_,_=>[]
def heapA : List PA -> List Rw -> Nat -> Nat -> Option Blk
 | .r k :: ps,r :: R,i=>upd (heapA ps R (i + 1)) i (some (.ints k r.L))
 | .r _ :: _,[],_=>fun _=>none
 | _ :: ps,R,i=>heapA ps R i
 | [],_,_=>fun _=>none
def rowsA : List PA -> Nat
 | []=>0
 | .r _ :: ps=>rowsA ps + 1
 | _ :: ps=>rowsA ps
def kindsA : List PA -> List LK
 | []=>[]
 | .v k :: ps=>k :: kindsA ps
 | .a ks :: ps=>ks ++ kindsA ps
 | .r _ :: ps=>kindsA ps
def svL : SV -> Option (List S1)
 | .s x=>some [x]
 | .t [_]=>none
 | .t xs=>some xs
 | .u=>none
def mR (h : Nat -> Option Blk) : List Nat -> List S1 -> List RC -> Prop
 | _,[],[]=>True
 | seen,x :: xs,.c y :: rs=>leS1 [] [] x y /\ mR h seen xs rs
 | seen,x :: xs,.r k L :: rs=>match dstN (.s x) with
  | []=>match dstL k (.s x) none with
   | some L'=>L' = L /\ mR h seen xs rs
   | none=>False
  | b :: _=>if seen.contains b then False else match dstL k (.s x) (some (h b)) with
   | some L'=>L' = L /\ mR h (b :: seen) xs rs
   | none=>False
 | _,_,_=>False
def mR0 (sv : SV) (h : Nat -> Option Blk) (rs : List RC) : Prop:=
 match svL sv with
 | some xs=>mR h [] xs rs
 | none=>False
def Out.mt1 : Out (List RC) -> SV -> (Nat -> Option Blk) -> Prop
 | .ret a,x,h=>mR0 x h a
 | .fail,_,_=>False
 | .eqn e f,x,h=>∀ y,y = e -> (f y).mt1 x h
 | .br c a b,x,h=>(c /\ a.mt1 x h) \/ (¬c /\ b.mt1 x h)
 | .brB q a b,x,h=>(q = true /\ a.mt1 x h) \/ (q = false /\ b.mt1 x h)
 | .ast _ k,x,h=>k.mt1 x h
 | .fact _ _ k,x,h=>k.mt1 x h
 | .all φ _ f,x,h=>∃ y,φ y /\ (f y).mt1 x h
theorem Out.mt1_posts : ∀ {o : Out (List RC)} {x : SV} {h : Nat -> Option Blk},o.mt1 x h -> ∃ r,o.posts r /\ mR0 x h r
 | .ret a,x,h,hh=>⟨a,rfl,hh⟩
 | .fail,_,_,hh=>hh.elim
 | .eqn e f,x,h,hh=>Out.mt1_posts (o:=f e) (hh e rfl)
 | .br c a b,x,h,hh=>by
  rcases hh with ⟨hc,hh⟩ | ⟨hc,hh⟩
  ·obtain ⟨r,h1,h2⟩:=Out.mt1_posts hh;exact ⟨r,.inl ⟨hc,h1⟩,h2⟩
  ·obtain ⟨r,h1,h2⟩:=Out.mt1_posts hh;exact ⟨r,.inr ⟨hc,h1⟩,h2⟩
 | .brB q a b,x,h,hh=>by
  rcases hh with ⟨hc,hh⟩ | ⟨hc,hh⟩
  ·obtain ⟨r,h1,h2⟩:=Out.mt1_posts hh;exact ⟨r,.inl ⟨hc,h1⟩,h2⟩
  ·obtain ⟨r,h1,h2⟩:=Out.mt1_posts hh;exact ⟨r,.inr ⟨hc,h1⟩,h2⟩
 | .ast _ k,x,h,hh=>Out.mt1_posts (o:=k) hh
 | .fact _ _ k,x,h,hh=>Out.mt1_posts (o:=k) hh
 | .all φ _ f,x,h,⟨y,hy,hh⟩=>by obtain ⟨r,h1,h2⟩:=Out.mt1_posts hh;exact ⟨r,⟨y,hy,h1⟩,h2⟩
def Con1.vc (c : Con1) (P : Program) (Γ : Env) (C : Ctl) (fn : Func) (L : List Leaf) (R : List Rw) : Prop:=
 entryK fn (instA c.pat L R 0) (heapA c.pat R 0) (rowsA c.pat) fun s=>cwp P Γ C (fn.body.getD .skip) s (retK P fn fun sv s'=>(c.out L (R.map Rw.L)).mt1 sv s'.heap)
theorem row_view {μ : Mu} {h : Nat -> Option Blk} {w : World} {k : IntKind} {x : SV} {u : Value} {p : Option Prop} {M : List Int} (hm : HeapM μ h w) (hx : x.ok μ u) {bl : Option (Option Blk)} (hbl : bl = none \/ ∃ b,dstN x = [b] /\ bl = some (h b)) (hd : srcL k x bl = some (p,M)) (hp : holds p) :
  ∃ a c b o,u = .slice a M.length c /\ M.length <= c /\ c <= maxLen /\ (0 < c -> a = some ⟨b,o,none⟩) /\ ∀ j,j < M.length -> w.cell? ⟨b,o + j,none⟩ = some (.int k (M.getD j 0)):=by
 have sub : ∀ {b i n c : Nat} {l : Loc} {a : Option Addr} {L : List Int},i + n <= L.length -> (0 < c -> a = some ⟨l.b,l.off + (i * 1 + 0),none⟩) -> n <= c -> c <= maxLen -> (∀ j,j < L.length -> w.cell? ⟨l.b,l.off + j,none⟩ = some (.int k (L.getD j 0))) →
   ∃ a' c' b o,Value.slice a n c = .slice a' ((L.drop i).take n).length c' /\ ((L.drop i).take n).length <= c' /\ c' <= maxLen /\ (0 < c' -> a' = some ⟨b,o,none⟩) /\ ∀ j,j < ((L.drop i).take n).length -> w.cell? ⟨b,o + j,none⟩ = some (.int k (((L.drop i).take n).getD j 0)):=by
  intro b i n c l a L hle ha hnc hcm hcell
  have hlen : ((L.drop i).take n).length = n:=by simp;omega
  refine ⟨a,c,l.b,l.off + i,by rw [hlen],by omega,hcm,fun hc=>by simpa using ha hc,fun j hj=>?_⟩
  have hc:=hcell (i + j) (by omega)
  rw [Nat.add_assoc,hc]
  congr 2
  simp only [List.getD_eq_getElem?_getD]
  rw [List.getElem?_take_of_lt (by omega),List.getElem?_drop]
 unfold srcL at hd
 split at hd
 ·cases hd
  obtain ⟨a,rfl⟩:=hx
  exact ⟨a,0,0,0,rfl,Nat.le_refl _,Nat.zero_le _,fun h=>by omega,fun j hj=>by simp at hj⟩
 ·rename_i b n c q
  split at hd
  ·rename_i k' L'
   split at hd
   ·rename_i hk
    cases hd
    subst hk
    rcases hbl with hbl | ⟨b',hb',hbl⟩
    ·cases hbl
    ·simp [dstN] at hb'
     subst hb'
     have hb : h b = some (.oints k' M):=(Option.some.inj hbl).symm
     obtain ⟨l,a,hl,rfl,_⟩:=hx
     obtain ⟨l',hl',tt,hok⟩:=hm.ok b _ hb
     rw [hl] at hl';cases hl'
     obtain ⟨a',c',e1,e2,e3,e4⟩:=own_vals hok
     refine ⟨a',c',l.b,l.off,e1,e2,e3,fun hc=>(e4 hc).1,fun j hj=>?_⟩
     obtain ⟨_,cur,hcur,hsz,hat⟩:=e4 (by omega)
     simp only [World.cell?,hcur]
     simp only [Option.isSome_none,Bool.false_eq_true,if_false]
     exact hat j hj
   ·cases hd
  ·cases hd
 ·rename_i b i e j n c q
  split at hd
  ·rename_i t cs
   split at hd
   ·rename_i hcond
    simp at hcond
    obtain ⟨rfl,rfl,hle⟩:=hcond
    split at hd
    ·rename_i M' hM
     cases hd
     rcases hbl with hbl | ⟨b',hb',hbl⟩
     ·cases hbl
     ·simp [dstN] at hb'
      subst hb'
      have hb : h b = some (.cells t cs):=(Option.some.inj hbl).symm
      obtain ⟨l,a,hl,rfl,ha,hnc,hcm⟩:=hx
      obtain ⟨l',hl',h0,vs,hv,hall⟩:=hm.ok b _ hb
      rw [hl] at hl';cases hl'
      have hvals:=intsC_ok hM ((hall.drop j).take n)
      have hlen : M.length = n:=by
       have h1:=congrArg List.length hvals
       have h2:=hall.len
       simp [valsI_len] at h1
       omega
      subst hlen
      refine ⟨a,c,l.b,j,rfl,hnc,hcm,fun hc=>by rw [ha hc,h0];simp,fun y hy=>?_⟩
      have:=congrArg (fun l=>l[y]?) hvals
      simp only [valsI_get _ _ _ hy] at this
      rw [List.getElem?_take_of_lt hy,List.getElem?_drop] at this
      simp [World.cell?,hv,this]
    ·cases hd
   ·cases hd
  ·rename_i k' L
   split at hd
   ·rename_i hcond
    obtain ⟨rfl,rfl,rfl⟩:=hcond
    cases hd
    rcases hbl with hbl | ⟨b',hb',hbl⟩
    ·cases hbl
    ·simp [dstN] at hb'
     subst hb'
     have hb : h b = some (.ints k' L):=(Option.some.inj hbl).symm
     obtain ⟨l,a,hl,rfl,ha,hnc,hcm⟩:=hx
     obtain ⟨l',hl',hok⟩:=hm.ok b _ hb
     rw [hl] at hl';cases hl'
     refine sub (b:=b) hp ha hnc hcm fun y hy=>?_
     obtain ⟨_,g⟩:=hok.2 y hy
     obtain ⟨v,hv,hokv⟩:=g 0 _ rfl
     have hv' : w.cell? ⟨l.b,l.off + y,none⟩ = some v:=by simpa using hv
     rw [hv',show v = .int k' (L.getD y 0) from hokv]
   ·cases hd
  ·rename_i k' L
   split at hd
   ·rename_i hcond
    obtain ⟨rfl,rfl,rfl⟩:=hcond
    cases hd
    rcases hbl with hbl | ⟨b',hb',hbl⟩
    ·cases hbl
    ·simp [dstN] at hb'
     subst hb'
     have hb : h b = some (.oints k' L):=(Option.some.inj hbl).symm
     obtain ⟨l,a,hl,rfl,ha,hnc,hcm⟩:=hx
     obtain ⟨l',hl',tt,hok⟩:=hm.ok b _ hb
     rw [hl] at hl';cases hl'
     obtain ⟨a',c',e1,e2,e3,e4⟩:=own_vals hok
     refine sub (b:=b) hp ha hnc hcm fun y hy=>?_
     obtain ⟨_,cur,hcur,hsz,hat⟩:=e4 (by omega)
     simp only [World.cell?,hcur]
     simp only [Option.isSome_none,Bool.false_eq_true,if_false]
     exact hat y hy
   ·cases hd
  ·cases hd
 ·cases hd
theorem allV_ext {μ μ' : Mu} (h : Ext μ μ') : ∀ {xs : List SV} {vs : List Value},AllV μ xs vs -> AllV μ' xs vs
 | [],[],_=>trivial
 | _ :: _,_ :: _,hh=>⟨SV.ok_ext h hh.1,allV_ext h hh.2⟩
 | [],_ :: _,hh=>hh.elim
 | _ :: _,[],hh=>hh.elim
theorem instL_ext {μ : Mu} : ∀ {ks : List LK} {L : List Leaf} {vs : List Value},All2 (SC.ok noMu) (instL ks L) vs -> All2 (SC.ok μ) (instL ks L) vs:=fun h=>h.imp fun _ _=>SC.ok_ext ⟨fun n l hl=>(by cases hl),fun _ _ _ h=>(by cases h)⟩
theorem matchA_ok {μ : Mu} {h : Nat -> Option Blk} {w : World} (hm : HeapM μ h w) : ∀ {ps : List PA} {xs : List SV} {bl : List (Option Blk)} {m : Mt} {vs : List Value} (i : Nat),bl = (rowNames ps xs).map h -> matchA ps xs bl = some m -> AllV μ xs vs -> allP m.p →
  fits (kindsA ps) m.L = true /\ ∃ (R : List Rw) (ν : Mu),R.map Rw.L = m.R /\ R.length = rowsA ps /\ (∀ r ∈ R,r.L.length <= r.c /\ r.c <= maxLen) /\ ((∀ n l,ν n = some l -> i <= n /\ n < i + rowsA ps) /\ ∀ x o,ν.sig x o = none) /\ AllV ν (instA ps m.L R i) vs /\ ∀ n b,heapA ps R i n = some b -> ∃ k r,b = .ints k r /\ ∃ l,ν n = some l /\ viewOk ν w l 1 r.length (intsF k r)
 | [],[],bl,m,[],i,_,hh,_,_=>by
  simp only [matchA] at hh
  cases hh
  exact ⟨rfl,[],noMu,rfl,rfl,fun r hr=>(by cases hr),⟨fun n l h=>(by cases h),fun _ _=>rfl⟩,trivial,fun n b h=>(by simp [heapA] at h)⟩
 | .v k :: ps,.s (.c c) :: xs,bl,m,v :: vs,i,hb,hh,ha,hp=>by
  simp only [matchA] at hh
  split at hh
  ·rename_i l m' h1 h2
   cases hh
   obtain ⟨g1,g2⟩:=matchC_ok h1 ha.1
   obtain ⟨g3,R,ν,g4,gl,gc,g5,g6,g7⟩:=matchA_ok hm i (by simpa [rowNames] using hb) h2 ha.2 hp
   exact ⟨by simp [kindsA,fits,g2,g3],R,ν,g4,by simpa [rowsA] using gl,gc,by simpa [rowsA] using g5,⟨SC.ok_ext ⟨fun n l hl=>(by cases hl),fun _ _ _ h=>(by cases h)⟩ g1,g6⟩,by simpa [heapA] using g7⟩
  ·cases hh
 | .a ks :: ps,.s (.a cs) :: xs,bl,m,v :: vs,i,hb,hh,ha,hp=>by
  simp only [matchA] at hh
  split at hh
  ·rename_i l m' h1 h2
   cases hh
   obtain ⟨us,rfl,hu⟩:=ha.1
   obtain ⟨g1,g2,g8⟩:=matchL_ok h1 hu
   obtain ⟨g3,R,ν,g4,gl,gc,g5,g6,g7⟩:=matchA_ok hm i (by simpa [rowNames] using hb) h2 ha.2 hp
   refine ⟨fits_append g2 g3,R,ν,g4,by simpa [rowsA] using gl,gc,by simpa [rowsA] using g5,⟨⟨us,rfl,instL_ext (g1 m'.L)⟩, ?_⟩,by simpa [heapA] using g7⟩
   simp only []
   rw [← g8,List.drop_left]
   exact g6
  ·cases hh
 | .r k :: ps,x :: xs,bl,m,v :: vs,i,hb,hh,ha,hp=>by
  have fin : ∀ (p : Option Prop) (M : List Int) (m' : Mt) (bl' : List (Option Blk)) (bb : Option (Option Blk)),bl' = (rowNames ps xs).map h -> (bb = none \/ ∃ b,dstN x = [b] /\ bb = some (h b)) -> srcL k x bb = some (p,M) -> matchA ps xs bl' = some m' -> allP (addP p m'.p) →
    fits (kindsA (.r k :: ps)) m'.L = true /\ ∃ (R : List Rw) (ν : Mu),R.map Rw.L = M :: m'.R /\ R.length = rowsA (.r k :: ps) /\ (∀ r ∈ R,r.L.length <= r.c /\ r.c <= maxLen) /\ ((∀ n l,ν n = some l -> i <= n /\ n < i + rowsA (.r k :: ps)) /\ ∀ x o,ν.sig x o = none) /\ AllV ν (instA (.r k :: ps) m'.L R i) (v :: vs) /\ ∀ n b,heapA (.r k :: ps) R i n = some b -> ∃ k r,b = .ints k r /\ ∃ l,ν n = some l /\ viewOk ν w l 1 r.length (intsF k r):=by
   intro p M m' bl' bb hb' hbb h1 h2 hp'
   have hpp : holds p /\ allP m'.p:=by
    cases p with
    | none=>exact ⟨trivial,hp'⟩
    | some p=>exact hp'
   obtain ⟨a,c,b,o,rfl,e1,e2,e3,e4⟩:=row_view hm ha.1 hbb h1 hpp.1
   obtain ⟨g3,R,ν,g4,gl,gc,g5,g6,g7⟩:=matchA_ok hm (i + 1) hb' h2 ha.2 hpp.2
   let ν' : Mu:={ ν with loc:=fun n=>if n = i then some ⟨b,o,undef⟩ else ν n }
   have hnone : ν i = none:=by
    cases hx : ν i with
    | none=>rfl
    | some l=>have:=(g5.1 i l hx).1;omega
   have hext : Ext ν ν':=by
    refine ⟨fun n l hl=>?_,fun _ _ _ h=>h⟩
    by_cases hn : n = i
    ·subst hn;rw [hnone] at hl;cases hl
    ·simp [ν',hn,hl]
   refine ⟨g3,⟨M,c⟩ :: R,ν',by simp [g4],by simp [rowsA,gl],fun r hr=>?_,⟨fun n l hl=>?_,g5.2⟩,⟨⟨⟨b,o,undef⟩,a,by simp [ν'],rfl,fun hc=>by simpa using e3 hc,e1,e2⟩, ?_⟩,fun n bk hbk=>?_⟩
   ·rcases List.mem_cons.1 hr with rfl | hr
    ·exact ⟨e1,e2⟩
    ·exact gc r hr
   ·by_cases hn : n = i
    ·subst hn;simp [rowsA]
    ·have:=g5.1 n l (by simpa [ν',hn] using hl)
     simp only [rowsA]
     omega
   ·exact allV_ext hext g6
   ·by_cases hn : n = i
    ·subst hn
     simp [heapA,upd] at hbk
     subst hbk
     refine ⟨k,M,rfl,⟨b,o,undef⟩,by simp [ν'],fun hn=>World.block_lt_of_cell? w _ (e4 0 hn),fun y hy=>⟨rfl,fun j c hc=>?_⟩⟩
     match j,hc with
     | 0,hc=>
      simp [intsF] at hc
      subst hc
      exact ⟨_,by simpa using e4 y hy,by simp [SC.ok,List.getD_eq_getElem?_getD]⟩
     | j + 1,hc=>simp [intsF] at hc
    ·simp [heapA,upd,hn] at hbk
     obtain ⟨k2,r2,rfl,l,hl,hv⟩:=g7 n bk hbk
     exact ⟨k2,r2,rfl,l,hext _ _ hl,hv.ext hext⟩
  simp only [matchA] at hh
  split at hh
  ·rename_i hd
   split at hh
   ·rename_i p M m' h1 h2
    cases hh
    exact fin p M m' bl none (by simpa [rowNames,hd] using hb) (.inl rfl) h1 h2 hp
   ·cases hh
  ·rename_i b hd
   split at hh
   ·rename_i b' bl'
    simp [rowNames,hd] at hb
    obtain ⟨rfl,hb⟩:=hb
    split at hh
    ·rename_i p M m' h1 h2
     cases hh
     exact fin p M m' bl' _ hb (.inr ⟨b,hd,rfl⟩) h1 h2 hp
    ·cases hh
   ·cases hh
  ·cases hh
 | [],[],_,_,_ :: _,_,_,_,ha,_=>ha.elim
 | [],_ :: _,_,_,_,_,_,hh,_,_=>by simp [matchA] at hh
 | .v _ :: _,[],_,_,_,_,_,hh,_,_=>by simp [matchA] at hh
 | .a _ :: _,[],_,_,_,_,_,hh,_,_=>by simp [matchA] at hh
 | .r _ :: _,[],_,_,_,_,_,hh,_,_=>by simp [matchA] at hh
 | .v _ :: _,.s (.a _) :: _,_,_,_,_,_,hh,_,_=>by simp [matchA] at hh
 | .v _ :: _,.t _ :: _,_,_,_,_,_,hh,_,_=>by simp [matchA] at hh
 | .v _ :: _,.u :: _,_,_,_,_,_,hh,_,_=>by simp [matchA] at hh
 | .a _ :: _,.s (.c _) :: _,_,_,_,_,_,hh,_,_=>by simp [matchA] at hh
 | .a _ :: _,.t _ :: _,_,_,_,_,_,hh,_,_=>by simp [matchA] at hh
 | .a _ :: _,.u :: _,_,_,_,_,_,hh,_,_=>by simp [matchA] at hh
 | _ :: _,_ :: _,_,_,[],_,_,_,ha,_=>ha.elim
def RowsNew (μ : Mu) (h : Nat -> Option Blk) (w : World) (seen : List Nat) (ls : List Loc) (bs : List Blk) : Prop:=
 ∀ (i : Nat) (b : Blk) (l : Loc),bs[i]? = some b -> ls[i]? = some l -> (∀ ν : Mu,b.ok ν w l) /\ ∀ x,b.uses w l x -> ∃ n bk m,n ∉ seen /\ h n = some bk /\ μ n = some m /\ bk.excl w m x
def RowsApart (w : World) (ls : List Loc) (bs : List Blk) : Prop:=
 ∀ (i i' : Nat) (b b' : Blk) (l l' : Loc) (x : Nat),i ≠ i' -> bs[i]? = some b -> bs[i']? = some b' -> ls[i]? = some l -> ls[i']? = some l' -> b.uses w l x -> ¬b'.uses w l' x
theorem allS_len {R : S1 -> Value -> Prop} : ∀ {xs : List S1} {vs : List Value},AllS R xs vs -> xs.length = vs.length
 | [],[],_=>rfl
 | _ :: _,_ :: _,h=>by simp [allS_len h.2]
 | [],_ :: _,h=>h.elim
 | _ :: _,[],h=>h.elim
theorem mkGo_ok {μ : Mu} {h : Nat -> Option Blk} {w : World} (hm : HeapM μ h w) (base : Nat) : ∀ {xs : List S1} {rs : List RC} {vs : List Value} {seen : List Nat} {j : Nat} {k : List S1 -> List Blk -> Out Res} {K : Res -> Prop},mR h seen xs rs -> AllS (S1.ok μ) xs vs -> (mkGo base j rs k).wp K →
  ∃ (ls : List Loc) (ys : List S1) (bs : List Blk),(k ys bs).wp K /\ ls.length = bs.length /\ bs.length = rowsN rs /\ (∀ ν : Mu,(∀ i l,ls[i]? = some l -> ν (base + (j + i)) = some l) -> AllS (S1.ok ν) ys vs) ∧
   RowsNew μ h w seen ls bs /\ RowsApart w ls bs
 | [],[],[],seen,j,k,K,_,_,hk=>⟨[],[],[],hk,rfl,rfl,fun _ _=>trivial,fun i b l h=>(by simp at h),fun i i' b b' l l' x _ h=>(by simp at h)⟩
 | x :: xs,.c y :: rs,v :: vs,seen,j,k,K,hr,ha,hk=>by
  obtain ⟨ls,ys,bs,g1,g2,g3,g4,g5,g6⟩:=mkGo_ok hm base (xs:=xs) hr.2 ha.2 hk
  refine ⟨ls,y :: ys,bs,g1,g2,g3,fun ν hν=>⟨?_,g4 ν hν⟩,g5,g6⟩
  have:=leS1_ok0 hr.1 ha.1
  exact ok_noMu (x:=.s y) this
 | x :: xs,.r q L :: rs,v :: vs,seen,j,k,K,hr,ha,hk=>by
  have key : ∀ (names : List Nat) (seen' : List Nat),DstOk μ h w q names v L -> mR h seen' xs rs -> (∀ n,n ∈ names -> n ∉ seen /\ n ∈ seen') -> (∀ n,n ∉ seen' -> n ∉ seen) -> ∃ (ls : List Loc) (ys : List S1) (bs : List Blk),(k ys bs).wp K /\ ls.length = bs.length /\ bs.length = rowsN (.r q L :: rs) /\ (∀ ν : Mu,(∀ i l,ls[i]? = some l -> ν (base + (j + i)) = some l) -> AllS (S1.ok ν) ys (v :: vs)) ∧
   RowsNew μ h w seen ls bs /\ RowsApart w ls bs:=fun names seen' hd hr' hn1 hn2=>by
   obtain ⟨l,c,e1,e2,e3,e4,e5,e6,e7⟩:=row_new (ν:=noMu) hd
   obtain ⟨ls,ys,bs,g1,g2,g3,g4,g5,g6⟩:=mkGo_ok hm base (xs:=xs) hr' ha.2 (hk c e3)
   have hq : ∀ ν : Mu,(Blk.oints q L).ok ν w l:=fun ν=>by
    obtain ⟨l2,c2,f1,f2,f3,f4,f5,f6,f7⟩:=row_new (ν:=ν) hd
    exact Blk.ok_ext ⟨fun n l hl=>(by cases hl),fun _ _ _ h=>(by cases h)⟩ e6
   have hu : ∀ x,(Blk.oints q L).uses w l x -> ∃ n bk m,n ∉ seen /\ n ∈ seen' /\ h n = some bk /\ μ n = some m /\ bk.excl w m x:=fun x hx=>by
    obtain ⟨b,bk,m,a1,a2,a3,a4⟩:=e7 x hx
    obtain ⟨b1,b2⟩:=hn1 b (by rw [a1];simp)
    exact ⟨b,bk,m,b1,b2,a2,a3,a4⟩
   have apart : ∀ (i : Nat) (b' : Blk) (l' : Loc) (x : Nat),bs[i]? = some b' -> ls[i]? = some l' -> (Blk.oints q L).uses w l x -> ¬b'.uses w l' x:=fun i b' l' x hb hl hx hx'=>by
    obtain ⟨n,bk,m,a1,a2,a3,a4,a5⟩:=hu x hx
    obtain ⟨n',bk',m',c1,c2,c3,c4⟩:=(g5 i b' l' hb hl).2 x hx'
    exact hm.apart n n' bk bk' m m' x (fun e=>c1 (e ▸ a2)) a3 c2 a4 c3 a5 (Blk.uses_of_excl c4)
   refine ⟨l :: ls,_ :: ys,_ :: bs,g1,by simp [g2],by simp [rowsN,g3],fun ν hν=>⟨⟨l,(match l.hd with | .slice a _ _=>a | _=>none), ?_,e1,e2,e5,e3,e4⟩,g4 ν fun i l' hl'=>?_⟩,fun i b l' hb hl=>?_,fun i i' b b' l1 l2 x hne hb hb' hl hl' hx=>?_⟩
   ·simpa using hν 0 l rfl
   ·have:=hν (i + 1) l' (by simpa using hl')
    rw [← this]
    congr 1
    omega
   ·match i,hb,hl with
    | 0,hb,hl=>
     simp at hb hl
     subst hb;subst hl
     exact ⟨hq,fun x hx=>by obtain ⟨n,bk,m,a1,_,a3,a4,a5⟩:=hu x hx;exact ⟨n,bk,m,a1,a3,a4,a5⟩⟩
    | i + 1,hb,hl=>
     obtain ⟨h1,h2⟩:=g5 i b l' (by simpa using hb) (by simpa using hl)
     exact ⟨h1,fun x hx=>by obtain ⟨n,bk,m,a1,a3⟩:=h2 x hx;exact ⟨n,bk,m,hn2 n a1,a3⟩⟩
   ·match i,i',hb,hb',hl,hl' with
    | 0,0,_,_,_,_=>exact absurd rfl hne
    | 0,i' + 1,hb,hb',hl,hl'=>
     simp at hb hl
     subst hb;subst hl
     exact apart i' b' l2 x (by simpa using hb') (by simpa using hl') hx
    | i + 1,0,hb,hb',hl,hl'=>
     simp at hb' hl'
     subst hb';subst hl'
     exact fun hx'=>apart i b l1 x (by simpa using hb) (by simpa using hl) hx' hx
    | i + 1,i' + 1,hb,hb',hl,hl'=>exact g6 i i' b b' l1 l2 x (fun e=>hne (by rw [e])) (by simpa using hb) (by simpa using hb') (by simpa using hl) (by simpa using hl') hx
  simp only [mR] at hr
  split at hr
  ·rename_i hn
   split at hr
   ·rename_i L' hL
    obtain ⟨rfl,hr⟩:=hr
    have hd:=dst_ok (x:=.s x) hm ha.1 (.inl rfl) hL
    rw [hn] at hd
    exact key [] seen hd hr (fun n h=>by cases h) (fun n h=>h)
   ·exact hr.elim
  ·rename_i b bs hn
   split at hr
   ·exact hr.elim
   ·rename_i hseen
    split at hr
    ·rename_i L' hL
     obtain ⟨rfl,hr⟩:=hr
     have hone : dstN (.s x) = [b]:=by
      cases x with
      | c y=>cases y <;> simp [dstN] at hn ⊢ <;> exact hn.1
      | a cs=>simp [dstN] at hn
     have hd:=dst_ok (x:=.s x) hm ha.1 (.inr ⟨b,hone,rfl⟩) hL
     rw [hone] at hd
     refine key [b] (b :: seen) hd hr (fun n h=>?_) (fun n h hs=>h (List.mem_cons_of_mem _ hs))
     simp at h
     subst h
     exact ⟨by simpa using hseen,by simp⟩
    ·exact hr.elim
 | [],[],_ :: _,_,_,_,_,_,ha,_=>ha.elim
 | _ :: _,_ :: _,[],_,_,_,_,_,ha,_=>ha.elim
 | [],_ :: _,_,_,_,_,_,hr,_,_=>by simp [mR] at hr
 | _ :: _,[],_,_,_,_,_,hr,_,_=>by simp [mR] at hr
theorem Con1.ok {P : Program} {Γ : Env} (hΓ : EnvOk P Γ) (hmix : P.follows .mixedOrders = true) {C : Ctl} {f : FuncId} {fn : Func} (hf : P.funcs[f]? = some fn) (hb : fn.body.isSome = true) (c : Con1)
  (hvc : ∀ L R,fits (kindsA c.pat) L = true -> R.length = rowsA c.pat -> (∀ r ∈ R,r.L.length <= r.c /\ r.c <= maxLen) -> preP1 c.pre L (R.map Rw.L) -> c.vc P Γ C fn L R) : SpecOk P f c.spec:=by
 intro μ hh w base args vals hm ha hfr K hk
 have hb' : fn.body = some (fn.body.getD .skip):=by
  cases hx : fn.body with
  | none=>rw [hx] at hb;cases hb
  | some c=>rfl
 have hk':=hk
 simp only [Con1.spec,Req.pre,List.append_nil] at hk'
 split at hk'
 ·rename_i m hmt
  obtain ⟨hps,hk1⟩:=astL_ok hk'
  obtain ⟨hpre,hk2⟩:=preO1_ok hk1
  obtain ⟨g1,R,ν,g2,g3,g4,g5,g6,g7⟩:=matchA_ok hm 0 rfl hmt ha hps
  rw [← g2] at hpre hk2
  have hM : HeapM ν (heapA c.pat R 0) w:=⟨fun n b hb=>by obtain ⟨k,r,rfl,l,hl,hv⟩:=g7 n b hb;exact ⟨l,hl,hv⟩,fun n m b c' l k x _ hb _ _ _ hx=>(by obtain ⟨k,r,rfl,l,hl,hv⟩:=g7 n b hb;cases hx),fun x o c h=>(by rw [g5.2] at h;cases h),fun _ _ _ x o _ _ _=>g5.2 x o⟩
  have hdom : Dom ν (rowsA c.pat):=fun n l hl=>by have:=(g5.1 n l hl).2;omega
  refine (fn_sound hΓ hmix C hf hb' (I:=fun _=>False) g6 hM hdom (fun n b l x hb hl hx=>by obtain ⟨k,r,rfl,_⟩:=g7 n b hb;cases hx) (fun x o c h=>by rw [g5.2] at h;cases h) (hvc m.L R g1 g3 g4 hpre)).mono fun e w' he=>?_
  obtain ⟨v,sv,μ',s,a,rfl,hmod,hok,hmt1⟩:=he
  obtain ⟨rs,h1,h2⟩:=Out.mt1_posts hmt1
  have hk3:=Out.wp_posts (Out.wp_bind.1 hk2) rs h1
  unfold mkRes at hk3
  split at hk3
  ·rename_i hle
   unfold mR0 at h2
   split at h2
   ·rename_i xs hxs
    have hvs : ∃ vs,AllS (S1.ok μ') xs vs /\ ∀ (ν : Mu) (ys : List S1),ys.length = xs.length -> AllS (S1.ok ν) ys vs -> (resV ys).ok ν v:=by
     unfold svL at hxs
     split at hxs
     ·cases hxs
      exact ⟨[v],⟨hok,trivial⟩,fun ν ys hl hy=>by match ys,hl,hy with | [y],_,hy=>exact hy.1⟩
     ·cases hxs
     ·rename_i ts hne
      cases hxs
      obtain ⟨us,rfl,hu⟩:=hok
      refine ⟨us,hu,fun ν ys hl hy=>?_⟩
      match ys,hl,hy with
      | [],hl,hy=>exact ⟨us,rfl,hy⟩
      | [y],hl,hy=>
       obtain ⟨t,rfl⟩:=List.length_eq_one_iff.1 hl.symm
       exact (hne t rfl).elim
      | y :: z :: ys,hl,hy=>exact ⟨us,rfl,hy⟩
     ·cases hxs
    obtain ⟨vs,hvs,hval⟩:=hvs
    obtain ⟨ls,ys,bs,q1,q2,q3,q4,q5,q6⟩:=mkGo_ok hmod.hm base h2 hvs hk3
    have hl4 : ls.length <= 4:=by omega
    let μc : Mu:={ μ with loc:=fun n=>if base <= n /\ n < base + ls.length then ls[n - base]? else μ n }
    have hin : ∀ n,base <= n /\ n < base + ls.length -> n ∈ freshN base:=fun n hn=>by simp [freshN];omega
    have hat : ∀ (j : Nat) (l : Loc),ls[j]? = some l -> μc (base + j) = some l:=fun j l hl=>by
     have hj : j < ls.length:=(List.getElem?_eq_some_iff.1 hl).1
     have e : base + j - base = j:=by omega
     simp only [μc]
     rw [if_pos (by omega),e,hl]
    have hback : ∀ (j : Nat) (l : Loc),j < ls.length -> μc (base + j) = some l -> ls[j]? = some l:=fun j l hj hl=>by
     have e : base + j - base = j:=by omega
     simp only [μc] at hl
     rw [if_pos (by omega),e] at hl
     exact hl
    have hall : AllS (S1.ok μc) ys vs:=q4 μc fun i l hl=>by rw [Nat.zero_add];exact hat i l hl
    have hys : ys.length = xs.length:=by rw [allS_len hall,allS_len hvs]
    refine ⟨v,μc,⟨resV ys,[],bs⟩,rfl,q1,Eff0.eff hm { ext:=⟨fun n l hl=>?_,fun _ _ _ h=>h⟩,dom:=fun n l hl=>?_,val:=hval μc ys hys hall,os:=hmod.fr.os,tape:=hmod.fr.tape,output:=hmod.fr.output,size:=hmod.fr.size,keep:=fun x hx _=>hmod.fr.block x hx fun h=>h,wrs:=List.nodup_nil,wsl:=rfl,nsl:=(by simp only [];omega),olds:=fun j n b' h=>(by simp [Con1.spec] at h),news:=fun j b hj=>?_,newsApart:=fun j k b c l m x hne hj hk' hl hm' hx=>?_ }⟩
    ·simp only [μc]
     by_cases hn : base <= n /\ n < base + ls.length
     ·rw [hfr n (hin n hn)] at hl;cases hl
     ·rw [if_neg hn];exact hl
    ·simp only [μc] at hl
     by_cases hn : base <= n /\ n < base + ls.length
     ·exact .inr (hin n hn)
     ·rw [if_neg hn] at hl;exact .inl hl
    ·have hjl : j < ls.length:=by
      have h0 : j < bs.length:=by simpa using (List.getElem?_eq_some_iff.1 hj).1
      omega
     obtain ⟨l,hl⟩ : ∃ l,ls[j]? = some l:=⟨_,List.getElem?_eq_getElem hjl⟩
     obtain ⟨k1,k2⟩:=q5 j b l hj hl
     refine ⟨l,hat j l hl,k1 μc,fun x hx=>?_⟩
     obtain ⟨n,bk,m',_,a2,a3,a4⟩:=k2 x hx
     rcases hmod.mine n bk m' x a2 a3 a4 with hI | hge
     ·exact hI.elim
     ·exact .inl hge
    ·have hjl : j < ls.length:=by
      have h0 : j < bs.length:=by simpa using (List.getElem?_eq_some_iff.1 hj).1
      omega
     have hkl : k < ls.length:=by
      have h0 : k < bs.length:=by simpa using (List.getElem?_eq_some_iff.1 hk').1
      omega
     exact q6 j k b c l m x hne hj hk' (hback j l hjl hl) (hback k m hkl hm') (Blk.uses_of_excl hx)
   ·exact h2.elim
  ·exact hk3.elim
 ·exact hk'.elim
end
end Zx
namespace Vx
noncomputable section
open Go Zx Zx.Zr Go.RowKit
def fitDC : LK -> DC -> Bool
 | .i k,.num k' _=>decide (k = k')
 | .i k,.int k' _=>decide (k = k')
 | .b,.tru _=>true
 | .b,.boo _ _=>true
 | _,_=>false
def leafD (ρ : Vl) : DC -> Leaf
 | .num _ n=>.I n
 | .int _ e=>.I (e.den ρ.i)
 | .tru b=>.B b
 | .boo p v=>.B (p == decide (ρ.i v = 1))
 | _=>.I 0
def fitDL : List LK -> List DC -> Bool
 | [],[]=>true
 | k :: ks,x :: xs=>fitDC k x && fitDL ks xs
 | _,_=>false
theorem fitDC_ok {k : LK} {x : DC} (h : fitDC k x = true) {ρ : Vl} {μ : Mu} {v : Value} (hv : (x.den ρ).ok μ v) : (instC k (leafD ρ x)).ok noMu v /\ fitC k (leafD ρ x) = true /\ matchC k (instC k (leafD ρ x)) = some (leafD ρ x):=by
 cases k <;> cases x <;> first
  | (simp only [fitDC,decide_eq_true_eq] at h;subst h;exact ⟨hv,rfl,by simp [leafD,instC,matchC]⟩)
  | exact ⟨hv,rfl,rfl⟩
  | (simp only [fitDC] at h;cases h)
theorem fitDL_ok {ρ : Vl} {μ : Mu} : ∀ {ks : List LK} {xs : List DC} {vs : List Value},fitDL ks xs = true -> All2 (SC.ok μ) (xs.map (DC.den ρ)) vs →
  (∀ M,All2 (SC.ok noMu) (instL ks (xs.map (leafD ρ) ++ M)) vs) /\ (∀ M,matchL ks (instL ks (xs.map (leafD ρ) ++ M)) = some (xs.map (leafD ρ))) /\ xs.length = ks.length /\ ∀ (ks' : List LK) (M : List Leaf),fits ks' M = true -> fits (ks ++ ks') (xs.map (leafD ρ) ++ M) = true
 | [],[],[],_,_=>⟨fun M=>by simp [instL,All2],fun M=>by simp [instL,matchL],rfl,fun ks' M h=>by simpa using h⟩
 | k :: ks,x :: xs,v :: vs,h,hv=>by
  simp only [fitDL,Bool.and_eq_true] at h
  obtain ⟨a1,a2,a3⟩:=fitDC_ok h.1 hv.1
  obtain ⟨b1,b2,b3,b4⟩:=fitDL_ok h.2 hv.2
  refine ⟨fun M=>⟨a1,b1 M⟩,fun M=>?_,by simp [b3],fun ks' M hm=>?_⟩
  ·simp only [List.map_cons,List.cons_append,instL,matchL,a3,b2 M]
  ·simp only [List.map_cons,List.cons_append,fits,a2,b4 ks' M hm,Bool.and_self]
 | [],[],_ :: _,_,h=>h.elim
 | [],_ :: _,_,h,_=>by cases h
 | _ :: _,[],_,h,_=>by cases h
 | _ :: _,_ :: _,[],_,h=>h.elim
def leaves1 (ρ : Vl) : List D1 -> List Leaf
 | []=>[]
 | .c x :: xs=>leafD ρ x :: leaves1 ρ xs
 | .a cs :: xs=>cs.map (leafD ρ) ++ leaves1 ρ xs
def fitP : List PV -> List D1 -> Bool
 | [],[]=>true
 | .c k :: ps,.c x :: xs=>fitDC k x && fitP ps xs
 | .a ks :: ps,.a cs :: xs=>fitDL ks cs && fitP ps xs
 | _,_=>false
def AllD1 (ρ : Vl) (μ : Mu) : List D1 -> List Value -> Prop
 | [],[]=>True
 | x :: xs,v :: vs=>(x.den ρ).ok μ v /\ AllD1 ρ μ xs vs
 | _,_=>False
theorem fitP_ok {ρ : Vl} {μ : Mu} : ∀ {ps : List PV} {xs : List D1} {vs : List Value},fitP ps xs = true -> AllD1 ρ μ xs vs →
  AllV noMu (instVs ps (leaves1 ρ xs)) vs /\ matchV ps (instVs ps (leaves1 ρ xs)) = some (leaves1 ρ xs) /\ fits (kinds ps) (leaves1 ρ xs) = true
 | [],[],[],_,_=>⟨trivial,rfl,rfl⟩
 | [],[],_ :: _,_,h=>h.elim
 | .c k :: ps,.c x :: xs,v :: vs,h,hv=>by
  simp only [fitP,Bool.and_eq_true] at h
  obtain ⟨a1,a2,a3⟩:=fitDC_ok h.1 (show (x.den ρ).ok μ v from hv.1)
  obtain ⟨b1,b2,b3⟩:=fitP_ok h.2 hv.2
  refine ⟨⟨a1,b1⟩, ?_, ?_⟩
  ·simp only [leaves1,instVs,matchV,one,a3,b2]
  ·simp only [leaves1,kinds,fits,a2,b3,Bool.and_self]
 | .a ks :: ps,.a cs :: xs,v :: vs,h,hv=>by
  simp only [fitP,Bool.and_eq_true] at h
  obtain ⟨us,hu,hall⟩:=hv.1
  obtain ⟨a1,a2,a3,a4⟩:=fitDL_ok h.1 hall
  obtain ⟨b1,b2,b3⟩:=fitP_ok h.2 hv.2
  have hd : (cs.map (leafD ρ) ++ leaves1 ρ xs).drop ks.length = leaves1 ρ xs:=by
   rw [List.drop_append_of_le_length (by simp [a3]),List.drop_of_length_le (by simp [a3])];rfl
  refine ⟨?_, ?_, ?_⟩
  ·simp only [leaves1,instVs,hd]
   exact ⟨⟨us,hu,a1 _⟩,b1⟩
  ·simp only [leaves1,instVs,matchV,hd,a2,b2]
  ·simp only [leaves1,kinds]
   exact a4 _ _ b3
 | [],_ :: _,_,h,_=>by cases h
 | .c _ :: _,[],_,h,_=>by cases h
 | .a _ :: _,[],_,h,_=>by cases h
 | .c _ :: _,.a _ :: _,_,h,_=>by cases h
 | .a _ :: _,.c _ :: _,_,h,_=>by cases h
 | .c _ :: _,.c _ :: _,[],_,h=>h.elim
 | .a _ :: _,.a _ :: _,[],_,h=>h.elim
def argD : Nat -> List (Nat × DV) -> Option (List D1)
 | _,[]=>some []
 | i,p :: ps=>match Nat.beq p.1 i,p.2,argD (i + 1) ps with
  | true,.s x,some xs=>some (x :: xs)
  | _,_,_=>none
theorem argD_ok {ρ : Vl} {μ : Mu} {vs : List Value} : ∀ {ps : List (Nat × DV)} {i : Nat} {xs : List D1},argD i ps = some xs -> (∀ p ∈ ps,∃ v,vs[p.1]? = some v /\ (p.2.den ρ).ok μ v) -> vs.length = i + ps.length -> AllD1 ρ μ xs (vs.drop i)
 | [],i,xs,h,_,hl=>by
  cases h
  rw [List.drop_of_length_le (by simp at hl;omega)];trivial
 | p :: ps,i,xs,h,hp,hl=>by
  simp only [argD] at h
  split at h
  ·rename_i x ys hb hx hy
   cases h
   have e:=Nat.eq_of_beq_eq_true hb
   obtain ⟨v,hv,hok⟩:=hp p (by simp)
   rw [hx] at hok
   rw [e] at hv
   have:=argD_ok hy (fun q hq=>hp q (by simp [hq])) (by simp at hl;omega)
   have hlt:=(List.getElem?_eq_some_iff.1 hv).1
   rw [List.drop_eq_getElem_cons hlt]
   rw [List.getElem?_eq_getElem hlt] at hv
   cases hv
   exact ⟨hok,this⟩
  ·cases h
theorem below_zone {sg : Sig} {w w' : World} (hz : ZoneOk sg w) (hb : Below w.heap.size w w') : ZoneOk sg w':=fun b o c h=>by
 obtain ⟨cur,t,v,h1,h2,h3⟩:=hz b o c h
 exact ⟨cur,t,v,by rw [hb.block b (heap_lt h1)];exact h1,h2,h3⟩
theorem below_frm {sg : Sig} {w w' : World} {W : Wt} {ow : Nat -> Prop} (hb : Below w.heap.size w w') : Frm ⟨w,sg,W,ow⟩ sg w':=⟨hb.size,hb.os,hb.tape,hb.output,fun _ _ _=>rfl,fun b h=>.inl (hb.block b h)⟩
theorem TCok.vals {P : Program} {f : FuncId} {tc : TC} {xs : List D1} (hcall : Callable P f) (hwf : tc.wf = true) (hx : argD 0 tc.pre.P = some xs) (hk : tc.pre.P.length = tc.k) (hs : (tc.pre.F.all fun f=>f.xs.all scalD) = true)
  (h : ∀ (ρ : Vl) (vs : List Value) (w : World),Sat ρ.i tc.pre.C -> (∀ f ∈ tc.pre.F,atomV f.id (f.xs.map (valD ρ))) -> (∃ μ : Mu,AllD1 ρ μ xs vs) -> Calls P f vs.toArray w fun e w'=>∃ v,e = .returned v /\ Below w.heap.size w w' ∧
   ∃ sh ∈ tc.post,∃ ρ',Agr tc.pre.n ρ ρ' /\ Sat ρ'.i sh.C /\ (∀ f ∈ sh.F,f.den ρ') /\ (∀ p ∈ sh.P,p.1 = 0 /\ (p.2.den ρ').ok noMu v) /\ sh.M = [] /\ sh.G = [] /\ ∀ p ∈ sh.adr,p.2 = 0 /\ (ρ'.a p.1).1 < (w'.heap.size : Int)) : TCok P f tc:=by
 refine ⟨hcall,hwf,fun sg w ρ vs hz hlen hpre=>?_⟩
 have hA:=argD_ok hx hpre.P (by rw [hlen,hk];simp)
 rw [List.drop_zero] at hA
 refine (h ρ vs w hpre.C (fun f hf=>scal_F (List.all_eq_true.1 hs f hf) (hpre.F f hf)) ⟨_,hA⟩).mono fun e w' he=>?_
 obtain ⟨v,rfl,hb,sh,h1,ρ',h2,h3,h4,h5,h6,h7,h8⟩:=he
 refine ⟨v,rfl,sg,Grows.refl _,below_zone hz hb,below_frm hb,sh,h1,ρ',h2,⟨h3,fun p hp=>?_,(fun m hm=>by rw [h6] at hm;cases hm),fun p hp=>?_,fun p hp hq h0=>?_,h4,(fun m hm=>by rw [h7] at hm;cases hm)⟩⟩
 ·obtain ⟨e1,e2⟩:=h5 p hp
  refine ⟨v,by rw [e1];rfl,ok_noMu e2⟩
 ·exact (h8 p hp).2
 ·have:=(h8 p hp).1
  omega
def plainC : SC -> Bool
 | .num _ _=>true
 | .int _ _=>true
 | .tru _=>true
 | .boo _=>true
 | _=>false
def plain1S : S1 -> Bool
 | .c x=>plainC x
 | .a xs=>xs.all plainC
def plainV : SV -> Bool
 | .s x=>plain1S x
 | .t xs=>xs.all plain1S
 | .u=>false
theorem plainC_ok {x : SC} (h : plainC x = true) {μ μ' : Mu} {v : Value} (hv : x.ok μ v) : x.ok μ' v:=by
 cases x <;> first | exact hv | cases h
theorem plainL_ok {μ μ' : Mu} : ∀ {xs : List SC} {vs : List Value},xs.all plainC = true -> All2 (SC.ok μ) xs vs -> All2 (SC.ok μ') xs vs
 | [],[],_,_=>trivial
 | [],_ :: _,_,h=>h.elim
 | _ :: _,[],_,h=>h.elim
 | x :: xs,v :: vs,h,hv=>by
  simp only [List.all_cons,Bool.and_eq_true] at h
  exact ⟨plainC_ok h.1 hv.1,plainL_ok h.2 hv.2⟩
theorem plain1_ok {x : S1} (h : plain1S x = true) {μ μ' : Mu} {v : Value} (hv : x.ok μ v) : x.ok μ' v:=by
 cases x with
 | c x=>exact plainC_ok (x:=x) h hv
 | a xs=>obtain ⟨us,h1,h2⟩:=hv;exact ⟨us,h1,plainL_ok h h2⟩
theorem plainT_ok {μ μ' : Mu} : ∀ {xs : List S1} {vs : List Value},xs.all plain1S = true -> AllS (S1.ok μ) xs vs -> AllS (S1.ok μ') xs vs
 | [],[],_,_=>trivial
 | [],_ :: _,_,h=>h.elim
 | _ :: _,[],_,h=>h.elim
 | x :: xs,v :: vs,h,hv=>by
  simp only [List.all_cons,Bool.and_eq_true] at h
  exact ⟨plain1_ok h.1 hv.1,plainT_ok h.2 hv.2⟩
theorem plainV_ok {x : SV} (h : plainV x = true) {μ μ' : Mu} {v : Value} (hv : x.ok μ v) : x.ok μ' v:=by
 cases x with
 | s x=>exact plain1_ok (x:=x) h hv
 | t xs=>obtain ⟨us,h1,h2⟩:=hv;exact ⟨us,h1,plainT_ok h h2⟩
 | u=>cases h
theorem con0_calls {P : Program} {f : FuncId} {c : Con0} {α : Type} {e : α} {g : α -> SV} {xs : List D1} {ρ : Vl} {vs : List Value} {w : World} (hs : SpecOk P f c.spec) (hpre : c.pre = none) (hfit : fitP c.pat xs = true) (hout : c.out (leaves1 ρ xs) = .eqn e fun r=>.ret (g r)) (hpl : plainV (g e) = true) (hv : ∃ μ : Mu,AllD1 ρ μ xs vs) :
  Calls P f vs.toArray w fun e' w'=>∃ v,e' = .returned v /\ Below w.heap.size w w' /\ (g e).ok noMu v:=by
 obtain ⟨μ,hv⟩:=hv
 obtain ⟨h1,h2,h3⟩:=fitP_ok hfit hv
 have e0 : c.spec 0 (instVs c.pat (leaves1 ρ xs)) = Req.pure (preO c.pre (leaves1 ρ xs) (c.out (leaves1 ρ xs))):=by simp only [Con0.spec,h2]
 have hk : (c.spec 0 (instVs c.pat (leaves1 ρ xs))).pre (fun _=>none) (fun r=>r = ⟨g e,[],[]⟩):=by
  rw [e0]
  refine Out.wp_bind.2 ?_
  rw [hpre,hout]
  intro y hy
  subst hy
  rfl
 refine (hs noMu (fun _=>none) w 0 _ vs (noHeap w) h1 (fun n _=>rfl) _ hk).mono fun e' w' he=>?_
 obtain ⟨v,μ',r,rfl,rfl,hE⟩:=he
 exact ⟨v,rfl,⟨hE.os,hE.tape,hE.output,hE.size,fun x hx=>hE.keep x hx (fun n b l _ h=>by cases h) (fun _=>rfl)⟩,plainV_ok hpl hE.val⟩
end
end Vx
namespace Vx
noncomputable section
open Go Zx Zx.Zr
def i64B (n : Int) : Prop:=-9223372036854775808 <= n /\ n <= 9223372036854775807
instance (n : Int) : Decidable (i64B n):=inferInstanceAs (Decidable (_ /\ _))
theorem i0 : i64B 0:=by decide
theorem i1 : i64B 1:=by decide
theorem i5 : i64B 5:=by decide
theorem i6 : i64B 6:=by decide
theorem i7 : i64B 7:=by decide
theorem i12 : i64B 12:=by decide
theorem i13 : i64B 13:=by decide
structure RIn (r : RV) : Prop where
 u8 : r.u.length = 8
 a8 : r.a.length = 8
 s8 : r.s.length = 8
 c8 : r.c.length = 8
 ad : ∀ x ∈ r.a,0 <= x /\ x <= 63
 ep : i64B r.k.ep
 nx : i64B r.k.nx
 nd : i64B r.k.nd
 hv : i64B r.k.hv
theorem or_in (a b : Int) : i64B (bits .or .i64 a b):=by
 have:=bits_in .or (.inr (.inl rfl)) .i64 a b
 simpa [i64B,IntKind.min,IntKind.max,IntKind.signed,IntKind.bits] using this
theorem set_ad {l : List Int} {n : Nat} {y : Int} (h : ∀ x ∈ l,0 <= x /\ x <= 63) (hy : 0 <= y /\ y <= 63) : ∀ x ∈ l.set n y,0 <= x /\ x <= 63:=fun x hx=>by
 rcases List.mem_or_eq_of_mem_set hx with hx | rfl
 ·exact h x hx
 ·exact hy
theorem com_in {s : Zr.St} (hg : goodS s = true) : 0 <= comS s:=by
 unfold goodS at hg
 unfold comS
 simp only [Bool.and_eq_true,decide_eq_true_eq] at hg
 split
 ·rename_i ho
  have h2:=hg.2
  rw [if_pos ho] at h2
  simp only [Bool.and_eq_true,decide_eq_true_eq] at h2
  omega
 ·exact hg.1.1
theorem raise_in {s : Zr.St} (need now : Int) (e : i64B s.ep) (x : i64B s.nx) (d : i64B s.nd) (v : i64B s.hv) : i64B (raiseF s need now).1.ep /\ i64B (raiseF s need now).1.nx /\ i64B (raiseF s need now).1.nd /\ i64B (raiseF s need now).1.hv:=by
 unfold raiseF
 split
 ·rename_i hg
  simp only [Bool.and_eq_true,needB,decide_eq_true_eq] at hg
  have hc:=com_in hg.1
  split
  ·exact ⟨e,x,d,v⟩
  ·rename_i h1
   have h1 : comS s + 1 <= 65535:=by omega
   split
   ·exact ⟨⟨by dsimp only;omega,by dsimp only;omega⟩,(by first | exact i0 | exact i1 | exact i5 | exact i6 | exact i7 | exact i12 | exact i13),(by first | exact i0 | exact i1 | exact i5 | exact i6 | exact i7 | exact i12 | exact i13),(by first | exact i0 | exact i1 | exact i5 | exact i6 | exact i7 | exact i12 | exact i13)⟩
   ·exact ⟨e,⟨by dsimp only;omega,by dsimp only;omega⟩,⟨by dsimp only;omega,by dsimp only;omega⟩,(by first | exact i0 | exact i1 | exact i5 | exact i6 | exact i7 | exact i12 | exact i13)⟩
 ·exact ⟨e,x,d,v⟩
theorem free_in {u : List Bool} {a : List Int} (i : Int) (h : ∀ x ∈ a,0 <= x /\ x <= 63) : ∀ x ∈ (freeG u a i).1.2,0 <= x /\ x <= 63:=by
 unfold freeG
 split
 ·split
  ·exact set_ad h (by omega)
  ·exact h
 ·exact h
theorem over_in {ep : Int} (h : i64B ep) : RIn (overG ep):=⟨rfl,rfl,rfl,rfl,fun x hx=>(by
 have : x = 0:=by simpa [overG,z8] using hx
 omega),h,(by first | exact i0 | exact i1 | exact i5 | exact i6 | exact i7 | exact i12 | exact i13),(by first | exact i0 | exact i1 | exact i5 | exact i6 | exact i7 | exact i12 | exact i13),(by first | exact i0 | exact i1 | exact i5 | exact i6 | exact i7 | exact i12 | exact i13)⟩
theorem gone_in {r : RV} (h : RIn r) (i now : Int) : RIn (goneG r i now):=by
 unfold goneG
 split
 ·obtain ⟨e,x,d,v⟩:=raise_in (s:=r.k) (maskG (freeG r.u r.a i).1.1 (freeG r.u r.a i).1.2) now h.ep h.nx h.nd h.hv
  obtain ⟨l1,l2⟩:=free_len r.u r.a i
  exact ⟨by rw [l1];exact h.u8,by rw [l2];exact h.a8,by simp [h.s8],by simp [h.c8],free_in i h.ad,e,x,d,v⟩
 ·exact over_in h.ep
theorem err_find (r : RV) (a : Int) : i64B (findRm r a).2:=by
 unfold findRm
 split
 ·exact (by first | exact i0 | exact i1 | exact i5 | exact i6 | exact i7 | exact i12 | exact i13)
 ·split
  ·exact (by first | exact i0 | exact i1 | exact i5 | exact i6 | exact i7 | exact i12 | exact i13)
  ·exact (by first | exact i0 | exact i1 | exact i5 | exact i6 | exact i7 | exact i12 | exact i13)
theorem err_free (u : List Bool) (a : List Int) (i : Int) : i64B (freeG u a i).2:=by
 unfold freeG
 split
 ·split
  ·exact (by first | exact i0 | exact i1 | exact i5 | exact i6 | exact i7 | exact i12 | exact i13)
  ·exact (by first | exact i0 | exact i1 | exact i5 | exact i6 | exact i7 | exact i12 | exact i13)
 ·exact (by first | exact i0 | exact i1 | exact i5 | exact i6 | exact i7 | exact i12 | exact i13)
theorem alive_in {r : RV} (h : RIn r) (a now : Int) : RIn (aliveRm r a now).1 /\ i64B (aliveRm r a now).2:=by
 unfold aliveRm
 split
 ·exact ⟨⟨h.u8,h.a8,by simp [h.s8],h.c8,h.ad,h.ep,h.nx,h.nd,h.hv⟩,(by first | exact i0 | exact i1 | exact i5 | exact i6 | exact i7 | exact i12 | exact i13)⟩
 ·exact ⟨h,err_find r a⟩
theorem leave_in {r : RV} (h : RIn r) (a now : Int) : RIn (leaveRm r a now).1 /\ i64B (leaveRm r a now).2:=by
 unfold leaveRm
 split
 ·exact ⟨gone_in h _ _,(by first | exact i0 | exact i1 | exact i5 | exact i6 | exact i7 | exact i12 | exact i13)⟩
 ·exact ⟨h,err_find r a⟩
theorem kick_in {r : RV} (h : RIn r) (a i now : Int) : RIn (kickRm r a i now).1 /\ i64B (kickRm r a i now).2:=by
 unfold kickRm
 split
 ·split
  ·split
   ·exact ⟨gone_in h _ _,(by first | exact i0 | exact i1 | exact i5 | exact i6 | exact i7 | exact i12 | exact i13)⟩
   ·exact ⟨h,err_free _ _ _⟩
  ·exact ⟨h,(by first | exact i0 | exact i1 | exact i5 | exact i6 | exact i7 | exact i12 | exact i13)⟩
 ·exact ⟨h,err_find r a⟩
theorem ack_in {s : Zr.St} (i x : Int) (e : i64B s.ep) (n : i64B s.nx) (d : i64B s.nd) (v : i64B s.hv) : (i64B (ackF s i x).1.ep /\ i64B (ackF s i x).1.nx /\ i64B (ackF s i x).1.nd /\ i64B (ackF s i x).1.hv) /\ i64B (ackF s i x).2.2:=by
 have z : i64B 0:=(by first | exact i0 | exact i1 | exact i5 | exact i6 | exact i7 | exact i12 | exact i13)
 unfold ackF
 split
 ·split
  ·split
   ·exact ⟨⟨e,n,d,v⟩,(by first | exact i0 | exact i1 | exact i5 | exact i6 | exact i7 | exact i12 | exact i13)⟩
   ·split
    ·exact ⟨⟨e,n,d,v⟩,(by first | exact i0 | exact i1 | exact i5 | exact i6 | exact i7 | exact i12 | exact i13)⟩
    ·split
     ·exact ⟨⟨n,z,z,z⟩,z⟩
     ·exact ⟨⟨e,n,d,or_in _ _⟩,z⟩
  ·exact ⟨⟨e,n,d,v⟩,(by first | exact i0 | exact i1 | exact i5 | exact i6 | exact i7 | exact i12 | exact i13)⟩
 ·exact ⟨⟨e,n,d,v⟩,(by first | exact i0 | exact i1 | exact i5 | exact i6 | exact i7 | exact i12 | exact i13)⟩
theorem have_in {r : RV} (h : RIn r) (a e : Int) : RIn (haveRm r a e).1 /\ i64B (haveRm r a e).2.2:=by
 unfold haveRm
 split
 ·obtain ⟨⟨k1,k2,k3,k4⟩,k5⟩:=ack_in (s:=r.k) (findRm r a).1 e h.ep h.nx h.nd h.hv
  split
  ·exact ⟨⟨h.u8,h.a8,h.s8,h.c8,h.ad,k1,k2,k3,k4⟩,(by first | exact i0 | exact i1 | exact i5 | exact i6 | exact i7 | exact i12 | exact i13)⟩
  ·exact ⟨h,k5⟩
 ·exact ⟨h,err_find r a⟩
theorem joinF_in {s : Zr.St} (i : Int) (e : i64B s.ep) (n : i64B s.nx) (d : i64B s.nd) (v : i64B s.hv) : (i64B (joinF s i).1.ep /\ i64B (joinF s i).1.nx /\ i64B (joinF s i).1.nd /\ i64B (joinF s i).1.hv) /\ i64B (joinF s i).2:=by
 unfold joinF
 split
 ·split
  ·split
   ·exact ⟨⟨e,n,d,v⟩,(by first | exact i0 | exact i1 | exact i5 | exact i6 | exact i7 | exact i12 | exact i13)⟩
   ·exact ⟨⟨e,n,or_in _ _,v⟩,(by first | exact i0 | exact i1 | exact i5 | exact i6 | exact i7 | exact i12 | exact i13)⟩
  ·exact ⟨⟨e,n,d,v⟩,(by first | exact i0 | exact i1 | exact i5 | exact i6 | exact i7 | exact i12 | exact i13)⟩
 ·exact ⟨⟨e,n,d,v⟩,(by first | exact i0 | exact i1 | exact i5 | exact i6 | exact i7 | exact i12 | exact i13)⟩
theorem take_in {u : List Bool} {a : List Int} (x : Int) (h : ∀ y ∈ a,0 <= y /\ y <= 63) : (∀ y ∈ (takeG u a x).1.2,0 <= y /\ y <= 63) /\ (takeG u a x).1.1.length = u.length /\ (takeG u a x).1.2.length = a.length /\ i64B (takeG u a x).2.2:=by
 unfold takeG
 split
 ·rename_i hc
  split
  ·exact ⟨h,rfl,rfl,(by first | exact i0 | exact i1 | exact i5 | exact i6 | exact i7 | exact i12 | exact i13)⟩
  ·split
   ·exact ⟨h,rfl,rfl,(by first | exact i0 | exact i1 | exact i5 | exact i6 | exact i7 | exact i12 | exact i13)⟩
   ·simp only [Bool.and_eq_true,addrB,decide_eq_true_eq] at hc
    exact ⟨set_ad h hc.2,by simp,by simp,(by first | exact i0 | exact i1 | exact i5 | exact i6 | exact i7 | exact i12 | exact i13)⟩
 ·exact ⟨h,rfl,rfl,(by first | exact i0 | exact i1 | exact i5 | exact i6 | exact i7 | exact i12 | exact i13)⟩
theorem join_in {r : RV} (h : RIn r) (a now : Int) : RIn (joinRm r a now).1 /\ i64B (joinRm r a now).2.1 /\ i64B (joinRm r a now).2.2:=by
 have z : i64B 0:=(by first | exact i0 | exact i1 | exact i5 | exact i6 | exact i7 | exact i12 | exact i13)
 unfold joinRm
 split
 ·exact ⟨h,z,(by first | exact i0 | exact i1 | exact i5 | exact i6 | exact i7 | exact i12 | exact i13)⟩
 ·split
  ·exact ⟨h,z,(by first | exact i0 | exact i1 | exact i5 | exact i6 | exact i7 | exact i12 | exact i13)⟩
  ·obtain ⟨t1,t2,t3,t4⟩:=take_in (u:=r.u) a h.ad
   split
   ·rename_i ht
    obtain ⟨⟨k1,k2,k3,k4⟩,k5⟩:=joinF_in (s:=r.k) (takeG r.u r.a a).2.1 h.ep h.nx h.nd h.hv
    have hs:=take_slot r.u r.a a h.u8 ht
    split
    ·exact ⟨⟨by rw [t2];exact h.u8,by rw [t3];exact h.a8,by simp [h.s8],by simp [h.c8],t1,k1,k2,k3,k4⟩,⟨by dsimp only;omega,by dsimp only;omega⟩,z⟩
    ·exact ⟨h,z,k5⟩
   ·exact ⟨h,z,t4⟩
theorem tkN_in {r : RV} (h : RIn r) (late now : Int) : ∀ n,RIn (tkN r late now n)
 | 0=>h
 | n + 1=>by
  simp only [tkN,tkStep]
  split
  ·exact gone_in (tkN_in h late now n) _ _
  ·exact tkN_in h late now n
theorem goneL_le (u v : List Bool) : ∀ n,(goneL u v n).length <= n
 | 0=>Nat.le_refl _
 | n + 1=>by
  simp only [goneL]
  split
  ·rw [List.length_append];have:=goneL_le u v n;simp;omega
  ·have:=goneL_le u v n;omega
theorem tick_in {r : RV} (h : RIn r) (now : Int) : RIn (tickRm r now).1 /\ (tickRm r now).2.length <= 8:=by
 unfold tickRm
 split
 ·exact ⟨tkN_in h _ _ 8,goneL_le _ _ 8⟩
 ·exact ⟨h,Nat.zero_le _⟩
def setL (ρ : Vl) (n : Nat) (xs : List Int) : Vl:=⟨fun v=>if v < n then ρ.i v else xs.getD (v - n) 0,ρ.s,ρ.a,ρ.A⟩
theorem setL_agr (ρ : Vl) (n : Nat) (xs : List Int) : Agr n ρ (setL ρ n xs):=⟨fun v hv=>by simp [setL,hv],fun _ _=>rfl,fun _ _=>rfl,rfl⟩
theorem setL_at (ρ : Vl) (n : Nat) (xs : List Int) (j : Nat) : (setL ρ n xs).i (n + j) = xs.getD j 0:=by
 simp only [setL]
 rw [if_neg (by omega),Nat.add_sub_cancel_left]
theorem setL_at0 (ρ : Vl) (n : Nat) (xs : List Int) : (setL ρ n xs).i n = xs.getD 0 0:=setL_at ρ n xs 0
def bI (b : Bool) : Int:=match b with
 | true=>1
 | false=>0
theorem bI_dec (b : Bool) : decide (bI b = 1) = b:=by cases b <;> rfl
def roomN (r : RV) : List Int:=[bI (r.u.getD 0 false),bI (r.u.getD 1 false),bI (r.u.getD 2 false),bI (r.u.getD 3 false),bI (r.u.getD 4 false),bI (r.u.getD 5 false),bI (r.u.getD 6 false),bI (r.u.getD 7 false),
 r.a.getD 0 0,r.a.getD 1 0,r.a.getD 2 0,r.a.getD 3 0,r.a.getD 4 0,r.a.getD 5 0,r.a.getD 6 0,r.a.getD 7 0,r.k.ep,bI r.k.op,r.k.nx,r.k.nd,r.k.hv,r.k.bn,
 r.s.getD 0 0,r.s.getD 1 0,r.s.getD 2 0,r.s.getD 3 0,r.s.getD 4 0,r.s.getD 5 0,r.s.getD 6 0,r.s.getD 7 0,r.c.getD 0 0,r.c.getD 1 0,r.c.getD 2 0,r.c.getD 3 0,r.c.getD 4 0,r.c.getD 5 0,r.c.getD 6 0,r.c.getD 7 0,bI r.o]
theorem roomN_get (r : RV) (ys : List Int) (j : Nat) (h : j < 39) : (roomN r ++ ys).getD j 0 = (roomN r).getD j 0:=by
 simp only [List.getD_eq_getElem?_getD]
 rw [List.getElem?_append_left (by simp [roomN];omega)]
theorem roomN_end (r : RV) (ys : List Int) (j : Nat) : (roomN r ++ ys).getD (39 + j) 0 = ys.getD j 0:=by
 simp only [List.getD_eq_getElem?_getD]
 rw [List.getElem?_append_right (by simp [roomN]),show 39 + j - (roomN r).length = j by simp [roomN]]
theorem roomV_set (ρ : Vl) (n : Nat) {r : RV} (h : RIn r) (ys : List Int) : roomV (setL ρ n (roomN r ++ ys)) n = r:=by
 have e : ∀ j,j < 39 -> (setL ρ n (roomN r ++ ys)).i (n + j) = (roomN r).getD j 0:=fun j hj=>by rw [setL_at,roomN_get r ys j hj]
 have e0:=e 0 (by omega)
 rw [Nat.add_zero] at e0
 have k : ∀ (i : Nat),i < 39 -> ∀ x,(roomN r).getD i 0 = x -> (setL ρ n (roomN r ++ ys)).i (n + i) = x:=fun i hi x hx=>(e i hi).trans hx
 have hu:=ex8b h.u8
 have ha:=ex8i h.a8
 have hs:=ex8i h.s8
 have hc:=ex8i h.c8
 obtain ⟨u,a,kk,s,c,o⟩:=r
 obtain ⟨ep,op,nx,nd,hv,bn⟩:=kk
 unfold roomV
 rw [e0,k 1 (by omega) _ rfl,k 2 (by omega) _ rfl,k 3 (by omega) _ rfl,k 4 (by omega) _ rfl,k 5 (by omega) _ rfl,k 6 (by omega) _ rfl,k 7 (by omega) _ rfl,k 8 (by omega) _ rfl,k 9 (by omega) _ rfl,k 10 (by omega) _ rfl,k 11 (by omega) _ rfl,k 12 (by omega) _ rfl,k 13 (by omega) _ rfl,k 14 (by omega) _ rfl,k 15 (by omega) _ rfl,k 16 (by omega) _ rfl,k 17 (by omega) _ rfl,k 18 (by omega) _ rfl,k 19 (by omega) _ rfl,k 20 (by omega) _ rfl,k 21 (by omega) _ rfl,k 22 (by omega) _ rfl,k 23 (by omega) _ rfl,k 24 (by omega) _ rfl,k 25 (by omega) _ rfl,k 26 (by omega) _ rfl,k 27 (by omega) _ rfl,k 28 (by omega) _ rfl,k 29 (by omega) _ rfl,k 30 (by omega) _ rfl,k 31 (by omega) _ rfl,k 32 (by omega) _ rfl,k 33 (by omega) _ rfl,k 34 (by omega) _ rfl,k 35 (by omega) _ rfl,k 36 (by omega) _ rfl,k 37 (by omega) _ rfl,k 38 (by omega) _ rfl]
 simp only [roomN,List.getD_cons_zero,List.getD_cons_succ,bI_dec]
 simp only [] at hu ha hs hc
 rw [hu,ha,hs,hc]
theorem rgI_sat {ρ : Val} {lo hi : Int} : ∀ {n v : Nat},(∀ j,j < n -> lo <= ρ (v + j) /\ ρ (v + j) <= hi) -> Sat ρ (rgI lo hi v n)
 | 0,v,h,l,hl=>by cases hl
 | n + 1,v,h,l,hl=>by
  have h0:=h 0 (by omega)
  rw [Nat.add_zero] at h0
  simp only [rgI,rI,List.cons_append,List.nil_append,List.mem_cons] at hl
  rcases hl with rfl | rfl | hl
  ·simp only [Lin.addc_den,Lin.var_den];omega
  ·simp only [Lin.sub_den,Lin.var_den,Lin.num_den];omega
  ·exact rgI_sat (fun j hj=>by have:=h (j + 1) (by omega);rwa [show v + (j + 1) = v + 1 + j by omega] at this) l hl
theorem rgI_get {ρ : Val} {lo hi : Int} : ∀ {n v : Nat},Sat ρ (rgI lo hi v n) -> ∀ j,j < n -> lo <= ρ (v + j) /\ ρ (v + j) <= hi
 | n + 1,v,h,j,hj=>by
  cases j with
  | zero=>
   have h1:=h ((Lin.var v).addc (-lo)) (by simp [rgI,rI])
   have h2:=h ((Lin.num hi).sub (.var v)) (by simp [rgI,rI])
   simp only [Lin.addc_den,Lin.var_den,Lin.sub_den,Lin.num_den] at h1 h2
   rw [Nat.add_zero]
   omega
  | succ j=>
   have:=rgI_get (ρ:=ρ) (lo:=lo) (hi:=hi) (n:=n) (v:=v + 1) (fun l hl=>h l (by simp only [rgI];exact List.mem_append_right _ hl)) j (by omega)
   rwa [show v + 1 + j = v + (j + 1) by omega] at this
theorem sat_app {ρ : Val} {A B : List Lin} (h : Sat ρ A) (k : Sat ρ B) : Sat ρ (A ++ B):=fun l hl=>(List.mem_append.1 hl).elim (h l) (k l)
theorem sat_l {ρ : Val} {A B : List Lin} (h : Sat ρ (A ++ B)) : Sat ρ A:=fun l hl=>h l (List.mem_append_left _ hl)
theorem sat_r {ρ : Val} {A B : List Lin} (h : Sat ρ (A ++ B)) : Sat ρ B:=fun l hl=>h l (List.mem_append_right _ hl)
theorem sat_rI {ρ : Val} {v : Nat} {lo hi : Int} (h : lo <= ρ v /\ ρ v <= hi) : Sat ρ (rI v lo hi):=two_le (by simp only [Lin.addc_den,Lin.var_den];omega) (by simp only [Lin.sub_den,Lin.var_den,Lin.num_den];omega)
theorem RIn.of_sat {ρ : Vl} {v : Nat} (h : Sat ρ.i (rR v)) : RIn (roomV ρ v):=by
 have ha:=rgI_get (sat_l h)
 have hb:=rgI_get (sat_l (sat_r h)) 0 (by omega)
 have hc:=rgI_get (sat_r (sat_r h))
 have c0:=hc 0 (by omega);have c1:=hc 1 (by omega);have c2:=hc 2 (by omega)
 refine ⟨rfl,rfl,rfl,rfl,fun x hx=>?_,hb,c0,c1,c2⟩
 simp only [roomV,List.mem_cons,List.not_mem_nil,or_false] at hx
 rcases hx with rfl | rfl | rfl | rfl | rfl | rfl | rfl | rfl
 ·exact ha 0 (by omega)
 ·exact ha 1 (by omega)
 ·exact ha 2 (by omega)
 ·exact ha 3 (by omega)
 ·exact ha 4 (by omega)
 ·exact ha 5 (by omega)
 ·exact ha 6 (by omega)
 ·exact ha 7 (by omega)
theorem ad_get {r : RV} (h : RIn r) (j : Nat) : 0 <= r.a.getD j 0 /\ r.a.getD j 0 <= 63:=by
 rw [List.getD_eq_getElem?_getD]
 cases e : r.a[j]? with
 | none=>simp
 | some x=>exact h.ad x (List.mem_of_getElem? e)
theorem rR_set (ρ : Vl) (n : Nat) {r : RV} (h : RIn r) (ys : List Int) : Sat (setL ρ n (roomN r ++ ys)).i (rR n):=by
 have e : ∀ j,j < 39 -> (setL ρ n (roomN r ++ ys)).i (n + j) = (roomN r).getD j 0:=fun j hj=>by rw [setL_at,roomN_get r ys j hj]
 refine sat_app (rgI_sat fun j hj=>?_) (sat_app (rgI_sat fun j hj=>?_) (rgI_sat fun j hj=>?_))
 ·rw [Nat.add_assoc,e (8 + j) (by omega)]
  match j,hj with
  | 0,_=>exact ad_get h 0
  | 1,_=>exact ad_get h 1
  | 2,_=>exact ad_get h 2
  | 3,_=>exact ad_get h 3
  | 4,_=>exact ad_get h 4
  | 5,_=>exact ad_get h 5
  | 6,_=>exact ad_get h 6
  | 7,_=>exact ad_get h 7
 ·rw [Nat.add_assoc,e (16 + j) (by omega)]
  match j,hj with
  | 0,_=>exact h.ep
 ·rw [Nat.add_assoc,e (18 + j) (by omega)]
  match j,hj with
  | 0,_=>exact h.nx
  | 1,_=>exact h.nd
  | 2,_=>exact h.hv
theorem set_end (ρ : Vl) (n : Nat) (r : RV) (ys : List Int) (j : Nat) : (setL ρ n (roomN r ++ ys)).i (n + 39 + j) = ys.getD j 0:=by
 rw [Nat.add_assoc,setL_at,roomN_end]
end
end Vx
namespace Zx.Zr
open Go Go.Proofs Go.RowKit
end Zx.Zr
