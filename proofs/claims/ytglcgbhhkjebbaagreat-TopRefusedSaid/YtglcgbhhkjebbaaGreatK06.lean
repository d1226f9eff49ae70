/- A part of the proof: lemmas. No condition of its own. -/
import Derived.Deep.LoopGhost
import Derived.Scope
import Derived.Test.YtglcgbhhkjebbaaGreatK05
set_option linter.unusedVariables false
set_option linter.unusedSimpArgs false
namespace Zx
noncomputable section
open Go
def renOf (r : List (Nat × Nat)) (n : Nat) : Nat:=
 match r with
 | []=>n
 | (a,b) :: r=>if n = a then b else renOf r n
def leC (names : List Nat) (r : List (Nat × Nat)) : SC -> SC -> Prop
 | .num k a,.num k' b=>if k = k' then a = b else False
 | .num k a,.int k' b=>if k = k' then a = b else False
 | .int k a,.int k' b=>if k = k' then a = b else False
 | .tru a,.tru b=>a = b
 | .tru a,.boo b=>a = b
 | .boo a,.boo b=>a = b
 | .str a,.str b=>a = b
 | .nil,.nil=>True
 | .nos,.nos=>True
 | .fn f,.fn g=>f = g
 | .ptr b i e j,.ptr b' i' e' j'=>if names.contains b' && renOf r b' == b && e == e' then i = i' /\ j = j' else False
 | .sli b i e j n c q,.sli b' i' e' j' n' c' q'=>if names.contains b' && renOf r b' == b && e == e' then (i = i' /\ j = j') /\ n = n' /\ c = c' else False
 | .own b n c q,.own b' n' c' q'=>if names.contains b' && renOf r b' == b then n = n' /\ c = c' else False
 | .zp L,.zp M=>if !names.isEmpty && preCS M L then True else False
 | .zs E n c _,.zs F n' c' _=>if !names.isEmpty && eqCS E F then n = n' /\ c = c' else False
 | .nos,.zs _ n' c' _=>if !names.isEmpty then 0 = n' /\ 0 = c' else False
 | _,_=>False
def leL (names : List Nat) (r : List (Nat × Nat)) : List SC -> List SC -> Prop
 | [],[]=>True
 | [x],[y]=>leC names r x y
 | x :: x2 :: xs,y :: y2 :: ys=>leC names r x y /\ leL names r (x2 :: xs) (y2 :: ys)
 | _,_=>False
def leS1 (names : List Nat) (r : List (Nat × Nat)) : S1 -> S1 -> Prop
 | .c x,.c y=>leC names r x y
 | .a xs,.a ys=>leL names r xs ys
 | _,_=>False
def leT (names : List Nat) (r : List (Nat × Nat)) : List S1 -> List S1 -> Prop
 | [],[]=>True
 | x :: xs,y :: ys=>leS1 names r x y /\ leT names r xs ys
 | _,_=>False
def leV (names : List Nat) (r : List (Nat × Nat)) : SV -> SV -> Prop
 | _,.u=>True
 | .s x,.s y=>leS1 names r x y
 | .t xs,.t ys=>leT names r xs ys
 | _,_=>False
def leVs (names : List Nat) (r : List (Nat × Nat)) : List SV -> List SV -> Prop
 | [],[]=>True
 | _ :: xs,.u :: ys=>leVs names r xs ys
 | x :: xs,y :: ys=>leV names r x y /\ leVs names r xs ys
 | _,_=>False
def leHd : List Int -> List Int -> Prop
 | [],[]=>True
 | x :: xs,y :: ys=>x = y /\ leHd xs ys
 | _,_=>False
theorem leHd_eq : ∀ {xs ys : List Int},leHd xs ys -> xs = ys
 | [],[],_=>rfl
 | x :: xs,y :: ys,h=>by rw [show x = y from h.1,leHd_eq h.2]
 | [],_ :: _,h=>h.elim
 | _ :: _,[],h=>h.elim
def leOL : OL -> OL -> Prop
 | .ints k l,.ints k' l'=>if k = k' then l = l' else False
 | .strs l,.strs l'=>l = l'
 | .raws l,.raws l'=>l = l'
 | _,_=>False
theorem leOL_eq {x y : OL} (h : leOL x y) : x = y:=by
 unfold leOL at h
 split at h
 ·split at h
  ·rename_i e;subst e;subst h;rfl
  ·exact h.elim
 ·subst h;rfl
 ·subst h;rfl
 ·exact h.elim
def leB (names : List Nat) (r : List (Nat × Nat)) : Blk -> Blk -> Prop
 | .cells t xs,.cells t' ys=>if t = t' then leL names r xs ys else False
 | .view e n f,.view e' n' g=>if e = e' then n = n' /\ ∀ i,i < n' -> leL names r (f i) (g i) else False
 | .own t e n f,.own t' e' n' g=>if t = t' /\ e = e' then n = n' /\ ∀ i,i < n' -> leL names r (f i) (g i) else False
 | .ints k l,.ints k' l'=>if k = k' then l = l' else False
 | .oints k l,.oints k' l'=>if k = k' then l = l' else False
 | .obj t hd l,.obj t' hd' l'=>if t = t' then leHd hd hd' /\ leOL l l' else False
 | _,_=>False
def leH (names : List Nat) (r : List (Nat × Nat)) (h h' : Nat -> Option Blk) : List Nat -> Prop
 | []=>True
 | n :: ns=>(match h' n with
  | none=>True
  | some b'=>match h (renOf r n) with
   | some b=>leB names r b b'
   | none=>False) /\ leH names r h h' ns
def leSt (names : List Nat) (r : List (Nat × Nat)) (s t : St) : Prop:=
 if (names.all fun n=>decide (n < t.next)) && decide ((names.map (renOf r)).Nodup) then leVs names r s.slots t.slots /\ leH names r s.heap t.heap names else False
def St.only (names : List Nat) (t : St) : St:={ t with heap:=Zx.only names t.heap }
def headK (names : List Nat) (t : St) (K : St -> Prop) : Prop:=fVs t.slots fun sl=>fH t.heap names fun h=>fN t.next fun n=>K ⟨sl,h,n⟩
theorem headK_eq (names : List Nat) (t : St) (K : St -> Prop) : headK names t K = K (t.only names):=by simp only [headK,fVs_eq,fH_eq,fN_eq];rfl
def muOf (names : List Nat) (r : List (Nat × Nat)) (μ : Mu) : Mu:={ μ with loc:=fun n=>if names.contains n then μ (renOf r n) else none }
section
variable {names : List Nat} {r : List (Nat × Nat)} {μ : Mu}
theorem leC_ok {x y : SC} {v : Value} (h : leC names r x y) (hx : x.ok μ v) : y.ok (muOf names r μ) v:=by
 unfold leC at h
 split at h
 ·split at h
  ·rename_i hk;subst hk;subst h;exact hx
  ·exact h.elim
 ·split at h
  ·rename_i hk;subst hk;subst h;exact hx
  ·exact h.elim
 ·split at h
  ·rename_i hk;subst hk;subst h;exact hx
  ·exact h.elim
 ·subst h;exact hx
 ·subst h;exact hx
 ·subst h;exact hx
 ·subst h;exact hx
 ·exact hx
 ·exact hx
 ·subst h;exact hx
 ·split at h
  ·rename_i hc
   simp only [Bool.and_eq_true,beq_iff_eq] at hc
   obtain ⟨⟨h1,h2⟩,h3⟩:=hc
   obtain ⟨rfl,rfl⟩:=h
   subst h3
   obtain ⟨l,hl,hv⟩:=hx
   exact ⟨l,by simp only [muOf];rw [if_pos h1,h2];exact hl,hv⟩
  ·exact h.elim
 ·split at h
  ·rename_i hc
   simp only [Bool.and_eq_true,beq_iff_eq] at hc
   obtain ⟨⟨h1,h2⟩,h3⟩:=hc
   obtain ⟨⟨rfl,rfl⟩,rfl,rfl⟩:=h
   subst h3
   obtain ⟨l,a,hl,hv⟩:=hx
   exact ⟨l,a,by simp only [muOf];rw [if_pos h1,h2];exact hl,hv⟩
  ·exact h.elim
 ·split at h
  ·rename_i hc
   simp only [Bool.and_eq_true,beq_iff_eq] at hc
   obtain ⟨h1,h2⟩:=hc
   obtain ⟨rfl,rfl⟩:=h
   obtain ⟨l,a,hl,hv⟩:=hx
   exact ⟨l,a,by simp only [muOf];rw [if_pos h1,h2];exact hl,hv⟩
  ·exact h.elim
 ·split at h
  ·rename_i hp
   rw [Bool.and_eq_true] at hp
   obtain ⟨b,o,hv,hs⟩:=hx
   exact ⟨b,o,hv,hs.pre hp.2⟩
  ·exact h.elim
 ·split at h
  ·rename_i hp
   rw [Bool.and_eq_true] at hp
   have:=eqCS_eq hp.2
   subst this
   obtain ⟨rfl,rfl⟩:=h
   exact hx
  ·exact h.elim
 ·split at h
  ·obtain ⟨rfl,rfl⟩:=h
   obtain ⟨a,hv⟩:=hx
   exact ⟨a,hv,Nat.le_refl _,Nat.zero_le _,fun hc=>absurd hc (by omega)⟩
  ·exact h.elim
 ·exact h.elim
theorem leL_ok : ∀ {xs ys : List SC} {vs : List Value},leL names r xs ys -> All2 (SC.ok μ) xs vs -> All2 (SC.ok (muOf names r μ)) ys vs
 | [],[],[],_,_=>trivial
 | [x],[y],[v],h,hx=>⟨leC_ok h hx.1,trivial⟩
 | x :: x2 :: xs,y :: y2 :: ys,v :: vs,h,hx=>⟨leC_ok h.1 hx.1,leL_ok h.2 hx.2⟩
 | [],[],_ :: _,_,hx=>hx.elim
 | [x],[y],[],_,hx=>hx.elim
 | [x],[y],_ :: _ :: _,_,hx=>hx.2.elim
 | x :: x2 :: xs,y :: y2 :: ys,[],_,hx=>hx.elim
 | [],_ :: _,_,h,_=>h.elim
 | [_],[],_,h,_=>h.elim
 | [_],_ :: _ :: _,_,h,_=>h.elim
 | _ :: _ :: _,[],_,h,_=>h.elim
 | _ :: _ :: _,[_],_,h,_=>h.elim
theorem leL_len : ∀ {xs ys : List SC},leL names r xs ys -> xs.length = ys.length
 | [],[],_=>rfl
 | [x],[y],h=>rfl
 | x :: x2 :: xs,y :: y2 :: ys,h=>by have:=leL_len h.2;simp at this ⊢;omega
 | [],_ :: _,h=>h.elim
 | [_],[],h=>h.elim
 | [_],_ :: _ :: _,h=>h.elim
 | _ :: _ :: _,[],h=>h.elim
 | _ :: _ :: _,[_],h=>h.elim
theorem leL_get : ∀ {xs ys : List SC},leL names r xs ys -> ∀ (j : Nat) (y : SC),ys[j]? = some y -> ∃ x,xs[j]? = some x /\ leC names r x y
 | [],[],_,j,y,h=>by simp at h
 | [x],[z],h,0,y,hy=>by simp at hy;subst hy;exact ⟨x,rfl,h⟩
 | [x],[z],h,j + 1,y,hy=>by simp at hy
 | x :: x2 :: xs,z :: y2 :: ys,h,0,y,hy=>by simp at hy;subst hy;exact ⟨x,rfl,h.1⟩
 | x :: x2 :: xs,z :: y2 :: ys,h,j + 1,y,hy=>by simpa using leL_get h.2 j y (by simpa using hy)
 | [],_ :: _,h,_,_,_=>h.elim
 | [_],[],h,_,_,_=>h.elim
 | [_],_ :: _ :: _,h,_,_,_=>h.elim
 | _ :: _ :: _,[],h,_,_,_=>h.elim
 | _ :: _ :: _,[_],h,_,_,_=>h.elim
theorem leS1_ok {x y : S1} {v : Value} (h : leS1 names r x y) (hx : x.ok μ v) : y.ok (muOf names r μ) v:=by
 unfold leS1 at h
 split at h
 ·exact leC_ok h hx
 ·obtain ⟨vs,hv,ha⟩:=hx;exact ⟨vs,hv,leL_ok h ha⟩
 ·exact h.elim
theorem leT_ok : ∀ {xs ys : List S1} {vs : List Value},leT names r xs ys -> AllS (S1.ok μ) xs vs -> AllS (S1.ok (muOf names r μ)) ys vs
 | [],[],[],_,_=>trivial
 | x :: xs,y :: ys,v :: vs,h,hx=>⟨leS1_ok h.1 hx.1,leT_ok h.2 hx.2⟩
 | [],[],_ :: _,_,hx=>hx.elim
 | _ :: _,_ :: _,[],_,hx=>hx.elim
 | [],_ :: _,_,h,_=>h.elim
 | _ :: _,[],_,h,_=>h.elim
theorem leV_ok {x y : SV} {v : Value} (h : leV names r x y) (hx : x.ok μ v) : y.ok (muOf names r μ) v:=by
 unfold leV at h
 split at h
 ·trivial
 ·exact leS1_ok h hx
 ·obtain ⟨vs,hv,ha⟩:=hx;exact ⟨vs,hv,leT_ok h ha⟩
 ·exact h.elim
theorem leVs_get : ∀ {xs ys : List SV},leVs names r xs ys -> xs.length = ys.length /\ ∀ (i : Nat) (y : SV),ys[i]? = some y -> ∃ x,xs[i]? = some x /\ leV names r x y
 | [],[],_=>⟨rfl,fun i y h=>by simp at h⟩
 | x :: xs,y :: ys,h=>by
  have hh : leV names r x y /\ leVs names r xs ys:=by
   cases y with
   | u=>exact ⟨trivial,h⟩
   | s z=>exact h
   | t z=>exact h
  obtain ⟨h1,h2⟩:=leVs_get hh.2
  refine ⟨by simp [h1],fun i z hz=>?_⟩
  cases i with
  | zero=>simp at hz;subst hz;exact ⟨x,rfl,hh.1⟩
  | succ i=>simpa using h2 i z (by simpa using hz)
 | [],y :: ys,h=>by cases y <;> exact h.elim
 | x :: xs,[],h=>h.elim
theorem leElems {e n : Nat} {f g : Nat -> List SC} {a : Nat -> Option Value} (h : ∀ i,i < n -> leL names r (f i) (g i)) (hf : Elems μ e n f a) : Elems (muOf names r μ) e n g a:=fun i hi=>by
 obtain ⟨h1,h2⟩:=hf i hi
 refine ⟨by rw [← leL_len (h i hi)];exact h1,fun j y hy=>?_⟩
 obtain ⟨x,hx,hle⟩:=leL_get (h i hi) j y hy
 obtain ⟨v,hv,hok⟩:=h2 j x hx
 exact ⟨v,hv,leC_ok hle hok⟩
theorem Elems.move {k : IntKind} {l : List Int} {n : Nat} {μ μ' : Mu} {a : Nat -> Option Value} (h : Elems μ 1 n (intsF k l) a) : Elems μ' 1 n (intsF k l) a:=fun i hi=>by
 obtain ⟨h1,h2⟩:=h i hi
 refine ⟨h1,fun j c hc=>?_⟩
 obtain ⟨v,hv,hok⟩:=h2 j c hc
 refine ⟨v,hv, ?_⟩
 match j,hc with
 | 0,hc=>simp [intsF] at hc;subst hc;exact hok
 | j + 1,hc=>simp [intsF] at hc
theorem leB_ok {b b' : Blk} {w : World} {l : Loc} (h : leB names r b b') (hb : b.ok μ w l) : b'.ok (muOf names r μ) w l /\ b'.excl w l = b.excl w l /\ b'.uses w l = b.uses w l:=by
 unfold leB at h
 split at h
 ·split at h
  ·rename_i ht;subst ht
   obtain ⟨h0,vs,hv,ha⟩:=hb
   exact ⟨⟨h0,vs,hv,leL_ok h ha⟩,rfl,rfl⟩
  ·exact h.elim
 ·split at h
  ·rename_i he;subst he
   obtain ⟨rfl,h⟩:=h
   exact ⟨⟨hb.1,leElems h hb.2⟩,rfl,rfl⟩
  ·exact h.elim
 ·split at h
  ·rename_i he
   obtain ⟨rfl,rfl⟩:=he
   obtain ⟨rfl,h⟩:=h
   obtain ⟨a,c,xs,k1,k2,k3,k4,k5,k6⟩:=hb
   exact ⟨⟨a,c,xs,k1,k2,k3,k4,k5,leElems h k6⟩,rfl,rfl⟩
  ·exact h.elim
 ·split at h
  ·rename_i he
   subst he;subst h
   exact ⟨⟨hb.1,hb.2.move⟩,rfl,rfl⟩
  ·exact h.elim
 ·split at h
  ·rename_i he
   subst he
   subst h
   obtain ⟨t,a,c,xs,k1,k2,k3,k4,k5,k6⟩:=hb
   exact ⟨⟨t,a,c,xs,k1,k2,k3,k4,k5,Elems.move k6⟩,rfl,rfl⟩
  ·exact h.elim
 ·split at h
  ·rename_i he
   subst he
   obtain ⟨h1,h2⟩:=h
   obtain rfl:=leHd_eq h1
   obtain rfl:=leOL_eq h2
   exact ⟨hb,rfl,rfl⟩
  ·exact h.elim
 ·exact h.elim
theorem leH_get {h h' : Nat -> Option Blk} : ∀ {ns : List Nat},leH names r h h' ns -> ∀ n ∈ ns,∀ b',h' n = some b' -> ∃ b,h (renOf r n) = some b /\ leB names r b b'
 | n :: ns,hl,m,hm,b',hb'=>by
  obtain ⟨h1,h2⟩:=hl
  rcases List.mem_cons.1 hm with rfl | hm
  ·rw [hb'] at h1
   simp only [] at h1
   split at h1
   ·rename_i b hb
    exact ⟨b,hb,h1⟩
   ·exact h1.elim
  ·exact leH_get h2 m hm b' hb'
theorem nodup_map {α β : Type} {f : α -> β} : ∀ {l : List α},(l.map f).Nodup -> ∀ x ∈ l,∀ y ∈ l,f x = f y -> x = y
 | a :: l,h,x,hx,y,hy,he=>by
  rw [List.map_cons,List.nodup_cons] at h
  rcases List.mem_cons.1 hx with rfl | hx' <;> rcases List.mem_cons.1 hy with rfl | hy'
  ·rfl
  ·exact absurd (List.mem_map.2 ⟨y,hy',he.symm⟩) h.1
  ·exact absurd (List.mem_map.2 ⟨x,hx',he⟩) h.1
  ·exact nodup_map h.2 x hx' y hy' he
theorem leSt_ok {w0 : World} {I : Nat -> Prop} {s t : St} {a : Act} {w : World} (h : leSt names r s t) (hm : Models w0 I μ s a w) : Models w0 I (muOf names r μ) (t.only names) a w /\ Dom (muOf names r μ) t.next:=by
 unfold leSt at h
 split at h
 ·rename_i hc
  simp only [Bool.and_eq_true,decide_eq_true_eq,List.all_eq_true] at hc
  obtain ⟨hlt,hnd⟩:=hc
  obtain ⟨h1,h2⟩:=h
  obtain ⟨g1,g2⟩:=leVs_get h1
  have hmem : ∀ {n : Nat},names.contains n = true -> n ∈ names:=fun h=>by simpa using h
  have key : ∀ n b',(t.only names).heap n = some b' -> n ∈ names /\ ∃ b l,s.heap (renOf r n) = some b /\ μ (renOf r n) = some l /\ muOf names r μ n = some l /\ b'.ok (muOf names r μ) w l /\ b'.excl w l = b.excl w l /\ b'.uses w l = b.uses w l:=fun n b' hb'=>by
   simp only [St.only,only] at hb'
   split at hb'
   ·rename_i hn
    obtain ⟨b,hb,hle⟩:=leH_get h2 n (hmem hn) b' hb'
    obtain ⟨l,hl,hok⟩:=hm.hm.ok _ b hb
    obtain ⟨k1,k2,k3⟩:=leB_ok hle hok
    exact ⟨hmem hn,b,l,hb,hl,by simp only [muOf];rw [if_pos hn];exact hl,k1,k2,k3⟩
   ·cases hb'
  refine ⟨{ size:=by rw [hm.size];exact g1,slots:=fun i y hy=>?_,defers:=hm.defers,hm:=⟨fun n b' hb'=>?_,fun n m b c l k x hne hb hc' hl hk hx=>?_,hm.hm.zone,fun n b l x o hb hl hx=>?_⟩,mine:=fun n b l x hb hl hx=>?_,zmine:=hm.zmine,fr:=hm.fr },fun n l hl=>?_⟩
  ·obtain ⟨x,hx,hle⟩:=g2 i y hy
   obtain ⟨v,hv,hok⟩:=hm.slots i x hx
   exact ⟨v,hv,leV_ok hle hok⟩
  ·obtain ⟨_,b,l,_,_,k3,k4,_⟩:=key n b' hb'
   exact ⟨l,k3,k4⟩
  ·obtain ⟨n1,b0,l0,a1,a2,a3,a4,a5,a6⟩:=key n b hb
   obtain ⟨m1,c0,k0,b1,b2,b3,b4,b5,b6⟩:=key m c hc'
   rw [hl] at a3;cases a3
   rw [hk] at b3;cases b3
   rw [b6]
   exact hm.hm.apart (renOf r n) (renOf r m) b0 c0 l k x (fun e=>hne (nodup_map hnd n n1 m m1 e)) a1 b1 a2 b2 (by rw [← a5];exact hx)
  ·obtain ⟨n1,b0,l0,a1,a2,a3,a4,a5,a6⟩:=key n b hb
   rw [hl] at a3;cases a3
   exact hm.hm.zap _ b0 l x o a1 a2 (by rw [← a6];exact hx)
  ·obtain ⟨n1,b0,l0,a1,a2,a3,a4,a5,a6⟩:=key n b hb
   rw [hl] at a3;cases a3
   exact hm.mine _ b0 l x a1 a2 (by rw [← a5];exact hx)
  ·simp only [muOf] at hl
   split at hl
   ·rename_i hn
    exact hlt n (hmem hn)
   ·cases hl
 ·exact h.elim
end
inductive Ex where
 | nor
 | ret
 | exi (id : Nat)
structure Ann where
 A : Type
 names : St -> List Nat
 r0 : List (Nat × Nat):=[]
 r1 : St -> St -> List (Nat × Nat):=fun _ _=>[]
 st : Nat -> A -> St -> St
 inv : St -> Nat -> A -> Prop
 dec : St -> A -> Nat:=fun _ _=>0
 wit : St -> A
 lit : Option Nat:=none
structure Ctl where
 lp : Nat -> Option Ann
 cut : Nat -> Option Ann
 fuel : Nat
 spl : Nat -> Option (Nat × Int × Nat):=fun _=>none
 weak : Nat -> Bool:=fun _=>false
 owns : Nat -> Option (Nat × IntKind):=fun _=>none
def firstId : Code -> Option Nat
 | .region id _ _=>some id
 | .seq a b=>match firstId a with
  | some i=>some i
  | none=>firstId b
 | .cond _ a b=>match firstId a with
  | some i=>some i
  | none=>firstId b
 | .block _ b=>firstId b
 | .loop b=>firstId b
 | .scope b=>firstId b
 | _=>none
def annAt (f : Nat -> Option Ann) (c : Code) : Option Ann:=
 match firstId c with
 | some i=>f i
 | none=>none
def splAt (f : Nat -> Option (Nat × Int × Nat)) (c : Code) : Option (Nat × Int × Nat):=
 match firstId c with
 | some i=>f i
 | none=>none
def weakAt (f : Nat -> Bool) (c : Code) : Bool:=
 match firstId c with
 | some i=>f i
 | none=>false
def splGo (k : IntKind) (v : Int) (t : Nat) (s : St) (K : St -> Prop) : Int -> Nat -> Prop
 | _,0=>True
 | lo,n + 1=>(v = lo -> fSp (s.slots.set t (one (.num k lo))) fun sl=>K ⟨sl,s.heap,s.next⟩) /\ fI (lo + 1) fun lo=>splGo k v t s K lo n
def splitS (wk : Bool) (t : Nat) (lo : Int) (n : Nat) (s : St) (K : St -> Prop) : Prop:=
 match (s.slots.getD t .u).int? with
 | some (k,v,q)=>match q with
  | true=>K s
  | false=>match wk with
   | false=>Lf (lo <= v /\ v < lo + n) /\ splGo k v t s K lo n
   | true=>(¬(lo <= v /\ v < lo + n) -> K s) /\ splGo k v t s K lo n
 | none=>False
theorem splGo_ok {k : IntKind} {v : Int} {t : Nat} {s : St} {K : St -> Prop} : ∀ {n : Nat} {lo : Int},splGo k v t s K lo n -> lo <= v -> v < lo + n -> K { s with slots:=s.slots.set t (one (.num k v)) }
 | 0,lo,_,h1,h2=>by omega
 | n + 1,lo,h,h1,h2=>by
  simp only [splGo,fSp_eq,fI_eq] at h
  by_cases e : v = lo
  ·have:=h.1 e
   rw [← e] at this
   exact this
  ·exact splGo_ok h.2 (by omega) (by omega)
theorem splitS_ok {wk : Bool} {t : Nat} {lo : Int} {n : Nat} {s : St} {K : St -> Prop} {w0 : World} {I : Nat -> Prop} {μ : Mu} {a : Act} {w : World} (h : splitS wk t lo n s K) (hm : Models w0 I μ s a w) : ∃ s',Models w0 I μ s' a w /\ s'.next = s.next /\ K s':=by
 unfold splitS at h
 split at h
 ·rename_i k v q hi
  cases q
  ·have hh : ((lo <= v /\ v < lo + n) /\ splGo k v t s K lo n) \/ K s:=by
    cases wk
    ·exact .inl ⟨h.1.h,h.2⟩
    ·by_cases e : lo <= v /\ v < lo + n
     ·exact .inl ⟨e,h.2⟩
     ·exact .inr (h.1 e)
   rcases hh.symm with hh | ⟨⟨h1,h2⟩,h3⟩
   ·exact ⟨s,hm,rfl,hh⟩
   refine ⟨{ s with slots:=s.slots.set t (one (.num k v)) },⟨by simpa using hm.size,fun i x hx=>?_,hm.defers,hm.hm,hm.mine,hm.zmine,hm.fr⟩,rfl,splGo_ok h3 h1 h2⟩
   by_cases ht : t = i
   ·subst ht
    have hlt : t < s.slots.length:=by
     have:=(List.getElem?_eq_some_iff.1 hx).1
     simpa using this
    simp [hlt] at hx
    subst hx
    obtain ⟨u,hu,hok⟩:=hm.slots t _ (List.getElem?_eq_getElem hlt)
    have hi' : (s.slots[t]).int? = some (k,v,false):=by simpa [List.getD,hlt] using hi
    exact ⟨u,hu,SV.int_ok hi' hok⟩
   ·rw [List.getElem?_set_ne ht] at hx
    exact hm.slots i x hx
  ·exact ⟨s,hm,rfl,h⟩
 ·exact h.elim
def ownGo (t : Nat) (k : IntKind) (s : St) (h : Nat -> Option Blk) (L : List Int) (K : St -> Prop) : Prop:=
 ∀ c,L.length <= c -> fN s.next fun b=>fSp (s.slots.set t (one (.own b L.length c false))) fun sl=>fN (b + 4) fun nx=>K ⟨sl,upd h b (some (.oints k L)),nx⟩
def ownS (o : Option (Nat × IntKind)) (s : St) (K : St -> Prop) : Prop:=
 match o with
 | none=>K s
 | some (t,k)=>match dstN (s.slots.getD t .u) with
  | []=>match dstL k (s.slots.getD t .u) none with
   | some L=>ownGo t k s s.heap L K
   | none=>False
  | [a]=>match dstL k (s.slots.getD t .u) (some (s.heap a)) with
   | some L=>ownGo t k s (upd s.heap a none) L K
   | none=>False
  | _=>False
def ownAt (f : Nat -> Option (Nat × IntKind)) (c : Code) : Option (Nat × IntKind):=
 match firstId c with
 | some i=>f i
 | none=>none
theorem ownS_ok {o : Option (Nat × IntKind)} {s : St} {K : St -> Prop} {w0 : World} {I : Nat -> Prop} {μ : Mu} {a : Act} {w : World} (h : ownS o s K) (hm : Models w0 I μ s a w) (hd : Dom μ s.next) : ∃ μ' s',Models w0 I μ' s' a w /\ Dom μ' s'.next /\ K s':=by
 have hf : ∀ n ∈ freshN s.next,μ n = none:=fun n hn=>by
  cases hx : μ n with
  | none=>rfl
  | some l=>
   have:=hd n l hx
   simp [freshN] at hn
   omega
 have gen : ∀ (t : Nat) (k : IntKind) (L : List Int) (ws : List (Option Blk)),(s.slots.getD t .u) ≠ .u -> ((dstN (s.slots.getD t .u) = [] /\ ws = []) \/ ∃ a,dstN (s.slots.getD t .u) = [a] /\ ws = [none]) -> (∀ u,(s.slots.getD t .u).ok μ u -> DstOk μ s.heap w k (dstN (s.slots.getD t .u)) u L) →
   ownGo t k s (updL s.heap (dstN (s.slots.getD t .u)) ws) L K -> ∃ μ' s',Models w0 I μ' s' a w /\ Dom μ' s'.next /\ K s':=fun t k L ws hu hw hdst hk=>by
  have hlt : t < s.slots.length:=by
   rcases Nat.lt_or_ge t s.slots.length with h' | h'
   ·exact h'
   ·exact absurd (by simp [List.getD,List.getElem?_eq_none h']) hu
  obtain ⟨v,hv,hok⟩:=hm.slots t _ (List.getElem?_eq_getElem hlt)
  have hget : s.slots.getD t .u = s.slots[t]:=by simp [List.getD,hlt]
  obtain ⟨c,μ',hc,he⟩:=own_eff hf (hdst v (by rw [hget];exact hok)) hw
  have hM:=Models.apply (some t) hm hf (he.eff hm.hm)
  have ha : a.put (some t) v = a:=by
   obtain ⟨tm,df⟩:=a
   simp only [Act.put]
   congr 1
   apply Array.ext_getElem?
   intro i
   by_cases hi : t = i
   ·subst hi
    have hsz : t < tm.size:=(Array.getElem?_eq_some_iff.1 hv).1
    rw [hv]
    simp [hsz]
   ·rw [Array.getElem?_setIfInBounds_ne hi]
  rw [ha] at hM
  have hk2:=hk c hc
  simp only [fN_eq,fSp_eq] at hk2
  refine ⟨μ',⟨s.slots.set t (one (.own s.next L.length c false)),upd (updL s.heap (dstN (s.slots.getD t .u)) ws) s.next (some (.oints k L)),s.next + 4⟩,⟨hM.size,hM.slots,hM.defers,hM.hm,hM.mine,hM.zmine,hM.fr⟩,fun n l hl=>?_,hk2⟩
  show n < s.next + 4
  rcases he.dom n l hl with h' | h'
  ·have:=hd n l h';omega
  ·simp [freshN] at h';omega
 unfold ownS at h
 split at h
 ·exact ⟨μ,s,hm,hd,h⟩
 ·rename_i t k
  split at h
  ·rename_i hn
   split at h
   ·rename_i L hL
    refine gen t k L [] (fun e=>by rw [e] at hL;simp [dstL] at hL) (.inl ⟨hn,rfl⟩) (fun u hu=>dst_ok hm.hm hu (.inl rfl) hL) ?_
    rw [hn];exact h
   ·exact h.elim
  ·rename_i b hn
   split at h
   ·rename_i L hL
    refine gen t k L [none] (fun e=>by rw [e] at hL;simp [dstL] at hL) (.inr ⟨b,hn,rfl⟩) (fun u hu=>dst_ok hm.hm hu (.inr ⟨b,hn,rfl⟩) hL) ?_
    rw [hn];exact h
   ·exact h.elim
  ·exact h.elim
def unroll (B : St -> (Ex -> St -> Prop) -> Prop) (K : Ex -> St -> Prop) : Nat -> St -> Prop
 | 0,_=>False
 | n + 1,s=>B s fun e s'=>match e with
  | .nor=>unroll B K n s'
  | .ret=>K .ret s'
  | .exi i=>K (.exi i) s'
def rounds (X : Ann) (s : St) (B : St -> (Ex -> St -> Prop) -> Prop) (K : Ex -> St -> Prop) : Nat -> Nat -> Prop
 | k,0=>∀ x,X.inv s k x -> headK (X.names s) (X.st k x s) fun t=>B t fun e s'=>match e with
  | .nor=>False
  | .ret=>K .ret s'
  | .exi i=>K (.exi i) s'
 | k,n + 1=>(∀ x,X.inv s k x -> headK (X.names s) (X.st k x s) fun t=>B t fun e s'=>match e with
  | .nor=>leSt (X.names s) (X.r1 s s') s' (X.st (k + 1) (X.wit s') s) /\ Lf (X.inv s (k + 1) (X.wit s'))
  | .ret=>K .ret s'
  | .exi i=>K (.exi i) s') /\ rounds X s B K (k + 1) n
def loopW (X : Ann) (s : St) (B : St -> (Ex -> St -> Prop) -> Prop) (K : Ex -> St -> Prop) : Prop:=
 (leSt (X.names s) X.r0 s (X.st 0 (X.wit s) s) /\ Lf (X.inv s 0 (X.wit s))) ∧
 match X.lit with
 | some n=>rounds X s B K 0 n
 | none=>∀ x,X.inv s 0 x -> headK (X.names s) (X.st 0 x s) fun t=>B t fun e s'=>match e with
  | .nor=>(leSt (X.names s) (X.r1 s s') s' (X.st 0 (X.wit s') s) /\ Lf (X.inv s 0 (X.wit s'))) /\ Lf (X.dec s (X.wit s') < X.dec s x)
  | .ret=>K .ret s'
  | .exi i=>K (.exi i) s'
def cwp (P : Program) (Γ : Env) (C : Ctl) : Code -> St -> (Ex -> St -> Prop) -> Prop
 | .skip,s,K=>K .nor s
 | .label _,s,K=>K .nor s
 | .region _ ops d,s,K=>if d then regionD P Γ ops s (K .nor) else regionP P Γ ops s (K .nor)
 | .seq a b,s,K=>match annAt C.cut b with
  | none=>match splAt C.spl b with
   | none=>cwp P Γ C a s fun e s'=>match e with
    | .nor=>ownS (ownAt C.owns b) s' fun s2=>cwp P Γ C b s2 K
    | .ret=>K .ret s'
    | .exi i=>K (.exi i) s'
   | some (t,lo,n)=>cwp P Γ C a s fun e s'=>match e with
    | .nor=>splitS (weakAt C.weak b) t lo n s' fun s2=>cwp P Γ C b s2 K
    | .ret=>K .ret s'
    | .exi i=>K (.exi i) s'
  | some X=>(cwp P Γ C a s fun e s'=>match e with
    | .nor=>leSt (X.names s) X.r0 s' (X.st 0 (X.wit s') s) /\ Lf (X.inv s 0 (X.wit s'))
    | .ret=>K .ret s'
    | .exi i=>K (.exi i) s') /\ ∀ x,X.inv s 0 x -> headK (X.names s) (X.st 0 x s) fun t=>cwp P Γ C b t K
 | .cond c x y,s,K=>match (evS s.slots c).bool? with
  | some (b,q)=>match q with
   | true=>match b with
    | true=>cwp P Γ C x s K
    | false=>cwp P Γ C y s K
   | false=>(b = true -> cwp P Γ C x s K) /\ (b = false -> cwp P Γ C y s K)
  | none=>False
 | .block id b,s,K=>cwp P Γ C b s fun e s'=>match e with
  | .nor=>K .nor s'
  | .ret=>K .ret s'
  | .exi i=>if i = id then K .nor s' else K (.exi i) s'
 | .loop b,s,K=>match annAt C.lp b with
  | some X=>loopW X s (cwp P Γ C b) K
  | none=>unroll (cwp P Γ C b) K C.fuel s
 | .scope b,s,K=>cwp P Γ C b s K
 | .exit id,s,K=>K (.exi id) s
 | .ret,s,K=>K .ret s
 | _,_,_=>False
def Post (w0 : World) (I : Nat -> Prop) (K : Ex -> St -> Prop) : Exit -> Act -> World -> Prop
 | .normal,a,w=>At w0 I (K .nor) a w
 | .ret,a,w=>At w0 I (K .ret) a w
 | .exit i,a,w=>At w0 I (K (.exi i)) a w
 | _,_,_=>False
def Body (P : Program) (w0 : World) (I : Nat -> Prop) (c : Code) (B : St -> (Ex -> St -> Prop) -> Prop) : Prop:=
 ∀ s K μ a w,Models w0 I μ s a w -> Dom μ s.next -> B s K -> c.wp P (Post w0 I K) a w
theorem unroll_sound {P : Program} {w0 : World} {I : Nat -> Prop} {c : Code} {B : St -> (Ex -> St -> Prop) -> Prop} (hB : Body P w0 I c B) {K : Ex -> St -> Prop} {n : Nat} {μ : Mu} {s : St} {a : Act} {w : World}
  (hm : Models w0 I μ s a w) (hd : Dom μ s.next) (h : unroll B K n s) : (Code.loop c).wp P (Post w0 I K) a w:=by
 refine wp_loop_ghost (fun k a w=>At w0 I (unroll B K k) a w) n ⟨μ,s,hm,hd,h⟩ ?_
 rintro k a w ⟨μ,s,hm,hd,h⟩
 cases k with
 | zero=>exact h.elim
 | succ k=>
  refine wp_mono (hB s _ μ a w hm hd h) fun e a' w' he=>?_
  cases e with
  | normal=>exact ⟨k,Nat.lt_succ_self k,he⟩
  | ret=>exact he
  | exit i=>exact he
  | goto l=>exact he.elim
  | panic ch=>exact he.elim
  | outgrown=>exact he.elim
theorem rounds_get {X : Ann} {s : St} {B : St -> (Ex -> St -> Prop) -> Prop} {K : Ex -> St -> Prop} : ∀ {n k : Nat},rounds X s B K k n -> ∀ j,k <= j -> j <= k + n -> ∀ x,X.inv s j x -> B ((X.st j x s).only (X.names s)) fun e s'=>match e with
  | .nor=>if j = k + n then False else leSt (X.names s) (X.r1 s s') s' (X.st (j + 1) (X.wit s') s) /\ Lf (X.inv s (j + 1) (X.wit s'))
  | .ret=>K .ret s'
  | .exi i=>K (.exi i) s'
 | 0,k,h,j,h1,h2,x,hx=>by
  have e : j = k:=by omega
  subst e
  have:=h x hx
  rw [headK_eq] at this
  simp only [Nat.add_zero,if_true]
  exact this
 | n + 1,k,h,j,h1,h2,x,hx=>by
  by_cases e : j = k
  ·subst e
   have:=h.1 x hx
   rw [headK_eq] at this
   have hne : ¬ j = j + (n + 1):=by omega
   simp only [hne,if_false]
   exact this
  ·have:=rounds_get h.2 j (by omega) (by omega) x hx
   have e2 : k + 1 + n = k + (n + 1):=by omega
   rw [e2] at this
   exact this
theorem loopW_sound {P : Program} {w0 : World} {I : Nat -> Prop} {c : Code} {B : St -> (Ex -> St -> Prop) -> Prop} (hB : Body P w0 I c B) {X : Ann} {K : Ex -> St -> Prop} {μ : Mu} {s : St} {a : Act} {w : World}
  (hm : Models w0 I μ s a w) (hd : Dom μ s.next) (h : loopW X s B K) : (Code.loop c).wp P (Post w0 I K) a w:=by
 obtain ⟨⟨hle,hinv⟩,h⟩:=h
 obtain ⟨hm0,hd0⟩:=leSt_ok hle hm
 cases hl : X.lit with
 | none=>
  rw [hl] at h
  simp only [headK_eq] at h
  refine wp_loop_ghost (fun k a w=>∃ x,k = X.dec s x /\ X.inv s 0 x /\ ∃ μ,Models w0 I μ ((X.st 0 x s).only (X.names s)) a w /\ Dom μ (X.st 0 x s).next) _ ⟨X.wit s,rfl,hinv.h,_,hm0,hd0⟩ ?_
  rintro k a w ⟨x,rfl,hx,μ',hm',hd'⟩
  refine wp_mono (hB _ _ μ' a w hm' hd' (h x hx)) fun e a' w' he=>?_
  cases e with
  | normal=>
   obtain ⟨μ2,s2,hm2,hd2,⟨hle2,hinv2⟩,hlt⟩:=he
   obtain ⟨g1,g2⟩:=leSt_ok hle2 hm2
   exact ⟨_,hlt.h,X.wit s2,rfl,hinv2.h,_,g1,g2⟩
  | ret=>exact he
  | exit i=>exact he
  | goto l=>exact he.elim
  | panic ch=>exact he.elim
  | outgrown=>exact he.elim
 | some n=>
  rw [hl] at h
  simp only [] at h
  refine wp_loop_ghost (fun m a w=>∃ k x,k + m = n /\ X.inv s k x /\ ∃ μ,Models w0 I μ ((X.st k x s).only (X.names s)) a w /\ Dom μ (X.st k x s).next) n ⟨0,X.wit s,by omega,hinv.h,_,hm0,hd0⟩ ?_
  rintro m a w ⟨k,x,hkm,hx,μ',hm',hd'⟩
  refine wp_mono (hB _ _ μ' a w hm' hd' (rounds_get h k (by omega) (by omega) x hx)) fun e a' w' he=>?_
  cases e with
  | normal=>
   obtain ⟨μ2,s2,hm2,hd2,hh⟩:=he
   simp only [] at hh
   split at hh
   ·exact hh.elim
   ·obtain ⟨hle2,hinv2⟩:=hh
    obtain ⟨g1,g2⟩:=leSt_ok hle2 hm2
    exact ⟨m - 1,by omega,k + 1,X.wit s2,by omega,hinv2.h,_,g1,g2⟩
  | ret=>exact he
  | exit i=>exact he
  | goto l=>exact he.elim
  | panic ch=>exact he.elim
  | outgrown=>exact he.elim
theorem cwp_sound {P : Program} {Γ : Env} (hΓ : EnvOk P Γ) (hmix : P.follows .mixedOrders = true) (C : Ctl) {w0 : World} {I : Nat -> Prop} : ∀ c,Body P w0 I c (cwp P Γ C c):=by
 intro c
 induction c with
 | skip=>intro s K μ a w hm hd h;exact wp_skip ⟨μ,s,hm,hd,h⟩
 | label l=>intro s K μ a w hm hd h;exact wp_label ⟨μ,s,hm,hd,h⟩
 | region id ops d=>
  intro s K μ a w hm hd h
  simp only [cwp] at h
  cases d
  ·exact regionP_sound hΓ hm hd (fun a w h=>h) (by simpa using h)
  ·exact regionD_sound hΓ hmix hm hd (fun a w h=>h) (by simpa using h)
 | seq x y ihx ihy=>
  intro s K μ a w hm hd h
  simp only [cwp] at h
  split at h
  ·split at h
   ·refine wp_seq (wp_mono (ihx s _ μ a w hm hd h) fun e a' w' he=>?_)
    cases e with
    | normal=>
     obtain ⟨μ',s',h1,h2,h3⟩:=he
     obtain ⟨μ2,s2,g1,g2,g3⟩:=ownS_ok h3 h1 h2
     exact ihy s2 K μ2 a' w' g1 g2 g3
    | ret=>exact he
    | exit i=>exact he
    | goto l=>exact he.elim
    | panic ch=>exact he.elim
    | outgrown=>exact he.elim
   ·refine wp_seq (wp_mono (ihx s _ μ a w hm hd h) fun e a' w' he=>?_)
    cases e with
    | normal=>
     obtain ⟨μ',s',h1,h2,h3⟩:=he
     obtain ⟨s2,g1,g2,g3⟩:=splitS_ok h3 h1
     exact ihy s2 K μ' a' w' g1 (by rw [g2];exact h2) g3
    | ret=>exact he
    | exit i=>exact he
    | goto l=>exact he.elim
    | panic ch=>exact he.elim
    | outgrown=>exact he.elim
  ·rename_i X hX
   refine wp_seq (wp_mono (ihx s _ μ a w hm hd h.1) fun e a' w' he=>?_)
   cases e with
   | normal=>
    obtain ⟨μ',s',h1,h2,h3,h4⟩:=he
    obtain ⟨g1,g2⟩:=leSt_ok h3 h1
    have h5:=h.2 _ h4.h
    rw [headK_eq] at h5
    exact ihy _ K _ a' w' g1 g2 h5
   | ret=>exact he
   | exit i=>exact he
   | goto l=>exact he.elim
   | panic ch=>exact he.elim
   | outgrown=>exact he.elim
 | cond c x y ihx ihy=>
  intro s K μ a w hm hd h
  simp only [cwp] at h
  have hev:=evS_ok hm c
  split at h
  ·rename_i b q hb
   have hv:=SV.bool_ok hb hev
   cases q
   ·exact wp_cond_split hv (fun e=>ihx s K μ a w hm hd (h.1 e)) (fun e=>ihy s K μ a w hm hd (h.2 e))
   ·cases b
    ·exact wp_cond_false hv (ihy s K μ a w hm hd h)
    ·exact wp_cond_true hv (ihx s K μ a w hm hd h)
  ·exact h.elim
 | block id b ih=>
  intro s K μ a w hm hd h
  simp only [cwp] at h
  refine wp_block (wp_mono (ih s _ μ a w hm hd h) fun e a' w' he=>?_)
  cases e with
  | normal=>exact he
  | ret=>exact he
  | exit i=>
   obtain ⟨μ',s',h1,h2,h3⟩:=he
   simp only [Exit.inBlock]
   simp only [] at h3
   split
   ·rename_i hid
    rw [if_pos hid] at h3
    exact ⟨μ',s',h1,h2,h3⟩
   ·rename_i hid
    rw [if_neg hid] at h3
    exact ⟨μ',s',h1,h2,h3⟩
  | goto l=>exact he.elim
  | panic ch=>exact he.elim
  | outgrown=>exact he.elim
 | loop b ih=>
  intro s K μ a w hm hd h
  simp only [cwp] at h
  split at h
  ·exact loopW_sound ih hm hd h
  ·exact unroll_sound ih hm hd h
 | scope b ih=>
  intro s K μ a w hm hd h
  simp only [cwp] at h
  refine wp_scope_straight (wp_mono (ih s K μ a w hm hd h) fun e a' w' he=>?_)
  cases e with
  | normal=>exact he
  | ret=>exact he
  | exit i=>exact he
  | goto l=>exact he.elim
  | panic ch=>exact he.elim
  | outgrown=>exact he.elim
 | exit id=>intro s K μ a w hm hd h;exact wp_exit ⟨μ,s,hm,hd,h⟩
 | ret=>intro s K μ a w hm hd h;exact wp_ret ⟨μ,s,hm,hd,h⟩
 | rangeFunc=>intro s K μ a w hm hd h;exact h.elim
 | goto l=>intro s K μ a w hm hd h;exact h.elim
 | refuse why=>intro s K μ a w hm hd h;exact h.elim
end
end Zx
namespace Zx
noncomputable section
open Go Go.RowKit
def resS (P : Program) (s : St) : ResultVar -> Option S1
 | .tmp t=>match s.slots.getD t .u with
  | .s x=>some x
  | _=>none
 | .cell a t=>match s.slots.getD a .u,P.info? t,P.underlying t with
  | .s (.c (.ptr b i e j)),some inf,some d=>match s.heap b with
   | some k=>match blkGet k i e j inf.size with
    | some (none,cs)=>match packV (agD d) cs with
     | some (.s x)=>some x
     | _=>none
    | _=>none
   | none=>none
  | _,_,_=>none
def resL (P : Program) (s : St) : List ResultVar -> Option (List S1)
 | []=>some []
 | r :: rs=>match resS P s r,resL P s rs with
  | some x,some xs=>some (x :: xs)
  | _,_=>none
def resV : List S1 -> SV
 | [x]=>.s x
 | xs=>.t xs
def oneRes (tmps : Array Value) : ResultVar -> Sem Value
 | .tmp t=>pure (tmps.getD t undef)
 | .cell a t=>do loadVar t (← asAddr (tmps.getD a undef))
theorem resS_ok {P : Program} {w0 : World} {I : Nat -> Prop} {μ : Mu} {s : St} {a : Act} {w : World} (hm : Models w0 I μ s a w) {r : ResultVar} {x : S1} (h : resS P s r = some x) :
  ∃ v,(oneRes a.tmps r).run P w = .ok v w /\ x.ok μ v:=by
 have slot : ∀ (t : Nat) (y : SV),s.slots.getD t .u = y -> y ≠ .u -> y.ok μ (a.tmps.getD t undef):=fun t y hy hne=>by
  have:=evS_ok hm (.tmp t)
  simp only [evS,Act.eval] at this
  rw [hy] at this
  exact this
 cases r with
 | tmp t=>
  simp only [resS] at h
  split at h
  ·rename_i y hy
   cases h
   exact ⟨_,rfl,slot t _ hy (by simp)⟩
  ·cases h
 | cell ad t=>
  simp only [resS] at h
  split at h
  ·rename_i b i e j inf d hs hi hu
   split at h
   ·rename_i k hk
    split at h
    ·rename_i cs hg
     split at h
     ·rename_i y hp
      cases h
      obtain ⟨l,hl,hv⟩:=slot ad _ hs (by simp)
      obtain ⟨l',hl',hok⟩:=hm.hm.ok b k hk
      rw [hl] at hl';cases hl'
      obtain ⟨vs,h1,h2,h3⟩:=blkGet_ok hok hg trivial
      have hc : ∀ (x : Nat) (v : Value),vs[x]? = some v -> w.cell? ((⟨l.b,l.off + (i * e + j),none⟩ : Addr).add x) = some v:=fun x v hv=>by
       rw [Addr.add_lit'];exact h3 x v hv
      unfold packV at hp
      split at hp
      ·rename_i hag
       cases hp
       refine ⟨.agg vs.toArray, ?_,⟨vs,rfl,h2⟩⟩
       have hrun:=run_loadCells_list (P:=P) w ⟨l.b,l.off + (i * e + j),none⟩ vs hc
       rw [h1] at hrun
       simp [oneRes,hv,asAddr,loadVar,run_isAgg hu,hag,run_sizeOf' hi,hrun]
      ·rename_i hag
       split at hp
       ·rename_i c
        cases hp
        match vs,h2 with
        | [v],h2=>
         refine ⟨v, ?_,h2.1⟩
         have:=hc 0 v rfl
         rw [Addr.add_lit',Nat.add_zero] at this
         simp [oneRes,hv,asAddr,loadVar,run_isAgg hu,hag,this]
        | [],h2=>exact h2.elim
        | _ :: _ :: _,h2=>exact h2.2.elim
       ·cases hp
     ·cases h
    ·cases h
   ·cases h
  ·cases h
theorem resL_ok {P : Program} {w0 : World} {I : Nat -> Prop} {μ : Mu} {s : St} {a : Act} {w : World} (hm : Models w0 I μ s a w) : ∀ {rs : List ResultVar} {xs : List S1},resL P s rs = some xs →
  ∃ vs : List Value,(rs.mapM (oneRes a.tmps)).run P w = .ok vs w /\ AllS (S1.ok μ) xs vs
 | [],xs,h=>by cases h;exact ⟨[],rfl,trivial⟩
 | r :: rs,xs,h=>by
  simp only [resL] at h
  split at h
  ·rename_i x ys h1 h2
   cases h
   obtain ⟨v,g1,g2⟩:=resS_ok hm h1
   obtain ⟨vs,g3,g4⟩:=resL_ok hm h2
   exact ⟨v :: vs,by rw [List.mapM_cons];simp [g1,g3],g2,g4⟩
  ·cases h
theorem resV_ok {P : Program} {w0 : World} {I : Nat -> Prop} {μ : Mu} {s : St} {a : Act} {w : World} {fn : Func} (hm : Models w0 I μ s a w) {xs : List S1} (h : resL P s fn.results.toList = some xs) :
  ∃ v,(results fn a.tmps).run P w = .ok v w /\ (resV xs).ok μ v:=by
 obtain ⟨vs,h1,h2⟩:=resL_ok hm h
 have hrun : (results fn a.tmps).run P w = .ok (if h : vs.toArray.size = 1 then vs.toArray[0] else .tuple vs.toArray) w:=by
  have e : results fn a.tmps = (do let vs ← fn.results.mapM (oneRes a.tmps);pure (if h : vs.size = 1 then vs[0] else .tuple vs)):=by
   unfold results
   congr 1
  rw [e,Array.mapM_eq_mapM_toList]
  simp [h1]
 refine ⟨_,hrun, ?_⟩
 match xs,vs,h2 with
 | [],[],_=>exact ⟨[],rfl,trivial⟩
 | [x],[v],h2=>exact h2.1
 | x :: y :: xs,u :: v :: vs,h2=>exact ⟨u :: v :: vs,by simp,h2⟩
 | [],_ :: _,h2=>exact h2.elim
 | _ :: _,[],h2=>exact h2.elim
 | [_],_ :: _ :: _,h2=>exact h2.2.elim
 | _ :: _ :: _,[_],h2=>exact h2.2.elim
def retK (P : Program) (fn : Func) (K : SV -> St -> Prop) : Ex -> St -> Prop
 | .nor,s=>match resL P s fn.results.toList with
  | some xs=>K (resV xs) s
  | none=>False
 | .ret,s=>match resL P s fn.results.toList with
  | some xs=>K (resV xs) s
  | none=>False
 | .exi _,_=>False
def entry (fn : Func) (args : List SV) (h : Nat -> Option Blk) (next : Nat) : St:={ slots:=args ++ List.replicate (fn.ntmps - args.length) .u,heap:=h,next }
def entryK (fn : Func) (args : List SV) (h : Nat -> Option Blk) (next : Nat) (K : St -> Prop) : Prop:=fVs (args ++ List.replicate (fn.ntmps - args.length) .u) fun sl=>fN next fun n=>K ⟨sl,h,n⟩
theorem entryK_eq (fn : Func) (args : List SV) (h : Nat -> Option Blk) (next : Nat) (K : St -> Prop) : entryK fn args h next K = K (entry fn args h next):=by simp only [entryK,fVs_eq,fN_eq];rfl
theorem allV_len {μ : Mu} : ∀ {xs : List SV} {vs : List Value},AllV μ xs vs -> xs.length = vs.length
 | [],[],_=>rfl
 | _ :: _,_ :: _,h=>by simp [allV_len h.2]
 | [],_ :: _,h=>h.elim
 | _ :: _,[],h=>h.elim
theorem allV_get {μ : Mu} : ∀ {xs : List SV} {vs : List Value},AllV μ xs vs -> ∀ (i : Nat) (x : SV),xs[i]? = some x -> ∃ v,vs[i]? = some v /\ x.ok μ v
 | [],[],_,i,x,h=>by simp at h
 | _ :: _,v :: _,hh,0,x,h=>by simp at h;subst h;exact ⟨v,rfl,hh.1⟩
 | _ :: _,_ :: _,hh,i + 1,x,h=>by simpa using allV_get hh.2 i x (by simpa using h)
 | [],_ :: _,h,_,_,_=>h.elim
 | _ :: _,[],h,_,_,_=>h.elim
theorem fn_sound {P : Program} {Γ : Env} (hΓ : EnvOk P Γ) (hmix : P.follows .mixedOrders = true) (C : Ctl) {f : FuncId} {fn : Func} {c : Code} (hf : P.funcs[f]? = some fn) (hb : fn.body = some c)
  {I : Nat -> Prop} {μ : Mu} {args : List SV} {vals : List Value} {h : Nat -> Option Blk} {next : Nat} {w : World} {K : SV -> St -> Prop} (ha : AllV μ args vals) (hm : HeapM μ h w) (hd : Dom μ next)
  (hmine : ∀ n b l x,h n = some b -> μ n = some l -> b.excl w l x -> I x \/ w.heap.size <= x) (hz : ∀ x o c,μ.sig x o = some c -> I x \/ w.heap.size <= x) (hk0 : entryK fn args h next fun s=>cwp P Γ C c s (retK P fn K)) :
  Calls P f vals.toArray w fun e w'=>∃ v sv μ' s a,e = .returned v /\ Models w I μ' s a w' /\ sv.ok μ' v /\ K sv s:=by
 have hk:=hk0
 rw [entryK_eq] at hk
 have hl:=allV_len ha
 have hM : Models w I μ (entry fn args h next) { tmps:=vals.toArray ++ Array.replicate (fn.ntmps - vals.toArray.size) undef,defers:=[] } w:=
  {
   size:=by simp [entry,hl],defers:=rfl,hm:=hm,mine:=hmine,zmine:=hz,fr:=⟨rfl,rfl,rfl,Nat.le_refl _,fun _ _ _=>rfl⟩
   slots:=fun i x hx=>by
    simp only [entry] at hx
    rcases Nat.lt_or_ge i args.length with hlt | hge
    ·rw [List.getElem?_append_left hlt] at hx
     obtain ⟨v,hv,hok⟩:=allV_get ha i x hx
     exact ⟨v,by rw [Array.getElem?_append_left (by simp;omega)];simpa using hv,hok⟩
    ·rw [List.getElem?_append_right hge] at hx
     have hlt2 : i - args.length < fn.ntmps - args.length:=by
      have:=(List.getElem?_eq_some_iff.1 hx).1
      simpa using this
     rw [List.getElem?_replicate] at hx
     simp [hlt2] at hx
     subst hx
     refine ⟨undef, ?_,trivial⟩
     rw [Array.getElem?_append_right (by simp;omega)]
     simp [← hl,hlt2] }
 refine calls_of_wp hf hb (wp_mono (cwp_sound hΓ hmix C c _ _ μ _ w hM hd hk) fun e a' w' he=>?_)
 have fin : At w I (fun s=>match resL P s fn.results.toList with | some xs=>K (resV xs) s | none=>False) a' w' →
   a'.defers = [] /\ ∃ v,(results fn a'.tmps).run P w' = .ok v w' /\ ∃ v' sv μ' s a,Ending.returned v = .returned v' /\ Models w I μ' s a w' /\ sv.ok μ' v' /\ K sv s:=by
  rintro ⟨μ',s,h1,h2,h3⟩
  split at h3
  ·rename_i xs hxs
   obtain ⟨v,g1,g2⟩:=resV_ok h1 hxs
   exact ⟨h1.defers,v,g1,v,_,μ',s,a',rfl,h1,g2,h3⟩
  ·exact h3.elim
 cases e with
 | normal=>exact fin he
 | ret=>exact fin he
 | exit i=>obtain ⟨_,_,_,_,h⟩:=he;exact h.elim
 | goto l=>exact he.elim
 | panic ch=>exact he.elim
 | outgrown=>exact he.elim
inductive Leaf where
 | I (n : Int)
 | B (b : Bool)
 | S (z : ByteArray)
inductive LK where
 | i (k : IntKind)
 | b
 | s
inductive PV where
 | c (k : LK)
 | a (ks : List LK)
def matchC : LK -> SC -> Option Leaf
 | .i k,.num k' n=>if k = k' then some (.I n) else none
 | .i k,.int k' n=>if k = k' then some (.I n) else none
 | .b,.tru b=>some (.B b)
 | .b,.boo b=>some (.B b)
 | .s,.str z=>some (.S z)
 | _,_=>none
def matchL : List LK -> List SC -> Option (List Leaf)
 | [],[]=>some []
 | k :: ks,c :: cs=>match matchC k c,matchL ks cs with
  | some l,some L=>some (l :: L)
  | _,_=>none
 | _,_=>none
def matchV : List PV -> List SV -> Option (List Leaf)
 | [],[]=>some []
 | .c k :: ps,.s (.c c) :: xs=>match matchC k c,matchV ps xs with
  | some l,some L=>some (l :: L)
  | _,_=>none
 | .a ks :: ps,.s (.a cs) :: xs=>match matchL ks cs,matchV ps xs with
  | some l,some L=>some (l ++ L)
  | _,_=>none
 | _,_=>none
def instC : LK -> Leaf -> SC
 | .i k,.I n=>.int k n
 | .b,.B b=>.boo b
 | .s,.S z=>.str z
 | _,_=>.nil
def instL : List LK -> List Leaf -> List SC
 | k :: ks,l :: L=>instC k l :: instL ks L
 | _,_=>[]
def instVs : List PV -> List Leaf -> List SV
 | .c k :: ps,l :: L=>one (instC k l) :: instVs ps L
 | .a ks :: ps,L=>.s (.a (instL ks L)) :: instVs ps (L.drop ks.length)
 | _,_=>[]
def fitC : LK -> Leaf -> Bool
 | .i _,.I _=>true
 | .b,.B _=>true
 | .s,.S _=>true
 | _,_=>false
def kinds : List PV -> List LK
 | []=>[]
 | .c k :: ps=>k :: kinds ps
 | .a ks :: ps=>ks ++ kinds ps
def fits : List LK -> List Leaf -> Bool
 | [],[]=>true
 | k :: ks,l :: L=>fitC k l && fits ks L
 | _,_=>false
def gI (L : List Leaf) (i : Nat) : Int:=
 match L[i]? with
 | some (.I n)=>n
 | _=>0
def gB (L : List Leaf) (i : Nat) : Bool:=
 match L[i]? with
 | some (.B n)=>n
 | _=>false
theorem fit_i {k : IntKind} {ks : List LK} {L : List Leaf} (h : fits (.i k :: ks) L = true) : ∃ n L',L = .I n :: L' /\ fits ks L' = true:=by
 match L,h with
 | .I n :: L',h=>exact ⟨n,L',rfl,by simpa [fits,fitC] using h⟩
 | .B _ :: _,h=>simp [fits,fitC] at h
 | .S _ :: _,h=>simp [fits,fitC] at h
 | [],h=>simp [fits] at h
theorem fit_b {ks : List LK} {L : List Leaf} (h : fits (.b :: ks) L = true) : ∃ n L',L = .B n :: L' /\ fits ks L' = true:=by
 match L,h with
 | .B n :: L',h=>exact ⟨n,L',rfl,by simpa [fits,fitC] using h⟩
 | .I _ :: _,h=>simp [fits,fitC] at h
 | .S _ :: _,h=>simp [fits,fitC] at h
 | [],h=>simp [fits] at h
theorem fit_nil {L : List Leaf} (h : fits [] L = true) : L = []:=by
 cases L with
 | nil=>rfl
 | cons l L=>simp [fits] at h
theorem fits_append : ∀ {a b : List LK} {L M : List Leaf},fits a L = true -> fits b M = true -> fits (a ++ b) (L ++ M) = true
 | [],_,[],_,_,h=>h
 | k :: a,b,l :: L,M,h,h2=>by
  simp only [fits,Bool.and_eq_true] at h
  simp only [List.cons_append,fits,Bool.and_eq_true]
  exact ⟨h.1,fits_append h.2 h2⟩
 | [],_,_ :: _,_,h,_=>by simp [fits] at h
 | _ :: _,_,[],_,h,_=>by simp [fits] at h
def noMu : Mu:=⟨fun _=>none,fun _ _=>none⟩
theorem matchC_ok {μ : Mu} {k : LK} {c : SC} {l : Leaf} {v : Value} (h : matchC k c = some l) (hc : c.ok μ v) : (instC k l).ok noMu v /\ fitC k l = true:=by
 unfold matchC at h
 split at h
 ·split at h
  ·rename_i hk;subst hk;cases h;exact ⟨hc,rfl⟩
  ·cases h
 ·split at h
  ·rename_i hk;subst hk;cases h;exact ⟨hc,rfl⟩
  ·cases h
 ·cases h;exact ⟨hc,rfl⟩
 ·cases h;exact ⟨hc,rfl⟩
 ·cases h;exact ⟨hc,rfl⟩
 ·cases h
theorem matchL_ok {μ : Mu} : ∀ {ks : List LK} {cs : List SC} {L : List Leaf} {vs : List Value},matchL ks cs = some L -> All2 (SC.ok μ) cs vs -> (∀ M,All2 (SC.ok noMu) (instL ks (L ++ M)) vs) /\ fits ks L = true /\ L.length = ks.length
 | [],[],L,[],h,_=>by cases h;exact ⟨fun M=>by cases M <;> trivial,rfl,rfl⟩
 | k :: ks,c :: cs,L,v :: vs,h,hc=>by
  simp only [matchL] at h
  split at h
  ·rename_i l L' h1 h2
   cases h
   obtain ⟨g1,g2⟩:=matchC_ok h1 hc.1
   obtain ⟨g3,g4,g5⟩:=matchL_ok h2 hc.2
   exact ⟨fun M=>⟨g1,g3 M⟩,by simp [fits,g2,g4],by simp [g5]⟩
  ·cases h
 | [],[],_,_ :: _,_,hc=>hc.elim
 | _ :: _,_ :: _,_,[],_,hc=>hc.elim
 | [],_ :: _,_,_,h,_=>by cases h
 | _ :: _,[],_,_,h,_=>by cases h
theorem matchV_ok {μ : Mu} : ∀ {ps : List PV} {xs : List SV} {L : List Leaf} {vs : List Value},matchV ps xs = some L -> AllV μ xs vs -> AllV noMu (instVs ps L) vs /\ fits (kinds ps) L = true
 | [],[],L,[],h,_=>by cases h;exact ⟨trivial,rfl⟩
 | .c k :: ps,.s (.c c) :: xs,L,v :: vs,h,hc=>by
  simp only [matchV] at h
  split at h
  ·rename_i l L' h1 h2
   cases h
   obtain ⟨g1,g2⟩:=matchC_ok h1 hc.1
   obtain ⟨g3,g4⟩:=matchV_ok h2 hc.2
   exact ⟨⟨g1,g3⟩,by simp [kinds,fits,g2,g4]⟩
  ·cases h
 | .a ks :: ps,.s (.a cs) :: xs,L,v :: vs,h,hc=>by
  simp only [matchV] at h
  split at h
  ·rename_i l L' h1 h2
   cases h
   obtain ⟨us,rfl,ha⟩:=hc.1
   obtain ⟨g1,g2,g5⟩:=matchL_ok h1 ha
   obtain ⟨g3,g4⟩:=matchV_ok h2 hc.2
   refine ⟨⟨⟨us,rfl,g1 L'⟩, ?_⟩,fits_append g2 g4⟩
   rw [← g5,List.drop_left]
   exact g3
  ·cases h
 | [],[],_,_ :: _,_,hc=>hc.elim
 | _ :: _,_ :: _,_,[],h,hc=>hc.elim
 | [],_ :: _,_,_,h,_=>by cases h
 | .c _ :: _,[],_,_,h,_=>by cases h
 | .a _ :: _,[],_,_,h,_=>by cases h
 | .c _ :: _,.s (.a _) :: _,_,_,h,_=>by cases h
 | .a _ :: _,.s (.c _) :: _,_,_,h,_=>by cases h
 | .c _ :: _,.t _ :: _,_,_,h,_=>by cases h
 | .c _ :: _,.u :: _,_,_,h,_=>by cases h
 | .a _ :: _,.t _ :: _,_,_,h,_=>by cases h
 | .a _ :: _,.u :: _,_,_,h,_=>by cases h
def SC.val : SC -> Value
 | .num k n=>.int k n
 | .int k n=>.int k n
 | .tru b=>.bool b
 | .boo b=>.bool b
 | .str z=>.string z
 | .nil=>.pointer none
 | _=>undef
def SV.val : SV -> Value
 | .s (.c c)=>c.val
 | .s (.a cs)=>.agg (cs.map SC.val).toArray
 | _=>undef
theorem instC_val {μ : Mu} {k : LK} {l : Leaf} {v : Value} (h : (instC k l).ok μ v) : v = (instC k l).val:=by
 cases k <;> cases l <;> exact h
theorem instL_val {μ : Mu} : ∀ {ks : List LK} {L : List Leaf} {vs : List Value},All2 (SC.ok μ) (instL ks L) vs -> vs = (instL ks L).map SC.val
 | [],_,[],_=>rfl
 | _ :: _,[],[],_=>rfl
 | k :: ks,l :: L,v :: vs,h=>by simp only [instL,List.map_cons];rw [← instC_val h.1,← instL_val h.2]
 | [],_,_ :: _,h=>h.elim
 | _ :: _,[],_ :: _,h=>h.elim
 | _ :: _,_ :: _,[],h=>h.elim
theorem instVs_val {μ : Mu} : ∀ {ps : List PV} {L : List Leaf} {vs : List Value},AllV μ (instVs ps L) vs -> vs = (instVs ps L).map SV.val
 | [],_,[],_=>rfl
 | .c _ :: _,[],[],_=>rfl
 | .c k :: ps,l :: L,v :: vs,h=>by
  simp only [instVs,List.map_cons]
  rw [← instVs_val h.2]
  congr 1
  exact instC_val h.1
 | .a ks :: ps,L,v :: vs,h=>by
  simp only [instVs] at h ⊢
  obtain ⟨⟨us,rfl,ha⟩,h2⟩:=h
  rw [List.map_cons,← instVs_val h2,instL_val ha]
  rfl
 | [],_,_ :: _,h=>h.elim
 | .c _ :: _,[],_ :: _,h=>h.elim
 | .c _ :: _,_ :: _,[],h=>h.elim
 | .a _ :: _,_,[],h=>h.elim
structure Con0 where
 pat : List PV
 pre : Option (List Leaf -> Prop):=none
 out : List Leaf -> Out SV
def preO (p : Option (List Leaf -> Prop)) (L : List Leaf) (o : Out SV) : Out SV:=
 match p with
 | none=>o
 | some p=>.ast (p L) o
def preP (p : Option (List Leaf -> Prop)) (L : List Leaf) : Prop:=
 match p with
 | none=>True
 | some p=>p L
theorem preO_ok {p : Option (List Leaf -> Prop)} {L : List Leaf} {o : Out SV} {K : SV -> Prop} (h : (preO p L o).wp K) : preP p L /\ o.wp K:=by
 cases p with
 | none=>exact ⟨trivial,h⟩
 | some p=>exact ⟨h.1.h,h.2⟩
def Con0.spec (c : Con0) : Spec:=fun _ args=>match matchV c.pat args with
 | some L=>Req.pure (preO c.pre L (c.out L))
 | none=>Req.fail
def Out.mt : Out SV -> SV -> Prop
 | .ret a,x=>leV [] [] x a
 | .fail,_=>False
 | .eqn e f,x=>∀ y,y = e -> (f y).mt x
 | .br c a b,x=>(c /\ a.mt x) \/ (¬c /\ b.mt x)
 | .brB q a b,x=>(q = true /\ a.mt x) \/ (q = false /\ b.mt x)
 | .ast _ k,x=>k.mt x
 | .fact _ _ k,x=>k.mt x
 | .all φ _ f,x=>∃ y,φ y /\ (f y).mt x
theorem Out.mt_posts : ∀ {o : Out SV} {x : SV},o.mt x -> ∃ r,o.posts r /\ leV [] [] x r
 | .ret a,x,h=>⟨a,rfl,h⟩
 | .fail,_,h=>h.elim
 | .eqn e f,x,h=>Out.mt_posts (o:=f e) (h e rfl)
 | .br c a b,x,h=>by
  rcases h with ⟨hc,h⟩ | ⟨hc,h⟩
  ·obtain ⟨r,h1,h2⟩:=Out.mt_posts h;exact ⟨r,.inl ⟨hc,h1⟩,h2⟩
  ·obtain ⟨r,h1,h2⟩:=Out.mt_posts h;exact ⟨r,.inr ⟨hc,h1⟩,h2⟩
 | .brB q a b,x,h=>by
  rcases h with ⟨hc,h⟩ | ⟨hc,h⟩
  ·obtain ⟨r,h1,h2⟩:=Out.mt_posts h;exact ⟨r,.inl ⟨hc,h1⟩,h2⟩
  ·obtain ⟨r,h1,h2⟩:=Out.mt_posts h;exact ⟨r,.inr ⟨hc,h1⟩,h2⟩
 | .ast _ k,x,h=>Out.mt_posts (o:=k) h
 | .fact _ _ k,x,h=>Out.mt_posts (o:=k) h
 | .all φ _ f,x,⟨y,hy,h⟩=>by obtain ⟨r,h1,h2⟩:=Out.mt_posts h;exact ⟨r,⟨y,hy,h1⟩,h2⟩
theorem noHeap (w : World) : HeapM noMu (fun _=>none) w:=⟨fun _ _ h=>(by cases h),fun _ _ _ _ _ _ _ _ h=>(by cases h),fun _ _ _ h=>(by cases h),fun _ _ _ _ _ h=>(by cases h)⟩
theorem leC_ok0 {r : List (Nat × Nat)} {μ : Mu} {x y : SC} {v : Value} (h : leC [] r x y) (hx : x.ok μ v) : y.ok noMu v:=by
 have h2:=leC_ok h hx
 cases y with
 | ptr b i e j=>obtain ⟨l,hl,_⟩:=h2;simp [muOf] at hl
 | sli b i e j n c q=>obtain ⟨l,a,hl,_⟩:=h2;simp [muOf] at hl
 | own b n c q=>obtain ⟨l,a,hl,_⟩:=h2;simp [muOf] at hl
 | zp L=>cases x <;> simp [leC] at h
 | zs E n c q=>cases x <;> simp [leC] at h
 | zpa b o L=>cases x <;> simp [leC] at h
 | zsa b o E n c=>cases x <;> simp [leC] at h
 | clo f cs=>cases x <;> simp [leC] at h
 | _=>exact h2
theorem leL_ok0 {r : List (Nat × Nat)} {μ : Mu} : ∀ {xs ys : List SC} {vs : List Value},leL [] r xs ys -> All2 (SC.ok μ) xs vs -> All2 (SC.ok noMu) ys vs
 | [],[],[],_,_=>trivial
 | [],[],_ :: _,_,h=>h.elim
 | [x],[y],[v],h,hh=>⟨leC_ok0 h hh.1,trivial⟩
 | [x],[y],_ :: _ :: _,_,hh=>hh.2.elim
 | [_],[_],[],_,hh=>hh.elim
 | x :: x2 :: xs,y :: y2 :: ys,v :: vs,h,hh=>⟨leC_ok0 h.1 hh.1,leL_ok0 h.2 hh.2⟩
 | _ :: _ :: _,_ :: _ :: _,[],_,hh=>hh.elim
 | [],_ :: _,_,h,_=>by simp [leL] at h
 | _ :: _,[],_,h,_=>by simp [leL] at h
 | [_],_ :: _ :: _,_,h,_=>by simp [leL] at h
 | _ :: _ :: _,[_],_,h,_=>by simp [leL] at h
theorem leS1_ok0 {r : List (Nat × Nat)} {μ : Mu} {x y : S1} {v : Value} (h : leS1 [] r x y) (hx : x.ok μ v) : y.ok noMu v:=by
 cases x with
 | c x=>cases y with
  | c y=>exact leC_ok0 h hx
  | a ys=>exact h.elim
 | a xs=>cases y with
  | c y=>exact h.elim
  | a ys=>obtain ⟨vs,hv,ha⟩:=hx;exact ⟨vs,hv,leL_ok0 h ha⟩
theorem leT_ok0 {r : List (Nat × Nat)} {μ : Mu} : ∀ {xs ys : List S1} {vs : List Value},leT [] r xs ys -> AllS (S1.ok μ) xs vs -> AllS (S1.ok noMu) ys vs
 | [],[],[],_,_=>trivial
 | [],[],_ :: _,_,h=>h.elim
 | x :: xs,y :: ys,v :: vs,h,hh=>⟨leS1_ok0 h.1 hh.1,leT_ok0 h.2 hh.2⟩
 | _ :: _,_ :: _,[],_,hh=>hh.elim
 | [],_ :: _,_,h,_=>h.elim
 | _ :: _,[],_,h,_=>h.elim
theorem leV_ok0 {r : List (Nat × Nat)} {μ : Mu} {x y : SV} {v : Value} (h : leV [] r x y) (hx : x.ok μ v) : y.ok noMu v:=by
 cases y with
 | u=>trivial
 | s y=>cases x with
  | s x=>exact leS1_ok0 h hx
  | t xs=>exact h.elim
  | u=>exact h.elim
 | t ys=>cases x with
  | s x=>exact h.elim
  | t xs=>obtain ⟨vs,hv,ha⟩:=hx;exact ⟨vs,hv,leT_ok0 h ha⟩
  | u=>exact h.elim
def Con0.vc (c : Con0) (P : Program) (Γ : Env) (C : Ctl) (fn : Func) (L : List Leaf) : Prop:=
 entryK fn (instVs c.pat L) (fun _=>none) 0 fun s=>cwp P Γ C (fn.body.getD .skip) s (retK P fn fun sv _=>(c.out L).mt sv)
theorem Con0.calls {P : Program} {Γ : Env} (hΓ : EnvOk P Γ) (hmix : P.follows .mixedOrders = true) {C : Ctl} {f : FuncId} {fn : Func} (hf : P.funcs[f]? = some fn) (hb : fn.body.isSome = true) (c : Con0)
  {L : List Leaf} (h : c.vc P Γ C fn L) {vals : List Value} {w : World} (ha : AllV noMu (instVs c.pat L) vals) :
  Calls P f vals.toArray w fun e w'=>∃ v r,e = .returned v /\ (c.out L).posts r /\ r.ok noMu v /\ Below w.heap.size w w':=by
 have hb' : fn.body = some (fn.body.getD .skip):=by
  cases hx : fn.body with
  | none=>rw [hx] at hb;cases hb
  | some c=>rfl
 refine (fn_sound hΓ hmix C hf hb' (I:=fun _=>False) ha (noHeap w) (fun n l hl=>by cases hl) (fun n b l x hb=>by cases hb) (fun _ _ _ hs=>by cases hs) h).mono fun e w' he=>?_
 obtain ⟨v,sv,μ',s,a,rfl,hm,hok,hk⟩:=he
 obtain ⟨r,h1,h2⟩:=Out.mt_posts hk
 have h3:=leV_ok0 h2 hok
 exact ⟨v,r,rfl,h1,h3,⟨hm.fr.os,hm.fr.tape,hm.fr.output,hm.fr.size,fun x hx=>hm.fr.block x hx fun h=>h⟩⟩
theorem ok_noMu {μ : Mu} {x : SV} {v : Value} (h : x.ok noMu v) : x.ok μ v:=SV.ok_ext ⟨fun n l hl=>(by cases hl),fun _ _ _ h=>(by cases h)⟩ h
theorem Con0.ok {P : Program} {Γ : Env} (hΓ : EnvOk P Γ) (hmix : P.follows .mixedOrders = true) {C : Ctl} {f : FuncId} {fn : Func} (hf : P.funcs[f]? = some fn) (hb : fn.body.isSome = true) (c : Con0)
  (h : ∀ L,fits (kinds c.pat) L = true -> preP c.pre L -> c.vc P Γ C fn L) : SpecOk P f c.spec:=by
 intro μ hh w base args vals hm ha hfr K hk
 unfold Con0.spec at hk ⊢
 split at hk
 ·rename_i L hL
  obtain ⟨h1,h2⟩:=preO_ok (Out.wp_bind.1 hk)
  obtain ⟨ha',hft⟩:=matchV_ok hL ha
  refine (Con0.calls hΓ hmix hf hb c (h L hft h1) ha').mono fun e w' he=>?_
  obtain ⟨v,r,rfl,g1,g2,g3⟩:=he
  exact ⟨v,μ,⟨r,[],[]⟩,rfl,Out.wp_posts h2 r g1,Eff0.eff hm { ext:=Ext.refl μ,dom:=fun _ _ h=>.inl h,val:=ok_noMu g2,os:=g3.os,tape:=g3.tape,output:=g3.output,size:=g3.size,keep:=fun x hx _=>g3.block x hx,wrs:=List.nodup_nil,wsl:=rfl,nsl:=by simp,olds:=fun j n b' h=>by simp [Req.pure] at h,news:=fun j b h=>by simp at h,newsApart:=fun j k b c l m x _ h=>by simp at h }⟩
 ·exact hk.elim
def keepS (is : List Nat) : Nat -> List SV -> List SV
 | _,[]=>[]
 | i,x :: xs=>(if is.contains i then x else .u) :: keepS is (i + 1) xs
def ptrN (x : SV) : Nat:=
 match x with
 | .s (.c (.ptr b _ _ _))=>b
 | _=>0
def intN (x : SV) : Int:=
 match x with
 | .s (.c (.int _ n))=>n
 | .s (.c (.num _ n))=>n
 | _=>0
def boolN (x : SV) : Bool:=
 match x with
 | .s (.c (.boo n))=>n
 | .s (.c (.tru n))=>n
 | _=>false
def cellsN (b : Option Blk) : List SC:=
 match b with
 | some (.cells _ cs)=>cs
 | _=>[]
def cellI (cs : List SC) (i : Nat) : Int:=
 match cs[i]? with
 | some (.int _ n)=>n
 | some (.num _ n)=>n
 | _=>0
def cellB (cs : List SC) (i : Nat) : Bool:=
 match cs[i]? with
 | some (.boo n)=>n
 | some (.tru n)=>n
 | _=>false
theorem Con0.of_calls {P : Program} {f : FuncId} (c : Con0) (h : ∀ L,fits (kinds c.pat) L = true -> preP c.pre L -> ∀ w,Calls P f ((instVs c.pat L).map SV.val).toArray w fun e w'=>∃ v r,e = .returned v /\ (c.out L).posts r /\ r.ok noMu v /\ Below w.heap.size w w') : SpecOk P f c.spec:=by
 intro μ hh w base args vals hm ha hfr K hk
 unfold Con0.spec at hk ⊢
 split at hk
 ·rename_i L hL
  obtain ⟨h1,h2⟩:=preO_ok (Out.wp_bind.1 hk)
  obtain ⟨ha',hft⟩:=matchV_ok hL ha
  rw [instVs_val ha']
  refine (h L hft h1 w).mono fun e w' he=>?_
  obtain ⟨v,r,rfl,g1,g2,g3⟩:=he
  exact ⟨v,μ,⟨r,[],[]⟩,rfl,Out.wp_posts h2 r g1,Eff0.eff hm { ext:=Ext.refl μ,dom:=fun _ _ h=>.inl h,val:=ok_noMu g2,os:=g3.os,tape:=g3.tape,output:=g3.output,size:=g3.size,keep:=fun x hx _=>g3.block x hx,wrs:=List.nodup_nil,wsl:=rfl,nsl:=by simp,olds:=fun j n b' h=>by simp [Req.pure] at h,news:=fun j b h=>by simp at h,newsApart:=fun j k b c l m x _ h=>by simp at h }⟩
 ·exact hk.elim
def envL : List (FuncId × Spec) -> Env
 | []=>fun _=>none
 | (f,sp) :: l=>fun g=>if g = f then some sp else envL l g
theorem envL_nil (P : Program) : EnvOk P (envL []):=fun f sp h=>by cases h
theorem envL_cons {P : Program} {f : FuncId} {sp : Spec} {l : List (FuncId × Spec)} (hc : Callable P f) (hs : SpecOk P f sp) (h : EnvOk P (envL l)) : EnvOk P (envL ((f,sp) :: l)):=fun g sp' hg=>by
 simp only [envL] at hg
 split at hg
 ·rename_i e
  subst e
  cases hg
  exact ⟨hc,hs⟩
 ·exact h g sp' hg
theorem of_eq {a b : Prop} (e : a = b) (h : b) : a:=e ▸ h
end
end Zx
namespace Zx
noncomputable section
open Go
end
end Zx
