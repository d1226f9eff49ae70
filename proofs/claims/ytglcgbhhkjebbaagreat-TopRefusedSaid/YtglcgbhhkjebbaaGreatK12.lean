/- A part of the proof: lemmas. No condition of its own. -/
import Derived.Test.YtglcgbhhkjebbaaGreatK09
import Derived.Test.YtglcgbhhkjebbaaGreatK11
set_option linter.unusedVariables false
set_option linter.unusedSimpArgs false
namespace Vx
noncomputable section
open Go Zx
inductive Tr (α : Type) where
 | e : Tr α
 | n : Option (Nat × α) -> Tr α -> Tr α -> Tr α
def Tr.look {α : Type} (k : Nat) (t : Tr α) : Nat -> Option α:=
 @Tr.rec α (fun _=>Nat -> Option α) (fun _=>none) (fun o _ _ lk rk p=>@Nat.rec (fun _=>Option α) (@Option.rec (Nat × α) (fun _=>Option α) none (fun q=>@Bool.rec (fun _=>Option α) none (some q.2) (Nat.beq q.1 k)) o)
  (fun p _=>@Bool.rec (fun _=>Option α) (rk (Nat.div p 2)) (lk (Nat.div p 2)) (Nat.beq (Nat.mod p 2) 0)) p) t
def Tr.get {α : Type} (t : Tr α) (k : Nat) : Option α:=Tr.look k t k
def Tr.top {α β : Type} (t : Tr α) (K : Option (Nat × α) -> Tr α -> Tr α -> β) : β:=@Tr.rec α (fun _=>β) (K none .e .e) (fun o l r _ _=>K o l r) t
def Tr.setK {α β : Type} (x : Nat × α) (f : Nat) : Tr α -> Nat -> (Tr α -> β) -> β:=
 @Nat.rec (fun _=>Tr α -> Nat -> (Tr α -> β) -> β) (fun t _ K=>K t) (fun _ ih t p K=>Tr.top t fun o l r=>@Nat.rec (fun _=>β) (K (.n (some x) l r))
  (fun p _=>@Bool.rec (fun _=>β) (ih r (Nat.div p 2) fun r=>K (.n o l r)) (ih l (Nat.div p 2) fun l=>K (.n o l r)) (Nat.beq (Nat.mod p 2) 0)) p) f
def Tr.all {α : Type} (f : Nat -> α -> Bool) : Tr α -> Bool
 | .e=>true
 | .n o l r=>(match o with
  | some q=>f q.1 q.2
  | none=>true) && (Tr.all f l && Tr.all f r)
theorem Tr.look_all {α : Type} {f : Nat -> α -> Bool} {k : Nat} {x : α} : ∀ {t : Tr α} {p : Nat},t.all f = true -> Tr.look k t p = some x -> f k x = true
 | .e,_,_,h=>by cases h
 | .n o l r,p,ha,h=>by
  simp only [Tr.all,Bool.and_eq_true] at ha
  cases p with
  | zero=>
   have h : @Option.rec (Nat × α) (fun _=>Option α) none (fun q=>@Bool.rec (fun _=>Option α) none (some q.2) (Nat.beq q.1 k)) o = some x:=h
   cases o with
   | none=>cases h
   | some q=>
    simp only [] at h
    cases hb : Nat.beq q.1 k with
    | false=>rw [hb] at h;cases h
    | true=>
     rw [hb] at h
     cases h
     rw [← Nat.eq_of_beq_eq_true hb]
     exact ha.1
  | succ p=>
   have h : @Bool.rec (fun _=>Option α) (Tr.look k r (Nat.div p 2)) (Tr.look k l (Nat.div p 2)) (Nat.beq (Nat.mod p 2) 0) = some x:=h
   cases hb : Nat.beq (Nat.mod p 2) 0 with
   | false=>rw [hb] at h;exact Tr.look_all ha.2.2 h
   | true=>rw [hb] at h;exact Tr.look_all ha.2.1 h
theorem Tr.get_all {α : Type} {f : Nat -> α -> Bool} {t : Tr α} {k : Nat} {x : α} (ha : t.all f = true) (h : t.get k = some x) : f k x = true:=Tr.look_all ha h
structure Sb where
 i : Tr Lin:=.e
 a : Tr Nat:=.e
 s : Tr Nat:=.e
 r : Nat:=0
 b : Nat:=0
def Sb.mv (σ : Sb) (v : Nat) : Nat:=match Nat.blt v σ.r with
 | true=>0
 | false=>v - σ.r + σ.b
def Sb.iv (σ : Sb) (v : Nat) : Lin:=match σ.i.get v with
 | some e=>e
 | none=>Lin.var (σ.mv v)
def Sb.av (σ : Sb) (v : Nat) : Nat:=match σ.a.get v with
 | some e=>e
 | none=>σ.mv v
def Sb.sv (σ : Sb) (v : Nat) : Nat:=match σ.s.get v with
 | some e=>e
 | none=>σ.mv v
def Sb.app (σ : Sb) (ρ : Vl) : Vl:=⟨fun v=>(σ.iv v).den ρ.i,fun v=>ρ.s (σ.sv v),fun v=>ρ.a (σ.av v),ρ.A⟩
def Tm.sbs (σ : Sb) (t : Tm) : Lin:=@List.rec (Nat × Int) (fun _=>Lin) L0 (fun p t ih=>@List.rec (Nat × Int) (fun _=>Lin) (@Bool.rec (fun _=>Lin) (Lin.comb p.2 1 (σ.iv p.1) ih) (σ.iv p.1) (iBeq p.2 1)) (fun _ _ _=>Lin.comb p.2 1 (σ.iv p.1) ih) t) t
theorem Tm.sbs_cons (σ : Sb) (p : Nat × Int) (t : Tm) : Tm.sbs σ (p :: t) = @List.rec (Nat × Int) (fun _=>Lin) (@Bool.rec (fun _=>Lin) (Lin.comb p.2 1 (σ.iv p.1) (Tm.sbs σ t)) (σ.iv p.1) (iBeq p.2 1)) (fun _ _ _=>Lin.comb p.2 1 (σ.iv p.1) (Tm.sbs σ t)) t:=rfl
theorem Tm.sbs_or (σ : Sb) (v : Nat) (x : Int) (t : Tm) : Tm.sbs σ ((v,x) :: t) = Lin.comb x 1 (σ.iv v) (Tm.sbs σ t) \/ (x = 1 /\ t = [] /\ Tm.sbs σ ((v,x) :: t) = σ.iv v):=by
 rw [Tm.sbs_cons]
 cases t with
 | cons q t=>exact .inl rfl
 | nil=>
  cases h : iBeq x 1 with
  | false=>exact .inl (by simp only [h])
  | true=>exact .inr ⟨iBeq_eq h,rfl,by simp only [h]⟩
def Lin.sbs (σ : Sb) (l : Lin) : Lin:=(Tm.sbs σ l.t).addc l.c
theorem Tm.sbs_den (σ : Sb) (ρ : Vl) : ∀ t : Tm,(Tm.sbs σ t).den ρ.i = Tm.den (σ.app ρ).i t
 | []=>by simp [Tm.sbs,L0,Tm.den]
 | (v,x) :: t=>by
  rcases Tm.sbs_or σ v x t with h | ⟨rfl,rfl,h⟩
  ·rw [h]
   simp only [Tm.den,Lin.comb_den,Tm.sbs_den σ ρ t,Sb.app]
   omega
  ·rw [h]
   simp only [Tm.den,Sb.app]
   omega
theorem Lin.sbs_den (σ : Sb) (ρ : Vl) (l : Lin) : (l.sbs σ).den ρ.i = l.den (σ.app ρ).i:=by
 unfold Lin.sbs
 rw [Lin.addc_den,Tm.sbs_den]
 unfold Lin.den
 omega
structure Sb.In (σ : Sb) (n m : Nat) : Prop where
 i : ∀ v,v < n -> (σ.iv v).lt m
 a : ∀ v,v < n -> σ.av v < m
 s : ∀ v,v < n -> σ.sv v < m
theorem Tm.sbs_lt {σ : Sb} {n m : Nat} (h : σ.In n m) : ∀ {t : Tm},Tm.lt n t -> (Tm.sbs σ t).lt m
 | [],_=>trivial
 | (v,x) :: t,ht=>by
  rcases Tm.sbs_or σ v x t with e | ⟨_,_,e⟩
  ·rw [e];exact Lin.comb_lt (h.i v ht.1) (Tm.sbs_lt h ht.2)
  ·rw [e];exact h.i v ht.1
theorem Lin.sbs_lt {σ : Sb} {n m : Nat} (h : σ.In n m) {l : Lin} (hl : l.lt n) : (l.sbs σ).lt m:=Lin.addc_lt (Tm.sbs_lt h hl)
def Tm.ltB (n : Nat) : Tm -> Bool
 | []=>true
 | (v,_) :: t=>Nat.blt v n && Tm.ltB n t
theorem Tm.ltB_ok {n : Nat} : ∀ {t : Tm},Tm.ltB n t = true -> Tm.lt n t
 | [],_=>trivial
 | (v,_) :: t,h=>by
  simp only [Tm.ltB,Bool.and_eq_true] at h
  exact ⟨by simpa [Nat.blt_eq] using h.1,Tm.ltB_ok h.2⟩
def Sb.inB (σ : Sb) (n m : Nat) : Bool:=σ.i.all (fun _ e=>Tm.ltB m e.t) && (σ.a.all (fun _ e=>Nat.blt e m) && (σ.s.all (fun _ e=>Nat.blt e m) && (Nat.blt 0 m && (Nat.ble n σ.r || Nat.blt (n - 1 - σ.r + σ.b) m))))
theorem Sb.inB_ok {σ : Sb} {n m : Nat} (h : σ.inB n m = true) : σ.In n m:=by
 simp only [Sb.inB,Bool.and_eq_true] at h
 obtain ⟨h1,h2,h3,h4,h5⟩:=h
 have h4 : 0 < m:=by simpa [Nat.blt_eq] using h4
 have hb : ∀ v,v < n -> σ.mv v < m:=fun v hv=>by
  unfold Sb.mv
  simp only [Bool.or_eq_true,Nat.blt_eq] at h5
  split
  ·exact h4
  ·rename_i e
   have e : ¬ v < σ.r:=by
    intro hh
    have : Nat.blt v σ.r = true:=by simpa [Nat.blt_eq] using hh
    rw [this] at e;cases e
   rcases h5 with h5 | h5
   ·have:=Nat.le_of_ble_eq_true h5;omega
   ·omega
 refine ⟨fun v hv=>?_,fun v hv=>?_,fun v hv=>?_⟩
 ·unfold Sb.iv
  split
  ·rename_i e he;exact Tm.ltB_ok (Tr.get_all (f:=fun _ (e : Lin)=>Tm.ltB m e.t) h1 he)
  ·exact Lin.var_lt (hb v hv)
 ·unfold Sb.av
  split
  ·rename_i e he;have:=Tr.get_all (f:=fun _ (e : Nat)=>Nat.blt e m) h2 he;simpa [Nat.blt_eq] using this
  ·exact hb v hv
 ·unfold Sb.sv
  split
  ·rename_i e he;have:=Tr.get_all (f:=fun _ (e : Nat)=>Nat.blt e m) h3 he;simpa [Nat.blt_eq] using this
  ·exact hb v hv
def numOr (k : IntKind) (e : Lin) : DC:=match e.t with
 | []=>.num k e.c
 | _=>.int k e
def booOr (p : Bool) (e : Lin) : Option DC:=match e.t with
 | []=>some (.tru (p == decide (e.c = 1)))
 | [(w,x)]=>if decide (x = 1) && decide (e.c = 0) then some (.boo p w) else none
 | _=>none
def capsS (σ : Sb) : List (Nat × Lin × List CS) -> List (Nat × Lin × List CS)
 | []=>[]
 | p :: ps=>(σ.av p.1,p.2.1.sbs σ,p.2.2) :: capsS σ ps
def npOr (a : Nat) (e o : Lin) (L : List CS) : Option DC:=match e.t with
 | []=>if e.c = 1 then some (.zp a o L) else some .nil
 | [(w,x)]=>if decide (x = 1) && decide (e.c = 0) then some (.np a w o L) else none
 | _=>none
theorem npOr_ok {μ : Mu} {a : Nat} {e o : Lin} {L : List CS} {y : DC} {ρ : Vl} {v : Value} (h : npOr a e o L = some y) : (y.den ρ).ok μ v ↔ (if e.den ρ.i = 1 then ((DC.zp a o L).den ρ).ok μ v else v = .pointer none):=by
 unfold npOr at h
 split at h
 ·rename_i ht
  have he : e.den ρ.i = e.c:=by simp [Lin.den,ht,Tm.den]
  rw [he]
  split at h
  ·rename_i hc
   cases h
   rw [if_pos hc]
  ·rename_i hc
   cases h
   rw [if_neg hc];exact Iff.rfl
 ·rename_i w x ht
  split at h
  ·rename_i hc
   cases h
   simp only [Bool.and_eq_true,decide_eq_true_eq] at hc
   obtain ⟨rfl,hc⟩:=hc
   have he : e.den ρ.i = ρ.i w:=by simp [Lin.den,ht,Tm.den,hc]
   rw [he]
   simp only [DC.den]
   by_cases hw : ρ.i w = 1
   ·simp only [hw,if_true]
   ·simp only [hw,if_false];exact Iff.rfl
  ·cases h
 ·cases h
def DC.sbs (σ : Sb) : DC -> Option DC
 | .num k n=>some (.num k n)
 | .int k e=>some (numOr k (e.sbs σ))
 | .tru b=>some (.tru b)
 | .boo p v=>booOr p (σ.iv v)
 | .str v=>some (.str (σ.sv v))
 | .strL s=>some (.strL s)
 | .nil=>some .nil
 | .nos=>some .nos
 | .fn f=>some (.fn f)
 | .zp a o L=>some (.zp (σ.av a) (o.sbs σ) L)
 | .np a v o L=>npOr (σ.av a) (σ.iv v) (o.sbs σ) L
 | .zs a o E n c=>some (.zs (σ.av a) (o.sbs σ) E (n.sbs σ) (c.sbs σ))
 | .clo f cs=>some (.clo f (capsS σ cs))
theorem numOr_ok {μ : Mu} {k : IntKind} {e : Lin} {ρ : Vl} {v : Value} : ((numOr k e).den ρ).ok μ v ↔ v = .int k (e.den ρ.i):=by
 unfold numOr
 split
 ·rename_i h
  have : e.den ρ.i = e.c:=by simp [Lin.den,h,Tm.den]
  rw [this];exact Iff.rfl
 ·exact Iff.rfl
theorem booOr_ok {μ : Mu} {p : Bool} {e : Lin} {y : DC} {ρ : Vl} {v : Value} (h : booOr p e = some y) : (y.den ρ).ok μ v ↔ v = .bool (p == decide (e.den ρ.i = 1)):=by
 unfold booOr at h
 split at h
 ·rename_i ht
  cases h
  have : e.den ρ.i = e.c:=by simp [Lin.den,ht,Tm.den]
  rw [this];exact Iff.rfl
 ·rename_i w x ht
  split at h
  ·rename_i hc
   cases h
   simp only [Bool.and_eq_true,decide_eq_true_eq] at hc
   obtain ⟨rfl,hc⟩:=hc
   have : e.den ρ.i = ρ.i w:=by simp [Lin.den,ht,Tm.den,hc]
   rw [this];exact Iff.rfl
  ·cases h
 ·cases h
theorem capsS_den (σ : Sb) (ρ : Vl) : ∀ cs : List (Nat × Lin × List CS),allReal ρ (capsS σ cs) = allReal (σ.app ρ) cs ∧
  (capsS σ cs).map (fun p=>((ρ.a p.1).1.toNat,(ρ.a p.1).2 + (p.2.1.den ρ.i).toNat,p.2.2)) = cs.map fun p=>(((σ.app ρ).a p.1).1.toNat,((σ.app ρ).a p.1).2 + (p.2.1.den (σ.app ρ).i).toNat,p.2.2)
 | []=>⟨rfl,rfl⟩
 | p :: ps=>by
  obtain ⟨h1,h2⟩:=capsS_den σ ρ ps
  refine ⟨?_, ?_⟩
  ·simp only [capsS,allReal,h1];rfl
  ·simp only [capsS,List.map_cons,h2,Lin.sbs_den];rfl
theorem DC.sbs_ok {σ : Sb} {x y : DC} (h : x.sbs σ = some y) (ρ : Vl) (μ : Mu) (v : Value) : (y.den ρ).ok μ v ↔ (x.den (σ.app ρ)).ok μ v:=by
 cases x with
 | num k n=>cases h;exact Iff.rfl
 | int k e=>cases h;rw [numOr_ok,Lin.sbs_den];exact Iff.rfl
 | tru b=>cases h;exact Iff.rfl
 | boo p w=>rw [booOr_ok h];exact Iff.rfl
 | str w=>cases h;exact Iff.rfl
 | strL s=>cases h;exact Iff.rfl
 | nil=>cases h;exact Iff.rfl
 | nos=>cases h;exact Iff.rfl
 | fn f=>cases h;exact Iff.rfl
 | zp a o L=>cases h;simp only [DC.den,Lin.sbs_den];exact Iff.rfl
 | np a w o L=>
  rw [npOr_ok h]
  have e1 : (σ.iv w).den ρ.i = (σ.app ρ).i w:=rfl
  rw [e1]
  simp only [DC.den]
  by_cases hw : (σ.app ρ).i w = 1
  ·simp only [hw,if_true,Lin.sbs_den];exact Iff.rfl
  ·simp only [hw,if_false];exact Iff.rfl
 | zs a o E n c=>cases h;simp only [DC.den,Lin.sbs_den];exact Iff.rfl
 | clo f cs=>
  cases h
  obtain ⟨h1,h2⟩:=capsS_den σ ρ cs
  simp only [DC.den,h1,h2]
theorem capsS_lt {σ : Sb} {n m : Nat} (hσ : σ.In n m) : ∀ {cs : List (Nat × Lin × List CS)},(∀ p ∈ cs,p.1 < n /\ p.2.1.lt n) -> ∀ p ∈ capsS σ cs,p.1 < m /\ p.2.1.lt m
 | [],_,p,hp=>by cases hp
 | q :: qs,h,p,hp=>by
  simp only [capsS] at hp
  rcases List.mem_cons.1 hp with rfl | hp
  ·exact ⟨hσ.a _ (h q (by simp)).1,Lin.sbs_lt hσ (h q (by simp)).2⟩
  ·exact capsS_lt hσ (fun p hp=>h p (by simp [hp])) p hp
theorem DC.sbs_lt {σ : Sb} {n m : Nat} (hσ : σ.In n m) {x y : DC} (hx : x.lt n) (h : x.sbs σ = some y) : y.lt m:=by
 cases x with
 | int k e=>
  cases h
  unfold numOr
  split
  ·trivial
  ·exact Lin.sbs_lt hσ hx
 | boo p w=>
  simp only [DC.sbs,booOr] at h
  split at h
  ·cases h;trivial
  ·rename_i u z ht
   split at h
   ·cases h
    have:=hσ.i w hx
    unfold Lin.lt at this
    rw [ht] at this
    exact this.1
   ·cases h
  ·cases h
 | str w=>cases h;exact hσ.s _ hx
 | zp a o L=>cases h;exact ⟨hσ.a _ hx.1,Lin.sbs_lt hσ hx.2⟩
 | np a w o L=>
  simp only [DC.sbs,npOr] at h
  split at h
  ·split at h
   ·cases h;exact ⟨hσ.a _ hx.1,Lin.sbs_lt hσ hx.2.2⟩
   ·cases h;trivial
  ·rename_i u z ht
   split at h
   ·cases h
    have:=hσ.i w hx.2.1
    unfold Lin.lt at this
    rw [ht] at this
    exact ⟨hσ.a _ hx.1,this.1,Lin.sbs_lt hσ hx.2.2⟩
   ·cases h
  ·cases h
 | zs a o E n c=>cases h;exact ⟨hσ.a _ hx.1,Lin.sbs_lt hσ hx.2.1,Lin.sbs_lt hσ hx.2.2.1,Lin.sbs_lt hσ hx.2.2.2⟩
 | clo f cs=>cases h;exact capsS_lt hσ hx
 | _=>cases h;trivial
def sbsL (σ : Sb) : List DC -> Option (List DC)
 | []=>some []
 | x :: xs=>match x.sbs σ,sbsL σ xs with
  | some y,some ys=>some (y :: ys)
  | _,_=>none
theorem sbsL_ok {σ : Sb} {ρ : Vl} {μ : Mu} : ∀ {xs ys : List DC} {vs : List Value},sbsL σ xs = some ys -> (All2 (SC.ok μ) (ys.map (DC.den ρ)) vs ↔ All2 (SC.ok μ) (xs.map (DC.den (σ.app ρ))) vs)
 | [],ys,vs,h=>by cases h;exact Iff.rfl
 | x :: xs,ys,vs,h=>by
  simp only [sbsL] at h
  split at h
  ·rename_i y ys' h1 h2
   cases h
   cases vs with
   | nil=>exact Iff.rfl
   | cons v vs=>
    simp only [List.map_cons,All2]
    exact and_congr (DC.sbs_ok h1 ρ μ v) (sbsL_ok h2)
  ·cases h
theorem sbsL_lt {σ : Sb} {n m : Nat} (hσ : σ.In n m) : ∀ {xs ys : List DC},sbsL σ xs = some ys -> (∀ x ∈ xs,x.lt n) -> ∀ y ∈ ys,y.lt m
 | [],ys,h,_,y,hy=>by cases h;cases hy
 | x :: xs,ys,h,hx,y,hy=>by
  simp only [sbsL] at h
  split at h
  ·rename_i z zs h1 h2
   cases h
   rcases List.mem_cons.1 hy with rfl | hy
   ·exact DC.sbs_lt hσ (hx x (by simp)) h1
   ·exact sbsL_lt hσ h2 (fun x hx'=>hx x (by simp [hx'])) y hy
  ·cases h
def D1.sbs (σ : Sb) : D1 -> Option D1
 | .c x=>match x.sbs σ with
  | some y=>some (.c y)
  | none=>none
 | .a xs=>match sbsL σ xs with
  | some ys=>some (.a ys)
  | none=>none
theorem D1.sbs_ok {σ : Sb} {x y : D1} (h : x.sbs σ = some y) (ρ : Vl) (μ : Mu) (v : Value) : (y.den ρ).ok μ v ↔ (x.den (σ.app ρ)).ok μ v:=by
 cases x with
 | c x=>
  simp only [D1.sbs] at h
  split at h
  ·rename_i z hz;cases h;exact DC.sbs_ok hz ρ μ v
  ·cases h
 | a xs=>
  simp only [D1.sbs] at h
  split at h
  ·rename_i z hz
   cases h
   exact exists_congr fun vs=>and_congr Iff.rfl (sbsL_ok hz)
  ·cases h
theorem D1.sbs_lt {σ : Sb} {n m : Nat} (hσ : σ.In n m) {x y : D1} (hx : x.lt n) (h : x.sbs σ = some y) : y.lt m:=by
 cases x with
 | c x=>
  simp only [D1.sbs] at h
  split at h
  ·rename_i z hz;cases h;exact DC.sbs_lt hσ hx hz
  ·cases h
 | a xs=>
  simp only [D1.sbs] at h
  split at h
  ·rename_i z hz;cases h;exact sbsL_lt hσ hz hx
  ·cases h
def sbsT (σ : Sb) : List D1 -> Option (List D1)
 | []=>some []
 | x :: xs=>match x.sbs σ,sbsT σ xs with
  | some y,some ys=>some (y :: ys)
  | _,_=>none
theorem sbsT_ok {σ : Sb} {ρ : Vl} {μ : Mu} : ∀ {xs ys : List D1} {vs : List Value},sbsT σ xs = some ys -> (AllS (S1.ok μ) (ys.map (D1.den ρ)) vs ↔ AllS (S1.ok μ) (xs.map (D1.den (σ.app ρ))) vs)
 | [],ys,vs,h=>by cases h;exact Iff.rfl
 | x :: xs,ys,vs,h=>by
  simp only [sbsT] at h
  split at h
  ·rename_i y ys' h1 h2
   cases h
   cases vs with
   | nil=>exact Iff.rfl
   | cons v vs=>
    simp only [List.map_cons,AllS]
    exact and_congr (D1.sbs_ok h1 ρ μ v) (sbsT_ok h2)
  ·cases h
theorem sbsT_lt {σ : Sb} {n m : Nat} (hσ : σ.In n m) : ∀ {xs ys : List D1},sbsT σ xs = some ys -> (∀ x ∈ xs,x.lt n) -> ∀ y ∈ ys,y.lt m
 | [],ys,h,_,y,hy=>by cases h;cases hy
 | x :: xs,ys,h,hx,y,hy=>by
  simp only [sbsT] at h
  split at h
  ·rename_i z zs h1 h2
   cases h
   rcases List.mem_cons.1 hy with rfl | hy
   ·exact D1.sbs_lt hσ (hx x (by simp)) h1
   ·exact sbsT_lt hσ h2 (fun x hx'=>hx x (by simp [hx'])) y hy
  ·cases h
def DV.sbs (σ : Sb) : DV -> Option DV
 | .s x=>match x.sbs σ with
  | some y=>some (.s y)
  | none=>none
 | .t xs=>match sbsT σ xs with
  | some ys=>some (.t ys)
  | none=>none
 | .u=>some .u
theorem DV.sbs_ok {σ : Sb} {x y : DV} (h : x.sbs σ = some y) (ρ : Vl) (μ : Mu) (v : Value) : (y.den ρ).ok μ v ↔ (x.den (σ.app ρ)).ok μ v:=by
 cases x with
 | s x=>
  simp only [DV.sbs] at h
  split at h
  ·rename_i z hz;cases h;exact D1.sbs_ok hz ρ μ v
  ·cases h
 | t xs=>
  simp only [DV.sbs] at h
  split at h
  ·rename_i z hz
   cases h
   exact exists_congr fun vs=>and_congr Iff.rfl (sbsT_ok hz)
  ·cases h
 | u=>cases h;exact Iff.rfl
theorem DV.sbs_lt {σ : Sb} {n m : Nat} (hσ : σ.In n m) {x y : DV} (hx : x.lt n) (h : x.sbs σ = some y) : y.lt m:=by
 cases x with
 | s x=>
  simp only [DV.sbs] at h
  split at h
  ·rename_i z hz;cases h;exact D1.sbs_lt hσ hx hz
  ·cases h
 | t xs=>
  simp only [DV.sbs] at h
  split at h
  ·rename_i z hz;cases h;exact sbsT_lt hσ hz hx
  ·cases h
 | u=>cases h;trivial
def eqLin (κ : Kn) (a b : Lin) : Bool:=a.eqb b || (κ.has (a.sub b) && κ.has (b.sub a))
theorem eqLin_ok {κ : Kn} {ρ : Vl} (hκ : κ.Ok ρ) {a b : Lin} (h : eqLin κ a b = true) : a.den ρ.i = b.den ρ.i:=by
 simp only [eqLin,Bool.or_eq_true,Bool.and_eq_true] at h
 rcases h with h | ⟨h1,h2⟩
 ·rw [Lin.eqb_eq h]
 ·have h1:=Kn.has_ok hκ h1
  have h2:=Kn.has_ok hκ h2
  rw [Lin.sub_den] at h1 h2
  omega
def leCap (κ : Kn) : List (Nat × Lin × List CS) -> List (Nat × Lin × List CS) -> Bool
 | [],[]=>true
 | p :: ps,q :: qs=>Nat.beq p.1 q.1 && (p.2.1.eqb q.2.1 && (eqCS p.2.2 q.2.2 && leCap κ ps qs))
 | _,_=>false
theorem leCap_eq {κ : Kn} : ∀ {ps qs : List (Nat × Lin × List CS)},leCap κ ps qs = true -> ps = qs
 | [],[],_=>rfl
 | p :: ps,q :: qs,h=>by
  simp only [leCap,Bool.and_eq_true] at h
  obtain ⟨h1,h2,h3,h4⟩:=h
  rw [leCap_eq h4]
  congr 1
  obtain ⟨a,b,c⟩:=p
  obtain ⟨a',b',c'⟩:=q
  simp only at h1 h2 h3
  rw [Nat.eq_of_beq_eq_true h1,Lin.eqb_eq h2,eqCS_eq h3]
 | [],_ :: _,h=>by simp [leCap] at h
 | _ :: _,[],h=>by simp [leCap] at h
def leDC (κ : Kn) (x y : DC) : Bool:=
 match x,y with
 | .num k n,.num k' n'=>decide (k = k') && decide (n = n')
 | .num k n,.int k' e=>decide (k = k') && eqLin κ (Lin.num n) e
 | .int k e,.int k' e'=>decide (k = k') && eqLin κ e e'
 | .int k e,.num k' n=>decide (k = k') && eqLin κ e (Lin.num n)
 | .tru b,.tru b'=>b == b'
 | .boo p v,.boo p' v'=>p == p' && Nat.beq v v'
 | .boo p v,.tru b=>match p == b with
  | true=>κ.has ((Lin.var v).addc (-1)) && κ.has ((Lin.num 1).sub (.var v))
  | false=>κ.has ((Lin.num 0).sub (.var v))
 | .tru b,.boo p v=>match p == b with
  | true=>κ.has ((Lin.var v).addc (-1)) && κ.has ((Lin.num 1).sub (.var v))
  | false=>κ.has ((Lin.num 0).sub (.var v))
 | .str v,.str v'=>Nat.beq v v'
 | .strL s,.strL s'=>decide (s.data.toList = s'.data.toList)
 | .nil,.nil=>true
 | .nos,.nos=>true
 | .fn f,.fn g=>Nat.beq f g
 | .zp a o L,.zp a' o' M=>Nat.beq a a' && (eqLin κ o o' && preCS M L)
 | .np a v o L,.zp a' o' M=>Nat.beq a a' && (κ.has ((Lin.var v).addc (-1)) && (κ.has ((Lin.num 1).sub (.var v)) && (eqLin κ o o' && preCS M L)))
 | .np a v o L,.np a' v' o' M=>Nat.beq a a' && (Nat.beq v v' && (eqLin κ o o' && preCS M L))
 | .zs a o E n c,.zs a' o' E' n' c'=>Nat.beq a a' && (eqLin κ o o' && (eqCS E E' && (eqLin κ n n' && eqLin κ c c')))
 | .nos,.zs _ _ _ n c=>eqLin κ n L0 && eqLin κ c L0
 | .clo f cs,.clo g ds=>Nat.beq f g && leCap κ cs ds
 | _,_=>false
theorem leDC_ok {κ : Kn} {ρ : Vl} {sg : Sig} (hκ : κ.Ok ρ) {x y : DC} (h : leDC κ x y = true) {v : Value} (hx : (x.den ρ).ok (mu sg) v) : (y.den ρ).ok (mu sg) v:=by
 unfold leDC at h
 split at h
 ·simp only [Bool.and_eq_true,decide_eq_true_eq] at h
  obtain ⟨rfl,rfl⟩:=h
  exact hx
 ·simp only [Bool.and_eq_true,decide_eq_true_eq] at h
  obtain ⟨rfl,h⟩:=h
  have:=eqLin_ok hκ h
  rw [Lin.num_den] at this
  simp only [DC.den]
  rw [← this];exact hx
 ·simp only [Bool.and_eq_true,decide_eq_true_eq] at h
  obtain ⟨rfl,h⟩:=h
  simp only [DC.den]
  rw [← eqLin_ok hκ h];exact hx
 ·simp only [Bool.and_eq_true,decide_eq_true_eq] at h
  obtain ⟨rfl,h⟩:=h
  have:=eqLin_ok hκ h
  rw [Lin.num_den] at this
  simp only [DC.den]
  rw [← this];exact hx
 ·rw [beq_iff_eq] at h
  subst h;exact hx
 ·simp only [Bool.and_eq_true,beq_iff_eq] at h
  obtain ⟨rfl,h⟩:=h
  rw [← Nat.eq_of_beq_eq_true h];exact hx
 ·rename_i p v b
  have hden : (p == decide (ρ.i v = 1)) = b:=by
   split at h
   ·rename_i e
    rw [beq_iff_eq] at e
    subst e
    rw [Bool.and_eq_true] at h
    have k1:=Kn.has_ok hκ h.1
    have k2:=Kn.has_ok hκ h.2
    rw [Lin.addc_den,Lin.var_den] at k1
    rw [Lin.sub_den,Lin.num_den,Lin.var_den] at k2
    have : ρ.i v = 1:=by omega
    simp [this]
   ·rename_i e
    have k1:=Kn.has_ok hκ h
    rw [Lin.sub_den,Lin.num_den,Lin.var_den] at k1
    have : ¬ ρ.i v = 1:=by omega
    cases p <;> cases b <;> simp_all
  simp only [DC.den] at hx ⊢
  rw [hden] at hx
  exact hx
 ·rename_i b p v
  have hden : (p == decide (ρ.i v = 1)) = b:=by
   split at h
   ·rename_i e
    rw [beq_iff_eq] at e
    subst e
    rw [Bool.and_eq_true] at h
    have k1:=Kn.has_ok hκ h.1
    have k2:=Kn.has_ok hκ h.2
    rw [Lin.addc_den,Lin.var_den] at k1
    rw [Lin.sub_den,Lin.num_den,Lin.var_den] at k2
    have : ρ.i v = 1:=by omega
    simp [this]
   ·rename_i e
    have k1:=Kn.has_ok hκ h
    rw [Lin.sub_den,Lin.num_den,Lin.var_den] at k1
    have : ¬ ρ.i v = 1:=by omega
    cases p <;> cases b <;> simp_all
  simp only [DC.den] at hx ⊢
  rw [hden]
  exact hx
 ·rw [← Nat.eq_of_beq_eq_true h];exact hx
 ·rename_i s s'
  rw [decide_eq_true_eq] at h
  have : s = s':=by
   cases s;cases s'
   simp only [ByteArray.mk.injEq]
   exact Array.toList_inj.1 h
  rw [← this];exact hx
 ·exact hx
 ·exact hx
 ·rw [← Nat.eq_of_beq_eq_true h];exact hx
 ·rename_i a o L a' o' M
  simp only [Bool.and_eq_true] at h
  obtain ⟨h1,h2,h3⟩:=h
  have h1:=Nat.eq_of_beq_eq_true h1
  subst h1
  obtain ⟨b,hb,rfl,hs⟩:=zp_ok hx
  exact zp_mk hb (by rw [eqLin_ok hκ h2]) (hs.pre h3)
 ·rename_i a v o L a' o' M
  simp only [Bool.and_eq_true] at h
  obtain ⟨h1,h2,h3,h4,h5⟩:=h
  have h1:=Nat.eq_of_beq_eq_true h1
  subst h1
  have k1:=Kn.has_ok hκ h2
  have k2:=Kn.has_ok hκ h3
  rw [Lin.addc_den,Lin.var_den] at k1
  rw [Lin.sub_den,Lin.num_den,Lin.var_den] at k2
  rcases np_ok hx with ⟨hv,hz⟩ | ⟨hne,rfl⟩
  ·obtain ⟨b,hb,rfl,hs⟩:=zp_ok hz
   exact zp_mk hb (by rw [eqLin_ok hκ h4]) (hs.pre h5)
  ·omega
 ·rename_i a v o L a' v' o' M
  simp only [Bool.and_eq_true] at h
  obtain ⟨h1,h2,h3,h4⟩:=h
  have h1:=Nat.eq_of_beq_eq_true h1
  have h2:=Nat.eq_of_beq_eq_true h2
  subst h1;subst h2
  rcases np_ok hx with ⟨hv,hz⟩ | ⟨hne,rfl⟩
  ·obtain ⟨b,hb,rfl,hs⟩:=zp_ok hz
   have:=zp_mk (o:=o') (L:=M) hb (by rw [eqLin_ok hκ h3]) (hs.pre h4)
   simp only [DC.den,hv,if_true]
   exact this
  ·simp only [DC.den,hne,if_false];rfl
 ·rename_i a o E n c a' o' E' n' c'
  simp only [Bool.and_eq_true] at h
  obtain ⟨h1,h2,h3,h4,h5⟩:=h
  have h1:=Nat.eq_of_beq_eq_true h1
  subst h1
  simp only [DC.den] at hx ⊢
  rw [← eqLin_ok hκ h2,← eqLin_ok hκ h4,← eqLin_ok hκ h5,← eqCS_eq h3]
  exact hx
 ·rename_i a o E n c
  simp only [Bool.and_eq_true] at h
  have h1:=eqLin_ok hκ h.1
  have h2:=eqLin_ok hκ h.2
  simp only [L0,Lin.num_den] at h1 h2
  obtain ⟨ad,rfl⟩:=hx
  refine zs_mk (by rw [h1];rfl) (by rw [h2];rfl) (Nat.le_refl _) (Nat.zero_le _) fun hc=>absurd hc (by omega)
 ·simp only [Bool.and_eq_true] at h
  rw [← Nat.eq_of_beq_eq_true h.1,← leCap_eq h.2]
  exact hx
 ·cases h
def leDL (κ : Kn) : List DC -> List DC -> Bool
 | [],[]=>true
 | x :: xs,y :: ys=>leDC κ x y && leDL κ xs ys
 | _,_=>false
theorem leDL_ok {κ : Kn} {ρ : Vl} {sg : Sig} (hκ : κ.Ok ρ) : ∀ {xs ys : List DC} {vs : List Value},leDL κ xs ys = true -> All2 (SC.ok (mu sg)) (xs.map (DC.den ρ)) vs -> All2 (SC.ok (mu sg)) (ys.map (DC.den ρ)) vs
 | [],[],vs,_,hx=>hx
 | x :: xs,y :: ys,v :: vs,h,hx=>by
  simp only [leDL,Bool.and_eq_true] at h
  exact ⟨leDC_ok hκ h.1 hx.1,leDL_ok hκ h.2 hx.2⟩
 | _ :: _,_ :: _,[],_,hx=>hx.elim
 | [],_ :: _,_,h,_=>by simp [leDL] at h
 | _ :: _,[],_,h,_=>by simp [leDL] at h
def leD1 (κ : Kn) : D1 -> D1 -> Bool
 | .c x,.c y=>leDC κ x y
 | .a xs,.a ys=>leDL κ xs ys
 | _,_=>false
theorem leD1_ok {κ : Kn} {ρ : Vl} {sg : Sig} (hκ : κ.Ok ρ) {x y : D1} {v : Value} (h : leD1 κ x y = true) (hx : (x.den ρ).ok (mu sg) v) : (y.den ρ).ok (mu sg) v:=by
 unfold leD1 at h
 split at h
 ·exact leDC_ok hκ h hx
 ·obtain ⟨vs,h1,h2⟩:=hx
  exact ⟨vs,h1,leDL_ok hκ h h2⟩
 ·cases h
def leDT (κ : Kn) : List D1 -> List D1 -> Bool
 | [],[]=>true
 | x :: xs,y :: ys=>leD1 κ x y && leDT κ xs ys
 | _,_=>false
theorem leDT_ok {κ : Kn} {ρ : Vl} {sg : Sig} (hκ : κ.Ok ρ) : ∀ {xs ys : List D1} {vs : List Value},leDT κ xs ys = true -> AllS (S1.ok (mu sg)) (xs.map (D1.den ρ)) vs -> AllS (S1.ok (mu sg)) (ys.map (D1.den ρ)) vs
 | [],[],vs,_,hx=>hx
 | x :: xs,y :: ys,v :: vs,h,hx=>by
  simp only [leDT,Bool.and_eq_true] at h
  exact ⟨leD1_ok hκ h.1 hx.1,leDT_ok hκ h.2 hx.2⟩
 | _ :: _,_ :: _,[],_,hx=>hx.elim
 | [],_ :: _,_,h,_=>by simp [leDT] at h
 | _ :: _,[],_,h,_=>by simp [leDT] at h
def leDV (κ : Kn) : DV -> DV -> Bool
 | _,.u=>true
 | .s x,.s y=>leD1 κ x y
 | .t xs,.t ys=>leDT κ xs ys
 | _,_=>false
theorem leDV_ok {κ : Kn} {ρ : Vl} {sg : Sig} (hκ : κ.Ok ρ) {x y : DV} {v : Value} (h : leDV κ x y = true) (hx : (x.den ρ).ok (mu sg) v) : (y.den ρ).ok (mu sg) v:=by
 unfold leDV at h
 split at h
 ·trivial
 ·exact leD1_ok hκ h hx
 ·obtain ⟨vs,h1,h2⟩:=hx
  exact ⟨vs,h1,leDT_ok hκ h h2⟩
 ·cases h
def leL (κ : Kn) : List DC -> List DC -> Bool
 | [],[]=>true
 | x :: xs,y :: ys=>leDC κ x y && leL κ xs ys
 | _,_=>false
theorem leL_ok {κ : Kn} {ρ : Vl} {sg : Sig} (hκ : κ.Ok ρ) : ∀ {xs ys : List DC} {vs : List Value},leL κ xs ys = true -> All2 (SC.ok (mu sg)) (xs.map (DC.den ρ)) vs -> All2 (SC.ok (mu sg)) (ys.map (DC.den ρ)) vs
 | [],[],vs,_,ha=>ha
 | [],_ :: _,_,h,_=>by cases h
 | _ :: _,[],_,h,_=>by cases h
 | x :: xs,y :: ys,[],_,ha=>ha
 | x :: xs,y :: ys,v :: vs,h,ha=>by
  simp only [leL,Bool.and_eq_true] at h
  exact ⟨leDC_ok hκ h.1 ha.1,leL_ok hκ h.2 ha.2⟩
end
end Vx
namespace Vx
noncomputable section
open Go Zx
def Bl {α : Type} (P : Program) (x : Sem α) : Prop:=∀ w z w',x.run P w = .ok z w' -> w' = w /\ ∀ u,x.run P u = .ok z u
theorem Bl.pure {α : Type} {P : Program} (a : α) : Bl P (pure a : Sem α):=fun w z w' h=>by
 simp only [Sem.run_pure,Result.ok.injEq] at h
 obtain ⟨rfl,rfl⟩:=h
 exact ⟨rfl,fun u=>by simp⟩
theorem Bl.bind {α β : Type} {P : Program} {x : Sem α} {f : α -> Sem β} (hx : Bl P x) (hf : ∀ a,Bl P (f a)) : Bl P (x >>= f):=fun w z w' h=>by
 rw [Sem.run_bind] at h
 cases hr : x.run P w with
 | halt q w1=>rw [hr] at h;simp [Result.andThen] at h
 | ok a w1=>
  rw [hr] at h
  simp only [Result.andThen_ok] at h
  obtain ⟨rfl,h2⟩:=hx w a w1 hr
  obtain ⟨rfl,h3⟩:=hf a w1 z w' h
  exact ⟨rfl,fun u=>by rw [Sem.run_bind,h2 u];simp only [Result.andThen_ok];exact h3 u⟩
theorem Bl.never {α : Type} {P : Program} {x : Sem α} (h : ∀ w z w',x.run P w ≠ .ok z w') : Bl P x:=fun w z w' e=>absurd e (h w z w')
theorem Bl.halt {α : Type} {P : Program} (h : Halt) : Bl P (.halt h : Sem α):=Bl.never fun w z w' e=>by simp [Sem.run] at e
theorem Bl.stuck {α : Type} {P : Program} (s : String) : Bl P (stuck s : Sem α):=Bl.halt _
theorem Bl.uns {α : Type} {P : Program} (s : Unsupported) : Bl P (unsupported s : Sem α):=Bl.halt _
theorem Bl.program {P : Program} : Bl P program:=fun w z w' h=>by
 have e : Sem.run P Go.program w = .ok P w:=rfl
 rw [e] at h
 cases h
 exact ⟨rfl,fun u=>rfl⟩
theorem Bl.under {P : Program} (t : TypeId) : Bl P (underlying t):=Bl.bind Bl.program fun p=>by
 split
 ·exact Bl.pure _
 ·exact Bl.stuck _
theorem Bl.info {P : Program} (t : TypeId) : Bl P (typeInfo t):=Bl.bind Bl.program fun p=>by
 split
 ·exact Bl.pure _
 ·exact Bl.stuck _
theorem Bl.sizeOf {P : Program} (t : TypeId) : Bl P (Go.sizeOf t):=Bl.bind (Bl.info t) fun _=>Bl.pure _
theorem Bl.isAgg {P : Program} (t : TypeId) : Bl P (isAgg t):=Bl.bind (Bl.under t) fun _=>by split <;> exact Bl.pure _
theorem Bl.zero {P : Program} (t : TypeId) : Bl P (zeroValue t):=Bl.bind (Bl.info t) fun _=>by
 split
 ·exact Bl.pure _
 ·exact Bl.uns _
theorem Bl.part {P : Program} (t : TypeId) (cs : Array Value) (off : Nat) : Bl P (part t cs off):=Bl.bind (Bl.isAgg t) fun b=>by
 split
 ·exact Bl.bind (Bl.sizeOf t) fun _=>Bl.pure _
 ·split
  ·exact Bl.pure _
  ·exact Bl.stuck _
theorem Bl.asAgg {P : Program} (v : Value) : Bl P (asAgg v):=by
 unfold Go.asAgg
 split
 ·exact Bl.pure _
 ·exact Bl.stuck _
def Nv {α : Type} (P : Program) (x : Sem α) : Prop:=∀ w z w',x.run P w ≠ .ok z w'
theorem Nv.bind {α β : Type} {P : Program} {x : Sem α} {f : α -> Sem β} (hf : ∀ a,Nv P (f a)) : Nv P (x >>= f):=fun w z w' h=>by
 rw [Sem.run_bind] at h
 cases hr : x.run P w with
 | halt q w1=>rw [hr] at h;simp [Result.andThen] at h
 | ok a w1=>
  rw [hr] at h
  simp only [Result.andThen_ok] at h
  exact hf a w1 z w' h
theorem Nv.halt {α : Type} {P : Program} (h : Halt) : Nv P (.halt h : Sem α):=fun w z w' e=>by simp [Sem.run] at e
theorem Nv.rtp {α : Type} {P : Program} (e : RuntimeError) : Nv P (runtimePanic e : Sem α):=by
 unfold Go.runtimePanic
 refine Nv.bind fun p=>?_
 dsimp only
 cases e <;> dsimp only <;> (repeat' (first | exact Nv.halt _ | refine Nv.bind fun _=>?_))
theorem Bl.rtp {α : Type} {P : Program} (e : RuntimeError) : Bl P (runtimePanic e : Sem α):=Bl.never (Nv.rtp e)
theorem Bl.field {P : Program} (t : TypeId) (x : Value) (f : Nat) : Bl P (Instr.field t x f):=Bl.bind (Bl.under t) fun d=>by
 split
 ·split
  ·exact Bl.bind (Bl.asAgg _) fun _=>Bl.part _ _ _
  ·exact Bl.stuck _
 ·exact Bl.stuck _
theorem Bl.extract {P : Program} (x : Value) (i : Nat) : Bl P (Instr.extract x i):=by
 unfold Instr.extract
 split
 ·split
  ·exact Bl.pure _
  ·exact Bl.stuck _
 ·exact Bl.stuck _
theorem Bl.mapM {α β : Type} {P : Program} {f : α -> Sem β} (hf : ∀ a,Bl P (f a)) : ∀ l : List α,Bl P (l.mapM f)
 | []=>by rw [List.mapM_nil];exact Bl.pure _
 | a :: l=>by
  rw [List.mapM_cons]
  exact Bl.bind (hf a) fun _=>Bl.bind (Bl.mapM hf l) fun _=>Bl.pure _
theorem Bl.map {α β : Type} {P : Program} {x : Sem α} (f : α -> β) (hx : Bl P x) : Bl P (f <$> x):=by
 intro w z w' h
 rw [Sem.run_map] at h
 cases hr : x.run P w with
 | halt q w1=>rw [hr] at h;simp [Result.andThen] at h
 | ok a w1=>
  rw [hr] at h
  simp only [Result.andThen_ok,Result.ok.injEq] at h
  obtain ⟨rfl,rfl⟩:=h
  obtain ⟨rfl,h2⟩:=hx w a w1 hr
  exact ⟨rfl,fun u=>by rw [Sem.run_map,h2 u];simp⟩
theorem Bl.build {P : Program} (t : TypeId) (ps : Array (Nat × Value)) : Bl P (Instr.build t ps):=Bl.bind (Bl.zero t) fun z=>Bl.bind (Bl.under t) fun d=>by
 split
 ·rename_i fs
  refine Bl.bind ?_ fun pl=>?_
  ·rw [Array.mapM_eq_mapM_toList]
   exact Bl.map _ (Bl.mapM (fun f=>Bl.bind (Bl.sizeOf _) fun _=>Bl.pure _) _)
  ·split
   ·exact Bl.pure _
   ·exact Bl.stuck _
 ·refine Bl.bind (Bl.sizeOf _) fun n=>?_
  split
  ·exact Bl.pure _
  ·exact Bl.stuck _
 ·exact Bl.stuck _
theorem Bl.run {α : Type} {P : Program} {x : Sem α} (h : Bl P x) {w w' : World} {z : α} (hr : x.run P w = .ok z w') (u : World) : x.run P u = .ok z u:=(h w z w' hr).2 u
end
end Vx
namespace Vx
noncomputable section
open Go Zx
theorem Bl.of_run {α : Type} {P : Program} {x : Sem α} {z : α} (h : ∀ w,x.run P w = .ok z w) : Bl P x:=fun w z' w' e=>by
 rw [h w] at e
 cases e
 exact ⟨rfl,h⟩
theorem Bl.shift {P : Program} (op : BinOp) (k yk : IntKind) (a b : Int) : Bl P (Op.shift op k a yk b):=by
 unfold Op.shift
 split
 ·exact Bl.rtp _
 ·cases op <;> first | exact Bl.pure _ | exact Bl.stuck _
theorem Bl.div {P : Program} (op : BinOp) (k : IntKind) (a b : Int) : Bl P (Op.intDiv op k a b):=by
 unfold Op.intDiv
 split
 ·exact Bl.rtp _
 ·cases op <;> first | exact Bl.pure _ | exact Bl.stuck _
theorem Bl.binI {P : Program} (op : BinOp) (t : TypeId) (k k' : IntKind) (a b : Int) : Bl P (Go.binOp op t (.int k a) (.int k' b)):=by
 by_cases hk : k = k'
 ·subst hk
  cases op <;> simp only [Go.binOp,ne_eq,not_true_eq_false,if_false] <;> first | exact Bl.shift _ _ _ _ _ | exact Bl.div _ _ _ _ | exact Bl.pure _
 ·cases op <;> simp only [Go.binOp,ne_eq,hk,not_false_eq_true,if_true] <;> first | exact Bl.shift _ _ _ _ _ | exact Bl.stuck _
theorem Bl.binB {P : Program} {op : BinOp} {t : TypeId} {a b : Bool} (hu : P.underlying t = some .bool) : Bl P (Go.binOp op t (.bool a) (.bool b)):=by
 have hd : ∀ (d : Nat) (w : World),(Op.equalIn (d + 1) t (.bool a) (.bool b)).run P w = .ok (a == b) w:=fun d w=>by simp [Op.equalIn,run_underlying hu]
 have he : Bl P (Op.equal t (.bool a) (.bool b)):=Bl.of_run (hd 9999)
 cases op <;> first | exact Bl.stuck _ | exact Bl.bind he fun _=>Bl.pure _
theorem Bl.binP {P : Program} {op : BinOp} {t e : TypeId} {p q : Option Addr} (hu : P.underlying t = some (.pointer e)) (hpq : p = none \/ q = none) (hop : op = .eql \/ op = .neq) : Bl P (Go.binOp op t (.pointer p) (.pointer q)):=by
 have hd : ∀ (d : Nat) (w : World),(Op.equalIn (d + 1) t (.pointer p) (.pointer q)).run P w = .ok (p.isNone && q.isNone) w:=fun d w=>by
  rcases hpq with rfl | rfl
  ·cases q <;> simp [Op.equalIn,run_underlying hu]
  ·cases p <;> simp [Op.equalIn,run_underlying hu]
 have he : Bl P (Op.equal t (.pointer p) (.pointer q)):=Bl.of_run (hd 9999)
 rcases hop with rfl | rfl <;> exact Bl.bind he fun _=>Bl.pure _
def GotP (sg : Sig) (κ : Kn) (ρ : Vl) (kk : Kn -> DV -> Bool) (z : Value) : Prop:=∃ κ' y ρ',kk κ' y = true /\ Gr κ κ' ρ ρ' /\ y.lt κ'.n /\ (y.den ρ').ok (mu sg) z
theorem Now.got {sg : Sig} {κ : Kn} {ρ : Vl} {kk : Kn -> DV -> Bool} {y : DV} {z : Value} (hκ : κ.Ok ρ) (h : Now sg κ ρ y z) (hk : kk κ y = true) : GotP sg κ ρ kk z:=⟨κ,y,ρ,hk,Gr.refl hκ,h.1,h.2⟩
theorem Got.toP {sg : Sig} {κ : Kn} {ρ : Vl} {kk : Kn -> DV -> Bool} {sv : SV} {z : Value} (h : ∃ κ' x ρ',kk κ' x = true /\ Gr κ κ' ρ ρ' /\ x.lt κ'.n /\ sv = x.den ρ') (hz : sv.ok (mu sg) z) : GotP sg κ ρ kk z:=by
 obtain ⟨κ',x,ρ',h1,h2,h3,rfl⟩:=h
 exact ⟨κ',x,ρ',h1,h2,h3,hz⟩
theorem binD_uni {sg : Sig} {κ : Kn} {ρ : Vl} {kk : Kn -> DV -> Bool} {P : Program} {op : BinOp} {t : TypeId} {xo yo : Operand} {x y : DV} {u v : Value} (w0 : World) (hκ : κ.Ok ρ) (hx : x.lt κ.n) (hy : y.lt κ.n) (hu : (x.den ρ).ok (mu sg) u) (hv : (y.den ρ).ok (mu sg) v) (h : binD P op t x y κ kk = true) :
  ∃ z,(∀ w,(do eqGuard op t xo yo u v;Go.binOp op t u v).run P w = .ok z w) /\ GotP sg κ ρ kk z:=by
 obtain ⟨z,sv,h1,h2,h3⟩:=bin_ok (w:=w0) (xo:=xo) (yo:=yo) hu hv (binD_got hκ hx hy h)
 refine ⟨z, ?_,Got.toP h2 h3⟩
 unfold binD at h
 split at h
 ·rename_i k a ca k' b cb ha hb
  have e1:=SV.int_ok (DV.int?_den ha ρ) hu
  have e2:=SV.int_ok (DV.int?_den hb ρ) hv
  subst e1;subst e2
  rw [eqGuard_at_int] at h1 ⊢
  simp only [pure_bind] at h1 ⊢
  exact fun w=>(Bl.binI op t _ _ _ _).run h1 w
 ·split at h
  ·rename_i a ca b cb ha hb
   have e1:=SV.bool_ok (DV.bool?_den ha ρ) hu
   have e2:=SV.bool_ok (DV.bool?_den hb ρ) hv
   subst e1;subst e2
   split at h
   ·rename_i hut
    rw [eqGuard_at_bool] at h1 ⊢
    simp only [pure_bind] at h1 ⊢
    exact fun w=>(Bl.binB hut).run h1 w
   ·cases h
  ·split at h
   ·rename_i a b ha hb
    have e1:=SV.ptr_ok (DV.ptr?_den ha ρ) hu
    have e2:=SV.ptr_ok (DV.ptr?_den hb ρ) hv
    split at h
    ·rename_i e hut
     have hab : (a && b) = false /\ (op = .eql \/ op = .neq):=by
      unfold litD at h
      cases a <;> cases b <;> cases op <;> simp [ptrOut] at h ⊢
     obtain ⟨p,q,rfl,rfl,hpq⟩ : ∃ p q,u = .pointer p /\ v = .pointer q /\ (p = none \/ q = none):=by
      cases a <;> cases b <;> simp at e1 e2 hab
      ·exact ⟨_,_,e1,e2,.inl rfl⟩
      ·obtain ⟨p,rfl⟩:=e2;exact ⟨_,_,e1,rfl,.inl rfl⟩
      ·obtain ⟨p,rfl⟩:=e1;exact ⟨_,_,rfl,e2,.inr rfl⟩
     rw [eqGuard_at_pointer] at h1 ⊢
     simp only [pure_bind] at h1 ⊢
     exact fun w=>(Bl.binP hut hpq hab.2).run h1 w
    ·cases h
   ·cases h
def npD (op : BinOp) (x y : DV) : Option DV:=
 match op,x,y with
 | .eql,.s (.c (.np _ v _ _)),.s (.c .nil)=>some (d1 (.boo false v))
 | .neq,.s (.c (.np _ v _ _)),.s (.c .nil)=>some (d1 (.boo true v))
 | _,_,_=>none
theorem npD_uni {sg : Sig} {κ : Kn} {ρ : Vl} {P : Program} {op : BinOp} {t e : TypeId} {xo yo : Operand} {x y r : DV} {u v : Value} (hx : x.lt κ.n) (hut : P.underlying t = some (.pointer e)) (hu : (x.den ρ).ok (mu sg) u) (hv : (y.den ρ).ok (mu sg) v) (h : npD op x y = some r) :
  ∃ z,(∀ w,(do eqGuard op t xo yo u v;Go.binOp op t u v).run P w = .ok z w) /\ Now sg κ ρ r z:=by
 have gen : ∀ (a w' : Nat) (o : Lin) (L : List CS),((DC.np a w' o L).den ρ).ok (mu sg) u -> v = .pointer none -> ∃ p,u = .pointer p /\ (ρ.i w' = 1 ↔ p.isNone = false) /\ ∀ w,(Op.equal t u v).run P w = .ok p.isNone w:=fun a w' o L hz hvn=>by
  subst hvn
  obtain ⟨p,rfl,hp⟩ : ∃ p,u = .pointer p /\ (ρ.i w' = 1 ↔ p.isNone = false):=by
   rcases np_ok hz with ⟨h1,hz⟩ | ⟨h1,rfl⟩
   ·obtain ⟨b,hb,rfl,hs⟩:=zp_ok hz
    exact ⟨_,rfl,by simp [h1]⟩
   ·exact ⟨none,rfl,by simp [h1]⟩
  refine ⟨p,rfl,hp,fun w=>?_⟩
  have hd : ∀ d : Nat,(Op.equalIn (d + 1) t (.pointer p) (.pointer none)).run P w = .ok p.isNone w:=fun d=>by cases p <;> simp [Op.equalIn,run_underlying hut]
  exact hd 9999
 unfold npD at h
 split at h
 ·rename_i a w' o L
  cases h
  have hvn : v = .pointer none:=hv
  obtain ⟨p,rfl,hp,he⟩:=gen a w' o L hu hvn
  subst hvn
  refine ⟨.bool p.isNone,fun w=>by rw [eqGuard_at_pointer];simp [Go.binOp,he],hx.2.1, ?_⟩
  show Value.bool _ = .bool _
  congr 1
  cases hq : p.isNone with
  | true=>
   have : ρ.i w' ≠ 1:=fun e=>by have:=hp.1 e;rw [hq] at this;cases this
   simp [this]
  | false=>simp [hp.2 hq]
 ·rename_i a w' o L
  cases h
  have hvn : v = .pointer none:=hv
  obtain ⟨p,rfl,hp,he⟩:=gen a w' o L hu hvn
  subst hvn
  refine ⟨.bool (!p.isNone),fun w=>by rw [eqGuard_at_pointer];simp [Go.binOp,he],hx.2.1, ?_⟩
  show Value.bool _ = .bool _
  congr 1
  cases hq : p.isNone with
  | true=>
   have : ρ.i w' ≠ 1:=fun e=>by have:=hp.1 e;rw [hq] at this;cases this
   simp [this]
  | false=>simp [hp.2 hq]
 ·cases h
def DV.cap? : DV -> Option Lin
 | .s (.c .nos)=>some L0
 | .s (.c (.zs _ _ _ _ c))=>some c
 | _=>none
theorem DV.cap?_ok {sg : Sig} {ρ : Vl} {x : DV} {c : Lin} {u : Value} (h : x.cap? = some c) (hx : (x.den ρ).ok (mu sg) u) : ∃ a n k,u = .slice a n k /\ (a = none -> (c.den ρ.i).toNat = 0):=by
 unfold DV.cap? at h
 split at h
 ·cases h
  obtain ⟨a,rfl⟩:=hx
  exact ⟨a,0,0,rfl,fun _=>by simp [L0]⟩
 ·cases h
  obtain ⟨ad,rfl,_,_,h4⟩:=zs_den_ok hx
  refine ⟨ad,_,_,rfl,fun e=>?_⟩
  rcases Nat.eq_zero_or_pos ((c.den ρ.i).toNat) with h0 | h0
  ·exact h0
  ·obtain ⟨b,_,h6,_⟩:=h4 h0
   rw [e] at h6;cases h6
 ·cases h
def nilD (op : BinOp) (x : DV) (κ : Kn) (kk : Kn -> DV -> Bool) : Bool:=
 match x.cap? with
 | some c=>match op with
  | .eql=>kk (κ.add ((Lin.num 0).sub c)) tT && kk κ tF
  | .neq=>kk (κ.add ((Lin.num 0).sub c)) tF && kk κ tT
  | _=>false
 | none=>false
theorem DV.cap?_lt {x : DV} {c : Lin} (h : x.cap? = some c) {n : Nat} (hx : x.lt n) : c.lt n:=by
 unfold DV.cap? at h
 split at h
 ·cases h;exact Lin.num_lt _ _
 ·cases h;exact hx.2.2.2
 ·cases h
theorem nilD_uni {sg : Sig} {κ : Kn} {ρ : Vl} {kk : Kn -> DV -> Bool} {P : Program} {op : BinOp} {t el : TypeId} {xo yo : Operand} {x : DV} {u : Value} (hκ : κ.Ok ρ) (hx : x.lt κ.n) (hut : P.underlying t = some (.slice el)) (hu : (x.den ρ).ok (mu sg) u) (h : nilD op x κ kk = true) :
  ∃ z,(∀ w,(do eqGuard op t xo yo u (.slice none 0 0);Go.binOp op t u (.slice none 0 0)).run P w = .ok z w) /\ GotP sg κ ρ kk z:=by
 unfold nilD at h
 split at h
 ·rename_i c hc
  obtain ⟨a,n,k,rfl,ha⟩:=DV.cap?_ok hc hu
  have hd : ∀ (d : Nat) (w : World),(Op.equalIn (d + 1) t (.slice a n k) (.slice none 0 0)).run P w = .ok a.isNone w:=fun d w=>by
   cases a <;> simp [Op.equalIn,run_underlying hut]
  have he : ∀ w,(Op.equal t (.slice a n k) (.slice none 0 0)).run P w = .ok a.isNone w:=hd 9999
  have g : a.isNone = true -> Gr κ (κ.add ((Lin.num 0).sub c)) ρ ρ:=fun e=>Kn.add_gr hκ (Lin.sub_lt (Lin.num_lt _ _) (DV.cap?_lt hc hx)) (by
   have:=ha (by simpa using e)
   rw [Lin.sub_den,Lin.num_den];omega)
  cases op <;> simp only [] at h <;> try (cases h;done)
  ·rw [Bool.and_eq_true] at h
   refine ⟨.bool a.isNone,fun w=>by rw [eqGuard_at_slice];simp [Go.binOp,he], ?_⟩
   cases e : a.isNone with
   | true=>exact ⟨_,_,_,h.1,g e,trivial,rfl⟩
   | false=>exact ⟨_,_,_,h.2,Gr.refl hκ,trivial,rfl⟩
  ·rw [Bool.and_eq_true] at h
   refine ⟨.bool (!a.isNone),fun w=>by rw [eqGuard_at_slice];simp [Go.binOp,he], ?_⟩
   cases e : a.isNone with
   | true=>exact ⟨_,_,_,h.1,g e,trivial,rfl⟩
   | false=>exact ⟨_,_,_,h.2,Gr.refl hκ,trivial,rfl⟩
 ·cases h
theorem unD_uni {sg : Sig} {κ : Kn} {ρ : Vl} {kk : Kn -> DV -> Bool} {P : Program} {op : UnOp} {x : DV} {u : Value} (w0 : World) (hκ : κ.Ok ρ) (hx : x.lt κ.n) (hu : (x.den ρ).ok (mu sg) u) (h : unD op x κ kk = true) :
  ∃ z,(∀ w,(Op.unary op u).run P w = .ok z w) /\ GotP sg κ ρ kk z:=by
 obtain ⟨z,sv,h1,h2,h3⟩:=un_ok (P:=P) (w:=w0) hu (unD_got hκ hx h)
 refine ⟨z,fun w=>?_,Got.toP h2 h3⟩
 have hb : Bl P (Op.unary op u):=by
  unfold Op.unary
  split <;> first | exact Bl.pure _ | exact Bl.uns _ | exact Bl.stuck _
 exact hb.run h1 w
theorem convD_uni {sg : Sig} {κ : Kn} {ρ : Vl} {kk : Kn -> DV -> Bool} {P : Program} {s d : TypeId} {x : DV} {u : Value} (w0 : World) (hκ : κ.Ok ρ) (hx : x.lt κ.n) (hu : (x.den ρ).ok (mu sg) u) (h : convD P s d x κ kk = true) :
  ∃ z,(∀ w,(convert s d u).run P w = .ok z w) /\ GotP sg κ ρ kk z:=by
 have hg:=convD_got hκ hx h
 obtain ⟨z,sv,h1,h2,h3⟩:=conv_ok (P:=P) (w:=w0) hu hg
 refine ⟨z,fun w=>?_,Got.toP h2 h3⟩
 unfold convD at h
 split at h
 ·rename_i k e td k' hi hs hd
  have:=SV.int_ok (DV.int?_den hi ρ) hu
  subst this
  have hr : ∀ w,(convert s d (.int k (e.den ρ.i))).run P w = .ok (.int k' (k'.wrap (e.den ρ.i))) w:=fun w=>by simp [convert,run_underlying hs,run_underlying hd,Conv.intToInt]
  rw [hr w0] at h1
  cases h1
  exact hr w
 ·rename_i k e td k' hi hs hd
  have:=SV.int_ok (DV.int?_den hi ρ) hu
  subst this
  have hr : ∀ w,(convert s d (.int k (e.den ρ.i))).run P w = .ok (.int k' (k'.wrap (e.den ρ.i))) w:=fun w=>by simp [convert,run_underlying hs,run_underlying hd,Conv.intToInt]
  rw [hr w0] at h1
  cases h1
  exact hr w
 ·cases h
def lenD (P : Program) (t : TypeId) (x : DV) (κ : Kn) (kk : Kn -> DV -> Bool) : Bool:=
 match P.underlying t,x with
 | some (.slice _),.s (.c .nos)=>kk κ (d1 (.num .i64 0))
 | some (.slice _),.s (.c (.zs _ _ _ n _))=>κ.has n && kk κ (d1 (.int .i64 n))
 | some (.array n _),_=>kk κ (d1 (.num .i64 n))
 | some .string,.s (.c (.strL s))=>kk κ (d1 (.num .i64 s.size))
 | some .string,.s (.c (.str _))=>kk (κ.newC [.var κ.n]) (d1 (.int .i64 (.var κ.n)))
 | _,_=>false
theorem lenD_uni {sg : Sig} {κ : Kn} {ρ : Vl} {kk : Kn -> DV -> Bool} {P : Program} {t ty : TypeId} {x : DV} {u : Value} (hκ : κ.Ok ρ) (hx : x.lt κ.n) (hu : (x.den ρ).ok (mu sg) u) (h : lenD P t x κ kk = true) :
  ∃ z,(∀ w,(Builtin.len_ #[t] ty #[u]).run P w = .ok z w) /\ GotP sg κ ρ kk z:=by
 unfold lenD at h
 split at h
 ·rename_i el hut
  obtain ⟨a,rfl⟩:=hu
  exact ⟨.int .i64 (0 : Nat),fun w=>by simp [Builtin.len_,run_underlying hut,goInt],_,_,ρ,h,Gr.refl hκ,trivial,rfl⟩
 ·rename_i el a o E n c hut
  rw [Bool.and_eq_true] at h
  have h0:=Kn.has_ok hκ h.1
  obtain ⟨ad,rfl,_⟩:=zs_den_ok hu
  refine ⟨.int .i64 ((n.den ρ.i).toNat : Nat),fun w=>by simp [Builtin.len_,run_underlying hut,goInt],_,_,ρ,h.2,Gr.refl hκ,hx.2.2.1, ?_⟩
  show Value.int .i64 _ = .int .i64 (n.den ρ.i)
  congr 1
  omega
 ·rename_i n el hut
  exact ⟨.int .i64 (n : Nat),fun w=>by simp [Builtin.len_,run_underlying hut,goInt],_,_,ρ,h,Gr.refl hκ,trivial,rfl⟩
 ·rename_i s hut
  have : u = .string s:=hu
  subst this
  exact ⟨.int .i64 (s.size : Nat),fun w=>by simp [Builtin.len_,run_underlying hut,goInt],_,_,ρ,h,Gr.refl hκ,trivial,rfl⟩
 ·rename_i v hut
  have : u = .string (ρ.s v):=hu
  subst this
  have g:=newC_gr (x:=((ρ.s v).size : Int)) (cs:=[.var κ.n]) hκ (fun l hl=>by
   simp only [List.mem_cons,List.not_mem_nil,or_false] at hl
   subst hl;exact var_lt1 _) (fun l hl=>by
   simp only [List.mem_cons,List.not_mem_nil,or_false] at hl
   subst hl;rw [new_den];omega)
  refine ⟨.int .i64 ((ρ.s v).size : Nat),fun w=>by simp [Builtin.len_,run_underlying hut,goInt],_,_,_,h,g,var_lt1 _, ?_⟩
  show Value.int .i64 _ = .int .i64 _
  rw [new_den]
 ·cases h
end
end Vx
namespace Vx
noncomputable section
open Go Zx
def addB (p : Bool) (v : Nat) (b : Bool) (κ : Kn) : Kn:=
 match p == b with
 | true=>κ.add ((Lin.var v).addc (-1))
 | false=>match κ.has ((Lin.num 1).sub (.var v)) with
  | true=>κ.add ((Lin.num 0).sub (.var v))
  | false=>κ
theorem addB_gr {κ : Kn} {ρ : Vl} (hκ : κ.Ok ρ) {p : Bool} {v : Nat} {b : Bool} (hv : v < κ.n) (h : bV ρ (.boo p v) = b) : Gr κ (addB p v b κ) ρ ρ:=by
 simp only [bV] at h
 unfold addB
 split
 ·rename_i e
  rw [beq_iff_eq] at e
  subst e
  have : ρ.i v = 1:=by
   cases p <;> cases hd : decide (ρ.i v = 1) <;> simp [hd] at h ⊢ <;> simpa using hd
  exact Kn.add_gr hκ (Lin.addc_lt (Lin.var_lt hv)) (by rw [Lin.addc_den,Lin.var_den,this];omega)
 ·rename_i e
  have hne : ρ.i v ≠ 1:=by
   intro hh
   simp only [hh,decide_true] at h
   subst h
   cases p <;> simp at e
  split
  ·rename_i h1
   have h1:=Kn.has_ok hκ h1
   rw [Lin.sub_den,Lin.num_den,Lin.var_den] at h1
   exact Kn.add_gr hκ (Lin.sub_lt (Lin.num_lt _ _) (Lin.var_lt hv)) (by rw [Lin.sub_den,Lin.num_den,Lin.var_den];omega)
  ·exact Gr.refl hκ
def pickD (c a b : DV) (κ : Kn) (kk : Kn -> DV -> Bool) : Bool:=
 match c with
 | .s (.c (.tru true))=>kk κ a
 | .s (.c (.tru false))=>kk κ b
 | .s (.c (.boo p v))=>kk (addB p v true κ) a && kk (addB p v false κ) b
 | _=>false
theorem pickD_uni {sg : Sig} {κ : Kn} {ρ : Vl} {kk : Kn -> DV -> Bool} {P : Program} {c a b : DV} {uc ua ub : Value} (hκ : κ.Ok ρ) (hc : c.lt κ.n) (ha : a.lt κ.n) (hb : b.lt κ.n) (hxc : (c.den ρ).ok (mu sg) uc) (hxa : (a.den ρ).ok (mu sg) ua) (hxb : (b.den ρ).ok (mu sg) ub) (h : pickD c a b κ kk = true) :
  ∃ z,(∀ w,(do pure (if ← asBool uc then ua else ub) : Sem Value).run P w = .ok z w) /\ GotP sg κ ρ kk z:=by
 unfold pickD at h
 split at h
 ·obtain rfl : uc = .bool true:=hxc
  exact ⟨ua,fun w=>by simp [asBool],Now.got hκ ⟨ha,hxa⟩ h⟩
 ·obtain rfl : uc = .bool false:=hxc
  exact ⟨ub,fun w=>by simp [asBool],Now.got hκ ⟨hb,hxb⟩ h⟩
 ·rename_i p v
  obtain rfl : uc = .bool (bV ρ (.boo p v)):=hxc
  rw [Bool.and_eq_true] at h
  cases e : bV ρ (.boo p v) with
  | true=>exact ⟨ua,fun w=>by simp [asBool],_,_,_,h.1,addB_gr hκ hc e,by unfold addB;repeat' (first | exact ha | split),hxa⟩
  | false=>exact ⟨ub,fun w=>by simp [asBool],_,_,_,h.2,addB_gr hκ hc e,by unfold addB;repeat' (first | exact hb | split),hxb⟩
 ·cases h
def minD (mx : Bool) (k : IntKind) (kk : Kn -> DV -> Bool) : Lin -> List DV -> Kn -> Bool
 | a,[],κ=>kk κ (d1 (numOr k a))
 | a,y :: ys,κ=>match y.int? with
  | some (_,b,_)=>match (match mx with
    | true=>(a.sub b,(b.sub a).addc (-1))
    | false=>(b.sub a,(a.sub b).addc (-1))) with
   | (g,g')=>(κ.has g' || minD mx k kk a ys (κ.add g)) && (κ.has g || minD mx k kk b ys (κ.add g'))
  | none=>false
def AllD (sg : Sig) (ρ : Vl) : List DV -> List Value -> Prop
 | [],[]=>True
 | x :: xs,v :: vs=>(x.den ρ).ok (mu sg) v /\ AllD sg ρ xs vs
 | _,_=>False
theorem minD_uni {sg : Sig} {P : Program} {mx : Bool} {k : IntKind} {kk : Kn -> DV -> Bool} {ρ : Vl} : ∀ {ys : List DV} {a : Lin} {κ : Kn} {vs : List Value},κ.Ok ρ -> a.lt κ.n -> (∀ y ∈ ys,y.lt κ.n) -> AllD sg ρ ys vs -> minD mx k kk a ys κ = true →
  ∃ z,(∀ w,(vs.foldlM (if mx then Builtin.max2 else Builtin.min2) (.int k (a.den ρ.i))).run P w = .ok z w) /\ GotP sg κ ρ kk z
 | [],a,κ,[],hκ,ha,_,_,h=>⟨.int k (a.den ρ.i),fun w=>by simp,κ,_,ρ,h,Gr.refl hκ,by unfold numOr d1;split <;> first | trivial | exact ha,numOr_ok.2 rfl⟩
 | y :: ys,a,κ,v :: vs,hκ,ha,hy,hv,h=>by
  simp only [minD] at h
  split at h
  ·rename_i k' b c hb
   have hbl:=DV.int?_lt hb (hy y (by simp))
   have e:=SV.int_ok (DV.int?_den hb ρ) hv.1
   subst e
   have step : ∀ (m : Lin),(m.den ρ.i = if mx then max (a.den ρ.i) (b.den ρ.i) else min (a.den ρ.i) (b.den ρ.i)) -> m.lt κ.n -> ∀ g : Lin,g.lt κ.n -> 0 <= g.den ρ.i -> minD mx k kk m ys (κ.add g) = true →
     ∃ z,(∀ w,((Value.int k' (b.den ρ.i) :: vs).foldlM (if mx then Builtin.max2 else Builtin.min2) (.int k (a.den ρ.i))).run P w = .ok z w) /\ GotP sg κ ρ kk z:=fun m hm hml g hg hg0 hk=>by
    have gr:=Kn.add_gr hκ hg hg0
    obtain ⟨z,h1,κ',y',ρ',q1,q2,q3,q4⟩:=minD_uni gr.ok hml (fun y hy'=>hy y (by simp [hy'])) hv.2 hk
    refine ⟨z,fun w=>?_,κ',y',ρ',q1,gr.trans q2,q3,q4⟩
    rw [List.foldlM_cons,Sem.run_bind]
    have hstep : ((if mx then Builtin.max2 else Builtin.min2) (.int k (a.den ρ.i)) (.int k' (b.den ρ.i))).run P w = .ok (.int k (m.den ρ.i)) w:=by
     rw [hm]
     cases mx
     ·simp only [Bool.false_eq_true,if_false,Builtin.min2,Sem.run_pure]
      congr 2
      split <;> omega
     ·simp only [if_true,Builtin.max2,Sem.run_pure]
      congr 2
      split <;> omega
    rw [hstep]
    exact h1 w
   cases mx
   ·simp only [Bool.and_eq_true,Bool.or_eq_true] at h
    by_cases hc : a.den ρ.i <= b.den ρ.i
    ·refine step a (by simp;omega) ha _ (Lin.sub_lt hbl ha) (by rw [Lin.sub_den];omega) (h.1.resolve_left fun hh=>?_)
     have:=Kn.has_ok hκ hh
     rw [Lin.addc_den,Lin.sub_den] at this;omega
    ·refine step b (by simp;omega) hbl _ (Lin.addc_lt (Lin.sub_lt ha hbl)) (by rw [Lin.addc_den,Lin.sub_den];omega) (h.2.resolve_left fun hh=>?_)
     have:=Kn.has_ok hκ hh
     rw [Lin.sub_den] at this;omega
   ·simp only [Bool.and_eq_true,Bool.or_eq_true] at h
    by_cases hc : b.den ρ.i <= a.den ρ.i
    ·refine step a (by simp;omega) ha _ (Lin.sub_lt ha hbl) (by rw [Lin.sub_den];omega) (h.1.resolve_left fun hh=>?_)
     have:=Kn.has_ok hκ hh
     rw [Lin.addc_den,Lin.sub_den] at this;omega
    ·refine step b (by simp;omega) hbl _ (Lin.addc_lt (Lin.sub_lt hbl ha)) (by rw [Lin.addc_den,Lin.sub_den];omega) (h.2.resolve_left fun hh=>?_)
     have:=Kn.has_ok hκ hh
     rw [Lin.sub_den] at this;omega
  ·cases h
 | [],_,_,_ :: _,_,_,_,hv,_=>hv.elim
 | _ :: _,_,_,[],_,_,_,hv,_=>hv.elim
def capsD : List DV -> Option (List (Nat × Lin × List CS))
 | []=>some []
 | x :: xs=>match zpD x,capsD xs with
  | some (a,o,L),some cs=>some ((a,o,L) :: cs)
  | _,_=>none
theorem capsD_ok {sg : Sig} {ρ : Vl} {n : Nat} : ∀ {xs : List DV} {cs : List (Nat × Lin × List CS)} {vs : List Value},capsD xs = some cs -> (∀ x ∈ xs,x.lt n) -> AllD sg ρ xs vs →
  (∀ p ∈ cs,p.1 < n /\ p.2.1.lt n) /\ allReal ρ cs = true /\ vs = (cs.map fun p=>((ρ.a p.1).1.toNat,(ρ.a p.1).2 + (p.2.1.den ρ.i).toNat,p.2.2)).map (fun p=>Value.pointer (some ⟨p.1,p.2.1,none⟩)) /\ ∀ p ∈ cs,Sits sg (ρ.a p.1).1.toNat ((ρ.a p.1).2 + (p.2.1.den ρ.i).toNat) p.2.2
 | [],cs,[],h,_,_=>by cases h;exact ⟨fun p hp=>(by cases hp),rfl,rfl,fun p hp=>(by cases hp)⟩
 | x :: xs,cs,v :: vs,h,hl,hv=>by
  simp only [capsD] at h
  split at h
  ·rename_i a o L cs' h1 h2
   cases h
   have:=zpD_eq h1
   subst this
   have hx:=hl _ (List.mem_cons_self ..)
   obtain ⟨g1,g2,g3,g4⟩:=capsD_ok h2 (fun x hx=>hl x (by simp [hx])) hv.2
   obtain ⟨b,hb,rfl,hs⟩:=zp_ok hv.1
   refine ⟨fun p hp=>?_, ?_, ?_,fun p hp=>?_⟩
   ·rcases List.mem_cons.1 hp with rfl | hp
    ·exact hx
    ·exact g1 p hp
   ·simp only [allReal,g2,hb,Bool.and_true,decide_eq_true_eq];omega
   ·simp only [List.map_cons,hb,Int.toNat_natCast];rw [g3]
   ·rcases List.mem_cons.1 hp with rfl | hp
    ·simp only [hb,Int.toNat_natCast];exact hs
    ·exact g4 p hp
  ·cases h
 | [],_,_ :: _,_,_,hv=>hv.elim
 | _ :: _,_,[],_,_,hv=>hv.elim
def makeD (fn : Fn) (first caps : List DV) : Option DV:=
 match fn,first with
 | .func f,[]=>match caps with
  | []=>some (d1 (.fn f))
  | x :: xs=>match capsD (x :: xs) with
   | some cs=>some (d1 (.clo f cs))
   | none=>none
 | _,_=>none
theorem makeD_uni {sg : Sig} {κ : Kn} {ρ : Vl} {P : Program} {fn : Fn} {first caps : List DV} {y : DV} {vf vc : Array Value} (hl : ∀ x ∈ caps,x.lt κ.n) (h1 : AllD sg ρ first vf.toList) (h2 : AllD sg ρ caps vc.toList) (h : makeD fn first caps = some y) :
  ∃ z,(∀ w,(Instr.makeFunc fn vf vc).run P w = .ok z w) /\ Now sg κ ρ y z:=by
 obtain ⟨vf⟩:=vf
 obtain ⟨vc⟩:=vc
 unfold makeD at h
 split at h
 ·rename_i f
  cases vf with
  | cons v vs=>exact h1.elim
  | nil=>
   split at h
   ·cases h
    cases vc with
    | cons v vs=>exact h2.elim
    | nil=>exact ⟨.func (.func f) #[] #[],fun w=>by simp [Instr.makeFunc],trivial,rfl⟩
   ·rename_i x xs
    split at h
    ·rename_i cs hcs
     cases h
     obtain ⟨g1,g2,g3,g4⟩:=capsD_ok hcs hl h2
     refine ⟨.func (.func f) #[] ⟨vc⟩,fun w=>by simp [Instr.makeFunc],g1, ?_⟩
     simp only [d1,DV.den,D1.den,DC.den,g2,if_true]
     refine ⟨?_,fun p hp=>?_⟩
     ·simp only at g3
      rw [g3]
     ·obtain ⟨q,hq,rfl⟩:=List.mem_map.1 hp
      exact g4 q hq
    ·cases h
 ·cases h
end
end Vx
