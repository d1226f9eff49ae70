/- A part of the proof: lemmas. No condition of its own. -/
import Derived.Test.YtglcgbhhkjebbaaGreatK04
set_option linter.unusedVariables false
set_option linter.unusedSimpArgs false
namespace Zx
noncomputable section
open Go
def SV.isEmp : SV -> Bool
 | .t []=>true
 | _=>false
def wantedS (ops : Array Oper) (slots : List SV) (o : Oper) : Option Bool:=
 match o.guard with
 | none=>some true
 | some (j,want)=>match (ops[j]?).bind (·.dst) with
  | some t=>match (slots.getD t .u).bool? with
   | some (b,true)=>some (b == want)
   | _=>match (slots.getD t .u).isEmp with
    | true=>some false
    | false=>none
  | none=>none
def concV (flag : Bool) (r : Res) : Out Res:=
 if flag then
  match r.v with
  | .s (.c (.boo b))=>.brB b (.ret { r with v:=one (.tru true) }) (.ret { r with v:=one (.tru false) })
  | _=>.ret r
 else .ret r
def Req.conc (r : Req) (flag : Bool) : Req:=⟨r.rd,r.wr,fun bl=>(r.act bl).bind (concV flag)⟩
def isGuard (ops : Array Oper) (i : Nat) : Bool:=ops.toList.any fun o=>match o.guard with | some (j,_)=>j == i | none=>false
def reqAt (P : Program) (Γ : Env) (ops : Array Oper) (i base : Nat) (slots : List SV) (o : Oper) : Req:=(opReqZ P Γ base (evS slots) o.op).conc (isGuard ops i)
def stepS (P : Program) (Γ : Env) (ops : Array Oper) (i base : Nat) (s : St) (K : St -> Prop) : Prop:=
 match ops[i]? with
 | none=>K s
 | some o=>match wantedS ops s.slots o with
  | some true=>(reqAt P Γ ops i base s.slots o).pre s.heap fun res=>s.applyK o.dst base (reqAt P Γ ops i base s.slots o).wr res K
  | some false=>fSp (putS s.slots o.dst (.t [])) fun sl=>K ⟨sl,s.heap,s.next⟩
  | none=>False
theorem wantedS_ok {w0 : World} {I : Nat -> Prop} {μ : Mu} {s : St} {a : Act} {w : World} {ops : Array Oper} {o : Oper} {b : Bool} (hm : Models w0 I μ s a w) (h : wantedS ops s.slots o = some b) : Region.wanted o (yielded ops a.tmps) = b:=by
 unfold wantedS at h
 unfold Region.wanted
 split at h
 ·rename_i hg
  rw [hg]
  cases h
  rfl
 ·rename_i j want hg
  rw [hg]
  split at h
  ·rename_i t ht
   split at h
   ·rename_i c hc
    cases h
    have hlt : t < s.slots.length:=by
     rcases Nat.lt_or_ge t s.slots.length with h | h
     ·exact h
     ·rw [List.getD,List.getElem?_eq_none h] at hc;cases hc
    obtain ⟨v,hv,hok⟩:=hm.slots t _ (List.getElem?_eq_getElem hlt)
    have hc' : (s.slots[t]).bool? = some (c,true):=by simpa [List.getD,hlt] using hc
    have:=SV.bool_ok hc' hok
    subst this
    simp [yielded,ht,hv]
   ·split at h
    ·rename_i hc
     cases h
     have hlt : t < s.slots.length:=by
      rcases Nat.lt_or_ge t s.slots.length with h | h
      ·exact h
      ·rw [List.getD,List.getElem?_eq_none h] at hc;cases hc
     obtain ⟨v,hv,hok⟩:=hm.slots t _ (List.getElem?_eq_getElem hlt)
     have hc' : (s.slots[t]).isEmp = true:=by simpa [List.getD,hlt] using hc
     have hv' : v = .tuple #[]:=by
      revert hok hc'
      cases s.slots[t] with
      | t xs=>
       cases xs with
       | nil=>
        rintro ⟨vs,rfl,ha⟩ _
        cases vs with
        | nil=>rfl
        | cons _ _=>exact ha.elim
       | cons _ _=>intro _ h;cases h
      | s _=>intro _ h;cases h
      | u=>intro _ h;cases h
     subst hv'
     simp [yielded,ht,hv]
    ·cases h
  ·cases h
theorem Eff.setV {μ μ' : Mu} {h : Nat -> Option Blk} {w w' : World} {base : Nat} {wr : List Nat} {r : Res} {v : Value} {x : SV} (he : Eff μ μ' h w base wr r v w') (hx : x.ok μ' v) : Eff μ μ' h w base wr { r with v:=x } v w':=
 { he with val:=hx }
theorem conc_came {μ : Mu} {h : Nat -> Option Blk} {w : World} {base : Nat} {wr : List Nat} {dst : Option Tmp} {a a' : Act} {w' : World} {flag : Bool} {K : Res -> Prop} (hc : Came μ h w base wr dst a (fun r=>(concV flag r).wp K) a' w') :
  Came μ h w base wr dst a K a' w':=by
 obtain ⟨v,μ',r,h1,h2,h3⟩:=hc
 unfold concV at h2
 split at h2
 ·split at h2
  ·rename_i b hb
   have hv:=h3.val
   rw [hb] at hv
   have hv' : v = .bool b:=hv
   cases b
   ·exact ⟨v,μ',_,h1,h2.2 rfl,h3.setV hv'⟩
   ·exact ⟨v,μ',_,h1,h2.1 rfl,h3.setV hv'⟩
  ·exact ⟨v,μ',r,h1,h2,h3⟩
 ·exact ⟨v,μ',r,h1,h2,h3⟩
theorem Models.skip {w0 : World} {I : Nat -> Prop} {μ : Mu} {s : St} {a : Act} {w : World} (hm : Models w0 I μ s a w) (dst : Option Nat) : Models w0 I μ { s with slots:=putS s.slots dst (.t []) } (a.put dst undef) w where
 size:=by
  cases dst with
  | none=>exact hm.size
  | some d=>simpa [putS,Act.put] using hm.size
 slots:=fun i x hx=>by
  cases dst with
  | none=>exact hm.slots i x hx
  | some d=>
   simp only [putS] at hx
   by_cases hd : d = i
   ·subst hd
    have hlt : d < s.slots.length:=by
     have:=(List.getElem?_eq_some_iff.1 hx).1
     simpa using this
    simp [hlt] at hx
    subst hx
    exact ⟨undef,by simp [Act.put,hm.size,hlt],⟨[],rfl,trivial⟩⟩
   ·rw [List.getElem?_set_ne hd] at hx
    obtain ⟨u,hu,hok⟩:=hm.slots i x hx
    exact ⟨u,by simp [Act.put,Array.getElem?_setIfInBounds_ne hd,hu],hok⟩
 defers:=by cases dst <;> exact hm.defers
 hm:=hm.hm
 mine:=hm.mine
 zmine:=hm.zmine
 fr:=hm.fr
theorem step_sound {P : Program} {Γ : Env} (hΓ : EnvOk P Γ) {ops : Array Oper} {i base : Nat} {w0 : World} {I : Nat -> Prop} {μ : Mu} {s : St} {a : Act} {w : World} {K : St -> Prop} {Q : Exit -> Act -> World -> Prop}
  (hm : Models w0 I μ s a w) (hf : ∀ n ∈ freshN base,μ n = none) (h : stepS P Γ ops i base s K) :
  wpOp P ops Q i (fun a' w'=>∃ μ' s',Models w0 I μ' s' a' w' /\ (∀ n l,μ' n = some l -> μ n = some l \/ n ∈ freshN base) /\ K s') a w:=by
 unfold stepS at h
 simp only [St.applyK_eq,fSp_eq] at h
 unfold wpOp
 split at h
 ·rename_i hi
  rw [hi]
  exact ⟨μ,s,hm,fun n l hl=>.inl hl,h⟩
 ·rename_i o hi
  rw [hi]
  simp only []
  split at h
  ·rename_i hw
   rw [wantedS_ok hm hw]
   simp only [if_true]
   left
   have hk : (opReqZ P Γ base (evS s.slots) o.op).pre s.heap fun r=>(concV (isGuard ops i) r).wp fun res=>K (s.apply o.dst base (opReqZ P Γ base (evS s.slots) o.op).wr res):=Out.wp_bind.1 h
   have hs:=op_soundA hΓ (Q:=Q) hm.hm (evS_ok hm) hf hk
   refine Oper.wp_mono (fun a' w' hc=>?_) hs
   obtain ⟨v,μ',r,rfl,hr,he⟩:=conc_came hc
   exact ⟨μ',_,hm.apply o.dst hf he,he.dom,hr⟩
  ·rename_i hw
   rw [wantedS_ok hm hw]
   simp only [Bool.false_eq_true,if_false]
   exact ⟨μ,_,hm.skip o.dst,fun n l hl=>.inl hl,h⟩
  ·exact h.elim
def Dom (μ : Mu) (n : Nat) : Prop:=∀ m l,μ m = some l -> m < n
def At (w0 : World) (I : Nat -> Prop) (K : St -> Prop) (a : Act) (w : World) : Prop:=∃ μ s,Models w0 I μ s a w /\ Dom μ s.next /\ K s
def runP (P : Program) (Γ : Env) (ops : Array Oper) (base0 : Nat) : List Nat -> St -> (St -> Prop) -> Prop
 | [],s,K=>K s
 | i :: is,s,K=>stepS P Γ ops i (base0 + 4 * i) s fun s'=>runP P Γ ops base0 is s' K
def regionP (P : Program) (Γ : Env) (ops : Array Oper) (s : St) (K : St -> Prop) : Prop:=
 fN s.next fun nx=>runP P Γ ops nx (List.range ops.size) s fun s'=>fN (nx + 4 * ops.size) fun n2=>K ⟨s'.slots,s'.heap,n2⟩
theorem mem_freshN {n base : Nat} : n ∈ freshN base ↔ base <= n /\ n < base + 4:=by
 simp [freshN];omega
theorem runP_sound {P : Program} {Γ : Env} (hΓ : EnvOk P Γ) {ops : Array Oper} {base0 : Nat} {w0 : World} {I : Nat -> Prop} {K : St -> Prop} {Q : Exit -> Act -> World -> Prop}
  (hQ : ∀ a w,(∃ μ s,Models w0 I μ s a w /\ Dom μ (base0 + 4 * ops.size) /\ K s) -> Q .normal a w) :
  ∀ (k i : Nat) (μ : Mu) (s : St) (a : Act) (w : World),i + k = ops.size -> Models w0 I μ s a w -> Dom μ (base0 + 4 * i) -> runP P Γ ops base0 (List.range' i k) s K -> wpOps P ops Q (List.range' i k) a w
 | 0,i,μ,s,a,w,hn,hm,hd,h=>by
  simp only [List.range'_zero,wpOps]
  exact hQ a w ⟨μ,s,hm,by rw [← hn];exact hd,h⟩
 | k + 1,i,μ,s,a,w,hn,hm,hd,h=>by
  simp only [List.range'_succ] at h ⊢
  rw [wpOps_cons]
  have hf : ∀ n ∈ freshN (base0 + 4 * i),μ n = none:=fun n hn'=>by
   rw [mem_freshN] at hn'
   cases hx : μ n with
   | none=>rfl
   | some l=>have:=hd n l hx;omega
  refine wpOp_mono (fun a' w' hh=>?_) (step_sound hΓ hm hf h)
  obtain ⟨μ',s',hm',hd',hr⟩:=hh
  refine runP_sound hΓ hQ k (i + 1) μ' s' a' w' (by omega) hm' (fun n l hl=>?_) hr
  rcases hd' n l hl with h1 | h1
  ·have:=hd n l h1;omega
  ·rw [mem_freshN] at h1;omega
theorem Models.next {w0 : World} {I : Nat -> Prop} {μ : Mu} {s : St} {a : Act} {w : World} (hm : Models w0 I μ s a w) (n : Nat) : Models w0 I μ { s with next:=n } a w:=⟨hm.size,hm.slots,hm.defers,hm.hm,hm.mine,hm.zmine,hm.fr⟩
theorem regionP_sound {P : Program} {Γ : Env} (hΓ : EnvOk P Γ) {ops : Array Oper} {id : Nat} {w0 : World} {I : Nat -> Prop} {μ : Mu} {s : St} {a : Act} {w : World} {K : St -> Prop} {Q : Exit -> Act -> World -> Prop}
  (hm : Models w0 I μ s a w) (hd : Dom μ s.next) (hQ : ∀ a w,At w0 I K a w -> Q .normal a w) (h : regionP P Γ ops s K) : (Code.region id ops false).wp P Q a w:=by
 unfold regionP at h
 simp only [fN_eq] at h
 refine wp_region ?_
 rw [List.range_eq_range']
 refine runP_sound hΓ (base0:=s.next) (K:=fun s'=>K { s' with next:=s.next + 4 * ops.size }) (fun a' w' ⟨μ',s',hm',hd',hk⟩=>hQ a' w' ⟨μ',_,hm'.next _,hd',hk⟩) ops.size 0 μ s a w (by omega) hm (by simpa using hd) ?_
 rw [← List.range_eq_range']
 exact h
end
end Zx
namespace Zx
noncomputable section
open Go
def depsOf (o : Oper) : List Nat:=o.after.toList.filterMap fun e=>if Region.binds .any e then some e.on else none
def mask (tab : List Nat) : List Nat -> Nat
 | []=>0
 | e :: es=>2 ^ e ||| (tab.getD e 0 ||| mask tab es)
def tabOf : List (List Nat) -> List Nat -> List Nat
 | [],acc=>acc
 | es :: rest,acc=>tabOf rest (acc ++ [mask acc es])
def ancTab (ops : Array Oper) : List Nat:=tabOf (ops.toList.map depsOf) []
def bit (tab : List Nat) (i j : Nat) : Bool:=(tab.getD i 0).testBit j
def inter (a b : List Nat) : Bool:=a.any fun x=>b.contains x
def clash (rd wr rd' wr' : List Nat) : Bool:=inter wr rd' || inter wr wr' || inter rd wr'
abbrev Log:=List (Nat × List Nat × List Nat)
def logOk (tab : List Nat) (i : Nat) (rd wr : List Nat) (g : Log) : Bool:=g.all fun x=>bit tab i x.1 || !clash rd wr x.2.1 x.2.2
def namesOk (tab : List Nat) (base0 i : Nat) (ns : List Nat) : Bool:=ns.all fun n=>decide (n < base0) || (bit tab i ((n - base0) / 4) && decide ((n - base0) / 4 < i))
def stepD (P : Program) (Γ : Env) (ops : Array Oper) (tab : List Nat) (base0 i : Nat) (s : St) (g : Log) (K : St -> Log -> Prop) : Prop:=
 match ops[i]? with
 | none=>K s g
 | some o=>match wantedS ops s.slots o with
  | some true=>
   if logOk tab i (reqAt P Γ ops i (base0 + 4 * i) s.slots o).rd (reqAt P Γ ops i (base0 + 4 * i) s.slots o).wr g && namesOk tab base0 i ((reqAt P Γ ops i (base0 + 4 * i) s.slots o).rd ++ (reqAt P Γ ops i (base0 + 4 * i) s.slots o).wr) then
    (reqAt P Γ ops i (base0 + 4 * i) s.slots o).pre s.heap fun res=>s.applyK o.dst (base0 + 4 * i) (reqAt P Γ ops i (base0 + 4 * i) s.slots o).wr res fun s'=>fNs (reqAt P Γ ops i (base0 + 4 * i) s.slots o).rd fun rd=>fNs (reqAt P Γ ops i (base0 + 4 * i) s.slots o).wr fun wr=>K s' ((i,rd,wr) :: g)
   else False
  | some false=>fSp (putS s.slots o.dst (.t [])) fun sl=>K ⟨sl,s.heap,s.next⟩ g
  | none=>False
def runD (P : Program) (Γ : Env) (ops : Array Oper) (tab : List Nat) (base0 : Nat) : List Nat -> St -> Log -> (St -> Prop) -> Prop
 | [],s,g,K=>K s
 | i :: is,s,g,K=>stepD P Γ ops tab base0 i s g fun s' g'=>runD P Γ ops tab base0 is s' g' K
def apartOk (ops : Array Oper) (tab : List Nat) : Bool:=
 (List.range ops.size).all fun i=>(List.range i).all fun q=>bit tab i q || match ops[q]?,ops[i]? with
  | some oq,some oi=>Oper.apart ops oq oi
  | _,_=>true
def edgesOk (ops : Array Oper) : Bool:=
 (List.range ops.size).all fun i=>match ops[i]? with
  | some o=>(depsOf o).all fun e=>decide (e < i)
  | none=>true
def regionD (P : Program) (Γ : Env) (ops : Array Oper) (s : St) (K : St -> Prop) : Prop:=
 if edgesOk ops && apartOk ops (ancTab ops) then fN s.next fun nx=>fNs (ancTab ops) fun tab=>runD P Γ ops tab nx (List.range ops.size) s [] fun s'=>fN (nx + 4 * ops.size) fun n2=>K ⟨s'.slots,s'.heap,n2⟩ else False
theorem mask_bit {tab : List Nat} {q : Nat} : ∀ {es : List Nat},(mask tab es).testBit q = true -> ∃ e ∈ es,q = e \/ (tab.getD e 0).testBit q = true
 | [],h=>by simp [mask] at h
 | e :: es,h=>by
  simp only [mask,Nat.testBit_or,Bool.or_eq_true] at h
  rcases h with h | h | h
  ·rw [Nat.testBit_two_pow] at h
   exact ⟨e,by simp,.inl (by simpa using Eq.symm (by simpa using h))⟩
  ·exact ⟨e,by simp,.inr h⟩
  ·obtain ⟨e',h1,h2⟩:=mask_bit h
   exact ⟨e',by simp [h1],h2⟩
theorem tabOf_spec : ∀ (rest : List (List Nat)) (acc : List Nat) (all : List (List Nat)) (done : List (List Nat)),all = done ++ rest -> acc.length = done.length →
  (∀ i es,done[i]? = some es -> ∀ q,(acc.getD i 0).testBit q = true -> ∃ e ∈ es,q = e \/ ((acc.take i).getD e 0).testBit q = true) →
  ∀ i es,all[i]? = some es -> ∀ q,((tabOf rest acc).getD i 0).testBit q = true -> ∃ e ∈ es,q = e \/ (((tabOf rest acc).take i).getD e 0).testBit q = true
 | [],acc,all,done,ha,hl,h=>by
  simp at ha
  subst ha
  exact h
 | es0 :: rest,acc,all,done,ha,hl,h=>by
  simp only [tabOf]
  refine tabOf_spec rest (acc ++ [mask acc es0]) all (done ++ [es0]) (by simp [ha]) (by simp [hl]) ?_
  intro i es hi q hq
  rcases Nat.lt_or_ge i done.length with hlt | hge
  ·rw [List.getElem?_append_left hlt] at hi
   have e1 : (acc ++ [mask acc es0]).getD i 0 = acc.getD i 0:=by
    simp [List.getD,List.getElem?_append_left (by omega : i < acc.length)]
   rw [e1] at hq
   rw [List.take_append_of_le_length (by omega)]
   exact h i es hi q hq
  ·have hil : i < (done ++ [es0]).length:=(List.getElem?_eq_some_iff.1 hi).1
   have hie : i = done.length:=by simp at hil;omega
   subst hie
   simp at hi
   subst hi
   have e1 : (acc ++ [mask acc es0]).getD done.length 0 = mask acc es0:=by
    rw [← hl];simp [List.getD]
   rw [e1] at hq
   have e2 : (acc ++ [mask acc es0]).take done.length = acc:=by rw [← hl];simp
   rw [e2]
   exact mask_bit hq
theorem anc_step {ops : Array Oper} {i q : Nat} {o : Oper} (hi : ops[i]? = some o) (h : bit (ancTab ops) i q = true) : ∃ e ∈ depsOf o,q = e \/ bit (ancTab ops) e q = true:=by
 have:=tabOf_spec (ops.toList.map depsOf) [] (ops.toList.map depsOf) [] (by simp) rfl (by simp) i (depsOf o) (by simp [hi]) q h
 obtain ⟨e,he,h2⟩:=this
 refine ⟨e,he,h2.imp id fun h3=>?_⟩
 unfold bit ancTab
 rw [List.getD,List.getElem?_take] at h3
 split at h3
 ·exact h3
 ·simp at h3
theorem upd_comm (h : Nat -> Option Blk) {n m : Nat} (b c : Option Blk) (hne : n ≠ m) : upd (upd h n b) m c = upd (upd h m c) n b:=by
 funext x
 simp only [upd]
 by_cases h1 : x = m <;> by_cases h2 : x = n <;> simp_all
theorem updL_upd {n : Nat} {b : Option Blk} : ∀ (ms : List Nat) (cs : List (Option Blk)) (h : Nat -> Option Blk),n ∉ ms -> updL (upd h n b) ms cs = upd (updL h ms cs) n b
 | [],_,_,_=>rfl
 | m :: ms,[],_,_=>rfl
 | m :: ms,c :: cs,h,hn=>by
  simp only [List.mem_cons,not_or] at hn
  simp only [updL]
  rw [upd_comm h b c hn.1,updL_upd ms cs (upd h m c) hn.2]
theorem updL_comm : ∀ (ns : List Nat) (bs : List (Option Blk)) (ms : List Nat) (cs : List (Option Blk)) (h : Nat -> Option Blk),(∀ x ∈ ns,x ∉ ms) -> updL (updL h ns bs) ms cs = updL (updL h ms cs) ns bs
 | [],_,_,_,_,_=>rfl
 | n :: ns,[],_,_,_,_=>rfl
 | n :: ns,b :: bs,ms,cs,h,hd=>by
  simp only [updL]
  rw [updL_comm ns bs ms cs (upd h n b) fun x hx=>hd x (by simp [hx]),updL_upd ms cs h (hd n (by simp))]
theorem updL_other {m : Nat} : ∀ (ns : List Nat) (bs : List (Option Blk)) (h : Nat -> Option Blk),m ∉ ns -> updL h ns bs m = h m
 | [],_,_,_=>rfl
 | n :: ns,[],_,_=>rfl
 | n :: ns,b :: bs,h,hn=>by
  simp only [List.mem_cons,not_or] at hn
  simp only [updL]
  rw [updL_other ns bs _ hn.2]
  simp [upd,hn.1]
theorem applyH_other {h : Nat -> Option Blk} {base : Nat} {wr : List Nat} {r : Res} {m : Nat} (h1 : m ∉ wr) (h2 : m ∉ freshN base) : applyH h base wr r m = h m:=by
 unfold applyH
 rw [updL_other _ _ _ h2,updL_other _ _ _ h1]
theorem applyH_comm {h : Nat -> Option Blk} {b1 b2 : Nat} {w1 w2 : List Nat} {r1 r2 : Res} (hd : ∀ x,(x ∈ w1 \/ x ∈ freshN b1) -> x ∉ w2 /\ x ∉ freshN b2) :
  applyH (applyH h b1 w1 r1) b2 w2 r2 = applyH (applyH h b2 w2 r2) b1 w1 r1:=by
 unfold applyH
 rw [updL_comm (freshN b1) _ w2 _ _ fun x hx=>(hd x (.inr hx)).1,updL_comm w1 _ w2 _ _ fun x hx=>(hd x (.inl hx)).1,updL_comm (freshN b1) _ (freshN b2) _ _ fun x hx=>(hd x (.inr hx)).2,
  updL_comm w1 _ (freshN b2) _ _ fun x hx=>(hd x (.inl hx)).2]
theorem putS_comm {l : List SV} {d1 d2 : Option Nat} {x y : SV} (h : ∀ d,d1 = some d -> d2 ≠ some d) : putS (putS l d1 x) d2 y = putS (putS l d2 y) d1 x:=by
 cases d1 with
 | none=>rfl
 | some a=>
  cases d2 with
  | none=>rfl
  | some b=>
   have : a ≠ b:=fun e=>h a rfl (by rw [e])
   simp [putS,List.set_comm _ _ this]
theorem evS_put {l : List SV} {d : Option Nat} {x : SV} {o : Operand} (h : ∀ t,d = some t -> o ≠ .tmp t) : evS (putS l d x) o = evS l o:=by
 cases d with
 | none=>rfl
 | some t=>
  cases o with
  | tmp u=>
   have : t ≠ u:=fun e=>h t rfl (by rw [e])
   simp [evS,putS,List.getD,List.getElem?_set_ne this]
  | _=>rfl
theorem opReq_congr {P : Program} {Γ : Env} {base : Nat} {ev ev' : Operand -> SV} (op : Op) (h : ∀ x ∈ op.operands,ev x = ev' x) : opReq P Γ base ev op = opReq P Γ base ev' op:=by
 have lmap : ∀ l : List Operand,(∀ x ∈ l,ev x = ev' x) -> l.map ev = l.map ev':=fun l hl=>List.map_congr_left hl
 cases op <;> simp only [Op.operands] at h <;> simp only [opReq]
 case build t ps=>
  congr 2
  refine List.map_congr_left fun p hp=>?_
  rw [h p.2 (by simpa using ⟨p.1,by simpa using hp⟩)]
 case buildSlice t len ps=>
  congr 1
  refine List.map_congr_left fun p hp=>?_
  rw [h p.2 (by simpa using ⟨p.1,by simpa using hp⟩)]
 case slice t x lo hi mx=>
  have hx:=h x (by simp)
  have hl : lo.map ev = lo.map ev':=by cases lo with
   | none=>rfl
   | some y=>simp [h y (by simp)]
  have hh : hi.map ev = hi.map ev':=by cases hi with
   | none=>rfl
   | some y=>simp [h y (by simp)]
  have hm : mx.map ev = mx.map ev':=by cases mx with
   | none=>rfl
   | some y=>simp [h y (by simp)]
  rw [hx,hl,hh,hm]
 case call c=>
  have hargs : c.args.toList.map ev = c.args.toList.map ev':=lmap _ fun x hx=>h x (by simp [Call.operands];right;simpa using hx)
  unfold callReq
  cases hc : c.callee with
  | invoke r m=>rfl
  | value f=>
   have hf : ev f = ev' f:=h f (by simp [Call.operands,hc])
   simp only [hf,hargs]
  | builtin b=>
   have hm : ∀ x ∈ c.args.toList,ev x = ev' x:=fun x hx=>h x (by simp [Call.operands];right;simpa using hx)
   cases b <;> simp only []
   ·split
    ·rename_i x y t tx ha ht
     rw [hm x (by simp [ha]),hm y (by simp [ha])]
    ·rfl
   ·split
    ·rename_i x t ha ht
     rw [hm x (by simp [ha])]
    ·rfl
 all_goals (first | rfl | (simp only [List.mem_toArray,List.mem_cons,List.not_mem_nil,or_false,forall_eq_or_imp,forall_eq] at h;simp only [h];done) | (simp_all;done))
theorem opReqZ_congr {P : Program} {Γ : Env} {base : Nat} {ev ev' : Operand -> SV} (op : Op) (h : ∀ x ∈ op.operands,ev x = ev' x) : opReqZ P Γ base ev op = opReqZ P Γ base ev' op:=opReq_congr op h
theorem reqAt_put {P : Program} {Γ : Env} {ops : Array Oper} {i base : Nat} {l : List SV} {o : Oper} {d : Option Nat} {x : SV} (h : ∀ t,d = some t -> t ∉ o.looksAt ops) : reqAt P Γ ops i base (putS l d x) o = reqAt P Γ ops i base l o:=by
 unfold reqAt
 rw [opReqZ_congr o.op fun y hy=>evS_put fun t ht hyt=>h t ht (by
  subst hyt
  exact List.mem_append_left _ (List.mem_filterMap.2 ⟨.tmp t,by simpa using hy,rfl⟩))]
theorem wantedS_put {ops : Array Oper} {l : List SV} {o : Oper} {d : Option Nat} {x : SV} (h : ∀ t,d = some t -> t ∉ o.looksAt ops) : wantedS ops (putS l d x) o = wantedS ops l o:=by
 cases d with
 | none=>rfl
 | some t=>
  unfold wantedS
  cases hg : o.guard with
  | none=>rfl
  | some gw=>
   obtain ⟨j,want⟩:=gw
   simp only []
   cases hj : (ops[j]?).bind (·.dst) with
   | none=>rfl
   | some u=>
    have hne : t ≠ u:=fun e=>h t rfl (by subst e;simp [Oper.looksAt,hg,hj])
    simp [putS,List.getD,List.getElem?_set_ne hne]
end
end Zx
namespace Zx
noncomputable section
open Go
section
variable {P : Program} {Γ : Env} {ops : Array Oper} {tab : List Nat} {base0 : Nat}
theorem stepD_true {i : Nat} {s : St} {g : Log} {K : St -> Log -> Prop} {o : Oper} (ho : ops[i]? = some o) (hw : wantedS ops s.slots o = some true) : stepD P Γ ops tab base0 i s g K ↔
  (logOk tab i (reqAt P Γ ops i (base0 + 4 * i) s.slots o).rd (reqAt P Γ ops i (base0 + 4 * i) s.slots o).wr g = true /\ namesOk tab base0 i ((reqAt P Γ ops i (base0 + 4 * i) s.slots o).rd ++ (reqAt P Γ ops i (base0 + 4 * i) s.slots o).wr) = true) ∧
  (reqAt P Γ ops i (base0 + 4 * i) s.slots o).pre s.heap fun res=>K (s.apply o.dst (base0 + 4 * i) (reqAt P Γ ops i (base0 + 4 * i) s.slots o).wr res) ((i,(reqAt P Γ ops i (base0 + 4 * i) s.slots o).rd,(reqAt P Γ ops i (base0 + 4 * i) s.slots o).wr) :: g):=by
 simp only [stepD,ho,hw,St.applyK_eq,fNs_eq]
 by_cases hc : (logOk tab i (reqAt P Γ ops i (base0 + 4 * i) s.slots o).rd (reqAt P Γ ops i (base0 + 4 * i) s.slots o).wr g && namesOk tab base0 i ((reqAt P Γ ops i (base0 + 4 * i) s.slots o).rd ++ (reqAt P Γ ops i (base0 + 4 * i) s.slots o).wr)) = true
 ·rw [if_pos hc]
  rw [Bool.and_eq_true] at hc
  exact ⟨fun h=>⟨hc,h⟩,fun h=>h.2⟩
 ·rw [if_neg hc]
  rw [Bool.and_eq_true] at hc
  exact ⟨fun h=>h.elim,fun h=>hc h.1⟩
theorem stepD_false {i : Nat} {s : St} {g : Log} {K : St -> Log -> Prop} {o : Oper} (ho : ops[i]? = some o) (hw : wantedS ops s.slots o = some false) : stepD P Γ ops tab base0 i s g K ↔ K { s with slots:=putS s.slots o.dst (.t []) } g:=by
 simp only [stepD,ho,hw,fSp_eq]
theorem stepD_no {i : Nat} {s : St} {g : Log} {K : St -> Log -> Prop} {o : Oper} (ho : ops[i]? = some o) (hw : wantedS ops s.slots o = none) : stepD P Γ ops tab base0 i s g K ↔ False:=by
 simp only [stepD,ho,hw]
theorem stepD_none {i : Nat} {s : St} {g : Log} {K : St -> Log -> Prop} (ho : ops[i]? = none) : stepD P Γ ops tab base0 i s g K ↔ K s g:=by
 simp only [stepD,ho]
theorem logOk_sub {i : Nat} {rd wr : List Nat} {g g' : Log} (h : logOk tab i rd wr g = true) (hs : ∀ x ∈ g',x ∈ g) : logOk tab i rd wr g' = true:=by
 unfold logOk at *
 rw [List.all_eq_true] at *
 exact fun x hx=>h x (hs x hx)
theorem stepD_log {i : Nat} {s : St} {g g' : Log} {K K' : St -> Log -> Prop} (h : stepD P Γ ops tab base0 i s g K) (hs : ∀ x ∈ g',x ∈ g) (hk : ∀ s1 g1 g1',K s1 g1 -> (∀ x ∈ g1',x ∈ g1) -> K' s1 g1') : stepD P Γ ops tab base0 i s g' K':=by
 cases ho : ops[i]? with
 | none=>rw [stepD_none ho] at h ⊢;exact hk _ _ _ h hs
 | some o=>
  cases hw : wantedS ops s.slots o with
  | none=>rw [stepD_no ho hw] at h;exact h.elim
  | some b=>
   cases b
   ·rw [stepD_false ho hw] at h ⊢;exact hk _ _ _ h hs
   ·rw [stepD_true ho hw] at h ⊢
    obtain ⟨⟨h1,h2⟩,h3⟩:=h
    refine ⟨⟨logOk_sub h1 hs,h2⟩,Out.wp_mono (fun r hr=>hk _ _ _ hr fun x hx=>?_) h3⟩
    rcases List.mem_cons.1 hx with rfl | hx
    ·exact List.mem_cons_self ..
    ·exact List.mem_cons_of_mem _ (hs x hx)
theorem runD_log : ∀ (L : List Nat) {s : St} {g g' : Log} {K : St -> Prop},runD P Γ ops tab base0 L s g K -> (∀ x ∈ g',x ∈ g) -> runD P Γ ops tab base0 L s g' K
 | [],_,_,_,_,h,_=>h
 | i :: L,_,_,_,_,h,hs=>stepD_log h hs fun _ _ _ hk hs'=>runD_log L hk hs'
theorem inter_false {a b : List Nat} (h : inter a b = false) {x : Nat} (hx : x ∈ a) : x ∉ b:=by
 unfold inter at h
 rw [List.any_eq_false] at h
 have:=h x hx
 simpa using this
theorem clash_spec {rd wr rd' wr' : List Nat} (h : clash rd wr rd' wr' = false) : (∀ x ∈ wr,x ∉ rd') /\ (∀ x ∈ wr,x ∉ wr') /\ (∀ x ∈ rd,x ∉ wr'):=by
 unfold clash at h
 simp only [Bool.or_eq_false_iff] at h
 exact ⟨fun x hx=>inter_false h.1.1 hx,fun x hx=>inter_false h.1.2 hx,fun x hx=>inter_false h.2 hx⟩
theorem clash_of {rd wr rd' wr' : List Nat} (h1 : ∀ x ∈ wr,x ∉ rd') (h2 : ∀ x ∈ wr,x ∉ wr') (h3 : ∀ x ∈ rd,x ∉ wr') : clash rd wr rd' wr' = false:=by
 have none : ∀ {a b : List Nat},(∀ x ∈ a,x ∉ b) -> inter a b = false:=fun {a b} h=>by
  unfold inter
  rw [List.any_eq_false]
  intro x hx
  simpa using h x hx
 unfold clash
 rw [none h1,none h2,none h3]
 rfl
theorem namesOk_fresh {i q : Nat} {ns : List Nat} (h : namesOk tab base0 i ns = true) (hq : bit tab i q = false \/ i <= q) {x : Nat} (hx : x ∈ ns) : x ∉ freshN (base0 + 4 * q):=fun hf=>by
 unfold namesOk at h
 rw [List.all_eq_true] at h
 have:=h x hx
 rw [mem_freshN] at hf
 have e : (x - base0) / 4 = q:=by omega
 rw [e] at this
 simp only [Bool.or_eq_true,decide_eq_true_eq,Bool.and_eq_true] at this
 rcases this with h1 | ⟨h1,h2⟩
 ·omega
 ·rcases hq with hq | hq
  ·rw [hq] at h1;cases h1
  ·omega
theorem swap {q i : Nat} {s : St} {g : Log} {K : St -> Log -> Prop} (hlt : q < i) (hb : bit tab i q = false) (hap : ∀ oq oi,ops[q]? = some oq -> ops[i]? = some oi -> Oper.apart ops oq oi = true)
  (hK : ∀ s1 g1 g1',K s1 g1 -> (∀ x ∈ g1',x ∈ g1) -> K s1 g1') (h : stepD P Γ ops tab base0 q s g fun s1 g1=>stepD P Γ ops tab base0 i s1 g1 K) :
  stepD P Γ ops tab base0 i s g fun s1 g1=>stepD P Γ ops tab base0 q s1 g1 K:=by
 cases hoq : ops[q]? with
 | none=>
  rw [stepD_none hoq] at h
  exact stepD_log h (fun x hx=>hx) fun s1 g1 g1' h1 hs=>(stepD_none hoq).2 (hK _ _ _ h1 hs)
 | some oq=>
 cases hoi : ops[i]? with
 | none=>
  rw [stepD_none hoi]
  exact stepD_log h (fun x hx=>hx) fun s1 g1 g1' h1 hs=>hK _ _ _ ((stepD_none hoi).1 h1) hs
 | some oi=>
 obtain ⟨a1,a2,a3⟩:=Oper.apart_spec (hap oq oi hoq hoi)
 have a2' : ∀ d,oi.dst = some d -> oq.dst ≠ some d:=fun d h1 h2=>a2 d h2 h1
 cases hwq : wantedS ops s.slots oq with
 | none=>rw [stepD_no hoq hwq] at h;exact h.elim
 | some bq=>
 cases bq
 ·rw [stepD_false hoq hwq] at h
  have hwi : wantedS ops (putS s.slots oq.dst (.t [])) oi = wantedS ops s.slots oi:=wantedS_put a1
  cases hw : wantedS ops s.slots oi with
  | none=>rw [stepD_no hoi (by rw [← hw];exact hwi)] at h;exact h.elim
  | some bi=>
  cases bi
  ·rw [stepD_false hoi (by rw [← hw];exact hwi)] at h
   rw [stepD_false hoi hw,stepD_false hoq (by rw [← hwq];exact wantedS_put a3)]
   dsimp only at h ⊢
   rw [putS_comm a2']
   exact h
  ·rw [stepD_true hoi (by rw [← hw];exact hwi)] at h
   rw [stepD_true hoi hw]
   dsimp only at h
   rw [reqAt_put a1] at h
   obtain ⟨h1,h2⟩:=h
   refine ⟨h1,Out.wp_mono (fun r hr=>?_) h2⟩
   rw [stepD_false hoq (by rw [← hwq];exact wantedS_put a3)]
   unfold St.apply at hr ⊢
   dsimp only at hr ⊢
   rw [putS_comm a2']
   exact hr
 ·rw [stepD_true hoq hwq] at h
  obtain ⟨⟨hq1,hq2⟩,h⟩:=h
  have hwi : ∀ r : Res,wantedS ops (s.apply oq.dst (base0 + 4 * q) (reqAt P Γ ops q (base0 + 4 * q) s.slots oq).wr r).slots oi = wantedS ops s.slots oi:=fun r=>wantedS_put a1
  have hri : ∀ r : Res,reqAt P Γ ops i (base0 + 4 * i) (s.apply oq.dst (base0 + 4 * q) (reqAt P Γ ops q (base0 + 4 * q) s.slots oq).wr r).slots oi = reqAt P Γ ops i (base0 + 4 * i) s.slots oi:=fun r=>reqAt_put a1
  have hrq : ∀ r : Res,reqAt P Γ ops q (base0 + 4 * q) (s.apply oi.dst (base0 + 4 * i) (reqAt P Γ ops i (base0 + 4 * i) s.slots oi).wr r).slots oq = reqAt P Γ ops q (base0 + 4 * q) s.slots oq:=fun r=>reqAt_put a3
  cases hw : wantedS ops s.slots oi with
  | none=>
   exact (Out.wp_const (o:=(reqAt P Γ ops q (base0 + 4 * q) s.slots oq).act _) (X:=False) (Out.wp_mono (fun r hr=>by
    rw [stepD_no hoi (by rw [hwi r,hw])] at hr;exact hr) h)).elim
  | some bi=>
  cases bi
  ·rw [stepD_false hoi hw,stepD_true hoq (by rw [← hwq];exact wantedS_put a3)]
   dsimp only
   rw [reqAt_put a3]
   refine ⟨⟨hq1,hq2⟩,Out.wp_mono (fun r hr=>?_) h⟩
   rw [stepD_false hoi (by rw [hwi r,hw])] at hr
   unfold St.apply at hr ⊢
   dsimp only at hr ⊢
   rw [putS_comm a2']
   exact hr
  ·have hboth : (reqAt P Γ ops q (base0 + 4 * q) s.slots oq).pre s.heap fun r=>
     (logOk tab i (reqAt P Γ ops i (base0 + 4 * i) s.slots oi).rd (reqAt P Γ ops i (base0 + 4 * i) s.slots oi).wr ((q,(reqAt P Γ ops q (base0 + 4 * q) s.slots oq).rd,(reqAt P Γ ops q (base0 + 4 * q) s.slots oq).wr) :: g) = true ∧
      namesOk tab base0 i ((reqAt P Γ ops i (base0 + 4 * i) s.slots oi).rd ++ (reqAt P Γ ops i (base0 + 4 * i) s.slots oi).wr) = true) ∧
     (reqAt P Γ ops i (base0 + 4 * i) s.slots oi).pre (s.apply oq.dst (base0 + 4 * q) (reqAt P Γ ops q (base0 + 4 * q) s.slots oq).wr r).heap fun ri=>
      K ((s.apply oq.dst (base0 + 4 * q) (reqAt P Γ ops q (base0 + 4 * q) s.slots oq).wr r).apply oi.dst (base0 + 4 * i) (reqAt P Γ ops i (base0 + 4 * i) s.slots oi).wr ri)
       ((i,(reqAt P Γ ops i (base0 + 4 * i) s.slots oi).rd,(reqAt P Γ ops i (base0 + 4 * i) s.slots oi).wr) :: (q,(reqAt P Γ ops q (base0 + 4 * q) s.slots oq).rd,(reqAt P Γ ops q (base0 + 4 * q) s.slots oq).wr) :: g):=
    Out.wp_mono (fun r hr=>by
     rw [stepD_true hoi (by rw [hwi r,hw]),hri r] at hr
     exact hr) h
   generalize hRq : reqAt P Γ ops q (base0 + 4 * q) s.slots oq = Rq at *
   generalize hRi : reqAt P Γ ops i (base0 + 4 * i) s.slots oi = Ri at *
   obtain ⟨hi1,hi2⟩:=Out.wp_const (Out.wp_mono (fun r hr=>hr.1) hboth)
   have hcl : clash Ri.rd Ri.wr Rq.rd Rq.wr = false:=by
    unfold logOk at hi1
    rw [List.all_cons,Bool.and_eq_true] at hi1
    have:=hi1.1
    rw [hb] at this
    simpa using this
   obtain ⟨c1,c2,c3⟩:=clash_spec hcl
   have hIq : ∀ x ∈ Ri.rd ++ Ri.wr,x ∉ Rq.wr /\ x ∉ freshN (base0 + 4 * q):=fun x hx=>by
    refine ⟨?_,namesOk_fresh hi2 (.inl hb) hx⟩
    rcases List.mem_append.1 hx with hx | hx
    ·exact c3 x hx
    ·exact c2 x hx
   have hQi : ∀ x ∈ Rq.rd ++ Rq.wr,x ∉ Ri.wr /\ x ∉ freshN (base0 + 4 * i):=fun x hx=>by
    refine ⟨?_,namesOk_fresh hq2 (.inr (Nat.le_of_lt hlt)) hx⟩
    rcases List.mem_append.1 hx with hx | hx
    ·exact fun hw=>c1 x hw hx
    ·exact fun hw=>c2 x hw hx
   have hmapI : ∀ r : Res,(Ri.rd ++ Ri.wr).map (s.apply oq.dst (base0 + 4 * q) Rq.wr r).heap = (Ri.rd ++ Ri.wr).map s.heap:=fun r=>
    List.map_congr_left fun x hx=>applyH_other (hIq x hx).1 (hIq x hx).2
   have hmapQ : ∀ r : Res,(Rq.rd ++ Rq.wr).map (s.apply oi.dst (base0 + 4 * i) Ri.wr r).heap = (Rq.rd ++ Rq.wr).map s.heap:=fun r=>
    List.map_congr_left fun x hx=>applyH_other (hQi x hx).1 (hQi x hx).2
   have hdis : ∀ x,(x ∈ Rq.wr \/ x ∈ freshN (base0 + 4 * q)) -> x ∉ Ri.wr /\ x ∉ freshN (base0 + 4 * i):=fun x hx=>by
    rcases hx with hx | hx
    ·exact hQi x (List.mem_append_right _ hx)
    ·refine ⟨fun hw=>(hIq x (List.mem_append_right _ hw)).2 hx,fun hf=>?_⟩
     rw [mem_freshN] at hx hf
     omega
   have hst : ∀ rq ri : Res,(s.apply oi.dst (base0 + 4 * i) Ri.wr ri).apply oq.dst (base0 + 4 * q) Rq.wr rq = (s.apply oq.dst (base0 + 4 * q) Rq.wr rq).apply oi.dst (base0 + 4 * i) Ri.wr ri:=fun rq ri=>by
    unfold St.apply
    dsimp only
    rw [putS_comm a2',applyH_comm hdis]
   have hsw : (Ri.act ((Ri.rd ++ Ri.wr).map s.heap)).wp fun ri=>(Rq.act ((Rq.rd ++ Rq.wr).map s.heap)).wp fun rq=>
     K ((s.apply oq.dst (base0 + 4 * q) Rq.wr rq).apply oi.dst (base0 + 4 * i) Ri.wr ri) ((i,Ri.rd,Ri.wr) :: (q,Rq.rd,Rq.wr) :: g):=by
    refine Out.wp_swap (Out.wp_mono (fun r hr=>?_) hboth)
    have:=hr.2
    unfold Req.pre at this
    rw [hmapI r] at this
    exact this
   have hi0 : logOk tab i Ri.rd Ri.wr g = true:=logOk_sub hi1 fun x hx=>List.mem_cons_of_mem _ hx
   have hq0 : logOk tab q Rq.rd Rq.wr ((i,Ri.rd,Ri.wr) :: g) = true:=by
    unfold logOk at hq1 ⊢
    rw [List.all_cons,hq1,Bool.and_true]
    have : clash Rq.rd Rq.wr Ri.rd Ri.wr = false:=clash_of (fun x hx hr=>(hIq x (List.mem_append_left _ hr)).1 hx) (fun x hx=>(hQi x (List.mem_append_right _ hx)).1) (fun x hx=>(hQi x (List.mem_append_left _ hx)).1)
    simp [this]
   rw [stepD_true hoi hw,hRi]
   refine ⟨⟨hi0,hi2⟩,Out.wp_mono (fun ri hri'=>?_) hsw⟩
   rw [stepD_true hoq (by rw [← hwq];exact wantedS_put a3),hrq ri]
   refine ⟨⟨hq0,hq2⟩, ?_⟩
   unfold Req.pre
   rw [hmapQ ri]
   refine Out.wp_mono (fun rq hr=>?_) hri'
   rw [hst rq ri]
   refine hK _ _ _ hr fun x hx=>?_
   simp only [List.mem_cons] at hx ⊢
   rcases hx with h | h | h
   ·exact .inr (.inl h)
   ·exact .inl h
   ·exact .inr (.inr h)
theorem pull {i : Nat} {K : St -> Prop} : ∀ (L1 L2 : List Nat) {s : St} {g : Log},(∀ q ∈ L1,q < i /\ bit tab i q = false /\ ∀ oq oi,ops[q]? = some oq -> ops[i]? = some oi -> Oper.apart ops oq oi = true) →
  runD P Γ ops tab base0 (L1 ++ i :: L2) s g K -> stepD P Γ ops tab base0 i s g fun s1 g1=>runD P Γ ops tab base0 (L1 ++ L2) s1 g1 K
 | [],L2,s,g,_,h=>h
 | q :: L1,L2,s,g,hq,h=>by
  obtain ⟨h1,h2,h3⟩:=hq q (by simp)
  have h' : stepD P Γ ops tab base0 q s g fun s1 g1=>stepD P Γ ops tab base0 i s1 g1 fun s2 g2=>runD P Γ ops tab base0 (L1 ++ L2) s2 g2 K:=
   stepD_log h (fun x hx=>hx) fun s1 g1 g1' hk hs=>pull L1 L2 (fun q hq'=>hq q (by simp [hq'])) (runD_log _ hk hs)
  exact swap h1 h2 h3 (fun s1 g1 g1' hk hs=>runD_log _ hk hs) h'
end
theorem apartOk_spec {ops : Array Oper} {tab : List Nat} (h : apartOk ops tab = true) {q i : Nat} (hq : q < i) (hb : bit tab i q = false) (oq oi : Oper) (h1 : ops[q]? = some oq) (h2 : ops[i]? = some oi) : Oper.apart ops oq oi = true:=by
 unfold apartOk at h
 rw [List.all_eq_true] at h
 have h3:=h i (by simpa using (Array.getElem?_eq_some_iff.1 h2).1)
 rw [List.all_eq_true] at h3
 have h4:=h3 q (by simpa using hq)
 rw [hb,h1,h2] at h4
 simpa using h4
theorem runD_sound {P : Program} {Γ : Env} (hΓ : EnvOk P Γ) {ops : Array Oper} {base0 : Nat} {w0 : World} {I : Nat -> Prop} {K : St -> Prop} {Q : Exit -> Act -> World -> Prop} (hed : edgesOk ops = true) (hap : apartOk ops (ancTab ops) = true)
  (hQ : ∀ a w,(∃ μ s,Models w0 I μ s a w /\ Dom μ (base0 + 4 * ops.size) /\ K s) -> Q .normal a w) :
  ∀ (fuel : Nat) (L : List Nat) (listed : Array Bool) (μ : Mu) (s : St) (g : Log) (a : Act) (w : World),L.length = fuel -> L.Pairwise (· < ·) -> (∀ j,j ∈ L ↔ j < ops.size /\ listed.getD j true = false) →
   (∀ i q,listed.getD i false = true -> bit (ancTab ops) i q = true -> listed.getD q false = true) -> listed.size = ops.size -> Models w0 I μ s a w →
   (∀ n l,μ n = some l -> n < base0 \/ ∃ j,listed.getD j false = true /\ n ∈ freshN (base0 + 4 * j)) -> runD P Γ ops (ancTab ops) base0 L s g K -> wpAny P .any ops Q fuel listed a w:=by
 intro fuel
 induction fuel with
 | zero=>
  intro L listed μ s g a w hl _ hL _ hsz hm hd h
  have hnil : L = []:=List.eq_nil_of_length_eq_zero hl
  subst hnil
  have hr : Region.ready .any ops listed = []:=by
   cases hx : Region.ready .any ops listed with
   | nil=>rfl
   | cons j js=>
    have hj : j ∈ Region.ready .any ops listed:=by rw [hx];simp
    obtain ⟨h0,o,ho,_⟩:=mem_ready.1 hj
    exact absurd ((hL j).2 ⟨(Array.getElem?_eq_some_iff.1 ho).1,h0⟩) (by simp)
  refine ⟨hr,hQ a w ⟨μ,s,hm,fun n l hl=>?_,h⟩⟩
  rcases hd n l hl with h1 | ⟨j,h1,h2⟩
  ·omega
  ·rw [mem_freshN] at h2
   have hj : j < ops.size:=by
    rw [← hsz]
    rcases Nat.lt_or_ge j listed.size with h | h
    ·exact h
    ·simp [Array.getElem?_eq_none h] at h1
   omega
 | succ fuel ih=>
  intro L listed μ s g a w hl hp hL hcl hsz hm hd h
  refine ⟨fun hr=>?_,fun i hi=>?_⟩
  ·
   cases L with
   | nil=>simp at hl
   | cons i L=>
    exfalso
    have hin:=(hL i).1 (by simp)
    obtain ⟨o,ho⟩ : ∃ o,ops[i]? = some o:=⟨_,Array.getElem?_eq_getElem hin.1⟩
    have hr' : i ∈ Region.ready .any ops listed:=by
     refine mem_ready.2 ⟨hin.2,o,ho,fun e he hb=>?_⟩
     have hlt : e.on < i:=by
      unfold edgesOk at hed
      rw [List.all_eq_true] at hed
      have h1:=hed i (by simpa using hin.1)
      rw [ho] at h1
      simp only [List.all_eq_true,decide_eq_true_eq] at h1
      exact h1 e.on (by
       unfold depsOf
       rw [List.mem_filterMap]
       exact ⟨e,by simpa using he,by rw [if_pos hb]⟩)
     have hne : e.on ∉ i :: L:=fun hc=>by
      rcases List.mem_cons.1 hc with hc | hc
      ·omega
      ·have:=(List.pairwise_cons.1 hp).1 _ hc;omega
     have h2:=fun h=>hne ((hL e.on).2 h)
     have hel : e.on < listed.size:=by rw [hsz];omega
     cases hx : listed.getD e.on false
     ·exfalso
      refine h2 ⟨by omega, ?_⟩
      simp [hel] at hx ⊢
      exact hx
     ·rfl
    rw [hr] at hr'
    cases hr'
  ·obtain ⟨h0,o,ho,hall⟩:=mem_ready.1 hi
   have hil : i < ops.size:=(Array.getElem?_eq_some_iff.1 ho).1
   have hiL : i ∈ L:=(hL i).2 ⟨hil,h0⟩
   obtain ⟨L1,L2,rfl⟩:=List.append_of_mem hiL
   have hanc : ∀ q,bit (ancTab ops) i q = true -> listed.getD q false = true:=fun q hq=>by
    obtain ⟨e,he,h2⟩:=anc_step ho hq
    have hel : listed.getD e false = true:=by
     unfold depsOf at he
     rw [List.mem_filterMap] at he
     obtain ⟨ed,hed,h3⟩:=he
     split at h3
     ·rename_i hb
      cases h3
      exact hall ed (by simpa using hed) hb
     ·cases h3
    rcases h2 with rfl | h2
    ·exact hel
    ·exact hcl e q hel h2
   have hlisted : ∀ {q : Nat},listed.getD q false = true -> listed.getD q true = false -> False:=fun {q} h1 h2=>by
    rcases Nat.lt_or_ge q listed.size with h' | h'
    ·simp [h'] at h1 h2
     rw [h1] at h2;cases h2
    ·simp [Array.getElem?_eq_none h'] at h1
   have hq : ∀ q ∈ L1,q < i /\ bit (ancTab ops) i q = false /\ ∀ oq oi,ops[q]? = some oq -> ops[i]? = some oi -> Oper.apart ops oq oi = true:=fun q hq=>by
    have hlt : q < i:=(List.pairwise_append.1 hp).2.2 q hq i (by simp)
    have hb : bit (ancTab ops) i q = false:=by
     cases hx : bit (ancTab ops) i q
     ·rfl
     ·exact (hlisted (hanc q hx) ((hL q).1 (by simp [hq])).2).elim
    exact ⟨hlt,hb,fun oq oi=>apartOk_spec hap hlt hb oq oi⟩
   have hpull:=pull L1 L2 hq h
   have hf : ∀ n ∈ freshN (base0 + 4 * i),μ n = none:=fun n hn=>by
    cases hx : μ n with
    | none=>rfl
    | some l=>
     rw [mem_freshN] at hn
     rcases hd n l hx with h1 | ⟨j,h1,h2⟩
     ·omega
     ·rw [mem_freshN] at h2
      have : j = i:=by omega
      subst this
      exact (hlisted h1 h0).elim
   have hset : ∀ {q : Nat},listed.getD q false = true -> (listed.setIfInBounds i true).getD q false = true:=fun {q} h=>getD_set_true h
   have hsi : (listed.setIfInBounds i true).getD i false = true:=by
    simp [hsz,hil]
   have hstep : stepS P Γ ops i (base0 + 4 * i) s fun s1=>∃ g1,runD P Γ ops (ancTab ops) base0 (L1 ++ L2) s1 g1 K:=by
    unfold stepS
    rw [ho]
    simp only [St.applyK_eq,fSp_eq]
    cases hw : wantedS ops s.slots o with
    | none=>rw [stepD_no ho hw] at hpull;exact hpull.elim
    | some b=>
     cases b
     ·rw [stepD_false ho hw] at hpull;exact ⟨_,hpull⟩
     ·rw [stepD_true ho hw] at hpull;exact Out.wp_mono (fun r hr=>⟨_,hr⟩) hpull.2
   refine wpOp_mono (fun a' w' hh=>?_) (step_sound hΓ hm hf hstep)
   obtain ⟨μ',s',hm',hd',g1,hr⟩:=hh
   refine ih (L1 ++ L2) (listed.setIfInBounds i true) μ' s' g1 a' w' (by simp at hl ⊢;omega) ?_ ?_ ?_ (by simpa using hsz) hm' ?_ hr
   ·rw [List.pairwise_append] at hp ⊢
    exact ⟨hp.1,(List.pairwise_cons.1 hp.2.1).2,fun x hx y hy=>hp.2.2 x hx y (by simp [hy])⟩
   ·intro j
    have hni : i ∉ L1 ++ L2:=by
     rw [List.pairwise_append] at hp
     intro hc
     rcases List.mem_append.1 hc with hc | hc
     ·have:=hp.2.2 i hc i (by simp);omega
     ·have:=(List.pairwise_cons.1 hp.2.1).1 i hc;omega
    have hmem : j ∈ L1 ++ L2 ↔ j ∈ L1 ++ i :: L2 /\ j ≠ i:=by
     simp only [List.mem_append,List.mem_cons] at hni ⊢
     constructor
     ·intro hj
      refine ⟨?_,fun e=>by subst e;exact hni hj⟩
      rcases hj with hj | hj
      ·exact .inl hj
      ·exact .inr (.inr hj)
     ·rintro ⟨hj | hj | hj,hne⟩
      ·exact .inl hj
      ·exact absurd hj hne
      ·exact .inr hj
    rw [hmem,hL j]
    constructor
    ·rintro ⟨⟨h1,h2⟩,h3⟩
     exact ⟨h1,by rw [getD_set_ne true (Ne.symm h3)];exact h2⟩
    ·rintro ⟨h1,h2⟩
     by_cases hji : j = i
     ·subst hji
      simp [hsz,hil] at h2
     ·rw [getD_set_ne true (Ne.symm hji)] at h2
      exact ⟨⟨h1,h2⟩,hji⟩
   ·intro x q hx hb
    by_cases hxi : x = i
    ·subst hxi
     exact hset (hanc q hb)
    ·rw [getD_set_ne false (Ne.symm hxi)] at hx
     exact hset (hcl x q hx hb)
   ·intro n l hl'
    rcases hd' n l hl' with h1 | h1
    ·rcases hd n l h1 with h2 | ⟨j,h2,h3⟩
     ·exact .inl h2
     ·exact .inr ⟨j,hset h2,h3⟩
    ·exact .inr ⟨i,hsi,h1⟩
theorem regionD_sound {P : Program} {Γ : Env} (hΓ : EnvOk P Γ) (hmix : P.follows .mixedOrders = true) {ops : Array Oper} {id : Nat} {w0 : World} {I : Nat -> Prop} {μ : Mu} {s : St} {a : Act} {w : World} {K : St -> Prop} {Q : Exit -> Act -> World -> Prop}
  (hm : Models w0 I μ s a w) (hd : Dom μ s.next) (hQ : ∀ a w,At w0 I K a w -> Q .normal a w) (h : regionD P Γ ops s K) : (Code.region id ops true).wp P Q a w:=by
 unfold regionD at h
 simp only [fN_eq,fNs_eq] at h
 split at h
 ·rename_i hc
  rw [Bool.and_eq_true] at hc
  refine wp_region_any hmix ?_
  have hm' : Models w0 I μ s a { w with drawn:=w.drawn + 1 }:=
   ⟨hm.size,hm.slots,hm.defers,⟨fun n b hb=>by
    obtain ⟨l,h1,h2⟩:=hm.hm.ok n b hb
    exact ⟨l,h1,Blk.ok_world h2 (Nat.le_refl _) fun _ _=>rfl⟩,hm.hm.apart,hm.hm.zone,hm.hm.zap⟩,hm.mine,hm.zmine,⟨hm.fr.os,hm.fr.tape,hm.fr.output,hm.fr.size,hm.fr.block⟩⟩
  refine runD_sound hΓ (base0:=s.next) (K:=fun s'=>K { s' with next:=s.next + 4 * ops.size }) hc.1 hc.2 (fun a' w' ⟨μ',s',hm',hd',hk⟩=>hQ a' w' ⟨μ',_,hm'.next _,hd',hk⟩) ops.size (List.range ops.size) _ μ s [] a _ (by simp)
   List.pairwise_lt_range ?_ ?_ (by simp) hm' (fun n l hl=>.inl (hd n l hl)) h
  ·intro j
   simp only [List.mem_range]
   constructor
   ·intro hj
    exact ⟨hj,by simp [hj]⟩
   ·exact fun hj=>hj.1
  ·intro i q hi
   exfalso
   rcases Nat.lt_or_ge i ops.size with h | h
   ·simp [h] at hi
   ·simp [Array.getElem?_eq_none,h] at hi
 ·exact h.elim
end
end Zx
