/- A part of the proof: lemmas. No condition of its own. -/
import Derived.Deep.LoopGhost
import Derived.Scope
import Derived.Test.YtglcgbhhkjebbaaGreatK14
set_option linter.unusedVariables false
set_option linter.unusedSimpArgs false
namespace Vx
noncomputable section
open Go Zx
abbrev EnvT := FuncId -> List TC
def EnvTOk (P : Program) (Γ : EnvT) : Prop := ∀ f tc, tc ∈ Γ f -> TCok P f tc
def capsV : List (Nat × Lin × List CS) -> List DV
 | [] => []
 | p :: ps => d1 (.zp p.1 p.2.1 p.2.2) :: capsV ps
def TC.nilW (tc : TC) : Bool := match tc.W, tc.Y with
 | [], none => true
 | _, _ => false
def preG (tc : TC) (σ : Sb) (args : List DV) (κ : Kn) (d : Ds) : Bool :=
 Nat.beq args.length tc.k && (σ.inB tc.pre.n κ.n && (σ.keysB tc.pre.n && tc.pre.chk σ κ d (fun i => args[i]?)))
def preT (tc : TC) (args : List DV) (κ : Kn) (d : Ds) : Bool :=
 (tc.pre.mat (fun i => args[i]?) κ d {}).fix tc.pre.n 0 fun σ => preG tc σ args κ d
def quickT (tc : TC) (args : List DV) (κ : Kn) (d : Ds) : Bool :=
 (gN (nullD d) fun nl => matP nl (fun i => args[i]?) tc.pre.P {} fun σ => σ).fix tc.pre.n 0 fun σ => allB (chkP σ κ (fun i => args[i]?)) tc.pre.P
def callAny (W : Wt) (kp : Bool) (args : List DV) (κ : Kn) (d : Ds) (kk : Kn -> Ds -> DV -> Bool) : List TC -> Bool
 | [] => false
 | tc :: l => match l with
  | [] => (!kp || tc.nilW) && callT tc W args κ d kk
  | _ :: _ => match quickT tc args κ d with
   | true => match preT tc args κ d with
    | true => (!kp || tc.nilW) && callT tc W args κ d kk
    | false => callAny W kp args κ d kk l
   | false => callAny W kp args κ d kk l
def goCall (Γ : EnvT) (W : Wt) (kp : Bool) (g : FuncId) (args : List DV) (κ : Kn) (d : Ds) (kk : Kn -> Ds -> DV -> Bool) : Bool := callAny W kp args κ d kk (Γ g)
theorem callAny_ok {W : Wt} {kp : Bool} {args : List DV} {κ : Kn} {d : Ds} {kk : Kn -> Ds -> DV -> Bool} : ∀ {l : List TC}, callAny W kp args κ d kk l = true -> ∃ tc ∈ l, ((!kp || tc.nilW) && callT tc W args κ d kk) = true
 | [], h => by simp [callAny] at h
 | tc :: l, h => by
  unfold callAny at h
  split at h
  ·exact ⟨tc, by simp, h⟩
  ·split at h
   ·split at h
    ·exact ⟨tc, by simp, h⟩
    ·obtain ⟨t, h1, h2⟩ := callAny_ok h
     exact ⟨t, List.mem_cons_of_mem _ h1, h2⟩
   ·obtain ⟨t, h1, h2⟩ := callAny_ok h
    exact ⟨t, List.mem_cons_of_mem _ h1, h2⟩
def othT (P : Program) (Γ : EnvT) (W : Wt) (kp : Bool) (o : Op) (ev : Operand -> DV) (κ : Kn) (d : Ds) (kk : Kn -> Ds -> DV -> Bool) : Bool :=
 match o with
 | .load t x => loadT P t (ev x) κ d kk
 | .store t x y => !kp && storeT P W t (ev x) (ev y) κ d kk
 | .alloc t => allocT P t κ d kk
 | .box t x => boxT t (ev x).cells? κ d kk
 | .buildSlice t n ps => bsT P t n (ps.toList.map fun p => (p.1, ev p.2)) κ d kk
 | .makeSlice t l c => msT P t (ev l) (ev c) κ d kk
 | .convert s t x => strT P s t (ev x) κ fun κ' y => kk κ' d y
 | .call c => match c.callee with
  | .builtin .append => match c.args.toList, c.argTypes.toList with
   | [x, y], [t, tx] => !kp && appT3 P W t tx (ev x) (ev y) κ d kk
   | _, _ => false
  | .builtin .clear => match c.args.toList, c.argTypes.toList with
   | [x], [t] => !kp && clearT P W t (ev x) κ d kk
   | _, _ => false
  | .value f => match ev f with
   | .s (.c (.fn g)) => goCall Γ W kp g (c.args.toList.map ev) κ d kk
   | .s (.c (.clo g cs)) => goCall Γ W kp g (c.args.toList.map ev ++ capsV cs) κ d kk
   | _ => false
  | _ => false
 | _ => false
def Step (P : Program) (E : Ent) (sg : Sig) (κ : Kn) (ρ : Vl) (kk : Kn -> Ds -> DV -> Bool) (kp : Bool) (o : Oper) (a : Act) (w : World) (a' : Act) (w' : World) : Prop :=
 ∃ z, a' = a.put o.dst z /\ (kp = true -> Keep w w') /\ GotM E sg κ ρ kk z w'
section
variable {P : Program} {E : Ent} {sg : Sig} {κ : Kn} {ρ : Vl} {kk : Kn -> Ds -> DV -> Bool} {kp : Bool} {o : Oper} {a : Act} {w : World} {Q : Exit -> Act -> World -> Prop}
theorem step_val {z : Value} {w' : World} (hr : (execOp a.eval o).run P w = .ok (.value z) w') (hk : kp = true -> Keep w w') (hg : GotM E sg κ ρ kk z w') : o.wp P a w (Step P E sg κ ρ kk kp o a w) Q := by
 unfold Oper.wp
 rw [hr, Oper.upon_value]
 exact ⟨z, rfl, hk, hg⟩
theorem step_skip {w' : World} (hr : (execOp a.eval o).run P w = .ok .skip w') (hk : kp = true -> Keep w w') (hg : GotM E sg κ ρ kk undef w') : o.wp P a w (Step P E sg κ ρ kk kp o a w) Q := by
 unfold Oper.wp
 rw [hr, Oper.upon_skip]
 exact ⟨undef, rfl, hk, hg⟩
theorem exV1 {x : Sem Value} {y : Sem Next} {z : Value} {w w' : World} (he : y = (do pure (.value (← x)))) (h : x.run P w = .ok z w') : y.run P w = .ok (.value z) w' := by
 rw [he, Sem.run_bind, h]
 simp
end
theorem getD_map {ev : Operand -> DV} {a : Act} {sg : Sig} {ρ : Vl} {n : Nat} (h : EvOk sg ρ n ev a) (l : List Operand) : AllV2 sg ρ n (l.map ev) (l.map a.eval) := by
 refine ⟨by simp, fun i x hx => ?_⟩
 rw [List.getElem?_map] at hx ⊢
 cases e : l[i]? with
 | none => rw [e] at hx; cases hx
 | some y =>
  rw [e] at hx
  simp only [Option.map_some, Option.some.injEq] at hx
  subst hx
  exact ⟨(h y).1, _, rfl, (h y).2⟩
theorem AllV2.append {sg : Sig} {ρ : Vl} {n : Nat} {xs ys : List DV} {vs us : List Value} (h : AllV2 sg ρ n xs vs) (k : AllV2 sg ρ n ys us) : AllV2 sg ρ n (xs ++ ys) (vs ++ us) := by
 refine ⟨by simp [h.1, k.1], fun i x hx => ?_⟩
 rcases Nat.lt_or_ge i xs.length with hlt | hge
 ·rw [List.getElem?_append_left hlt] at hx
  rw [List.getElem?_append_left (by rw [← h.1]; exact hlt)]
  exact h.2 i x hx
 ·rw [List.getElem?_append_right hge] at hx
  rw [List.getElem?_append_right (by rw [← h.1]; exact hge), ← h.1]
  exact k.2 _ x hx
theorem caps_ok {sg : Sig} {ρ : Vl} {n : Nat} : ∀ {cs : List (Nat × Lin × List CS)}, (∀ p ∈ cs, p.1 < n /\ p.2.1.lt n) -> allReal ρ cs = true -> (∀ p ∈ cs, Sits sg (ρ.a p.1).1.toNat ((ρ.a p.1).2 + (p.2.1.den ρ.i).toNat) p.2.2) →
  AllV2 sg ρ n (capsV cs) (cs.map fun p => Value.pointer (some ⟨(ρ.a p.1).1.toNat, (ρ.a p.1).2 + (p.2.1.den ρ.i).toNat, none⟩))
 | [], _, _, _ => ⟨rfl, fun i x hx => by simp [capsV] at hx⟩
 | p :: ps, hl, hr, hs => by
  simp only [allReal, Bool.and_eq_true, decide_eq_true_eq] at hr
  obtain ⟨g1, g2⟩ := caps_ok (fun q hq => hl q (by simp [hq])) hr.2 fun q hq => hs q (by simp [hq])
  refine ⟨by simp [capsV, g1], fun i x hx => ?_⟩
  cases i with
  | zero =>
   simp only [capsV, List.getElem?_cons_zero, Option.some.injEq] at hx
   subst hx
   refine ⟨hl p (by simp), _, by simp; rfl, ?_⟩
   exact zp_mk (by omega) rfl (hs p (by simp))
  | succ i =>
   simp only [capsV, List.getElem?_cons_succ] at hx
   have := g2 i x hx
   simpa using this
theorem goCall_ok {P : Program} {Γ : EnvT} (hΓ : EnvTOk P Γ) {E : Ent} {sg : Sig} {kp : Bool} {g : FuncId} {κ : Kn} {ρ : Vl} {d : Ds} {w : World} {kk : Kn -> Ds -> DV -> Bool} {args : List DV} {vs : List Value} (hm : MOk E sg κ ρ d w) (ha : AllV2 sg ρ κ.n args vs) (h : goCall Γ E.W kp g args κ d kk = true) :
  Callable P g /\ Calls P g vs.toArray w fun e w' => ∃ v, e = .returned v /\ (kp = true -> Keep w w') /\ GotM E sg κ ρ kk v w' := by
 unfold goCall at h
 obtain ⟨tc, htc, h⟩ := callAny_ok h
 rw [Bool.and_eq_true] at h
 have hok := hΓ g tc htc
 refine ⟨hok.call, (callT_ok hok hm ha h.2).mono fun e w' he => ?_⟩
 obtain ⟨v, h1, h2, h3⟩ := he
 refine ⟨v, h1, fun hk => ?_, h3⟩
 have := h.1
 rw [hk] at this
 simp only [Bool.not_true, Bool.false_or] at this
 unfold TC.nilW at this
 split at this
 ·rename_i e1 e2; exact h2 e1 e2
 ·cases this
theorem enter_run {P : Program} {g : FuncId} (hc : Callable P g) (args : Array Value) (w : World) : (callFunc g args).run P w = .ok (.enter g args) w := by
 obtain ⟨fn, hfn, hbody, hname⟩ := hc
 have hne : ¬ fn.name = "runtime.NumGoroutine" := by simpa using hname
 have hnb : ¬ fn.body = none := fun hh => by rw [hh] at hbody; cases hbody
 simp [callFunc, hfn, hnb, hne]
theorem othT_ok {P : Program} {Γ : EnvT} (hΓ : EnvTOk P Γ) {E : Ent} {sg : Sig} {kp : Bool} {o : Oper} {ev : Operand -> DV} {κ : Kn} {ρ : Vl} {d : Ds} {w : World} {a : Act} {kk : Kn -> Ds -> DV -> Bool} {Q : Exit -> Act -> World -> Prop} (hm : MOk E sg κ ρ d w) (hev : EvOk sg ρ κ.n ev a) (h : othT P Γ E.W kp o.op ev κ d kk = true) :
  o.wp P a w (Step P E sg κ ρ kk kp o a w) Q := by
 obtain ⟨dst, op, type, pos, after, guard⟩ := o
 have nkp : ∀ {b : Bool}, (!kp && b) = true -> (kp = true -> Keep w w) /\ kp = false /\ b = true := fun {b} hh => by
  rw [Bool.and_eq_true] at hh
  exact ⟨fun _ => Keep.refl w, by simpa using hh.1, hh.2⟩
 cases op <;> simp only [othT] at h <;> try (cases h; done)
 case load t x =>
  obtain ⟨z, h1, h2⟩ := loadT_ok hm (hev x).1 (hev x).2 h
  exact step_val (exV1 (by simp only [execOp]) (h1 w (Keep.refl w))) (fun _ => Keep.refl w) h2
 case store t x y =>
  obtain ⟨_, hk, h⟩ := nkp h
  obtain ⟨w', h1, h2⟩ := storeT_ok hm (hev x).1 (hev y).1 (hev x).2 (hev y).2 h
  refine step_skip ?_ (fun hh => by rw [hk] at hh; cases hh) h2
  simp [execOp, h1]
 case alloc t =>
  obtain ⟨z, w', h1, h2, h3⟩ := allocT_ok hm h
  exact step_val (exV1 (by simp only [execOp]) h1) (fun _ => h3) h2
 case box t x =>
  obtain ⟨z, w', h1, h2, h3⟩ := boxT_ok' hm (hev x).1 (hev x).2 h
  exact step_val (exV1 (by simp only [execOp]) h1) (fun _ => h3) h2
 case buildSlice t n ps =>
  obtain ⟨z, w', h1, h2, h3⟩ := bsT_ok (vs := ps.map fun (i, x) => (i, a.eval x)) hm (fun p hp => by obtain ⟨q, _, rfl⟩ := List.mem_map.1 hp; exact (hev _).1) (by have := allPD_map hev ps.toList; simpa using this) h
  exact step_val (exV1 (by simp only [execOp]) h1) (fun _ => h3) h2
 case makeSlice t l c =>
  obtain ⟨z, w', h1, h2, h3⟩ := msT_ok hm (hev l).1 (hev l).2 (hev c).2 h
  exact step_val (exV1 (by simp only [execOp]) h1) (fun _ => h3) h2
 case convert s t x =>
  obtain ⟨z, h1, h2⟩ := strT_ok hm (hev x).1 (hev x).2 h
  exact step_val (exV1 (by simp only [execOp]) h1) (fun _ => Keep.refl w) h2
 case call c =>
  obtain ⟨callee, args, argTypes⟩ := c
  obtain ⟨args⟩ := args
  obtain ⟨argTypes⟩ := argTypes
  cases callee with
  | invoke r m => simp at h
  | builtin b =>
   cases b <;> simp only [] at h <;> try (cases h; done)
   case append =>
    split at h
    ·rename_i x y t tx
     obtain ⟨_, hk, h⟩ := nkp h
     obtain ⟨z, w', h1, h2⟩ := appT3_ok (ty := type) hm (hev x).1 (hev y).1 (hev x).2 (hev y).2 h
     refine step_val ?_ (fun hh => by rw [hk] at hh; cases hh) h2
     simp [execOp, resolve, invoke, builtin, h1]
    ·cases h
   case clear =>
    split at h
    ·rename_i x t
     obtain ⟨_, hk, h⟩ := nkp h
     obtain ⟨z, w', h1, h2⟩ := clearT_ok (ty := type) hm (hev x).1 (hev x).2 h
     refine step_val ?_ (fun hh => by rw [hk] at hh; cases hh) h2
     simp [execOp, resolve, invoke, builtin, h1]
    ·cases h
  | value f =>
   simp only [] at h
   split at h
   ·rename_i g hg
    obtain ⟨hc, hcall⟩ := goCall_ok hΓ hm (getD_map hev args) h
    have e : a.eval f = .func (.func g) #[] #[] := by
     have := (hev f).2
     rw [hg] at this
     exact this
    unfold Oper.wp
    have hrun : (execOp a.eval { dst := dst, op := Op.call { callee := .value f, args := ⟨args⟩, argTypes := ⟨argTypes⟩ }, type := type, pos := pos, after := after, guard := guard }).run P w = .ok (.enter g (args.map a.eval).toArray) w := by
     have := enter_run hc (args.map a.eval).toArray w
     simp [execOp, resolve, invoke, e, Deferred.ofValue, this]
    rw [hrun, Oper.upon_enter]
    refine hcall.mono fun e' w' he => ?_
    obtain ⟨v, rfl, h1, h2⟩ := he
    exact ⟨v, rfl, h1, h2⟩
   ·rename_i g cs hg
    have hf := hev f
    rw [hg] at hf
    obtain ⟨hfl, hfo⟩ := hf
    simp only [d1, DV.den, D1.den, DC.den] at hfo
    split at hfo
    ·rename_i hreal
     obtain ⟨e, hs⟩ := hfo
     have hcaps := caps_ok (n := κ.n) hfl hreal fun p hp => hs _ (List.mem_map.2 ⟨p, hp, rfl⟩)
     obtain ⟨hc, hcall⟩ := goCall_ok hΓ hm ((getD_map hev args).append hcaps) h
     unfold Oper.wp
     have hrun : (execOp a.eval { dst := dst, op := Op.call { callee := .value f, args := ⟨args⟩, argTypes := ⟨argTypes⟩ }, type := type, pos := pos, after := after, guard := guard }).run P w = .ok (.enter g (args.map a.eval ++ cs.map fun p => Value.pointer (some ⟨(ρ.a p.1).1.toNat, (ρ.a p.1).2 + (p.2.1.den ρ.i).toNat, none⟩)).toArray) w := by
      have := enter_run hc (args.map a.eval ++ cs.map fun p => Value.pointer (some ⟨(ρ.a p.1).1.toNat, (ρ.a p.1).2 + (p.2.1.den ρ.i).toNat, none⟩)).toArray w
      simp [execOp, resolve, invoke, e, Deferred.ofValue, Function.comp_def] at this ⊢
      exact this
     rw [hrun, Oper.upon_enter]
     refine hcall.mono fun e' w' he => ?_
     obtain ⟨v, rfl, h1, h2⟩ := he
     exact ⟨v, rfl, h1, h2⟩
    ·obtain ⟨l, aa, hl, _⟩ := hfo
     simp [mu] at hl
   ·cases h
end
end Vx
namespace Vx
noncomputable section
open Go Zx
def gB {β : Type} (b : Bool) (K : Bool -> β) : β:=@Bool.rec (fun _=>β) (K false) (K true) b
def gKd {β : Type} (k : IntKind) (K : IntKind -> β) : β:=@IntKind.casesOn (fun _=>β) k (K .i8) (K .i16) (K .i32) (K .i64) (K .u8) (K .u16) (K .u32) (K .u64)
def gLs {β : Type} (l : List Lin) : (List Lin -> β) -> β:=@List.rec Lin (fun _=>(List Lin -> β) -> β) (fun K=>K []) (fun l _ ih K=>gL l fun l=>ih fun ls=>K (l :: ls)) l
def gCp {β : Type} : List (Nat × Lin × List CS) -> (List (Nat × Lin × List CS) -> β) -> β
 | [],K=>K []
 | (a,o,L) :: cs,K=>gN a fun a=>gL o fun o=>gCp cs fun cs=>K ((a,o,L) :: cs)
def gC {β : Type} (c : DC) (K : DC -> β) : β:=@DC.casesOn (fun _=>β) c
 (fun k n=>gKd k fun k=>gI n fun n=>K (.num k n))
 (fun k e=>gKd k fun k=>gL e fun e=>K (.int k e))
 (fun b=>gB b fun b=>K (.tru b))
 (fun p v=>gB p fun p=>gN v fun v=>K (.boo p v))
 (fun v=>gN v fun v=>K (.str v))
 (fun s=>K (.strL s))
 (K .nil)
 (K .nos)
 (fun f=>gN f fun f=>K (.fn f))
 (fun a o L=>gN a fun a=>gL o fun o=>K (.zp a o L))
 (fun a v o L=>gN a fun a=>gN v fun v=>gL o fun o=>K (.np a v o L))
 (fun a o E n c=>gN a fun a=>gL o fun o=>gL n fun n=>gL c fun c=>K (.zs a o E n c))
 (fun f cs=>gN f fun f=>gCp cs fun cs=>K (.clo f cs))
def gCs {β : Type} (l : List DC) : (List DC -> β) -> β:=@List.rec DC (fun _=>(List DC -> β) -> β) (fun K=>K []) (fun l _ ih K=>gC l fun l=>ih fun ls=>K (l :: ls)) l
def g1 {β : Type} (x : D1) (K : D1 -> β) : β:=
 match x with
 | .c x=>gC x fun x=>K (.c x)
 | .a xs=>gCs xs fun xs=>K (.a xs)
def gT {β : Type} : List D1 -> (List D1 -> β) -> β
 | [],K=>K []
 | l :: ls,K=>g1 l fun l=>gT ls fun ls=>K (l :: ls)
def gV {β : Type} (x : DV) (K : DV -> β) : β:=
 match x with
 | .s x=>g1 x fun x=>K (.s x)
 | .t xs=>gT xs fun xs=>K (.t xs)
 | .u=>K .u
def gSp {α β : Type} (l : List α) : (List α -> β) -> β:=@List.rec α (fun _=>(List α -> β) -> β) (fun K=>K []) (fun c _ ih K=>ih fun cs=>K (c :: cs)) l
def gAt {β : Type} (f : Atom) (K : Atom -> β) : β:=
 match f with
 | ⟨i,xs⟩=>gN i fun i=>gCs xs fun xs=>K ⟨i,xs⟩
def gFs {β : Type} : List Atom -> (List Atom -> β) -> β
 | [],K=>K []
 | f :: fs,K=>gAt f fun f=>gFs fs fun fs=>K (f :: fs)
def gFn {β : Type} : List Atom -> Nat -> (List Atom -> β) -> β
 | [],_,K=>K []
 | f :: fs,k,K=>match k with
  | 0=>K (f :: fs)
  | k + 1=>gAt f fun f=>gFn fs k fun fs=>K (f :: fs)
def gK {β : Type} (κ : Kn) (K : Kn -> β) : β:=
 match κ with
 | ⟨n,C,F⟩=>gN n fun n=>gLs C fun C=>gFs F fun F=>K ⟨n,C,F⟩
def gM {β : Type} : List Cell -> (List Cell -> β) -> β
 | [],K=>K []
 | ⟨a,o,c,v⟩ :: ms,K=>gN a fun a=>gL o fun o=>gC v fun v=>gM ms fun ms=>K (⟨a,o,c,v⟩ :: ms)
def gA {β : Type} : List (Nat × Nat) -> (List (Nat × Nat) -> β) -> β
 | [],K=>K []
 | (a,q) :: ms,K=>gN a fun a=>gN q fun q=>gA ms fun ms=>K ((a,q) :: ms)
def gG {β : Type} : List Fct -> (List Fct -> β) -> β
 | [],K=>K []
 | ⟨o,⟨i,xs⟩⟩ :: fs,K=>gB o fun o=>gN i fun i=>gCs xs fun xs=>gG fs fun fs=>K (⟨o,⟨i,xs⟩⟩ :: fs)
def gD {β : Type} (d : Ds) (K : Ds -> β) : β:=
 match d with
 | ⟨m,a,g⟩=>gM m fun m=>gA a fun a=>gG g fun g=>K ⟨m,a,g⟩
def gLsN {β : Type} : List Lin -> Nat -> (List Lin -> β) -> β
 | [],_,K=>K []
 | l :: ls,k,K=>match k with
  | 0=>K (l :: ls)
  | k + 1=>gL l fun l=>gLsN ls k fun ls=>K (l :: ls)
def gMn {β : Type} : List Cell -> Nat -> (List Cell -> β) -> β
 | [],_,K=>K []
 | ⟨a,o,c,v⟩ :: ms,k,K=>match k with
  | 0=>K (⟨a,o,c,v⟩ :: ms)
  | k + 1=>gN a fun a=>gL o fun o=>gC v fun v=>gMn ms k fun ms=>K (⟨a,o,c,v⟩ :: ms)
def gMk {β : Type} : List Cell -> Nat -> (List Cell -> β) -> β
 | [],_,K=>K []
 | ⟨a,o,c,v⟩ :: ms,k,K=>match k with
  | 0=>gSp ms fun ms=>K (⟨a,o,c,v⟩ :: ms)
  | k + 1=>gN a fun a=>gL o fun o=>gC v fun v=>gMk ms k fun ms=>K (⟨a,o,c,v⟩ :: ms)
def gAn {β : Type} : List (Nat × Nat) -> Nat -> (List (Nat × Nat) -> β) -> β
 | [],_,K=>K []
 | (a,q) :: ms,k,K=>match k with
  | 0=>K ((a,q) :: ms)
  | k + 1=>gN a fun a=>gN q fun q=>gAn ms k fun ms=>K ((a,q) :: ms)
def gKn {β : Type} (m mF : Nat) (κ : Kn) (K : Kn -> β) : β:=
 match κ with
 | ⟨n,C,F⟩=>gN n fun n=>gLsN C (C.length - m) fun C=>gFn F (F.length - mF) fun F=>K ⟨n,C,F⟩
def gDq {β : Type} (q : Bool) (m m' nw : Nat) (d : Ds) (K : Ds -> β) : β:=
 match q with
 | false=>match d with
  | ⟨ms,a,g⟩=>gMk ms nw fun ms=>gAn a (a.length - m') fun a=>gG g fun g=>K ⟨ms,a,g⟩
 | true=>match d with
  | ⟨ms,a,g⟩=>gMn ms (ms.length - m) fun ms=>gAn a (a.length - m') fun a=>K ⟨ms,a,g⟩
def isLd : Op -> Bool
 | .load _ _=>true
 | _=>false
section
variable {β : Type}
theorem gB_eq (b : Bool) (K : Bool -> β) : gB b K = K b:=by cases b <;> rfl
theorem gKd_eq (k : IntKind) (K : IntKind -> β) : gKd k K = K k:=by cases k <;> rfl
theorem gLs_eq : ∀ (t : List Lin) (K : List Lin -> β),gLs t K = K t
 | [],_=>rfl
 | l :: t,K=>by
  show gL l (fun l=>gLs t fun ls=>K (l :: ls)) = _
  rw [gL_eq,gLs_eq t]
theorem gCp_eq : ∀ (t : List (Nat × Lin × List CS)) (K : List (Nat × Lin × List CS) -> β),gCp t K = K t
 | [],_=>rfl
 | (a,o,L) :: t,K=>by simp only [gCp,gN_eq,gL_eq,gCp_eq t]
theorem gC_eq (c : DC) (K : DC -> β) : gC c K = K c:=by cases c <;> simp only [gC,gKd_eq,gI_eq,gB_eq,gN_eq,gL_eq,gCp_eq]
theorem gCs_eq : ∀ (t : List DC) (K : List DC -> β),gCs t K = K t
 | [],_=>rfl
 | l :: t,K=>by
  show gC l (fun l=>gCs t fun ls=>K (l :: ls)) = _
  rw [gC_eq,gCs_eq t]
theorem g1_eq (x : D1) (K : D1 -> β) : g1 x K = K x:=by cases x <;> simp only [g1,gC_eq,gCs_eq]
theorem gT_eq : ∀ (t : List D1) (K : List D1 -> β),gT t K = K t
 | [],_=>rfl
 | l :: t,K=>by simp only [gT,g1_eq,gT_eq t]
theorem gV_eq (x : DV) (K : DV -> β) : gV x K = K x:=by cases x <;> simp only [gV,g1_eq,gT_eq]
theorem gSp_eq {α : Type} : ∀ (t : List α) (K : List α -> β),gSp t K = K t
 | [],_=>rfl
 | l :: t,K=>by
  show gSp t (fun t=>K (l :: t)) = _
  rw [gSp_eq t]
theorem gAt_eq (f : Atom) (K : Atom -> β) : gAt f K = K f:=by cases f;simp only [gAt,gN_eq,gCs_eq]
theorem gFs_eq : ∀ (t : List Atom) (K : List Atom -> β),gFs t K = K t
 | [],_=>rfl
 | l :: t,K=>by simp only [gFs,gAt_eq,gFs_eq t]
theorem gFn_eq : ∀ (t : List Atom) (k : Nat) (K : List Atom -> β),gFn t k K = K t
 | [],_,_=>rfl
 | l :: t,0,K=>rfl
 | l :: t,k + 1,K=>by simp only [gFn,gAt_eq,gFn_eq t]
theorem gK_eq (κ : Kn) (K : Kn -> β) : gK κ K = K κ:=by cases κ;simp only [gK,gN_eq,gLs_eq,gFs_eq]
theorem gM_eq : ∀ (t : List Cell) (K : List Cell -> β),gM t K = K t
 | [],_=>rfl
 | ⟨a,o,c,v⟩ :: t,K=>by simp only [gM,gN_eq,gL_eq,gC_eq,gM_eq t]
theorem gA_eq : ∀ (t : List (Nat × Nat)) (K : List (Nat × Nat) -> β),gA t K = K t
 | [],_=>rfl
 | (a,q) :: t,K=>by simp only [gA,gN_eq,gA_eq t]
theorem gG_eq : ∀ (t : List Fct) (K : List Fct -> β),gG t K = K t
 | [],_=>rfl
 | ⟨o,⟨i,xs⟩⟩ :: t,K=>by simp only [gG,gB_eq,gN_eq,gCs_eq,gG_eq t]
theorem gD_eq (d : Ds) (K : Ds -> β) : gD d K = K d:=by cases d;simp only [gD,gM_eq,gA_eq,gG_eq]
theorem gLsN_eq : ∀ (t : List Lin) (k : Nat) (K : List Lin -> β),gLsN t k K = K t
 | [],_,_=>rfl
 | l :: t,0,K=>rfl
 | l :: t,k + 1,K=>by simp only [gLsN,gL_eq,gLsN_eq t]
theorem gMn_eq : ∀ (t : List Cell) (k : Nat) (K : List Cell -> β),gMn t k K = K t
 | [],_,_=>rfl
 | ⟨a,o,c,v⟩ :: t,0,K=>rfl
 | ⟨a,o,c,v⟩ :: t,k + 1,K=>by simp only [gMn,gN_eq,gL_eq,gC_eq,gMn_eq t]
theorem gMk_eq : ∀ (t : List Cell) (k : Nat) (K : List Cell -> β),gMk t k K = K t
 | [],_,_=>rfl
 | ⟨a,o,c,v⟩ :: t,0,K=>by simp only [gMk,gSp_eq]
 | ⟨a,o,c,v⟩ :: t,k + 1,K=>by simp only [gMk,gN_eq,gL_eq,gC_eq,gMk_eq t]
theorem gAn_eq : ∀ (t : List (Nat × Nat)) (k : Nat) (K : List (Nat × Nat) -> β),gAn t k K = K t
 | [],_,_=>rfl
 | (a,q) :: t,0,K=>rfl
 | (a,q) :: t,k + 1,K=>by simp only [gAn,gN_eq,gAn_eq t]
theorem gKn_eq (m mF : Nat) (κ : Kn) (K : Kn -> β) : gKn m mF κ K = K κ:=by cases κ;simp only [gKn,gN_eq,gLsN_eq,gFn_eq]
theorem gDq_eq (q : Bool) (m m' nw : Nat) (d : Ds) (K : Ds -> β) : gDq q m m' nw d K = K d:=by
 cases q
 ·cases d;simp only [gDq,gMk_eq,gAn_eq,gG_eq]
 ·cases d;simp only [gDq,gMn_eq,gAn_eq]
end
structure Sm (E : Ent) (sg : Sig) (κ : Kn) (ρ : Vl) (d : Ds) (sl : List DV) (a : Act) (w : World) : Prop where
 m : MOk E sg κ ρ d w
 size : a.tmps.size = sl.length
 slots : ∀ (i : Nat) (x : DV),sl[i]? = some x -> x.lt κ.n /\ ∃ v,a.tmps[i]? = some v /\ (x.den ρ).ok (mu sg) v
 defers : a.defers = []
theorem evD_ok {E : Ent} {sg : Sig} {κ : Kn} {ρ : Vl} {d : Ds} {sl : List DV} {a : Act} {w : World} (hm : Sm E sg κ ρ d sl a w) : EvOk sg ρ κ.n (evD sl) a:=fun x=>by
 cases x with
 | tmp t=>
  simp only [evD,slG_eq,Act.eval]
  cases h : sl[t]? with
  | none=>simp only [List.getD,h];exact ⟨trivial,trivial⟩
  | some y=>
   obtain ⟨hl,v,hv,hok⟩:=hm.slots t y h
   simp [List.getD,h,hv]
   exact ⟨hl,hok⟩
 | const v=>exact constDV_ok sg ρ κ.n v
 | func f=>exact ⟨trivial,rfl⟩
 | global g=>exact ⟨trivial,trivial⟩
def putD (sl : List DV) (dst : Option Nat) (x : DV) : List DV:=
 match dst with
 | some d=>sl.set d x
 | none=>sl
def putK {β : Type} (sl : List DV) (dst : Option Nat) (x : DV) (K : List DV -> β) : β:=
 @Option.rec Nat (fun _=>β) (K sl) (fun d=>slP x sl d K) dst
theorem putK_eq {β : Type} (sl : List DV) (dst : Option Nat) (x : DV) (K : List DV -> β) : putK sl dst x K = K (putD sl dst x):=by
 cases dst with
 | none=>rfl
 | some d=>exact slP_eq x sl d K
def wantedD (ops : Array Oper) (sl : List DV) (o : Oper) : Option Bool:=
 match o.guard with
 | none=>some true
 | some (j,want)=>match (ops[j]?).bind (·.dst) with
  | some t=>match slG sl t with
   | .s (.c (.tru b))=>some (b == want)
   | .t []=>some false
   | _=>none
  | none=>none
theorem wantedD_ok {E : Ent} {sg : Sig} {κ : Kn} {ρ : Vl} {d : Ds} {sl : List DV} {a : Act} {w : World} {ops : Array Oper} {o : Oper} {b : Bool} (hm : Sm E sg κ ρ d sl a w) (h : wantedD ops sl o = some b) : Region.wanted o (yielded ops a.tmps) = b:=by
 unfold wantedD at h
 simp only [slG_eq] at h
 unfold Region.wanted
 split at h
 ·rename_i hg
  rw [hg]
  cases h
  rfl
 ·rename_i j want hg
  rw [hg]
  split at h
  ·rename_i t ht
   have key : ∀ y : DV,y ≠ .u -> sl.getD t .u = y -> ∃ v,a.tmps[t]? = some v /\ (y.den ρ).ok (mu sg) v:=fun y hne hy=>by
    have hlt : t < sl.length:=by
     rcases Nat.lt_or_ge t sl.length with h | h
     ·exact h
     ·rw [List.getD,List.getElem?_eq_none h] at hy;exact absurd hy.symm hne
    obtain ⟨_,v,hv,hok⟩:=hm.slots t _ (List.getElem?_eq_getElem hlt)
    have e : sl[t] = y:=by rw [← hy];simp [List.getD,hlt]
    rw [e] at hok
    exact ⟨v,hv,hok⟩
   split at h
   ·rename_i c hc
    cases h
    obtain ⟨v,hv,hok⟩:=key _ (by simp) hc
    have : v = .bool c:=hok
    subst this
    simp [yielded,ht,hv]
   ·rename_i hc
    cases h
    obtain ⟨v,hv,vs,rfl,ha⟩:=key _ (by simp) hc
    cases vs with
    | nil=>simp [yielded,ht,hv]
    | cons _ _=>exact ha.elim
   ·cases h
  ·cases h
theorem Sm.put {E : Ent} {sg sg' : Sig} {κ κ' : Kn} {ρ ρ' : Vl} {d d' : Ds} {sl : List DV} {a : Act} {w w' : World} (hm : Sm E sg κ ρ d sl a w) (g : Gr κ κ' ρ ρ') (hg : Grows sg sg') (hm' : MOk E sg' κ' ρ' d' w') {dst : Option Nat} {z : Value} {y : DV} (hy : y.lt κ'.n) (hz : (y.den ρ').ok (mu sg') z) : Sm E sg' κ' ρ' d' (putD sl dst y) (a.put dst z) w' where
 m:=hm'
 size:=by
  cases dst with
  | none=>exact hm.size
  | some t=>simpa [putD,Act.put] using hm.size
 slots:=fun i x hx=>by
  have old : ∀ x,sl[i]? = some x -> x.lt κ'.n /\ ∃ v,a.tmps[i]? = some v /\ (x.den ρ').ok (mu sg') v:=fun x hx=>by
   obtain ⟨h1,v,h2,h3⟩:=hm.slots i x hx
   exact ⟨DV.lt_mono g.le h1,v,h2,by rw [← DV.den_eq g.agr h1];exact SV.ok_ext (mu_ext hg) h3⟩
  cases dst with
  | none=>exact old x hx
  | some t=>
   simp only [putD] at hx
   by_cases ht : t = i
   ·subst ht
    have hlt : t < sl.length:=by
     have:=(List.getElem?_eq_some_iff.1 hx).1
     simpa using this
    simp [hlt] at hx
    subst hx
    exact ⟨hy,z,by simp [Act.put,hm.size,hlt],hz⟩
   ·rw [List.getElem?_set_ne ht] at hx
    obtain ⟨h1,v,h2,h3⟩:=old x hx
    exact ⟨h1,v,by simp [Act.put,Array.getElem?_setIfInBounds_ne ht,h2],h3⟩
 defers:=by cases dst <;> exact hm.defers
abbrev Kc:=List DV -> Kn -> Ds -> Bool
def AtD (E : Ent) (sg : Sig) (κ : Kn) (ρ : Vl) (k : Kc) (a : Act) (w : World) : Prop:=∃ sg' κ' ρ' d' sl',k sl' κ' d' = true /\ Grows sg sg' /\ Gr κ κ' ρ ρ' /\ Sm E sg' κ' ρ' d' sl' a w
theorem Grows.trans {a b c : Sig} (h : Grows a b) (k : Grows b c) : Grows a c:=fun x o y e=>k x o y (h x o y e)
theorem AtD.more {E : Ent} {sg sg' : Sig} {κ κ' : Kn} {ρ ρ' : Vl} {k : Kc} {a : Act} {w : World} (hg : Grows sg sg') (g : Gr κ κ' ρ ρ') (h : AtD E sg' κ' ρ' k a w) : AtD E sg κ ρ k a w:=by
 obtain ⟨s2,κ2,ρ2,d2,sl2,h1,h2,h3,h4⟩:=h
 exact ⟨s2,κ2,ρ2,d2,sl2,h1,Grows.trans hg h2,g.trans h3,h4⟩
def concD (flag : Bool) (y : DV) (κ : Kn) (d : Ds) (k : Kn -> Ds -> DV -> Bool) : Bool:=
 match flag,y with
 | true,.s (.c (.boo p v))=>match κ.hasB ((Lin.num 0).sub (.var v)) with
  | true=>k κ d (d1 (.tru (p == false)))
  | false=>match κ.hasB ((Lin.var v).addc (-1)) && κ.hasB ((Lin.num 1).sub (.var v)) with
   | true=>k κ d (d1 (.tru (p == true)))
   | false=>k (addB p v true κ) d tT && k (addB p v false κ) d tF
 | _,_=>k κ d y
theorem concD_ok {E : Ent} {sg : Sig} {κ : Kn} {ρ : Vl} {k : Kn -> Ds -> DV -> Bool} {z : Value} {w : World} {flag : Bool} (h : GotM E sg κ ρ (fun κ' d' y=>concD flag y κ' d' k) z w) : GotM E sg κ ρ k z w:=by
 obtain ⟨sg',κ',d',y,ρ',h1,h2,h3,h4,h5,h6⟩:=h
 unfold concD at h1
 dsimp only at h1
 split at h1
 ·rename_i p v
  have hz : z = .bool (bV ρ' (.boo p v)):=h4
  split at h1
  ·rename_i hb
   have hb:=Kn.hasB_ok h2.ok hb
   rw [Lin.sub_den,Lin.num_den] at hb
   have e0 : (Lin.var v).den ρ'.i = ρ'.i v:=by simp [Lin.var,Lin.den,Tm.den]
   have e : decide (ρ'.i v = 1) = false:=by simp;omega
   refine ⟨sg',κ',d',_,ρ',h1,h2,trivial, ?_,h5,h6⟩
   rw [hz]
   simp only [bV,e]
   rfl
  split at h1
  ·rename_i hb
   rw [Bool.and_eq_true] at hb
   have hb1:=Kn.hasB_ok h2.ok hb.1
   have hb2:=Kn.hasB_ok h2.ok hb.2
   rw [Lin.addc_den] at hb1
   rw [Lin.sub_den,Lin.num_den] at hb2
   have e0 : (Lin.var v).den ρ'.i = ρ'.i v:=by simp [Lin.var,Lin.den,Tm.den]
   have e : decide (ρ'.i v = 1) = true:=by simp;omega
   refine ⟨sg',κ',d',_,ρ',h1,h2,trivial, ?_,h5,h6⟩
   rw [hz]
   simp only [bV,e]
   rfl
  rw [Bool.and_eq_true] at h1
  cases e : bV ρ' (.boo p v) with
  | true=>
   have g:=addB_gr h2.ok h3 e
   rw [e] at hz
   exact ⟨sg',_,d',tT,ρ',h1.1,h2.trans g,trivial,hz,h5,h6.gr g⟩
  | false=>
   have g:=addB_gr h2.ok h3 e
   rw [e] at hz
   exact ⟨sg',_,d',tF,ρ',h1.2,h2.trans g,trivial,hz,h5,h6.gr g⟩
 ·exact ⟨sg',κ',d',y,ρ',h1,h2,h3,h4,h5,h6⟩
def kpI (kp : List Bool) (i : Nat) : Bool:=kp.getD i false
def stepK (m mF : Nat) (ops : Array Oper) (i : Nat) (o : Oper) (sl : List DV) (k : Kc) (κ : Kn) (d : Ds) (y : DV) : Bool:=
 concD (isGuard ops i) y κ d fun κ d y=>gV y fun y=>gKn m mF κ fun κ=>putK sl o.dst y fun sl=>k sl κ d
def headLt (n : Nat) : List (Nat × Int) -> Bool
 | []=>true
 | p :: _=>Nat.blt p.1 n
def deadB (n : Nat) (κ : Kn) : Nat -> List Lin -> Bool
 | k + 1,c :: cs=>match headLt n c.t with
  | true=>match κ.has ((Lin.mulc (-1) c).addc (-1)) with
   | true=>true
   | false=>deadB n κ k cs
  | false=>deadB n κ k cs
 | _,_=>false
theorem deadB_ok {n : Nat} {κ : Kn} {ρ : Vl} (hκ : κ.Ok ρ) : ∀ {k : Nat} {cs : List Lin},(∀ c ∈ cs,0 <= c.den ρ.i) -> deadB n κ k cs = true -> False
 | 0,_,_,h=>by unfold deadB at h;cases h
 | _ + 1,[],_,h=>by unfold deadB at h;cases h
 | k + 1,c :: cs,hc,h=>by
  unfold deadB at h
  split at h
  ·split at h
   ·rename_i h1
    have h2:=Kn.has_ok hκ h1
    rw [Lin.addc_den,Lin.mulc_den] at h2
    have:=hc c (by simp)
    omega
   ·exact deadB_ok hκ (fun c hx=>hc c (by simp [hx])) h
  ·exact deadB_ok hκ (fun c hx=>hc c (by simp [hx])) h
def maxM : List TC -> Nat
 | []=>0
 | tc :: l=>Nat.max (tc.post.foldl (fun n sh=>Nat.max n sh.M.length) 0) (maxM l)
def newN (P : Program) (Γ : EnvT) (sl : List DV) (o : Op) : Nat:=match o with
 | .store t _ _=>match P.info? t with
  | some inf=>inf.size
  | none=>1000
 | .call c=>match c.callee with
  | .value f=>match evD sl f with
   | .s (.c (.fn g))=>maxM (Γ g)
   | _=>1000
  | _=>1000
 | _=>1000
def stepC (n m mF m2 m3 nw : Nat) (ops : Array Oper) (i : Nat) (o : Oper) (sl : List DV) (k : Kc) (κ : Kn) (d : Ds) (y : DV) : Bool:=
 concD (isGuard ops i) y κ d fun κ d y=>gV y fun y=>gKn m mF κ fun κ=>match deadB n κ (@Bool.rec (fun _=>Nat) (κ.C.length - m) 0 (isLd o.op)) κ.C with
  | true=>true
  | false=>gDq (isLd o.op) m2 m3 nw d fun d=>putK sl o.dst y fun sl=>k sl κ d
def stepT (P : Program) (Γ : EnvT) (W : Wt) (kp : Bool) (ops : Array Oper) (i : Nat) (o : Oper) (sl : List DV) (κ : Kn) (d : Ds) (k : Kc) : Bool:=
 match wantedD ops sl o with
 | some true=>match isBl P o.op with
  | true=>blT P o.op (evD sl) κ d (stepK κ.C.length κ.F.length ops i o sl k)
  | false=>othT P Γ W kp o.op (evD sl) κ d (stepC κ.n κ.C.length κ.F.length d.memo.length d.adr.length (newN P Γ sl o.op) ops i o sl k)
 | some false=>putK sl o.dst (.t []) fun sl=>k sl κ d
 | none=>false
theorem stepK_at {E : Ent} {sg : Sig} {κ : Kn} {ρ : Vl} {d : Ds} {sl : List DV} {a : Act} {w w' : World} {m mF : Nat} {ops : Array Oper} {i : Nat} {o : Oper} {k : Kc} {z : Value} (hm : Sm E sg κ ρ d sl a w) (h : GotM E sg κ ρ (stepK m mF ops i o sl k) z w') : AtD E sg κ ρ k (a.put o.dst z) w':=by
 obtain ⟨sg',κ',d',y,ρ',h1,h2,h3,h4,h5,h6⟩:=concD_ok h
 simp only [gV_eq,gKn_eq,gDq_eq,putK_eq] at h1
 exact ⟨sg',κ',ρ',d',_,h1,h5,h2,hm.put h2 h5 h6 h3 h4⟩
theorem stepC_at {E : Ent} {sg : Sig} {κ : Kn} {ρ : Vl} {d : Ds} {sl : List DV} {a : Act} {w w' : World} {n m mF m2 m3 nw : Nat} {ops : Array Oper} {i : Nat} {o : Oper} {k : Kc} {z : Value} (hm : Sm E sg κ ρ d sl a w) (h : GotM E sg κ ρ (stepC n m mF m2 m3 nw ops i o sl k) z w') : AtD E sg κ ρ k (a.put o.dst z) w':=by
 obtain ⟨sg',κ',d',y,ρ',h1,h2,h3,h4,h5,h6⟩:=concD_ok h
 simp only [gV_eq,gKn_eq,gDq_eq,putK_eq] at h1
 split at h1
 ·rename_i hd
  exact (deadB_ok h2.ok h2.ok.sat hd).elim
 ·exact ⟨sg',κ',ρ',d',_,h1,h5,h2,hm.put h2 h5 h6 h3 h4⟩
theorem t0_lt (n : Nat) : (DV.t []).lt n:=fun x hx=>by cases hx
theorem stepT_ok {P : Program} {Γ : EnvT} (hΓ : EnvTOk P Γ) {E : Ent} {sg : Sig} {kp : Bool} {ops : Array Oper} {i : Nat} {o : Oper} {κ : Kn} {ρ : Vl} {d : Ds} {sl : List DV} {a : Act} {w : World} {k : Kc} {Q : Exit -> Act -> World -> Prop} (ho : ops[i]? = some o) (hm : Sm E sg κ ρ d sl a w) (h : stepT P Γ E.W kp ops i o sl κ d k = true) :
  wpOp P ops Q i (fun a' w'=>(kp = true -> Keep w w') /\ AtD E sg κ ρ k a' w') a w:=by
 unfold stepT at h
 unfold wpOp
 rw [ho]
 simp only []
 split at h
 ·rename_i hw
  rw [wantedD_ok hm hw]
  simp only [if_true]
  left
  split at h
  ·obtain ⟨z,h1,h2⟩:=blT_ok hm.m (evD_ok hm) h
   unfold Oper.wp
   rw [h1 w,Oper.upon_value]
   exact ⟨fun _=>Keep.refl w,stepK_at hm h2⟩
  ·refine Oper.wp_mono (fun a' w' hs=>?_) (othT_ok (kp:=kp) hΓ hm.m (evD_ok hm) h)
   obtain ⟨z,rfl,h1,h2⟩:=hs
   exact ⟨h1,stepC_at hm h2⟩
 ·rename_i hw
  rw [wantedD_ok hm hw]
  simp only [Bool.false_eq_true,if_false]
  simp only [putK_eq] at h
  exact ⟨fun _=>Keep.refl w,sg,κ,ρ,d,_,h,Grows.refl _,Gr.refl hm.m.kn,hm.put (Gr.refl hm.m.kn) (Grows.refl _) hm.m (t0_lt _) (t0_okD ρ _)⟩
 ·cases h
def runT (P : Program) (Γ : EnvT) (W : Wt) (ops : Array Oper) : Nat -> List Oper -> List DV -> Kn -> Ds -> Kc -> Bool
 | _,[],sl,κ,d,k=>k sl κ d
 | i,o :: os,sl,κ,d,k=>stepT P Γ W false ops i o sl κ d fun sl κ d=>runT P Γ W ops (i + 1) os sl κ d k
theorem runT_ok {P : Program} {Γ : EnvT} (hΓ : EnvTOk P Γ) {E : Ent} {ops : Array Oper} {k : Kc} {Q : Exit -> Act -> World -> Prop} : ∀ (os : List Oper) (i : Nat) {sg : Sig} {κ : Kn} {ρ : Vl} {d : Ds} {sl : List DV} {a : Act} {w : World},(∀ j,os[j]? = ops[i + j]?) -> Sm E sg κ ρ d sl a w →
  (∀ a w,AtD E sg κ ρ k a w -> Q .normal a w) -> runT P Γ E.W ops i os sl κ d k = true -> wpOps P ops Q (List.range' i os.length) a w
 | [],i,sg,κ,ρ,d,sl,a,w,_,hm,hQ,h=>by
  simp only [List.length_nil,List.range'_zero,wpOps]
  exact hQ a w ⟨sg,κ,ρ,d,sl,h,Grows.refl _,Gr.refl hm.m.kn,hm⟩
 | o :: os,i,sg,κ,ρ,d,sl,a,w,ho,hm,hQ,h=>by
  simp only [List.length_cons,List.range'_succ]
  rw [wpOps_cons]
  have h0 : ops[i]? = some o:=by simpa using (ho 0).symm
  refine wpOp_mono (fun a' w' hh=>?_) (stepT_ok (Q:=Q) hΓ h0 hm h)
  obtain ⟨_,sg',κ',ρ',d',sl',h1,h2,h3,h4⟩:=hh
  exact runT_ok hΓ os (i + 1) (fun j=>by have:=ho (j + 1);simpa [Nat.add_assoc,Nat.add_comm 1 j] using this) h4 (fun a w hat=>hQ a w (hat.more h2 h3)) h1
end
end Vx
namespace Vx
noncomputable section
open Go Zx
def wpAnyR (P : Program) (ops : Array Oper) (Q : Exit -> Act -> World -> Prop) (kp : Nat -> Bool) : Nat -> Array Bool -> Act -> World -> Prop
 | 0,listed,a,w=>Region.ready .any ops listed = [] /\ Q .normal a w
 | fuel + 1,listed,a,w=>(Region.ready .any ops listed = [] -> Q .normal a w) ∧
  ∀ i ∈ Region.ready .any ops listed,wpOp P ops Q i (fun a' w'=>(kp i = true -> Keep w w') /\ wpAnyR P ops Q kp fuel (listed.setIfInBounds i true) a' w') a w
section
variable {P : Program} {ops : Array Oper} {Q : Exit -> Act -> World -> Prop} {kp : Nat -> Bool}
theorem wpAnyR.any : ∀ {fuel : Nat} {listed : Array Bool} {a : Act} {w : World},wpAnyR P ops Q kp fuel listed a w -> wpAny P .any ops Q fuel listed a w
 | 0,_,_,_,h=>h
 | fuel + 1,_,_,_,h=>⟨h.1,fun i hi=>wpOp_mono (fun a w hh=>wpAnyR.any hh.2) (h.2 i hi)⟩
def Blind1 (ops : Array Oper) (o : Oper) (a a' : Act) : Prop:=execOp a'.eval o = execOp a.eval o /\ Region.wanted o (yielded ops a'.tmps) = Region.wanted o (yielded ops a.tmps)
theorem wpOp_put0 {j : Nat} {oi oj : Oper} {v : Value} (hj : ops[j]? = some oj) (hap : oi.apart ops oj = true) (hsi : ∀ cs b,oi.op ≠ .select cs b) (hsj : ∀ cs b,oj.op ≠ .select cs b) (hQ : ∀ c a w,¬Q (.panic c) a w)
  {K : Act -> World -> Prop} {a : Act} {w : World} (h : wpOp P ops Q j K (a.put oi.dst v) w) : wpOp P ops Q j (fun a' w'=>Blind1 ops oi a a' /\ K (a'.put oi.dst v) w') a w:=by
 obtain ⟨h1,h2,h3⟩:=Oper.apart_spec hap
 have same : ∀ (b : Act),Blind1 ops oi a b -> ∀ u,Blind1 ops oi a (b.put oj.dst u):=fun b hb u=>
  ⟨(execOp_put oi hsi b oj.dst u h3).trans hb.1,(wanted_put oi b oj.dst u h3).trans hb.2⟩
 have me : Blind1 ops oi a a:=⟨rfl,rfl⟩
 unfold wpOp at *
 simp only [hj] at *
 rw [wanted_put oj a oi.dst v h1] at h
 by_cases hw : Region.wanted oj (yielded ops a.tmps) = true
 ·rw [if_pos hw] at h ⊢
  rcases h with h | ⟨hasks,hlets⟩
  ·left
   unfold Oper.wp at *
   rw [execOp_put oj hsj a oi.dst v h1] at h
   generalize (execOp a.eval oj).run P w = r at *
   cases r with
   | ok n w'=>
    cases n with
    | value u=>
     simp only [Oper.upon] at h ⊢
     exact ⟨same a me u,by rw [← Act.put_comm a v u h2];exact h⟩
    | skip=>
     simp only [Oper.upon] at h ⊢
     exact ⟨same a me _,by rw [← Act.put_comm a v undef h2];exact h⟩
    | enter f args=>
     simp only [Oper.upon] at h ⊢
     refine Calls.mono h fun e w'' he=>?_
     cases e with
     | returned u=>exact ⟨same a me u,by rw [← Act.put_comm a v u h2];exact he⟩
     | panicked c=>exact absurd he (hQ _ _ _)
     | outgrown=>exact he
    | defer d=>
     simp only [Oper.upon] at h ⊢
     refine ⟨same { a with defers:=d :: a.defers } ⟨rfl,rfl⟩ _, ?_⟩
     rw [← Act.put_comm _ v undef h2,← Act.put_defers]
     exact h
    | row row args=>
     simp only [Oper.upon] at h ⊢
     exact Rows.mono h fun u w'' he=>⟨same a me u,by rw [← Act.put_comm a v u h2];exact he⟩
    | _=>simp only [Oper.upon] at h
   | halt x w'=>
    cases x with
    | panic u=>simp only [Oper.upon] at h;exact absurd h (hQ _ _ _)
    | _=>simp only [Oper.upon] at h
  ·right
   refine ⟨?_,hlets⟩
   unfold Oper.asks at *
   rw [execOp_put oj hsj a oi.dst v h1] at hasks
   exact hasks
 ·rw [if_neg hw] at h ⊢
  exact ⟨same a me _,by rw [← Act.put_comm a v undef h2];exact h⟩
def YieldsK (P : Program) (ops : Array Oper) (bl : Bool) (o : Oper) (v : Value) (a : Act) (w : World) : Prop:=
 (Region.wanted o (yielded ops a.tmps) = true /\ ∀ w',(bl = false -> Keep w w') -> (execOp a.eval o).run P w' = .ok (.value v) w') ∨
 (Region.wanted o (yielded ops a.tmps) = false /\ v = undef)
theorem YieldsK.wpOp {bl : Bool} {i : Nat} {o : Oper} {v : Value} {a : Act} {w : World} (hi : ops[i]? = some o) (hy : YieldsK P ops bl o v a w) {K : Act -> World -> Prop} (h : K (a.put o.dst v) w) : wpOp P ops Q i K a w:=by
 unfold Go.wpOp
 simp only [hi]
 rcases hy with ⟨hw,hv⟩ | ⟨hw,rfl⟩
 ·rw [if_pos hw]
  left
  unfold Oper.wp
  rw [hv w fun _=>Keep.refl w,Oper.upon_value]
  exact h
 ·rw [if_neg (by rw [hw];simp)]
  exact h
theorem YieldsK.of {bl : Bool} {o : Oper} {v : Value} {a a' : Act} {w w' : World} (hy : YieldsK P ops bl o v a w) (hb : Blind1 ops o a a') (hk : bl = false -> Keep w w') : YieldsK P ops bl o v a' w':=by
 unfold YieldsK at *
 rw [hb.1,hb.2]
 exact hy.imp (fun h=>⟨h.1,fun w2 h2=>h.2 w2 fun e=>(hk e).trans (h2 e)⟩) id
theorem wpAnyR_first {bl : Bool} {i : Nat} {oi : Oper} {v : Value} (hi : ops[i]? = some oi) (hsel : ∀ (j : Nat) (o : Oper) cs b,ops[j]? = some o -> o.op ≠ .select cs b) (hQ : ∀ c a w,¬Q (.panic c) a w) :
  ∀ (fuel : Nat) (listed : Array Bool) (a : Act) (w : World),
   (∀ j oj,ops[j]? = some oj -> j ≠ i -> listed.getD j true = false -> (∀ e ∈ oj.after,Region.binds .any e = true -> e.on ≠ i) -> oi.apart ops oj = true /\ (bl = false -> kp j = true)) →
   i ∈ Region.ready .any ops listed -> YieldsK P ops bl oi v a w -> wpAnyR P ops Q kp fuel (listed.setIfInBounds i true) (a.put oi.dst v) w -> wpAnyR P ops Q kp (fuel + 1) listed a w:=by
 intro fuel
 have me : ∀ (listed : Array Bool) (a : Act) (w : World) (fuel : Nat),YieldsK P ops bl oi v a w -> wpAnyR P ops Q kp fuel (listed.setIfInBounds i true) (a.put oi.dst v) w →
   Go.wpOp P ops Q i (fun a' w'=>(kp i = true -> Keep w w') /\ wpAnyR P ops Q kp fuel (listed.setIfInBounds i true) a' w') a w:=fun listed a w fuel hy H=>hy.wpOp hi ⟨fun _=>Keep.refl w,H⟩
 induction fuel with
 | zero=>
  intro listed a w _ hr hy H
  refine ⟨fun h=>(by rw [h] at hr;cases hr),fun j hj=>?_⟩
  by_cases hji : j = i
  ·subst hji;exact me _ _ _ _ hy H
  ·have:=ready_mono hj hji
   rw [H.1] at this
   cases this
 | succ fuel ih=>
  intro listed a w hfree hr hy H
  refine ⟨fun h=>(by rw [h] at hr;cases hr),fun j hj=>?_⟩
  by_cases hji : j = i
  ·subst hji;exact me _ _ _ _ hy H
  ·have h1:=H.2 j (ready_mono hj hji)
   obtain ⟨hjun,oj,hoj,hall⟩:=mem_ready.1 hj
   have hnot : ∀ e ∈ oj.after,Region.binds .any e = true -> e.on ≠ i:=fun e he hb heq=>by
    have h1:=hall e he hb
    have h0:=(mem_ready.1 hr).1
    rw [heq] at h1
    rcases Nat.lt_or_ge i listed.size with h' | h'
    ·simp [h'] at h0 h1;rw [h0] at h1;cases h1
    ·simp [Array.getElem?_eq_none h'] at h1
   obtain ⟨hap,hkp⟩:=hfree j oj hoj hji hjun hnot
   have h2:=wpOp_put0 hoj hap (fun cs b=>hsel i oi cs b hi) (fun cs b=>hsel j oj cs b hoj) hQ h1
   have hfree' : ∀ k ok,ops[k]? = some ok -> k ≠ i -> (listed.setIfInBounds j true).getD k true = false -> (∀ e ∈ ok.after,Region.binds .any e = true -> e.on ≠ i) -> oi.apart ops ok = true /\ (bl = false -> kp k = true):=fun k ok hk hki hun hno=>by
    refine hfree k ok hk hki ?_ hno
    by_cases hjk : j = k
    ·subst hjk;exact hjun
    ·rw [getD_set_ne true hjk] at hun;exact hun
   refine wpOp_mono (fun a' w' h3=>?_) h2
   obtain ⟨hb,hk,h4⟩:=h3
   refine ⟨hk,ih (listed.setIfInBounds j true) a' w' hfree' (ready_mono hr (Ne.symm hji)) (hy.of hb fun e=>hk (hkp e)) ?_⟩
   rw [Array.setIfInBounds_comm _ _ hji]
   exact h4
end
def depM (o : Oper) : Nat:=mask [] (depsOf o)
def keepsO (P : Program) (Γ : EnvT) (o : Op) : Bool:=
 match o with
 | .store _ _ _=>false
 | .call c=>match c.callee with
  | .builtin .append=>false
  | .builtin .clear=>false
  | .value (.func g)=>allB (fun tc : TC=>tc.nilW) (Γ g)
  | _=>true
 | _=>true
def noSel : Op -> Bool
 | .select _ _=>false
 | _=>true
def pairB (ops : Array Oper) (oi oj : Oper) (i j : Nat) : Bool:=Nat.beq i j || ((depM oj).testBit i || ((depM oi).testBit j || oi.apart ops oj))
def rowB (ops : Array Oper) (oi : Oper) (i : Nat) : List Oper -> Nat -> Bool
 | [],_=>true
 | oj :: os,j=>pairB ops oi oj i j && rowB ops oi i os (j + 1)
def allPairs (ops : Array Oper) (all : List Oper) : List Oper -> Nat -> Bool
 | [],_=>true
 | oi :: os,i=>noSel oi.op && (rowB ops oi i all 0 && allPairs ops all os (i + 1))
def rdGo (m : Nat) : List Nat -> Nat -> List Nat
 | [],_=>[]
 | dp :: ds,i=>match m.testBit i with
  | true=>rdGo m ds (i + 1)
  | false=>match Nat.beq (Nat.land dp m) dp with
   | true=>i :: rdGo m ds (i + 1)
   | false=>rdGo m ds (i + 1)
def otherKeep (i m : Nat) : List Nat -> List Bool -> Nat -> Bool
 | dp :: ds,k :: ks,j=>(Nat.beq i j || (m.testBit j || (dp.testBit i || k))) && otherKeep i m ds ks (j + 1)
 | _,_,_=>true
def firstK (P : Program) (ops : Array Oper) (sl : List DV) (tab : List Nat) (kps : List Bool) (m i : Nat) : Nat:=
 match ops[i]? with
 | none=>0
 | some o=>match wantedD ops sl o with
  | some false=>1
  | _=>match isBl P o.op with
   | true=>1
   | false=>match o.op with
    | .load _ _=>match otherKeep i m tab kps 0 with
     | true=>2
     | false=>0
    | _=>0
def findF (P : Program) (ops : Array Oper) (sl : List DV) (tab : List Nat) (kps : List Bool) (m : Nat) : List Nat -> Option Nat
 | []=>none
 | i :: is=>match firstK P ops sl tab kps m i with
  | 0=>findF P ops sl tab kps m is
  | _=>some i
def goAny (P : Program) (Γ : EnvT) (W : Wt) (ops : Array Oper) (tab : List Nat) (kps : List Bool) : Nat -> Nat -> List DV -> Kn -> Ds -> Kc -> Bool
 | 0,m,sl,κ,d,k=>match rdGo m tab 0 with
  | []=>k sl κ d
  | _=>false
 | fuel + 1,m,sl,κ,d,k=>gNs (rdGo m tab 0) fun rs=>match rs with
  | []=>k sl κ d
  | r :: rs=>match findF P ops sl tab kps m (r :: rs) with
   | some i=>match ops[i]? with
    | some o=>stepT P Γ W (kpI kps i) ops i o sl κ d fun sl κ d=>gN (m ||| 2 ^ i) fun m=>goAny P Γ W ops tab kps fuel m sl κ d k
    | none=>false
   | none=>allB (fun i=>match ops[i]? with
    | some o=>stepT P Γ W (kpI kps i) ops i o sl κ d fun sl κ d=>gN (m ||| 2 ^ i) fun m=>goAny P Γ W ops tab kps fuel m sl κ d k
    | none=>false) (r :: rs)
where gNs {β : Type} : List Nat -> (List Nat -> β) -> β
 | [],K=>K []
 | l :: ls,K=>gN l fun l=>gNs ls fun ls=>K (l :: ls)
theorem gNs_eq {β : Type} : ∀ (t : List Nat) (K : List Nat -> β),goAny.gNs t K = K t
 | [],_=>rfl
 | l :: t,K=>by simp only [goAny.gNs,gN_eq,gNs_eq t]
def anyT (P : Program) (Γ : EnvT) (W : Wt) (ops : Array Oper) (sl : List DV) (κ : Kn) (d : Ds) (k : Kc) : Bool:=
 allPairs ops ops.toList ops.toList 0 && goAny.gNs (ops.toList.map depM) fun tab=>gBs (ops.toList.map fun o=>keepsO P Γ o.op) fun kps=>goAny P Γ W ops tab kps tab.length 0 sl κ d k
where gBs {β : Type} : List Bool -> (List Bool -> β) -> β
 | [],K=>K []
 | l :: ls,K=>gB l fun l=>gBs ls fun ls=>K (l :: ls)
theorem gBs_eq {β : Type} : ∀ (t : List Bool) (K : List Bool -> β),anyT.gBs t K = K t
 | [],_=>rfl
 | l :: t,K=>by simp only [anyT.gBs,gB_eq,gBs_eq t]
end
end Vx
namespace Vx
noncomputable section
open Go Zx
theorem mask_iff {q : Nat} : ∀ {es : List Nat},(mask [] es).testBit q = true ↔ q ∈ es
 | []=>by simp [mask]
 | e :: es=>by
  simp only [mask,Nat.testBit_or,Bool.or_eq_true,List.mem_cons]
  rw [mask_iff (es:=es),Nat.testBit_two_pow]
  simp [eq_comm]
theorem depM_iff {o : Oper} {j : Nat} : (depM o).testBit j = true ↔ ∃ e ∈ o.after,Region.binds .any e = true /\ e.on = j:=by
 unfold depM
 rw [mask_iff]
 unfold depsOf
 rw [List.mem_filterMap]
 constructor
 ·rintro ⟨e,he,h⟩
  split at h
  ·rename_i hb;cases h;exact ⟨e,by simpa using he,hb,rfl⟩
  ·cases h
 ·rintro ⟨e,he,hb,rfl⟩
  exact ⟨e,by simpa using he,by rw [if_pos hb]⟩
theorem sub_iff {x m : Nat} : Nat.beq (Nat.land x m) x = true ↔ ∀ j,x.testBit j = true -> m.testBit j = true:=by
 rw [Nat.beq_eq]
 have e : Nat.land x m = x &&& m:=rfl
 rw [e]
 constructor
 ·intro h j hj
  have:=congrArg (fun n=>n.testBit j) h
  simp only [Nat.testBit_and] at this
  rw [hj] at this
  simpa using this
 ·intro h
  apply Nat.eq_of_testBit_eq
  intro j
  rw [Nat.testBit_and]
  cases hx : x.testBit j
  ·simp
  ·simp [h j hx]
theorem rdGo_iff {m : Nat} : ∀ {ds : List Nat} {i0 i : Nat},i ∈ rdGo m ds i0 ↔ ∃ k dp,i = i0 + k /\ ds[k]? = some dp /\ m.testBit i = false /\ ∀ j,dp.testBit j = true -> m.testBit j = true
 | [],i0,i=>by simp [rdGo]
 | dp :: ds,i0,i=>by
  have ih:=@rdGo_iff m ds (i0 + 1) i
  have tail : (∃ k dp',i = i0 + 1 + k /\ ds[k]? = some dp' /\ m.testBit i = false /\ ∀ j,dp'.testBit j = true -> m.testBit j = true) ↔ ∃ k dp',i = i0 + (k + 1) /\ (dp :: ds)[k + 1]? = some dp' /\ m.testBit i = false /\ ∀ j,dp'.testBit j = true -> m.testBit j = true:=by
   constructor
   ·rintro ⟨k,d',h1,h2⟩;exact ⟨k,d',by omega,by simpa using h2⟩
   ·rintro ⟨k,d',h1,h2⟩;exact ⟨k,d',by omega,by simpa using h2⟩
  have split2 : (∃ k dp',i = i0 + k /\ (dp :: ds)[k]? = some dp' /\ m.testBit i = false /\ ∀ j,dp'.testBit j = true -> m.testBit j = true) ↔
    (i = i0 /\ m.testBit i = false /\ ∀ j,dp.testBit j = true -> m.testBit j = true) \/ i ∈ rdGo m ds (i0 + 1):=by
   rw [ih,tail]
   constructor
   ·rintro ⟨k,d',h1,h2,h3,h4⟩
    cases k with
    | zero=>simp at h2;subst h2;exact .inl ⟨by omega,h3,h4⟩
    | succ k=>exact .inr ⟨k,d',h1,h2,h3,h4⟩
   ·rintro (⟨h1,h2,h3⟩ | ⟨k,d',h⟩)
    ·exact ⟨0,dp,by omega,by simp,h2,h3⟩
    ·exact ⟨k + 1,d',h⟩
  rw [split2]
  simp only [rdGo]
  split
  ·rename_i hb
   constructor
   ·exact .inr
   ·rintro (⟨rfl,h2,_⟩ | h)
    ·rw [hb] at h2;cases h2
    ·exact h
  ·rename_i hb
   split
   ·rename_i hs
    rw [List.mem_cons]
    constructor
    ·rintro (rfl | h)
     ·exact .inl ⟨rfl,hb,sub_iff.1 hs⟩
     ·exact .inr h
    ·rintro (⟨rfl,_⟩ | h)
     ·exact .inl rfl
     ·exact .inr h
   ·rename_i hs
    constructor
    ·exact .inr
    ·rintro (⟨rfl,_,h3⟩ | h)
     ·rw [sub_iff.2 h3] at hs;cases hs
     ·exact h
structure Rel (ops : Array Oper) (m : Nat) (listed : Array Bool) : Prop where
 size : listed.size = ops.size
 bit : ∀ j,listed.getD j false = m.testBit j
theorem Rel.getT {ops : Array Oper} {m : Nat} {listed : Array Bool} (h : Rel ops m listed) {j : Nat} (hj : j < ops.size) : listed.getD j true = m.testBit j:=by
 rw [← h.bit j]
 have : j < listed.size:=by rw [h.size];exact hj
 simp [this]
theorem Rel.ready {ops : Array Oper} {m : Nat} {listed : Array Bool} (h : Rel ops m listed) (i : Nat) : i ∈ Region.ready .any ops listed ↔ i ∈ rdGo m (ops.toList.map depM) 0:=by
 rw [mem_ready,rdGo_iff]
 constructor
 ·rintro ⟨h0,o,ho,hall⟩
  have hi : i < ops.size:=(Array.getElem?_eq_some_iff.1 ho).1
  refine ⟨i,depM o,by omega,by simp [ho],by rw [← h.getT hi];exact h0,fun j hj=>?_⟩
  obtain ⟨e,he,hb,rfl⟩:=depM_iff.1 hj
  rw [← h.bit];exact hall e he hb
 ·rintro ⟨k,dp,h1,h2,h3,h4⟩
  obtain rfl : i = k:=by omega
  simp only [List.getElem?_map,Option.map_eq_some_iff,Array.getElem?_toList] at h2
  obtain ⟨o,ho,rfl⟩:=h2
  have hi : i < ops.size:=(Array.getElem?_eq_some_iff.1 ho).1
  refine ⟨by rw [h.getT hi];exact h3,o,ho,fun e he hb=>?_⟩
  rw [h.bit]
  exact h4 _ (depM_iff.2 ⟨e,he,hb,rfl⟩)
theorem Rel.set {ops : Array Oper} {m : Nat} {listed : Array Bool} (h : Rel ops m listed) {i : Nat} (hi : i < ops.size) : Rel ops (m ||| 2 ^ i) (listed.setIfInBounds i true):=by
 refine ⟨by simpa using h.size,fun j=>?_⟩
 rw [Nat.testBit_or,Nat.testBit_two_pow]
 by_cases hij : i = j
 ·subst hij
  have : i < listed.size:=by rw [h.size];exact hi
  simp [this]
 ·rw [getD_set_ne false hij,h.bit]
  simp [hij]
theorem rowB_ok {ops : Array Oper} {oi : Oper} {i : Nat} : ∀ {os : List Oper} {j0 : Nat},rowB ops oi i os j0 = true -> ∀ k oj,os[k]? = some oj -> pairB ops oi oj i (j0 + k) = true
 | [],_,_,k,oj,h=>by simp at h
 | o :: os,j0,h,k,oj,hk=>by
  simp only [rowB,Bool.and_eq_true] at h
  cases k with
  | zero=>simp at hk;subst hk;exact h.1
  | succ k=>
   have:=rowB_ok h.2 k oj (by simpa using hk)
   rw [show j0 + (k + 1) = j0 + 1 + k by omega];exact this
theorem allPairs_ok {ops : Array Oper} {all : List Oper} : ∀ {os : List Oper} {i0 : Nat},allPairs ops all os i0 = true -> ∀ k oi,os[k]? = some oi -> noSel oi.op = true /\ rowB ops oi (i0 + k) all 0 = true
 | [],_,_,k,oi,h=>by simp at h
 | o :: os,i0,h,k,oi,hk=>by
  simp only [allPairs,Bool.and_eq_true] at h
  cases k with
  | zero=>simp at hk;subst hk;exact ⟨h.1,h.2.1⟩
  | succ k=>
   have:=allPairs_ok h.2.2 k oi (by simpa using hk)
   rw [show i0 + (k + 1) = i0 + 1 + k by omega];exact this
theorem noSel_ok {o : Op} (h : noSel o = true) (cs : Array SelectCase) (b : Bool) : o ≠ .select cs b:=by
 intro e;rw [e] at h;cases h
theorem otherKeep_ok {i m : Nat} : ∀ {ds : List Nat} {ks : List Bool} {j0 : Nat},otherKeep i m ds ks j0 = true -> ∀ k dp q,ds[k]? = some dp -> ks[k]? = some q -> i ≠ j0 + k -> m.testBit (j0 + k) = false -> dp.testBit i = false -> q = true
 | [],_,_,_,k,dp,q,h,_,_,_,_=>by simp at h
 | _ :: _,[],_,_,k,dp,q,_,h,_,_,_=>by simp at h
 | d :: ds,y :: ks,j0,h,k,dp,q,h1,h2,hne,hm,hd=>by
  simp only [otherKeep,Bool.and_eq_true] at h
  cases k with
  | zero=>
   simp at h1 h2
   subst h1;subst h2
   have h0:=h.1
   simp only [Bool.or_eq_true] at h0
   rcases h0 with h0 | h0 | h0 | h0
   ·have:=Nat.eq_of_beq_eq_true h0;omega
   ·simp at hm;rw [hm] at h0;cases h0
   ·rw [hd] at h0;cases h0
   ·exact h0
  | succ k=>exact otherKeep_ok h.2 k dp q (by simpa using h1) (by simpa using h2) (by omega) (by rw [show j0 + 1 + k = j0 + (k + 1) by omega];exact hm) hd
theorem findF_ok {P : Program} {ops : Array Oper} {sl : List DV} {tab : List Nat} {kps : List Bool} {m i : Nat} : ∀ {is : List Nat},findF P ops sl tab kps m is = some i -> i ∈ is /\ firstK P ops sl tab kps m i ≠ 0
 | [],h=>by cases h
 | j :: is,h=>by
  simp only [findF] at h
  split at h
  ·have:=findF_ok h;exact ⟨by simp [this.1],this.2⟩
  ·rename_i hne
   cases h
   exact ⟨by simp,fun e=>hne e⟩
theorem MOk.drew {E : Ent} {sg : Sig} {κ : Kn} {ρ : Vl} {d : Ds} {w : World} (h : MOk E sg κ ρ d w) : MOk E sg κ ρ d { w with drawn:=w.drawn + 1 }:=
 ⟨h.kn,h.zone,⟨h.fr.size,h.fr.os,h.fr.tape,h.fr.output,h.fr.sig,h.fr.keep⟩,h.mlt,h.memo,h.alt,h.asz,h.young,h.fresh,h.glt,gok_new h.fr.size h.gok (fun _ _ _ k=>k) ⟨Nat.le_refl _,rfl,rfl,rfl,fun _ _ _=>rfl,fun _ _=>.inl rfl⟩⟩
end
end Vx
namespace Vx
noncomputable section
open Go Zx
theorem first_ok {P : Program} {Γ : EnvT} {E : Ent} {sg : Sig} {kp : Bool} {ops : Array Oper} {i m : Nat} {o : Oper} {κ : Kn} {ρ : Vl} {d : Ds} {sl : List DV} {a : Act} {w : World} {k : Kc} {tab : List Nat} {kps : List Bool} (ho : ops[i]? = some o) (hm : Sm E sg κ ρ d sl a w) (hf : firstK P ops sl tab kps m i ≠ 0)
  (h : stepT P Γ E.W kp ops i o sl κ d k = true) : ∃ bl z,YieldsK P ops bl o z a w /\ AtD E sg κ ρ k (a.put o.dst z) w /\ (bl = false -> otherKeep i m tab kps 0 = true):=by
 unfold firstK at hf
 rw [ho] at hf
 simp only [] at hf
 unfold stepT at h
 split at h
 ·rename_i hw
  have hw':=wantedD_ok hm hw
  rw [hw] at hf
  simp only [] at hf
  split at h
  ·obtain ⟨z,h1,h2⟩:=blT_ok hm.m (evD_ok hm) h
   exact ⟨true,z,.inl ⟨hw',fun w' _=>h1 w'⟩,stepK_at hm h2,fun e=>by cases e⟩
  ·rename_i hb
   rw [hb] at hf
   simp only [] at hf
   obtain ⟨dst,op,type,pos,after,guard⟩:=o
   cases op <;> simp only [ne_eq,not_true_eq_false] at hf
   rename_i t x
   split at hf
   ·rename_i hk
    simp only [othT] at h
    obtain ⟨z,h1,h2⟩:=loadT_ok hm.m (evD_ok hm x).1 (evD_ok hm x).2 h
    exact ⟨false,z,.inl ⟨hw',fun w' hk'=>exV1 (by simp only [execOp]) (h1 w' (hk' rfl))⟩,stepC_at hm h2,fun _=>hk⟩
   ·exact absurd rfl hf
 ·rename_i hw
  have hw':=wantedD_ok hm hw
  simp only [putK_eq] at h
  exact ⟨true,undef,.inr ⟨hw',rfl⟩,⟨sg,κ,ρ,d,_,h,Grows.refl _,Gr.refl hm.m.kn,hm.put (Gr.refl hm.m.kn) (Grows.refl _) hm.m (t0_lt _) (t0_okD ρ _)⟩,fun e=>by cases e⟩
 ·cases h
theorem goAny_ok {P : Program} {Γ : EnvT} (hΓ : EnvTOk P Γ) {E : Ent} {ops : Array Oper} {k : Kc} {Q : Exit -> Act -> World -> Prop} (hap : allPairs ops ops.toList ops.toList 0 = true) (hQp : ∀ c a w,¬Q (.panic c) a w) :
  ∀ (fuel m : Nat) {listed : Array Bool} {sg : Sig} {κ : Kn} {ρ : Vl} {d : Ds} {sl : List DV} {a : Act} {w : World},Rel ops m listed -> Sm E sg κ ρ d sl a w -> (∀ a w,AtD E sg κ ρ k a w -> Q .normal a w) →
   goAny P Γ E.W ops (ops.toList.map depM) (ops.toList.map fun o=>keepsO P Γ o.op) fuel m sl κ d k = true -> wpAnyR P ops Q (kpI (ops.toList.map fun o=>keepsO P Γ o.op)) fuel listed a w:=by
 intro fuel
 have hsel : ∀ (j : Nat) (o : Oper) cs b,ops[j]? = some o -> o.op ≠ .select cs b:=fun j o cs b hj=>noSel_ok (allPairs_ok hap j o (by simpa using hj)).1 cs b
 have done : ∀ {m : Nat} {listed : Array Bool} {sg : Sig} {κ : Kn} {ρ : Vl} {d : Ds} {sl : List DV} {a : Act} {w : World},Sm E sg κ ρ d sl a w -> k sl κ d = true -> AtD E sg κ ρ k a w:=fun hm h=>⟨_,_,_,_,_,h,Grows.refl _,Gr.refl hm.m.kn,hm⟩
 induction fuel with
 | zero=>
  intro m listed sg κ ρ d sl a w hr hm hQ h
  simp only [goAny] at h
  split at h
  ·rename_i he
   refine ⟨?_,hQ a w ⟨sg,κ,ρ,d,sl,h,Grows.refl _,Gr.refl hm.m.kn,hm⟩⟩
   rw [List.eq_nil_iff_forall_not_mem]
   intro i hi
   have:=(hr.ready i).1 hi
   rw [he] at this;cases this
  ·cases h
 | succ fuel ih=>
  intro m listed sg κ ρ d sl a w hr hm hQ h
  simp only [goAny,gNs_eq] at h
  have hmem : ∀ i,i ∈ rdGo m (ops.toList.map depM) 0 -> i ∈ Region.ready .any ops listed:=fun i hi=>(hr.ready i).2 hi
  have next : ∀ (i : Nat) (o : Oper),ops[i]? = some o -> ∀ a' w',AtD E sg κ ρ (fun sl κ d=>gN (m ||| 2 ^ i) fun m=>goAny P Γ E.W ops (ops.toList.map depM) (ops.toList.map fun o=>keepsO P Γ o.op) fuel m sl κ d k) a' w' →
    wpAnyR P ops Q (kpI (ops.toList.map fun o=>keepsO P Γ o.op)) fuel (listed.setIfInBounds i true) a' w':=fun i o ho a' w' hat=>by
   obtain ⟨sg',κ',ρ',d',sl',h1,h2,h3,h4⟩:=hat
   simp only [gN_eq] at h1
   exact ih _ (hr.set (Array.getElem?_eq_some_iff.1 ho).1) h4 (fun a w hh=>hQ a w (hh.more h2 h3)) h1
  split at h
  ·rename_i he
   have hnil : Region.ready .any ops listed = []:=by
    rw [List.eq_nil_iff_forall_not_mem]
    intro i hi
    have:=(hr.ready i).1 hi
    rw [he] at this;cases this
   refine ⟨fun _=>hQ a w ⟨sg,κ,ρ,d,sl,h,Grows.refl _,Gr.refl hm.m.kn,hm⟩,fun i hi=>?_⟩
   rw [hnil] at hi;cases hi
  ·rename_i r rs he
   split at h
   ·rename_i i hfi
    obtain ⟨hi,hfk⟩:=findF_ok hfi
    have hir:=hmem i (by rw [he];exact hi)
    split at h
    ·rename_i o ho
     obtain ⟨bl,z,hy,hat,hkp⟩:=first_ok ho hm hfk h
     refine wpAnyR_first ho hsel hQp fuel listed a w (fun j oj hj hne hun hno=>?_) hir hy (next i o ho _ _ hat)
     have hio:=allPairs_ok hap i o (by simpa using ho)
     have hij:=rowB_ok hio.2 j oj (by simpa using hj)
     simp only [Nat.zero_add,pairB,Bool.or_eq_true] at hij
     have hjs : j < ops.size:=(Array.getElem?_eq_some_iff.1 hj).1
     have hdj : (depM oj).testBit i = false:=by
      cases e : (depM oj).testBit i
      ·rfl
      ·obtain ⟨x,hx,hb,hon⟩:=depM_iff.1 e
       exact absurd hon (hno x hx hb)
     have hmj : m.testBit j = false:=by rw [← hr.getT hjs];exact hun
     refine ⟨?_,fun e=>?_⟩
     ·rcases hij with hij | hij | hij | hij
      ·exact absurd (Nat.eq_of_beq_eq_true hij).symm hne
      ·rw [hdj] at hij;cases hij
      ·
       obtain ⟨x,hx,hb,hon⟩:=depM_iff.1 hij
       obtain ⟨_,o2,ho2,hall⟩:=mem_ready.1 hir
       rw [ho] at ho2;cases ho2
       have:=hall x hx hb
       rw [hon,hr.bit,hmj] at this
       cases this
      ·exact hij
     ·have hok:=otherKeep_ok (hkp e) j (depM oj) (keepsO P Γ oj.op) (by simp [hj]) (by simp [hj]) (by omega) (by simpa using hmj) hdj
      simp [kpI,hj,hok]
    ·cases h
   ·refine ⟨fun h0=>?_,fun i hi=>?_⟩
    ·have:=hmem r (by rw [he];simp)
     rw [h0] at this;cases this
    ·have hi':=(hr.ready i).1 hi
     rw [he] at hi'
     have hb:=allB_ok h i hi'
     split at hb
     ·rename_i o ho
      exact wpOp_mono (fun a' w' hh=>⟨hh.1,next i o ho a' w' hh.2⟩) (stepT_ok hΓ ho hm hb)
     ·cases hb
theorem anyT_ok {P : Program} {Γ : EnvT} (hΓ : EnvTOk P Γ) (hmix : P.follows .mixedOrders = true) {E : Ent} {id : Nat} {ops : Array Oper} {k : Kc} {Q : Exit -> Act -> World -> Prop} (hQp : ∀ c a w,¬Q (.panic c) a w) {sg : Sig} {κ : Kn} {ρ : Vl} {d : Ds} {sl : List DV} {a : Act} {w : World} (hm : Sm E sg κ ρ d sl a w)
  (hQ : ∀ a w,AtD E sg κ ρ k a w -> Q .normal a w) (h : anyT P Γ E.W ops sl κ d k = true) : (Code.region id ops true).wp P Q a w:=by
 simp only [anyT,gNs_eq,gBs_eq,Bool.and_eq_true] at h
 refine wp_region_any hmix ?_
 have hl : (ops.toList.map depM).length = ops.size:=by simp
 rw [hl] at h
 refine wpAnyR.any (goAny_ok hΓ h.1 hQp ops.size 0 ⟨by simp,fun j=>?_⟩ ⟨hm.m.drew,hm.size,hm.slots,hm.defers⟩ hQ h.2)
 rw [Nat.zero_testBit]
 rcases Nat.lt_or_ge j ops.size with h' | h' <;> simp [h']
theorem regT_ok {P : Program} {Γ : EnvT} (hΓ : EnvTOk P Γ) {E : Ent} {id : Nat} {ops : Array Oper} {k : Kc} {Q : Exit -> Act -> World -> Prop} {sg : Sig} {κ : Kn} {ρ : Vl} {d : Ds} {sl : List DV} {a : Act} {w : World} (hm : Sm E sg κ ρ d sl a w)
  (hQ : ∀ a w,AtD E sg κ ρ k a w -> Q .normal a w) (h : runT P Γ E.W ops 0 ops.toList sl κ d k = true) : (Code.region id ops false).wp P Q a w:=by
 refine wp_region ?_
 have:=runT_ok hΓ ops.toList 0 (fun j=>by simp) hm hQ h
 rw [List.range_eq_range']
 simpa using this
end
end Vx
