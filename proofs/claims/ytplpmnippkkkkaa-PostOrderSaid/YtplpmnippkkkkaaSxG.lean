/- Every operation as a request; a step of the walk. No Go text in sight. -/
import Derived.Test.YtplpmnippkkkkaaSxR
namespace Go.Proofs.Ytplpmnippkkkkaa.Sx
open Go
set_option linter.unusedVariables false
set_option linter.unusedSimpArgs false

abbrev Spec := Nat → List SV → Req
abbrev Env := FuncId → Option Spec
/-- a function's contract holds -/
def SpecOk (P : Program) (f : FuncId) (sp : Spec) : Prop :=
  ∀ (μ : Mu) (h : Nat → Option Blk) (w : World) (base : Nat) (args : List SV) (vals : List Value), HeapM μ h w → AllV μ args vals → (∀ n ∈ freshN base, μ n = none) → ∀ K : Res → Prop, (sp base args).pre h K →
    Calls P f vals.toArray w fun e w' => ∃ v μ' r, e = .returned v ∧ K r ∧ Eff μ μ' h w base (sp base args).wr r v w'
def Callable (P : Program) (f : FuncId) : Prop := ∃ fn, P.funcs[f]? = some fn ∧ fn.body.isNone = false ∧ (fn.name == "runtime.NumGoroutine") = false
def EnvOk (P : Program) (Γ : Env) : Prop := ∀ f sp, Γ f = some sp → Callable P f ∧ SpecOk P f sp

def evS (slots : List SV) : Operand → SV
  | .tmp t => slots.getD t .u
  | .const v => constSV v
  | .func f => .s (.c (.fn f))
  | .global _ => .u
theorem evS_ok {w0 : World} {I : Nat → Prop} {μ : Mu} {s : St} {a : Act} {w : World} (hm : Models w0 I μ s a w) (x : Operand) : (evS s.slots x).ok μ (a.eval x) := by
  cases x with
  | tmp t =>
    simp only [evS, Act.eval]
    cases h : s.slots[t]? with
    | none => simp [List.getD, h]; trivial
    | some y =>
      obtain ⟨v, hv, hok⟩ := hm.slots t y h
      simp [List.getD, h, hv]
      exact hok
  | const v => exact constSV_ok μ v
  | func f => rfl
  | global g => trivial

def binOut (P : Program) (op : BinOp) (t : TypeId) (x y : SV) : Out SV :=
  match x.int?, y.int? with
  | some (k, a, ca), some (k', b, cb) => intOut op k k' a b ca cb
  | _, _ => match x.bool?, y.bool? with
    | some (a, ca), some (b, cb) => match P.underlying t with
      | some .bool => boolOut op a b (ca && cb)
      | _ => .fail
    | _, _ => match x.ptr?, y.ptr? with
      | some a, some b => match P.underlying t with
        | some (.pointer _) => ptrOut op a b
        | _ => .fail
      | _, _ => match x.agg?, y.agg? with
        | some xs, some ys => eqOut P op t xs ys
        | _, _ => match x.str?, y.str? with
          | some a, some b => match P.underlying t with
            | some .string => strEq op a b
            | _ => .fail
          | _, _ => .fail
theorem bin_ok {μ : Mu} {P : Program} {w : World} {K : SV → Prop} {op : BinOp} {t : TypeId} {xo yo : Operand} {x y : SV} {u v : Value} (hx : x.ok μ u) (hy : y.ok μ v) (h : (binOut P op t x y).wp K) :
    ∃ z sv, (do eqGuard op t xo yo u v; binOp op t u v).run P w = .ok z w ∧ K sv ∧ sv.ok μ z := by
  unfold binOut at h
  split at h
  · rename_i k a ca k' b cb ha hb
    have e1 := SV.int_ok ha hx
    have e2 := SV.int_ok hb hy
    subst e1; subst e2
    obtain ⟨z, sv, h1, h2, h3⟩ := int_out_ok (μ := μ) (P := P) (w := w) (t := t) h
    exact ⟨z, sv, by rw [eqGuard_at_int]; simpa using h1, h2, h3⟩
  · split at h
    · rename_i a ca b cb ha hb
      have e1 := SV.bool_ok ha hx
      have e2 := SV.bool_ok hb hy
      subst e1; subst e2
      split at h
      · rename_i hu
        obtain ⟨z, sv, h1, h2, h3⟩ := bool_out_ok (μ := μ) (P := P) (w := w) (t := t) hu h
        exact ⟨z, sv, by rw [eqGuard_at_bool]; simpa using h1, h2, h3⟩
      · exact h.elim
    · split at h
      · rename_i a b ha hb
        have e1 := SV.ptr_ok ha hx
        have e2 := SV.ptr_ok hb hy
        split at h
        · rename_i e hu
          obtain ⟨z, sv, h1, h2, h3⟩ := ptr_out_ok (μ := μ) (P := P) (w := w) (t := t) hu e1 e2 h
          refine ⟨z, sv, ?_, h2, h3⟩
          have hp : ∃ p, u = .pointer p := by
            cases a
            · exact ⟨none, by simpa using e1⟩
            · obtain ⟨p, hp⟩ := (by simpa using e1 : ∃ p, u = .pointer (some p)); exact ⟨some p, hp⟩
          obtain ⟨p, rfl⟩ := hp
          rw [eqGuard_at_pointer]
          simpa using h1
        · exact h.elim
      · split at h
        · rename_i xs ys ha hb
          obtain ⟨us, rfl, hxa⟩ := SV.agg_ok ha hx
          obtain ⟨vs, rfl, hya⟩ := SV.agg_ok hb hy
          exact eq_ok hxa hya h
        · split at h
          · rename_i a b ha hb
            have e1 := SV.str_ok ha hx
            have e2 := SV.str_ok hb hy
            subst e1; subst e2
            split at h
            · rename_i hu
              obtain ⟨z, sv, h1, h2, h3⟩ := str_out_ok (μ := μ) (P := P) (w := w) (t := t) hu h
              exact ⟨z, sv, by rw [eqGuard_at_string]; simpa using h1, h2, h3⟩
            · exact h.elim
          · exact h.elim

/-- a slice against nil -/
def isNilC : Operand → Bool
  | .const (.slice none 0 0) => true
  | _ => false
def capS : SV → Option Nat
  | .s (.c (.sli _ _ _ _ _ c _)) => some c
  | .s (.c (.own _ _ c _)) => some c
  | .s (.c .nos) => some 0
  | _ => none
def nilOut (op : BinOp) (x : SV) : Out SV :=
  match capS x with
  | some c => match op with
    | .eql => .all (fun b : Bool => b = true → c = 0) ⟨false, fun h => by cases h⟩ fun b => .ret (one (.boo b))
    | .neq => .all (fun b : Bool => b = false → c = 0) ⟨true, fun h => by cases h⟩ fun b => .ret (one (.boo b))
    | _ => .fail
  | none => .fail
theorem capS_ok {μ : Mu} {x : SV} {u : Value} {c : Nat} (h : capS x = some c) (hx : x.ok μ u) : ∃ a n, u = .slice a n c ∧ (a = none → c = 0) := by
  unfold capS at h
  split at h
  · cases h
    obtain ⟨l, a, _, rfl, ha, _⟩ := hx
    refine ⟨a, _, rfl, fun e => ?_⟩
    rcases Nat.eq_zero_or_pos c with h0 | h0
    · exact h0
    · rw [ha h0] at e; cases e
  · cases h
    obtain ⟨l, a, _, rfl, he, ha, _⟩ := hx
    refine ⟨a, _, he, fun e => ?_⟩
    rcases Nat.eq_zero_or_pos c with h0 | h0
    · exact h0
    · rw [ha h0] at e; cases e
  · cases h
    obtain ⟨a, rfl⟩ := hx
    exact ⟨a, 0, rfl, fun _ => rfl⟩
  · cases h
theorem isNil_ok {μ : Mu} {o : Operand} (h : isNilC o = true) (ρ : Operand → Value) (hρ : ∀ v, ρ (.const v) = v) : ρ o = .slice none 0 0 := by
  unfold isNilC at h
  split at h
  · exact hρ _
  · cases h
theorem nil_ok {μ : Mu} {P : Program} {w : World} {K : SV → Prop} {op : BinOp} {t el : TypeId} {xo yo : Operand} {x : SV} {u : Value} (hu : P.underlying t = some (.slice el)) (hx : x.ok μ u) (h : (nilOut op x).wp K) :
    ∃ z sv, (do eqGuard op t xo yo u (.slice none 0 0); binOp op t u (.slice none 0 0)).run P w = .ok z w ∧ K sv ∧ sv.ok μ z := by
  unfold nilOut at h
  split at h
  · rename_i c hc
    obtain ⟨a, n, rfl, ha⟩ := capS_ok hc hx
    have hd : ∀ d : Nat, (Op.equalIn (d + 1) t (.slice a n c) (.slice none 0 0)).run P w = .ok a.isNone w := fun d => by
      cases a <;> simp [Op.equalIn, run_underlying hu]
    have he : (Op.equal t (.slice a n c) (.slice none 0 0)).run P w = .ok a.isNone w := hd 9999
    cases op <;> simp only [] at h <;> try exact h.elim
    · refine ⟨.bool a.isNone, _, by rw [eqGuard_at_slice]; simp [binOp, he], h a.isNone (fun e => ha (by simpa using e)), rfl⟩
    · refine ⟨.bool (!a.isNone), _, by rw [eqGuard_at_slice]; simp [binOp, he], h (!a.isNone) (fun e => ha (by simpa using e)), rfl⟩
  · exact h.elim
def slcT (P : Program) (t : TypeId) : Bool :=
  match P.underlying t with
  | some (.slice _) => true
  | _ => false

def pickReq (c a b : SV) : Req :=
  match c.bool? with
  | some (q, f) => match f with
    | true => match q with
      | true => Req.pure (.ret a)
      | false => Req.pure (.ret b)
    | false => Req.pure (.brB q (.ret a) (.ret b))
  | none => Req.fail
def callReq (P : Program) (Γ : Env) (base : Nat) (ev : Operand → SV) (c : Call) : Req :=
  match c.callee with
  | .builtin .len => match c.args.toList, c.argTypes.toList with
    | [x], [t] => Req.pure (lenOut P t (ev x))
    | _, _ => Req.fail
  | .builtin .min => match c.args.toList with
    | x :: ys => Req.pure (minOut false (ev x) (ys.map ev))
    | _ => Req.fail
  | .builtin .max => match c.args.toList with
    | x :: ys => Req.pure (minOut true (ev x) (ys.map ev))
    | _ => Req.fail
  | .builtin .append => match c.args.toList, c.argTypes.toList with
    | [x, y], [t, tx] => appendReq P base t tx (ev x) (ev y)
    | _, _ => Req.fail
  | .value f => match ev f with
    | .s (.c (.fn g)) => match Γ g with
      | some sp => sp base (c.args.toList.map ev)
      | none => Req.fail
    | _ => Req.fail
  | _ => Req.fail
def opReq (P : Program) (Γ : Env) (base : Nat) (ev : Operand → SV) : Op → Req
  | .move x => Req.pure (.ret (ev x))
  | .assign x => Req.pure (.ret (ev x))
  | .pick c a b => pickReq (ev c) (ev a) (ev b)
  | .alloc t => allocReq P base t
  | .box t x => newReq base t (ev x).cells?
  | .build t parts => Req.pure (buildOut P t (parts.toList.map fun p => (p.1, ev p.2)))
  | .buildSlice t len parts => bsReq P base t len (parts.toList.map fun p => (p.1, ev p.2))
  | .makeSlice t l c => msReq P base t (ev l) (ev c)
  | .load t a => loadReq P t (ev a)
  | .store t a x => storeReq P t (ev a) (ev x)
  | .nilCheck x => match (ev x).ptr? with
    | some true => Req.pure (.ret (ev x))
    | _ => Req.fail
  | .binOp op t x y _ => if isNilC y && slcT P t then Req.pure (nilOut op (ev x)) else Req.pure (binOut P op t (ev x) (ev y))
  | .unOp op _ x => Req.pure (unOut op (ev x))
  | .convert s d x => if strRow P s d (ev x) then toStrReq (ev x) else Req.pure (convOut P s d (ev x))
  | .slice t x lo hi mx => Req.pure (sliceOut P t (ev x) (lo.map ev) (hi.map ev) (mx.map ev))
  | .fieldAddr s x f => Req.pure (fieldOut P s (ev x) f)
  | .field s x f => Req.pure (fieldV P s (ev x) f)
  | .indexAddr t x i => Req.pure (indexOut P t (ev x) (ev i))
  | .index t x i => Req.pure (indexV P t (ev x) (ev i))
  | .extract x i => Req.pure (extractOut (ev x) i)
  | .call c => callReq P Γ base ev c
  | _ => Req.fail

/-- what a step comes to, at a frame and a world -/
def Came (μ : Mu) (h : Nat → Option Blk) (w : World) (base : Nat) (wr : List Nat) (dst : Option Tmp) (a : Act) (K : Res → Prop) (a' : Act) (w' : World) : Prop :=
  ∃ v μ' r, a' = a.put dst v ∧ K r ∧ Eff μ μ' h w base wr r v w'
theorem step_value {P : Program} {μ : Mu} {h : Nat → Option Blk} {w : World} {base : Nat} {r : Req} {x : Sem Value} {o : Oper} {a : Act} {Q : Exit → Act → World → Prop} {K : Res → Prop}
    (hs : Snd P μ h w base r x) (he : execOp a.eval o = (do pure (.value (← x)))) (hk : r.pre h K) : o.wp P a w (Came μ h w base r.wr o.dst a K) Q := by
  obtain ⟨v, w', μ', res, h1, h2, h3⟩ := hs K hk
  unfold Oper.wp
  rw [he]
  simp only [Sem.run_bind, h1, Result.andThen_ok, Sem.run_pure, Oper.upon_value]
  exact ⟨v, μ', res, rfl, h2, h3⟩
theorem step_unit {P : Program} {μ : Mu} {h : Nat → Option Blk} {w : World} {base : Nat} {r : Req} {x : Sem Unit} {o : Oper} {a : Act} {Q : Exit → Act → World → Prop} {K : Res → Prop}
    (hs : SndU P μ h w base r x) (he : execOp a.eval o = (do x; pure .skip)) (hk : r.pre h K) : o.wp P a w (Came μ h w base r.wr o.dst a K) Q := by
  obtain ⟨w', μ', res, h1, h2, h3⟩ := hs K hk
  unfold Oper.wp
  rw [he]
  simp only [Sem.run_bind, h1, Result.andThen_ok, Sem.run_pure, Oper.upon_skip]
  exact ⟨undef, μ', res, rfl, h2, h3⟩
theorem allV_map {μ : Mu} {ev : Operand → SV} {ρ : Operand → Value} (h : ∀ x, (ev x).ok μ (ρ x)) : ∀ l : List Operand, AllV μ (l.map ev) (l.map ρ)
  | [] => trivial
  | x :: l => ⟨h x, allV_map h l⟩
theorem allP_map {μ : Mu} {ev : Operand → SV} {ρ : Operand → Value} (h : ∀ x, (ev x).ok μ (ρ x)) : ∀ l : List (Nat × Operand), AllP μ (l.map fun p => (p.1, ev p.2)) (l.map fun p => (p.1, ρ p.2))
  | [] => trivial
  | x :: l => ⟨rfl, h x.2, allP_map h l⟩
theorem optOk_map {μ : Mu} {ev : Operand → SV} {ρ : Operand → Value} (h : ∀ x, (ev x).ok μ (ρ x)) : ∀ o : Option Operand, optOk μ (o.map ev) (o.map ρ)
  | none => trivial
  | some x => h x

/-- a step of a request is a step of the model -/
theorem op_sound {P : Program} {Γ : Env} (hΓ : EnvOk P Γ) {μ : Mu} {h : Nat → Option Blk} {w : World} {base : Nat} {ev : Operand → SV} {o : Oper} {a : Act} {Q : Exit → Act → World → Prop} {K : Res → Prop}
    (hm : HeapM μ h w) (hev : ∀ x, (ev x).ok μ (a.eval x)) (hf : ∀ n ∈ freshN base, μ n = none) (hk : (opReq P Γ base ev o.op).pre h K) :
    o.wp P a w (Came μ h w base (opReq P Γ base ev o.op).wr o.dst a K) Q := by
  obtain ⟨dst, op, type, pos, after, guard⟩ := o
  have fail : ∀ {R : Prop}, Req.fail.pre h K → R := fun hh => hh.elim
  cases op <;> simp only [opReq] at hk ⊢ <;> try exact fail hk
  case move x =>
    refine step_value (x := pure (a.eval x)) (Snd.pure fun K' hK => ⟨_, _, rfl, hK, hev x⟩) ?_ hk
    simp [execOp]
  case assign x =>
    refine step_value (x := pure (a.eval x)) (Snd.pure fun K' hK => ⟨_, _, rfl, hK, hev x⟩) ?_ hk
    simp [execOp]
  case pick c x y =>
    unfold pickReq at hk ⊢
    split at hk
    · rename_i q f hc
      have e := SV.bool_ok hc (hev c)
      cases f
      · refine step_value (x := pure (if q then a.eval x else a.eval y)) (Snd.pure fun K' hK => ?_) ?_ hk
        · cases q
          · exact ⟨_, _, rfl, hK.2 rfl, hev y⟩
          · exact ⟨_, _, rfl, hK.1 rfl, hev x⟩
        · simp [execOp, e, asBool]
      · cases q
        · refine step_value (x := pure (a.eval y)) (Snd.pure fun K' hK => ⟨_, _, rfl, hK, hev y⟩) ?_ hk
          simp [execOp, e, asBool]
        · refine step_value (x := pure (a.eval x)) (Snd.pure fun K' hK => ⟨_, _, rfl, hK, hev x⟩) ?_ hk
          simp [execOp, e, asBool]
    · exact fail hk
  case alloc t => exact step_value (alloc_ok hf) (by simp only [execOp]) hk
  case box t x =>
    refine step_value (x := Instr.box t (a.eval x)) ?_ (by simp only [execOp]) hk
    exact new_ok hf fun l hl => SV.cells_ok hl (hev x)
  case build t parts =>
    refine step_value (x := Instr.build t (parts.map fun (i, x) => (i, a.eval x))) (Snd.pure fun K' hK => ?_) (by simp only [execOp]) hk
    obtain ⟨z, sv, h1, h2, h3⟩ := build_ok (w := w) (allP_map hev parts.toList) hK
    refine ⟨z, sv, ?_, h2, h3⟩
    rw [← h1]
    congr 2
    apply Array.toList_inj.1
    simp
  case load t x => exact step_value (load_ok hm (hev x)) (by simp only [execOp]) hk
  case store t x y => exact step_unit (store_ok hm (hev x) (hev y)) (by simp only [execOp]) hk
  case nilCheck x =>
    split at hk
    · rename_i hp
      obtain ⟨p, e⟩ := (by simpa using SV.ptr_ok hp (hev x) : ∃ p, a.eval x = .pointer (some p))
      refine step_value (x := pure (a.eval x)) (Snd.pure fun K' hK => ⟨_, _, rfl, hK, hev x⟩) ?_ hk
      simp [execOp, e]
    · exact fail hk
  case binOp op t x y t2 =>
    split at hk
    · rename_i hc
      rw [if_pos hc]
      simp only [Bool.and_eq_true] at hc
      have hy : a.eval y = .slice none 0 0 := isNil_ok (μ := μ) hc.1 a.eval fun v => rfl
      have hu : ∃ el, P.underlying t = some (.slice el) := by
        have := hc.2
        unfold slcT at this
        split at this
        · rename_i el hu; exact ⟨el, hu⟩
        · cases this
      obtain ⟨el, hu⟩ := hu
      refine step_value (x := do eqGuard op t x y (a.eval x) (a.eval y); Go.binOp op t (a.eval x) (a.eval y)) (Snd.pure fun K' hK => ?_) (by simp only [execOp]) hk
      rw [hy]
      exact nil_ok (xo := x) (yo := y) hu (hev x) hK
    · rename_i hc
      rw [if_neg hc]
      exact step_value (Snd.pure fun K' hK => bin_ok (xo := x) (yo := y) (hev x) (hev y) hK) (by simp only [execOp]) hk
  case unOp op t x => exact step_value (Snd.pure fun K' hK => un_ok (hev x) hK) (by simp only [execOp]) hk
  case convert s d x =>
    split at hk
    · rename_i hc
      rw [if_pos hc]
      exact step_value (toStr_ok hc hm (hev x)) (by simp only [execOp]) hk
    · rename_i hc
      rw [if_neg hc]
      exact step_value (Snd.pure fun K' hK => conv_ok (hev x) hK) (by simp only [execOp]) hk
  case buildSlice t len parts =>
    refine step_value (x := Instr.buildSlice t len (parts.map fun (i, x) => (i, a.eval x))) (bs_ok hf ?_) (by simp only [execOp]) hk
    have := allP_map hev parts.toList
    simpa using this
  case makeSlice t l c => exact step_value (ms_ok hf (hev l) (hev c)) (by simp only [execOp]) hk
  case slice t x lo hi mx => exact step_value (Snd.pure fun K' hK => slice_ok (hev x) (optOk_map hev lo) (optOk_map hev hi) (optOk_map hev mx) hK) (by simp only [execOp]) hk
  case fieldAddr s x f => exact step_value (Snd.pure fun K' hK => field_ok (hev x) hK) (by simp only [execOp]) hk
  case field s x f => exact step_value (Snd.pure fun K' hK => fieldV_ok (hev x) hK) (by simp only [execOp]) hk
  case indexAddr t x i => exact step_value (Snd.pure fun K' hK => index_ok (hev x) (hev i) hK) (by simp only [execOp]) hk
  case index t x i => exact step_value (Snd.pure fun K' hK => indexV_ok (hev x) (hev i) hK) (by simp only [execOp]) hk
  case extract x i => exact step_value (Snd.pure fun K' hK => extract_ok (hev x) hK) (by simp only [execOp]) hk
  case call c =>
    obtain ⟨callee, args, argTypes⟩ := c
    unfold callReq at hk ⊢
    cases callee with
    | invoke r m => exact fail hk
    | builtin b =>
      cases b <;> simp only [] at hk ⊢ <;> try exact fail hk
      case len =>
        split at hk
        · rename_i x t ha ht
          obtain ⟨args⟩ := args
          obtain ⟨argTypes⟩ := argTypes
          simp only [] at ha ht
          subst ha; subst ht
          refine step_value (x := Builtin.len_ #[t] type #[a.eval x]) (Snd.pure fun K' hK => len_ok (hev x) hK) ?_ hk
          simp [execOp, resolve, invoke, builtin]
        · exact fail hk
      case min =>
        split at hk
        · rename_i x ys ha
          obtain ⟨args⟩ := args
          simp only [] at ha
          subst ha
          refine step_value (x := (ys.map a.eval).foldlM Builtin.min2 (a.eval x)) (Snd.pure fun K' hK => ?_) ?_ hk
          · have := min_ok (P := P) (w := w) false (hev x) (allV_map hev ys) hK
            simpa using this
          · simp [execOp, resolve, invoke, builtin, Builtin.min_]
        · exact fail hk
      case max =>
        split at hk
        · rename_i x ys ha
          obtain ⟨args⟩ := args
          simp only [] at ha
          subst ha
          refine step_value (x := (ys.map a.eval).foldlM Builtin.max2 (a.eval x)) (Snd.pure fun K' hK => ?_) ?_ hk
          · have := min_ok (P := P) (w := w) true (hev x) (allV_map hev ys) hK
            simpa using this
          · simp [execOp, resolve, invoke, builtin, Builtin.max_]
        · exact fail hk
      case append =>
        split at hk
        · rename_i x y t tx ha ht
          obtain ⟨args⟩ := args
          obtain ⟨argTypes⟩ := argTypes
          simp only [] at ha ht
          subst ha; subst ht
          refine step_value (x := Builtin.append_ #[t, tx] type #[a.eval x, a.eval y]) (append_ok hm hf (hev x) (hev y)) ?_ hk
          simp [execOp, resolve, invoke, builtin]
        · exact fail hk
    | value f =>
      simp only [] at hk ⊢
      split at hk
      · rename_i g hg
        split at hk
        · rename_i sp hsp
          obtain ⟨⟨fn, hfn, hbody, hname⟩, hok⟩ := hΓ g sp hsp
          have e : a.eval f = .func (.func g) #[] #[] := by
            have := hev f
            rw [hg] at this
            exact this
          have hc := hok μ h w base (args.toList.map ev) (args.toList.map a.eval) hm (allV_map hev _) hf K hk
          unfold Oper.wp
          have hrun : (execOp a.eval { dst := dst, op := Op.call { callee := .value f, args := args, argTypes := argTypes }, type := type, pos := pos, after := after, guard := guard }).run P w = .ok (.enter g (args.map a.eval)) w := by
            have hne : ¬ fn.name = "runtime.NumGoroutine" := by simpa using hname
            have hnb : ¬ fn.body = none := fun hh => by rw [hh] at hbody; cases hbody
            simp [execOp, resolve, invoke, e, Deferred.ofValue, callFunc, hfn, hnb, hne]
          rw [hrun, Oper.upon_enter]
          have hargs : (args.toList.map a.eval).toArray = args.map a.eval := by
            apply Array.toList_inj.1
            simp
          rw [hargs] at hc
          refine hc.mono fun e' w' he => ?_
          obtain ⟨v, μ', r, rfl, hr, heff⟩ := he
          exact ⟨v, μ', r, rfl, hr, heff⟩
        · exact fail hk
      · exact fail hk
end Go.Proofs.Ytplpmnippkkkkaa.Sx
