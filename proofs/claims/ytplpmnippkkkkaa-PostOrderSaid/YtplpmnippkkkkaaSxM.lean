/- Contracts whose answers are written out where all that they are told is: for closed calls. No Go text in sight. -/
import Derived.Test.YtplpmnippkkkkaaSxL
namespace Go.Proofs.Ytplpmnippkkkkaa.Sx
open Go
set_option linter.unusedVariables false
set_option linter.unusedSimpArgs false
def litC : SC → SC
  | .int k n => .num k n
  | .boo b => .tru b
  | c => c
def litL : List SC → List SC
  | [] => []
  | c :: cs => litC c :: litL cs
def lit1 : S1 → S1
  | .c c => .c (litC c)
  | .a cs => .a (litL cs)
def litT : List S1 → List S1
  | [] => []
  | c :: cs => lit1 c :: litT cs
def litV : SV → SV
  | .s x => .s (lit1 x)
  | .t xs => .t (litT xs)
  | .u => .u
theorem litC_ok {μ : Mu} {c : SC} {v : Value} (h : c.ok μ v) : (litC c).ok μ v := by cases c <;> exact h
theorem litL_ok {μ : Mu} : ∀ {cs : List SC} {vs : List Value}, All2 (SC.ok μ) cs vs → All2 (SC.ok μ) (litL cs) vs
  | [], [], _ => trivial
  | _ :: _, _ :: _, h => ⟨litC_ok h.1, litL_ok h.2⟩
  | [], _ :: _, h => h.elim
  | _ :: _, [], h => h.elim
theorem lit1_ok {μ : Mu} {c : S1} {v : Value} (h : c.ok μ v) : (lit1 c).ok μ v := by
  cases c with
  | c c => exact litC_ok (c := c) h
  | a cs => obtain ⟨vs, h1, h2⟩ := h; exact ⟨vs, h1, litL_ok h2⟩
theorem litT_ok {μ : Mu} : ∀ {cs : List S1} {vs : List Value}, AllS (S1.ok μ) cs vs → AllS (S1.ok μ) (litT cs) vs
  | [], [], _ => trivial
  | _ :: _, _ :: _, h => ⟨lit1_ok h.1, litT_ok h.2⟩
  | [], _ :: _, h => h.elim
  | _ :: _, [], h => h.elim
theorem litV_ok {μ : Mu} {x : SV} {v : Value} (h : x.ok μ v) : (litV x).ok μ v := by
  cases x with
  | s x => exact lit1_ok (c := x) h
  | t xs => obtain ⟨vs, h1, h2⟩ := h; exact ⟨vs, h1, litT_ok h2⟩
  | u => trivial
def Out.lit : Out SV → Out SV
  | .ret a => .ret (litV a)
  | .fail => .fail
  | .eqn e f => (f e).lit
  | .br c x y => .br c x.lit y.lit
  | .brB b x y => match b with
    | true => x.lit
    | false => y.lit
  | .ast p k => .ast p k.lit
  | .fact p h k => .fact p h k.lit
  | .all φ ne f => .all φ ne fun x => (f x).lit
theorem Out.lit_wp {K : SV → Prop} : ∀ {o : Out SV}, o.lit.wp K → o.wp fun r => K (litV r)
  | .ret a, h => h
  | .fail, h => h
  | .eqn e f, h => fun x hx => by subst hx; exact Out.lit_wp h
  | .br c x y, h => ⟨fun hc => Out.lit_wp (h.1 hc), fun hc => Out.lit_wp (h.2 hc)⟩
  | .brB b x y, h => by
    cases b
    · exact ⟨fun e => (by cases e), fun _ => Out.lit_wp (o := y) h⟩
    · exact ⟨fun _ => Out.lit_wp (o := x) h, fun e => (by cases e)⟩
  | .ast p k, h => ⟨h.1, Out.lit_wp h.2⟩
  | .fact p hp k, h => fun hc => Out.lit_wp (h hc)
  | .all φ ne f, h => fun x hx => Out.lit_wp (h x hx)
def Con0.lit (c : Con0) : Con0 := { c with out := fun L => (c.out L).lit }
theorem Con0.lit_ok {P : Program} {f : FuncId} {c : Con0} (hc : SpecOk P f c.spec) : SpecOk P f c.lit.spec := by
  intro μ hh w base args vals hm ha hfr K hk
  have h1 : ∃ L, matchV c.pat args = some L := by
    cases hL : matchV c.pat args with
    | none => simp only [Con0.spec, Con0.lit, hL] at hk; exact hk.elim
    | some L => exact ⟨L, rfl⟩
  obtain ⟨L, hL⟩ := h1
  have e1 : c.lit.spec base args = Req.pure (preO c.pre L (c.out L).lit) := by simp only [Con0.spec, Con0.lit, hL]
  have e2 : c.spec base args = Req.pure (preO c.pre L (c.out L)) := by simp only [Con0.spec, hL]
  rw [e1] at hk ⊢
  obtain ⟨p1, p2⟩ := preO_ok (Out.wp_bind.1 hk)
  have hk2 : (c.spec base args).pre hh (fun r => K ⟨litV r.v, r.ws, r.ns⟩) := by
    rw [e2]
    refine Out.wp_bind.2 ?_
    cases hp : c.pre with
    | none => exact Out.lit_wp p2
    | some p => exact ⟨⟨by rw [hp] at p1; exact p1⟩, Out.lit_wp p2⟩
  refine (hc μ hh w base args vals hm ha hfr _ hk2).mono fun e w' he => ?_
  obtain ⟨v, μ', r, rfl, hr, hE⟩ := he
  rw [e2] at hE
  exact ⟨v, μ', ⟨litV r.v, r.ws, r.ns⟩, rfl, hr, { hE with val := litV_ok hE.val }⟩
end Go.Proofs.Ytplpmnippkkkkaa.Sx
