/- Rooms: what the document tells. No condition. Answers of closed calls, reckoned once. No condition. -/
import Derived.Test.YtcaipfdnadlkdaaRm5
namespace Go.Proofs.Ytcaipfdnadlkdaa.Sx
open Go Go.RowKit
set_option linter.unusedVariables false
set_option linter.unusedSimpArgs false
def Out.litR : Out Res → Out Res
  | .ret a => .ret ⟨litV a.v, a.ws, a.ns⟩
  | .fail => .fail
  | .eqn e f => (f e).litR
  | .br c x y => .br c x.litR y.litR
  | .brB b x y => match b with
    | true => x.litR
    | false => y.litR
  | .ast p k => .ast p k.litR
  | .fact p h k => .fact p h k.litR
  | .all φ ne f => .all φ ne fun x => (f x).litR
theorem Out.litR_wp {K : Res → Prop} : ∀ {o : Out Res}, o.litR.wp K → o.wp fun r => K ⟨litV r.v, r.ws, r.ns⟩
  | .ret a, h => h
  | .fail, h => h
  | .eqn e f, h => fun x hx => by subst hx; exact Out.litR_wp h
  | .br c x y, h => ⟨fun hc => Out.litR_wp (h.1 hc), fun hc => Out.litR_wp (h.2 hc)⟩
  | .brB b x y, h => by
    cases b
    · exact ⟨fun e => (by cases e), fun _ => Out.litR_wp (o := y) h⟩
    · exact ⟨fun _ => Out.litR_wp (o := x) h, fun e => (by cases e)⟩
  | .ast p k, h => ⟨h.1, Out.litR_wp h.2⟩
  | .fact p hp k, h => fun hc => Out.litR_wp (h hc)
  | .all φ ne f, h => fun x hx => Out.litR_wp (h x hx)
def litS (sp : Spec) : Spec := fun base args => ⟨(sp base args).rd, (sp base args).wr, fun bl => ((sp base args).act bl).litR⟩
theorem litS_ok {P : Program} {f : FuncId} {sp : Spec} (hs : SpecOk P f sp) : SpecOk P f (litS sp) := by
  intro μ hh w base args vals hm ha hfr K hk
  refine (hs μ hh w base args vals hm ha hfr (fun r => K ⟨litV r.v, r.ws, r.ns⟩) (Out.litR_wp hk)).mono fun e w' he => ?_
  obtain ⟨v, μ', r, rfl, hr, hE⟩ := he
  exact ⟨v, μ', ⟨litV r.v, r.ws, r.ns⟩, rfl, hr, { hE with val := litV_ok hE.val }⟩
def okRC : Con0 := { pat := [], out := fun _ => .ret (one (.boo true)) }
def envK0 : List (FuncId × Spec) := [(42, litS joinRmC.spec), (43, litS aliveRmC.spec), (44, litS tickRmC.spec), (45, litS leaveRmC.spec), (46, litS kickRmC.spec), (47, litS haveRmC.spec), (51, litS goodRmC.spec), (19, litS comC.spec)]
def envK1 : List (FuncId × Spec) := (41, litS okRC.spec) :: envK0
def envK2 : List (FuncId × Spec) := [(41, litS okRC.spec), (42, joinRmC.spec), (43, aliveRmC.spec), (44, tickRmC.spec), (45, leaveRmC.spec), (46, kickRmC.spec), (47, haveRmC.spec), (51, goodRmC.spec), (19, comC.spec)]
theorem envK0_ok : EnvOk Try.prog (envL envK0) := (envL_cons ⟨_, Try.func42, rfl, by kernel_rfl⟩ (litS_ok joinRm_ok) (envL_cons ⟨_, Try.func43, rfl, by kernel_rfl⟩ (litS_ok aliveRm_ok) (envL_cons ⟨_, Try.func44, rfl, by kernel_rfl⟩ (litS_ok tickRm_ok) (envL_cons ⟨_, Try.func45, rfl, by kernel_rfl⟩ (litS_ok leaveRm_ok) (envL_cons ⟨_, Try.func46, rfl, by kernel_rfl⟩ (litS_ok kickRm_ok) (envL_cons ⟨_, Try.func47, rfl, by kernel_rfl⟩ (litS_ok haveRm_ok) (envL_cons ⟨_, Try.func51, rfl, by kernel_rfl⟩ (litS_ok goodRm_ok) (envL_cons ⟨_, Try.func19, rfl, by kernel_rfl⟩ (litS_ok com_ok) (envL_nil _)))))))))
set_option maxHeartbeats 20000000 in
set_option maxRecDepth 100000 in
theorem awake_vc : okRC.vc Try.prog (envL envK0) noCtl Try.f41 [] := of_eq (b := ((1 : Int) = (1 : Int) ∧ false = false ∧ (0 : Int) = (0 : Int) ∧ (0 : Int) = (0 : Int) ∧ (0 : Int) = (0 : Int) ∧ (0 : Int) = (0 : Int) → (false = false ∧ false = false ∧ false = false ∧ false = false ∧ false = false ∧ false = false ∧ false = false ∧ false = false ∧ (0 : Int) = (0 : Int) ∧ (0 : Int) = (0 : Int) ∧ (0 : Int) = (0 : Int) ∧ (0 : Int) = (0 : Int) ∧ (0 : Int) = (0 : Int) ∧ (0 : Int) = (0 : Int) ∧ (0 : Int) = (0 : Int) ∧ (0 : Int) = (0 : Int) → true = true) ∧ (¬(false = false ∧ false = false ∧ false = false ∧ false = false ∧ false = false ∧ false = false ∧ false = false ∧ false = false ∧ (0 : Int) = (0 : Int) ∧ (0 : Int) = (0 : Int) ∧ (0 : Int) = (0 : Int) ∧ (0 : Int) = (0 : Int) ∧ (0 : Int) = (0 : Int) ∧ (0 : Int) = (0 : Int) ∧ (0 : Int) = (0 : Int) ∧ (0 : Int) = (0 : Int)) → false = true)) ∧ (¬((1 : Int) = (1 : Int) ∧ false = false ∧ (0 : Int) = (0 : Int) ∧ (0 : Int) = (0 : Int) ∧ (0 : Int) = (0 : Int) ∧ (0 : Int) = (0 : Int)) → false = true)) (by kernel_rfl) (by decide)
set_option maxRecDepth 100000 in
theorem awake_ok : SpecOk Try.prog 41 okRC.spec := okRC.ok envK0_ok mixed (C := noCtl) Try.func41 rfl fun L h _ => by
  obtain rfl := fit_nil h
  exact awake_vc
end Go.Proofs.Ytcaipfdnadlkdaa.Sx

namespace Go.Proofs.Ytcaipfdnadlkdaa.Sx
open Go Go.RowKit
set_option linter.unusedVariables false
set_option linter.unusedSimpArgs false
universe u
noncomputable def forceN {α : Sort u} (x : Nat) (k : Nat → α) : α := Nat.rec (k 0) (fun m _ => k (Nat.succ m)) x
theorem forceN_eq {α : Sort u} (x : Nat) (k : Nat → α) : forceN x k = k x := by cases x <;> rfl
noncomputable def forceI {α : Sort u} (x : Int) (k : Int → α) : α := match x with
  | .ofNat n => forceN n fun n => k (.ofNat n)
  | .negSucc n => forceN n fun n => k (.negSucc n)
theorem forceI_eq {α : Sort u} (x : Int) (k : Int → α) : forceI x k = k x := by cases x <;> simp only [forceI, forceN_eq]
noncomputable def forceC {α : Sort u} (c : SC) (f : SC → α) : α := match c with
  | .int k n => forceI n fun n => f (.num k n)
  | .num k n => forceI n fun n => f (.num k n)
  | .boo b => match b with
    | true => f (.tru true)
    | false => f (.tru false)
  | .tru b => match b with
    | true => f (.tru true)
    | false => f (.tru false)
  | .own b n c q => forceN n fun n => f (.own b n c q)
  | c => f c
theorem forceC_eq {α : Sort u} (c : SC) (f : SC → α) : forceC c f = f (litC c) := by
  cases c <;> simp only [forceC, forceI_eq, forceN_eq, litC] <;> (rename_i b; cases b <;> rfl)
noncomputable def forceL {α : Sort u} : List SC → (List SC → α) → α
  | [], f => f []
  | c :: cs, f => forceC c fun c => forceL cs fun cs => f (c :: cs)
theorem forceL_eq {α : Sort u} : ∀ (l : List SC) (f : List SC → α), forceL l f = f (litL l)
  | [], _ => rfl
  | c :: cs, f => by simp only [forceL, forceC_eq, forceL_eq cs, litL]
noncomputable def force1 {α : Sort u} (c : S1) (f : S1 → α) : α := match c with
  | .c c => forceC c fun c => f (.c c)
  | .a cs => forceL cs fun cs => f (.a cs)
theorem force1_eq {α : Sort u} (c : S1) (f : S1 → α) : force1 c f = f (lit1 c) := by
  cases c <;> simp only [force1, forceC_eq, forceL_eq, lit1]
noncomputable def forceT {α : Sort u} : List S1 → (List S1 → α) → α
  | [], f => f []
  | c :: cs, f => force1 c fun c => forceT cs fun cs => f (c :: cs)
theorem forceT_eq {α : Sort u} : ∀ (l : List S1) (f : List S1 → α), forceT l f = f (litT l)
  | [], _ => rfl
  | c :: cs, f => by simp only [forceT, force1_eq, forceT_eq cs, litT]
noncomputable def forceV {α : Sort u} (c : SV) (f : SV → α) : α := match c with
  | .s x => force1 x fun x => f (.s x)
  | .t xs => forceT xs fun xs => f (.t xs)
  | .u => f .u
theorem forceV_eq {α : Sort u} (c : SV) (f : SV → α) : forceV c f = f (litV c) := by
  cases c <;> simp only [forceV, force1_eq, forceT_eq, litV]
noncomputable def forceIs {α : Sort u} : List Int → (List Int → α) → α
  | [], f => f []
  | c :: cs, f => forceI c fun c => forceIs cs fun cs => f (c :: cs)
theorem forceIs_eq {α : Sort u} : ∀ (l : List Int) (f : List Int → α), forceIs l f = f l
  | [], _ => rfl
  | c :: cs, f => by simp only [forceIs, forceI_eq, forceIs_eq cs]
noncomputable def forceB {α : Sort u} (b : Blk) (f : Blk → α) : α := match b with
  | .oints q l => forceIs l fun l => f (.oints q l)
  | b => f b
theorem forceB_eq {α : Sort u} (b : Blk) (f : Blk → α) : forceB b f = f b := by
  cases b <;> simp only [forceB, forceIs_eq]
noncomputable def forceBs {α : Sort u} : List Blk → (List Blk → α) → α
  | [], f => f []
  | c :: cs, f => forceB c fun c => forceBs cs fun cs => f (c :: cs)
theorem forceBs_eq {α : Sort u} : ∀ (l : List Blk) (f : List Blk → α), forceBs l f = f l
  | [], _ => rfl
  | c :: cs, f => by simp only [forceBs, forceB_eq, forceBs_eq cs]
noncomputable def Out.litF : Out Res → Out Res
  | .ret a => forceV a.v fun v => forceBs a.ns fun ns => .ret ⟨v, a.ws, ns⟩
  | .fail => .fail
  | .eqn e f => (f e).litF
  | .br c x y => .br c x.litF y.litF
  | .brB b x y => match b with
    | true => x.litF
    | false => y.litF
  | .ast p k => .ast p k.litF
  | .fact p h k => .fact p h k.litF
  | .all φ ne f => .all φ ne fun x => (f x).litF
theorem Out.litF_wp {K : Res → Prop} : ∀ {o : Out Res}, o.litF.wp K → o.wp fun r => K ⟨litV r.v, r.ws, r.ns⟩
  | .ret a, h => by
    unfold Out.litF at h
    rw [forceV_eq, forceBs_eq] at h
    exact h
  | .fail, h => h
  | .eqn e f, h => fun x hx => by subst hx; exact Out.litF_wp h
  | .br c x y, h => ⟨fun hc => Out.litF_wp (h.1 hc), fun hc => Out.litF_wp (h.2 hc)⟩
  | .brB b x y, h => by
    cases b
    · exact ⟨fun e => (by cases e), fun _ => Out.litF_wp (o := y) h⟩
    · exact ⟨fun _ => Out.litF_wp (o := x) h, fun e => (by cases e)⟩
  | .ast p k, h => ⟨h.1, Out.litF_wp h.2⟩
  | .fact p hp k, h => fun hc => Out.litF_wp (h hc)
  | .all φ ne f, h => fun x hx => Out.litF_wp (h x hx)
noncomputable def litFS (sp : Spec) : Spec := fun base args => ⟨(sp base args).rd, (sp base args).wr, fun bl => ((sp base args).act bl).litF⟩
theorem litFS_ok {P : Program} {f : FuncId} {sp : Spec} (hs : SpecOk P f sp) : SpecOk P f (litFS sp) := by
  intro μ hh w base args vals hm ha hfr K hk
  refine (hs μ hh w base args vals hm ha hfr (fun r => K ⟨litV r.v, r.ws, r.ns⟩) (Out.litF_wp hk)).mono fun e w' he => ?_
  obtain ⟨v, μ', r, rfl, hr, hE⟩ := he
  exact ⟨v, μ', ⟨litV r.v, r.ws, r.ns⟩, rfl, hr, { hE with val := litV_ok hE.val }⟩
noncomputable def envK3 : List (FuncId × Spec) := [(41, litFS okRC.spec), (42, litFS joinRmC.spec), (43, litFS aliveRmC.spec), (44, litFS tickRmC.spec), (45, litFS leaveRmC.spec), (46, litFS kickRmC.spec), (47, litFS haveRmC.spec), (51, litFS goodRmC.spec), (19, litFS comC.spec)]
theorem envK3_ok : EnvOk Try.prog (envL envK3) := (envL_cons ⟨_, Try.func41, rfl, by kernel_rfl⟩ (litFS_ok awake_ok) (envL_cons ⟨_, Try.func42, rfl, by kernel_rfl⟩ (litFS_ok joinRm_ok) (envL_cons ⟨_, Try.func43, rfl, by kernel_rfl⟩ (litFS_ok aliveRm_ok) (envL_cons ⟨_, Try.func44, rfl, by kernel_rfl⟩ (litFS_ok tickRm_ok) (envL_cons ⟨_, Try.func45, rfl, by kernel_rfl⟩ (litFS_ok leaveRm_ok) (envL_cons ⟨_, Try.func46, rfl, by kernel_rfl⟩ (litFS_ok kickRm_ok) (envL_cons ⟨_, Try.func47, rfl, by kernel_rfl⟩ (litFS_ok haveRm_ok) (envL_cons ⟨_, Try.func51, rfl, by kernel_rfl⟩ (litFS_ok goodRm_ok) (envL_cons ⟨_, Try.func19, rfl, by kernel_rfl⟩ (litFS_ok com_ok) (envL_nil _))))))))))
end Go.Proofs.Ytcaipfdnadlkdaa.Sx
