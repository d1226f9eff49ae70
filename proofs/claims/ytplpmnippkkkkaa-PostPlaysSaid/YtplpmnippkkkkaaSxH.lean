/- Regions: in the order of the text; in every order that their edges allow. No Go text in sight. -/
import Derived.Test.YtplpmnippkkkkaaSxG
namespace Go.Proofs.Ytplpmnippkkkkaa.Sx
open Go
set_option linter.unusedVariables false
set_option linter.unusedSimpArgs false

/-- what an operation that was not run leaves -/
def SV.isEmp : SV → Bool
  | .t [] => true
  | _ => false
/-- is an operation to be run? 'none': not known -/
def wantedS (ops : Array Oper) (slots : List SV) (o : Oper) : Option Bool :=
  match o.guard with
  | none => some true
  | some (j, want) => match (ops[j]?).bind (·.dst) with
    | some t => match (slots.getD t .u).bool? with
      | some (b, true) => some (b == want)
      | _ => match (slots.getD t .u).isEmp with
        | true => some false
        | false => none
    | none => none
/-- a Boolean that others hang on is parted -/
def concV (flag : Bool) (r : Res) : Out Res :=
  if flag then
    match r.v with
    | .s (.c (.boo b)) => .brB b (.ret { r with v := one (.tru true) }) (.ret { r with v := one (.tru false) })
    | _ => .ret r
  else .ret r
def Req.conc (r : Req) (flag : Bool) : Req := ⟨r.rd, r.wr, fun bl => (r.act bl).bind (concV flag)⟩
def isGuard (ops : Array Oper) (i : Nat) : Bool := ops.toList.any fun o => match o.guard with | some (j, _) => j == i | none => false
def reqAt (P : Program) (Γ : Env) (ops : Array Oper) (i base : Nat) (slots : List SV) (o : Oper) : Req := (opReq P Γ base (evS slots) o.op).conc (isGuard ops i)
def stepS (P : Program) (Γ : Env) (ops : Array Oper) (i base : Nat) (s : St) (K : St → Prop) : Prop :=
  match ops[i]? with
  | none => K s
  | some o => match wantedS ops s.slots o with
    | some true => (reqAt P Γ ops i base s.slots o).pre s.heap fun res => s.applyK o.dst base (reqAt P Γ ops i base s.slots o).wr res K
    | some false => fSp (putS s.slots o.dst (.t [])) fun sl => K ⟨sl, s.heap, s.next⟩
    | none => False

theorem wantedS_ok {w0 : World} {I : Nat → Prop} {μ : Mu} {s : St} {a : Act} {w : World} {ops : Array Oper} {o : Oper} {b : Bool} (hm : Models w0 I μ s a w) (h : wantedS ops s.slots o = some b) : Region.wanted o (yielded ops a.tmps) = b := by
  unfold wantedS at h
  unfold Region.wanted
  split at h
  · rename_i hg
    rw [hg]
    cases h
    rfl
  · rename_i j want hg
    rw [hg]
    split at h
    · rename_i t ht
      split at h
      · rename_i c hc
        cases h
        have hlt : t < s.slots.length := by
          rcases Nat.lt_or_ge t s.slots.length with h | h
          · exact h
          · rw [List.getD, List.getElem?_eq_none h] at hc; cases hc
        obtain ⟨v, hv, hok⟩ := hm.slots t _ (List.getElem?_eq_getElem hlt)
        have hc' : (s.slots[t]).bool? = some (c, true) := by simpa [List.getD, hlt] using hc
        have := SV.bool_ok hc' hok
        subst this
        simp [yielded, ht, hv]
      · split at h
        · rename_i hc
          cases h
          have hlt : t < s.slots.length := by
            rcases Nat.lt_or_ge t s.slots.length with h | h
            · exact h
            · rw [List.getD, List.getElem?_eq_none h] at hc; cases hc
          obtain ⟨v, hv, hok⟩ := hm.slots t _ (List.getElem?_eq_getElem hlt)
          have hc' : (s.slots[t]).isEmp = true := by simpa [List.getD, hlt] using hc
          have hv' : v = .tuple #[] := by
            revert hok hc'
            cases s.slots[t] with
            | t xs =>
              cases xs with
              | nil =>
                rintro ⟨vs, rfl, ha⟩ _
                cases vs with
                | nil => rfl
                | cons _ _ => exact ha.elim
              | cons _ _ => intro _ h; cases h
            | s _ => intro _ h; cases h
            | u => intro _ h; cases h
          subst hv'
          simp [yielded, ht, hv]
        · cases h
    · cases h
theorem Eff.setV {μ μ' : Mu} {h : Nat → Option Blk} {w w' : World} {base : Nat} {wr : List Nat} {r : Res} {v : Value} {x : SV} (he : Eff μ μ' h w base wr r v w') (hx : x.ok μ' v) : Eff μ μ' h w base wr { r with v := x } v w' :=
  { he with val := hx }
theorem conc_came {μ : Mu} {h : Nat → Option Blk} {w : World} {base : Nat} {wr : List Nat} {dst : Option Tmp} {a a' : Act} {w' : World} {flag : Bool} {K : Res → Prop} (hc : Came μ h w base wr dst a (fun r => (concV flag r).wp K) a' w') :
    Came μ h w base wr dst a K a' w' := by
  obtain ⟨v, μ', r, h1, h2, h3⟩ := hc
  unfold concV at h2
  split at h2
  · split at h2
    · rename_i b hb
      have hv := h3.val
      rw [hb] at hv
      have hv' : v = .bool b := hv
      cases b
      · exact ⟨v, μ', _, h1, h2.2 rfl, h3.setV hv'⟩
      · exact ⟨v, μ', _, h1, h2.1 rfl, h3.setV hv'⟩
    · exact ⟨v, μ', r, h1, h2, h3⟩
  · exact ⟨v, μ', r, h1, h2, h3⟩
theorem Models.skip {w0 : World} {I : Nat → Prop} {μ : Mu} {s : St} {a : Act} {w : World} (hm : Models w0 I μ s a w) (dst : Option Nat) : Models w0 I μ { s with slots := putS s.slots dst (.t []) } (a.put dst undef) w where
  size := by
    cases dst with
    | none => exact hm.size
    | some d => simpa [putS, Act.put] using hm.size
  slots := fun i x hx => by
    cases dst with
    | none => exact hm.slots i x hx
    | some d =>
      simp only [putS] at hx
      by_cases hd : d = i
      · subst hd
        have hlt : d < s.slots.length := by
          have := (List.getElem?_eq_some_iff.1 hx).1
          simpa using this
        simp [hlt] at hx
        subst hx
        exact ⟨undef, by simp [Act.put, hm.size, hlt], ⟨[], rfl, trivial⟩⟩
      · rw [List.getElem?_set_ne hd] at hx
        obtain ⟨u, hu, hok⟩ := hm.slots i x hx
        exact ⟨u, by simp [Act.put, Array.getElem?_setIfInBounds_ne hd, hu], hok⟩
  defers := by cases dst <;> exact hm.defers
  hm := hm.hm
  mine := hm.mine
  fr := hm.fr

theorem step_sound {P : Program} {Γ : Env} (hΓ : EnvOk P Γ) {ops : Array Oper} {i base : Nat} {w0 : World} {I : Nat → Prop} {μ : Mu} {s : St} {a : Act} {w : World} {K : St → Prop} {Q : Exit → Act → World → Prop}
    (hm : Models w0 I μ s a w) (hf : ∀ n ∈ freshN base, μ n = none) (h : stepS P Γ ops i base s K) :
    wpOp P ops Q i (fun a' w' => ∃ μ' s', Models w0 I μ' s' a' w' ∧ (∀ n l, μ' n = some l → μ n = some l ∨ n ∈ freshN base) ∧ K s') a w := by
  unfold stepS at h
  simp only [St.applyK_eq, fSp_eq] at h
  unfold wpOp
  split at h
  · rename_i hi
    rw [hi]
    exact ⟨μ, s, hm, fun n l hl => .inl hl, h⟩
  · rename_i o hi
    rw [hi]
    simp only []
    split at h
    · rename_i hw
      rw [wantedS_ok hm hw]
      simp only [if_true]
      left
      have hk : (opReq P Γ base (evS s.slots) o.op).pre s.heap fun r => (concV (isGuard ops i) r).wp fun res => K (s.apply o.dst base (opReq P Γ base (evS s.slots) o.op).wr res) := Out.wp_bind.1 h
      have hs := op_sound hΓ (Q := Q) hm.hm (evS_ok hm) hf hk
      refine Oper.wp_mono (fun a' w' hc => ?_) hs
      obtain ⟨v, μ', r, rfl, hr, he⟩ := conc_came hc
      exact ⟨μ', _, hm.apply o.dst hf he, he.dom, hr⟩
    · rename_i hw
      rw [wantedS_ok hm hw]
      simp only [Bool.false_eq_true, if_false]
      exact ⟨μ, _, hm.skip o.dst, fun n l hl => .inl hl, h⟩
    · exact h.elim

/-- names are taken below a bound -/
def Dom (μ : Mu) (n : Nat) : Prop := ∀ m l, μ m = some l → m < n
/-- a post of states -/
def At (w0 : World) (I : Nat → Prop) (K : St → Prop) (a : Act) (w : World) : Prop := ∃ μ s, Models w0 I μ s a w ∧ Dom μ s.next ∧ K s

def runP (P : Program) (Γ : Env) (ops : Array Oper) (base0 : Nat) : List Nat → St → (St → Prop) → Prop
  | [], s, K => K s
  | i :: is, s, K => stepS P Γ ops i (base0 + 4 * i) s fun s' => runP P Γ ops base0 is s' K
def regionP (P : Program) (Γ : Env) (ops : Array Oper) (s : St) (K : St → Prop) : Prop :=
  fN s.next fun nx => runP P Γ ops nx (List.range ops.size) s fun s' => fN (nx + 4 * ops.size) fun n2 => K ⟨s'.slots, s'.heap, n2⟩
theorem mem_freshN {n base : Nat} : n ∈ freshN base ↔ base ≤ n ∧ n < base + 4 := by
  simp [freshN]; omega
theorem runP_sound {P : Program} {Γ : Env} (hΓ : EnvOk P Γ) {ops : Array Oper} {base0 : Nat} {w0 : World} {I : Nat → Prop} {K : St → Prop} {Q : Exit → Act → World → Prop}
    (hQ : ∀ a w, (∃ μ s, Models w0 I μ s a w ∧ Dom μ (base0 + 4 * ops.size) ∧ K s) → Q .normal a w) :
    ∀ (k i : Nat) (μ : Mu) (s : St) (a : Act) (w : World), i + k = ops.size → Models w0 I μ s a w → Dom μ (base0 + 4 * i) → runP P Γ ops base0 (List.range' i k) s K → wpOps P ops Q (List.range' i k) a w
  | 0, i, μ, s, a, w, hn, hm, hd, h => by
    simp only [List.range'_zero, wpOps]
    exact hQ a w ⟨μ, s, hm, by rw [← hn]; exact hd, h⟩
  | k + 1, i, μ, s, a, w, hn, hm, hd, h => by
    simp only [List.range'_succ] at h ⊢
    rw [wpOps_cons]
    have hf : ∀ n ∈ freshN (base0 + 4 * i), μ n = none := fun n hn' => by
      rw [mem_freshN] at hn'
      cases hx : μ n with
      | none => rfl
      | some l => have := hd n l hx; omega
    refine wpOp_mono (fun a' w' hh => ?_) (step_sound hΓ hm hf h)
    obtain ⟨μ', s', hm', hd', hr⟩ := hh
    refine runP_sound hΓ hQ k (i + 1) μ' s' a' w' (by omega) hm' (fun n l hl => ?_) hr
    rcases hd' n l hl with h1 | h1
    · have := hd n l h1; omega
    · rw [mem_freshN] at h1; omega
theorem Models.next {w0 : World} {I : Nat → Prop} {μ : Mu} {s : St} {a : Act} {w : World} (hm : Models w0 I μ s a w) (n : Nat) : Models w0 I μ { s with next := n } a w := ⟨hm.size, hm.slots, hm.defers, hm.hm, hm.mine, hm.fr⟩
theorem regionP_sound {P : Program} {Γ : Env} (hΓ : EnvOk P Γ) {ops : Array Oper} {id : Nat} {w0 : World} {I : Nat → Prop} {μ : Mu} {s : St} {a : Act} {w : World} {K : St → Prop} {Q : Exit → Act → World → Prop}
    (hm : Models w0 I μ s a w) (hd : Dom μ s.next) (hQ : ∀ a w, At w0 I K a w → Q .normal a w) (h : regionP P Γ ops s K) : (Code.region id ops false).wp P Q a w := by
  unfold regionP at h
  simp only [fN_eq] at h
  refine wp_region ?_
  rw [List.range_eq_range']
  refine runP_sound hΓ (base0 := s.next) (K := fun s' => K { s' with next := s.next + 4 * ops.size }) (fun a' w' ⟨μ', s', hm', hd', hk⟩ => hQ a' w' ⟨μ', _, hm'.next _, hd', hk⟩) ops.size 0 μ s a w (by omega) hm (by simpa using hd) ?_
  rw [← List.range_eq_range']
  exact h
end Go.Proofs.Ytplpmnippkkkkaa.Sx
