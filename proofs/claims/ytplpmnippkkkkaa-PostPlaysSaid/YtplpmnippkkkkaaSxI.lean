/- A region that draws its order: it is enough to reckon it in the order of the text, where what stands in no order does not touch the same. No Go text in sight. -/
import Derived.Test.YtplpmnippkkkkaaSxH
namespace Go.Proofs.Ytplpmnippkkkkaa.Sx
open Go
set_option linter.unusedVariables false
set_option linter.unusedSimpArgs false

def depsOf (o : Oper) : List Nat := o.after.toList.filterMap fun e => if Region.binds .any e then some e.on else none
def mask (tab : List Nat) : List Nat → Nat
  | [] => 0
  | e :: es => 2 ^ e ||| (tab.getD e 0 ||| mask tab es)
def tabOf : List (List Nat) → List Nat → List Nat
  | [], acc => acc
  | es :: rest, acc => tabOf rest (acc ++ [mask acc es])
def ancTab (ops : Array Oper) : List Nat := tabOf (ops.toList.map depsOf) []
def bit (tab : List Nat) (i j : Nat) : Bool := (tab.getD i 0).testBit j
def inter (a b : List Nat) : Bool := a.any fun x => b.contains x
def clash (rd wr rd' wr' : List Nat) : Bool := inter wr rd' || inter wr wr' || inter rd wr'
abbrev Log := List (Nat × List Nat × List Nat)
def logOk (tab : List Nat) (i : Nat) (rd wr : List Nat) (g : Log) : Bool := g.all fun x => bit tab i x.1 || !clash rd wr x.2.1 x.2.2
def namesOk (tab : List Nat) (base0 i : Nat) (ns : List Nat) : Bool := ns.all fun n => decide (n < base0) || (bit tab i ((n - base0) / 4) && decide ((n - base0) / 4 < i))
def stepD (P : Program) (Γ : Env) (ops : Array Oper) (tab : List Nat) (base0 i : Nat) (s : St) (g : Log) (K : St → Log → Prop) : Prop :=
  match ops[i]? with
  | none => K s g
  | some o => match wantedS ops s.slots o with
    | some true =>
      if logOk tab i (reqAt P Γ ops i (base0 + 4 * i) s.slots o).rd (reqAt P Γ ops i (base0 + 4 * i) s.slots o).wr g && namesOk tab base0 i ((reqAt P Γ ops i (base0 + 4 * i) s.slots o).rd ++ (reqAt P Γ ops i (base0 + 4 * i) s.slots o).wr) then
        (reqAt P Γ ops i (base0 + 4 * i) s.slots o).pre s.heap fun res => s.applyK o.dst (base0 + 4 * i) (reqAt P Γ ops i (base0 + 4 * i) s.slots o).wr res fun s' => fNs (reqAt P Γ ops i (base0 + 4 * i) s.slots o).rd fun rd => fNs (reqAt P Γ ops i (base0 + 4 * i) s.slots o).wr fun wr => K s' ((i, rd, wr) :: g)
      else False
    | some false => fSp (putS s.slots o.dst (.t [])) fun sl => K ⟨sl, s.heap, s.next⟩ g
    | none => False
def runD (P : Program) (Γ : Env) (ops : Array Oper) (tab : List Nat) (base0 : Nat) : List Nat → St → Log → (St → Prop) → Prop
  | [], s, g, K => K s
  | i :: is, s, g, K => stepD P Γ ops tab base0 i s g fun s' g' => runD P Γ ops tab base0 is s' g' K
/-- two operations that stand in no order name no slot in common -/
def apartOk (ops : Array Oper) (tab : List Nat) : Bool :=
  (List.range ops.size).all fun i => (List.range i).all fun q => bit tab i q || match ops[q]?, ops[i]? with
    | some oq, some oi => Oper.apart ops oq oi
    | _, _ => true
/-- edges go back -/
def edgesOk (ops : Array Oper) : Bool :=
  (List.range ops.size).all fun i => match ops[i]? with
    | some o => (depsOf o).all fun e => decide (e < i)
    | none => true
def regionD (P : Program) (Γ : Env) (ops : Array Oper) (s : St) (K : St → Prop) : Prop :=
  if edgesOk ops && apartOk ops (ancTab ops) then fN s.next fun nx => fNs (ancTab ops) fun tab => runD P Γ ops tab nx (List.range ops.size) s [] fun s' => fN (nx + 4 * ops.size) fun n2 => K ⟨s'.slots, s'.heap, n2⟩ else False

/-! ### the table of what stands ahead -/
theorem mask_bit {tab : List Nat} {q : Nat} : ∀ {es : List Nat}, (mask tab es).testBit q = true → ∃ e ∈ es, q = e ∨ (tab.getD e 0).testBit q = true
  | [], h => by simp [mask] at h
  | e :: es, h => by
    simp only [mask, Nat.testBit_or, Bool.or_eq_true] at h
    rcases h with h | h | h
    · rw [Nat.testBit_two_pow] at h
      exact ⟨e, by simp, .inl (by simpa using Eq.symm (by simpa using h))⟩
    · exact ⟨e, by simp, .inr h⟩
    · obtain ⟨e', h1, h2⟩ := mask_bit h
      exact ⟨e', by simp [h1], h2⟩
theorem tabOf_spec : ∀ (rest : List (List Nat)) (acc : List Nat) (all : List (List Nat)) (done : List (List Nat)), all = done ++ rest → acc.length = done.length →
    (∀ i es, done[i]? = some es → ∀ q, (acc.getD i 0).testBit q = true → ∃ e ∈ es, q = e ∨ ((acc.take i).getD e 0).testBit q = true) →
    ∀ i es, all[i]? = some es → ∀ q, ((tabOf rest acc).getD i 0).testBit q = true → ∃ e ∈ es, q = e ∨ (((tabOf rest acc).take i).getD e 0).testBit q = true
  | [], acc, all, done, ha, hl, h => by
    simp at ha
    subst ha
    exact h
  | es0 :: rest, acc, all, done, ha, hl, h => by
    simp only [tabOf]
    refine tabOf_spec rest (acc ++ [mask acc es0]) all (done ++ [es0]) (by simp [ha]) (by simp [hl]) ?_
    intro i es hi q hq
    rcases Nat.lt_or_ge i done.length with hlt | hge
    · rw [List.getElem?_append_left hlt] at hi
      have e1 : (acc ++ [mask acc es0]).getD i 0 = acc.getD i 0 := by
        simp [List.getD, List.getElem?_append_left (by omega : i < acc.length)]
      rw [e1] at hq
      rw [List.take_append_of_le_length (by omega)]
      exact h i es hi q hq
    · have hil : i < (done ++ [es0]).length := (List.getElem?_eq_some_iff.1 hi).1
      have hie : i = done.length := by simp at hil; omega
      subst hie
      simp at hi
      subst hi
      have e1 : (acc ++ [mask acc es0]).getD done.length 0 = mask acc es0 := by
        rw [← hl]; simp [List.getD]
      rw [e1] at hq
      have e2 : (acc ++ [mask acc es0]).take done.length = acc := by rw [← hl]; simp
      rw [e2]
      exact mask_bit hq
theorem anc_step {ops : Array Oper} {i q : Nat} {o : Oper} (hi : ops[i]? = some o) (h : bit (ancTab ops) i q = true) : ∃ e ∈ depsOf o, q = e ∨ bit (ancTab ops) e q = true := by
  have := tabOf_spec (ops.toList.map depsOf) [] (ops.toList.map depsOf) [] (by simp) rfl (by simp) i (depsOf o) (by simp [hi]) q h
  obtain ⟨e, he, h2⟩ := this
  refine ⟨e, he, h2.imp id fun h3 => ?_⟩
  unfold bit ancTab
  rw [List.getD, List.getElem?_take] at h3
  split at h3
  · exact h3
  · simp at h3

/-! ### what does not hang on each other -/
theorem upd_comm (h : Nat → Option Blk) {n m : Nat} (b c : Option Blk) (hne : n ≠ m) : upd (upd h n b) m c = upd (upd h m c) n b := by
  funext x
  simp only [upd]
  by_cases h1 : x = m <;> by_cases h2 : x = n <;> simp_all
theorem updL_upd {n : Nat} {b : Option Blk} : ∀ (ms : List Nat) (cs : List (Option Blk)) (h : Nat → Option Blk), n ∉ ms → updL (upd h n b) ms cs = upd (updL h ms cs) n b
  | [], _, _, _ => rfl
  | m :: ms, [], _, _ => rfl
  | m :: ms, c :: cs, h, hn => by
    simp only [List.mem_cons, not_or] at hn
    simp only [updL]
    rw [upd_comm h b c hn.1, updL_upd ms cs (upd h m c) hn.2]
theorem updL_comm : ∀ (ns : List Nat) (bs : List (Option Blk)) (ms : List Nat) (cs : List (Option Blk)) (h : Nat → Option Blk), (∀ x ∈ ns, x ∉ ms) → updL (updL h ns bs) ms cs = updL (updL h ms cs) ns bs
  | [], _, _, _, _, _ => rfl
  | n :: ns, [], _, _, _, _ => rfl
  | n :: ns, b :: bs, ms, cs, h, hd => by
    simp only [updL]
    rw [updL_comm ns bs ms cs (upd h n b) fun x hx => hd x (by simp [hx]), updL_upd ms cs h (hd n (by simp))]
theorem updL_other {m : Nat} : ∀ (ns : List Nat) (bs : List (Option Blk)) (h : Nat → Option Blk), m ∉ ns → updL h ns bs m = h m
  | [], _, _, _ => rfl
  | n :: ns, [], _, _ => rfl
  | n :: ns, b :: bs, h, hn => by
    simp only [List.mem_cons, not_or] at hn
    simp only [updL]
    rw [updL_other ns bs _ hn.2]
    simp [upd, hn.1]
theorem applyH_other {h : Nat → Option Blk} {base : Nat} {wr : List Nat} {r : Res} {m : Nat} (h1 : m ∉ wr) (h2 : m ∉ freshN base) : applyH h base wr r m = h m := by
  unfold applyH
  rw [updL_other _ _ _ h2, updL_other _ _ _ h1]
theorem applyH_comm {h : Nat → Option Blk} {b1 b2 : Nat} {w1 w2 : List Nat} {r1 r2 : Res} (hd : ∀ x, (x ∈ w1 ∨ x ∈ freshN b1) → x ∉ w2 ∧ x ∉ freshN b2) :
    applyH (applyH h b1 w1 r1) b2 w2 r2 = applyH (applyH h b2 w2 r2) b1 w1 r1 := by
  unfold applyH
  rw [updL_comm (freshN b1) _ w2 _ _ fun x hx => (hd x (.inr hx)).1, updL_comm w1 _ w2 _ _ fun x hx => (hd x (.inl hx)).1, updL_comm (freshN b1) _ (freshN b2) _ _ fun x hx => (hd x (.inr hx)).2,
    updL_comm w1 _ (freshN b2) _ _ fun x hx => (hd x (.inl hx)).2]
theorem putS_comm {l : List SV} {d1 d2 : Option Nat} {x y : SV} (h : ∀ d, d1 = some d → d2 ≠ some d) : putS (putS l d1 x) d2 y = putS (putS l d2 y) d1 x := by
  cases d1 with
  | none => rfl
  | some a =>
    cases d2 with
    | none => rfl
    | some b =>
      have : a ≠ b := fun e => h a rfl (by rw [e])
      simp [putS, List.set_comm _ _ this]
theorem evS_put {l : List SV} {d : Option Nat} {x : SV} {o : Operand} (h : ∀ t, d = some t → o ≠ .tmp t) : evS (putS l d x) o = evS l o := by
  cases d with
  | none => rfl
  | some t =>
    cases o with
    | tmp u =>
      have : t ≠ u := fun e => h t rfl (by rw [e])
      simp [evS, putS, List.getD, List.getElem?_set_ne this]
    | _ => rfl
theorem opReq_congr {P : Program} {Γ : Env} {base : Nat} {ev ev' : Operand → SV} (op : Op) (h : ∀ x ∈ op.operands, ev x = ev' x) : opReq P Γ base ev op = opReq P Γ base ev' op := by
  have lmap : ∀ l : List Operand, (∀ x ∈ l, ev x = ev' x) → l.map ev = l.map ev' := fun l hl => List.map_congr_left hl
  cases op <;> simp only [Op.operands] at h <;> simp only [opReq]
  case build t ps =>
    congr 2
    refine List.map_congr_left fun p hp => ?_
    rw [h p.2 (by simpa using ⟨p.1, by simpa using hp⟩)]
  case buildSlice t len ps =>
    congr 1
    refine List.map_congr_left fun p hp => ?_
    rw [h p.2 (by simpa using ⟨p.1, by simpa using hp⟩)]
  case slice t x lo hi mx =>
    have hx := h x (by simp)
    have hl : lo.map ev = lo.map ev' := by cases lo with
      | none => rfl
      | some y => simp [h y (by simp)]
    have hh : hi.map ev = hi.map ev' := by cases hi with
      | none => rfl
      | some y => simp [h y (by simp)]
    have hm : mx.map ev = mx.map ev' := by cases mx with
      | none => rfl
      | some y => simp [h y (by simp)]
    rw [hx, hl, hh, hm]
  case call c =>
    have hargs : c.args.toList.map ev = c.args.toList.map ev' := lmap _ fun x hx => h x (by simp [Call.operands]; right; simpa using hx)
    unfold callReq
    cases hc : c.callee with
    | invoke r m => rfl
    | value f =>
      have hf : ev f = ev' f := h f (by simp [Call.operands, hc])
      simp only [hf, hargs]
    | builtin b =>
      have hm : ∀ x ∈ c.args.toList, ev x = ev' x := fun x hx => h x (by simp [Call.operands]; right; simpa using hx)
      cases b <;> simp only []
      · split
        · rename_i x y t tx ha ht
          rw [hm x (by simp [ha]), hm y (by simp [ha])]
        · rfl
      · split
        · rename_i x t ha ht
          rw [hm x (by simp [ha])]
        · rfl
      · split
        · rename_i x ys ha
          rw [hm x (by simp [ha]), lmap ys fun y hy => hm y (by simp [ha, hy])]
        · rfl
      · split
        · rename_i x ys ha
          rw [hm x (by simp [ha]), lmap ys fun y hy => hm y (by simp [ha, hy])]
        · rfl
  all_goals (first | rfl | (simp only [List.mem_toArray, List.mem_cons, List.not_mem_nil, or_false, forall_eq_or_imp, forall_eq] at h; simp only [h]; done) | (simp_all; done))
theorem reqAt_put {P : Program} {Γ : Env} {ops : Array Oper} {i base : Nat} {l : List SV} {o : Oper} {d : Option Nat} {x : SV} (h : ∀ t, d = some t → t ∉ o.looksAt ops) : reqAt P Γ ops i base (putS l d x) o = reqAt P Γ ops i base l o := by
  unfold reqAt
  rw [opReq_congr o.op fun y hy => evS_put fun t ht hyt => h t ht (by
    subst hyt
    exact List.mem_append_left _ (List.mem_filterMap.2 ⟨.tmp t, by simpa using hy, rfl⟩))]
theorem wantedS_put {ops : Array Oper} {l : List SV} {o : Oper} {d : Option Nat} {x : SV} (h : ∀ t, d = some t → t ∉ o.looksAt ops) : wantedS ops (putS l d x) o = wantedS ops l o := by
  cases d with
  | none => rfl
  | some t =>
    unfold wantedS
    cases hg : o.guard with
    | none => rfl
    | some gw =>
      obtain ⟨j, want⟩ := gw
      simp only []
      cases hj : (ops[j]?).bind (·.dst) with
      | none => rfl
      | some u =>
        have hne : t ≠ u := fun e => h t rfl (by subst e; simp [Oper.looksAt, hg, hj])
        simp [putS, List.getD, List.getElem?_set_ne hne]
end Go.Proofs.Ytplpmnippkkkkaa.Sx
