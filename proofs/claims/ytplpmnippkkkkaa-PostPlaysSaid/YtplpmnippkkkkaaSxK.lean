/- Code as a claim on states: sequences, branches, loops by what holds at their heads. No Go text in sight. -/
import Derived.Test.YtplpmnippkkkkaaSxJ
import Derived.Deep.LoopGhost
import Derived.Scope
namespace Go.Proofs.Ytplpmnippkkkkaa.Sx
open Go
set_option linter.unusedVariables false
set_option linter.unusedSimpArgs false

/-! ### a state that says less -/
def renOf (r : List (Nat × Nat)) (n : Nat) : Nat :=
  match r with
  | [] => n
  | (a, b) :: r => if n = a then b else renOf r n
def leC (names : List Nat) (r : List (Nat × Nat)) : SC → SC → Prop
  | .num k a, .num k' b => if k = k' then a = b else False
  | .num k a, .int k' b => if k = k' then a = b else False
  | .int k a, .int k' b => if k = k' then a = b else False
  | .tru a, .tru b => a = b
  | .tru a, .boo b => a = b
  | .boo a, .boo b => a = b
  | .str a, .str b => a = b
  | .nil, .nil => True
  | .nos, .nos => True
  | .fn f, .fn g => f = g
  | .ptr b i e j, .ptr b' i' e' j' => if names.contains b' && renOf r b' == b && e == e' then i = i' ∧ j = j' else False
  | .sli b i e j n c q, .sli b' i' e' j' n' c' q' => if names.contains b' && renOf r b' == b && e == e' then (i = i' ∧ j = j') ∧ n = n' ∧ c = c' else False
  | .own b n c q, .own b' n' c' q' => if names.contains b' && renOf r b' == b then n = n' ∧ c = c' else False
  | _, _ => False
def leL (names : List Nat) (r : List (Nat × Nat)) : List SC → List SC → Prop
  | [], [] => True
  | [x], [y] => leC names r x y
  | x :: x2 :: xs, y :: y2 :: ys => leC names r x y ∧ leL names r (x2 :: xs) (y2 :: ys)
  | _, _ => False
def leS1 (names : List Nat) (r : List (Nat × Nat)) : S1 → S1 → Prop
  | .c x, .c y => leC names r x y
  | .a xs, .a ys => leL names r xs ys
  | _, _ => False
def leT (names : List Nat) (r : List (Nat × Nat)) : List S1 → List S1 → Prop
  | [], [] => True
  | x :: xs, y :: ys => leS1 names r x y ∧ leT names r xs ys
  | _, _ => False
def leV (names : List Nat) (r : List (Nat × Nat)) : SV → SV → Prop
  | _, .u => True
  | .s x, .s y => leS1 names r x y
  | .t xs, .t ys => leT names r xs ys
  | _, _ => False
def leVs (names : List Nat) (r : List (Nat × Nat)) : List SV → List SV → Prop
  | [], [] => True
  | _ :: xs, .u :: ys => leVs names r xs ys
  | x :: xs, y :: ys => leV names r x y ∧ leVs names r xs ys
  | _, _ => False
def leHd : List Int → List Int → Prop
  | [], [] => True
  | x :: xs, y :: ys => x = y ∧ leHd xs ys
  | _, _ => False
theorem leHd_eq : ∀ {xs ys : List Int}, leHd xs ys → xs = ys
  | [], [], _ => rfl
  | x :: xs, y :: ys, h => by rw [show x = y from h.1, leHd_eq h.2]
  | [], _ :: _, h => h.elim
  | _ :: _, [], h => h.elim
def leOL : OL → OL → Prop
  | .ints k l, .ints k' l' => if k = k' then l = l' else False
  | .strs l, .strs l' => l = l'
  | .raws l, .raws l' => l = l'
  | _, _ => False
theorem leOL_eq {x y : OL} (h : leOL x y) : x = y := by
  unfold leOL at h
  split at h
  · split at h
    · rename_i e; subst e; subst h; rfl
    · exact h.elim
  · subst h; rfl
  · subst h; rfl
  · exact h.elim
def leB (names : List Nat) (r : List (Nat × Nat)) : Blk → Blk → Prop
  | .cells t xs, .cells t' ys => if t = t' then leL names r xs ys else False
  | .view e n f, .view e' n' g => if e = e' then n = n' ∧ ∀ i, i < n' → leL names r (f i) (g i) else False
  | .own t e n f, .own t' e' n' g => if t = t' ∧ e = e' then n = n' ∧ ∀ i, i < n' → leL names r (f i) (g i) else False
  | .ints k l, .ints k' l' => if k = k' then l = l' else False
  | .oints k l, .oints k' l' => if k = k' then l = l' else False
  | .obj t hd l, .obj t' hd' l' => if t = t' then leHd hd hd' ∧ leOL l l' else False
  | _, _ => False
def leH (names : List Nat) (r : List (Nat × Nat)) (h h' : Nat → Option Blk) : List Nat → Prop
  | [] => True
  | n :: ns => (match h' n with
    | none => True
    | some b' => match h (renOf r n) with
      | some b => leB names r b b'
      | none => False) ∧ leH names r h h' ns
/-- t's heap is meant at 'names' alone -/
def leSt (names : List Nat) (r : List (Nat × Nat)) (s t : St) : Prop :=
  if (names.all fun n => decide (n < t.next)) && decide ((names.map (renOf r)).Nodup) then leVs names r s.slots t.slots ∧ leH names r s.heap t.heap names else False
def St.only (names : List Nat) (t : St) : St := { t with heap := Sx.only names t.heap }
def headK (names : List Nat) (t : St) (K : St → Prop) : Prop := fVs t.slots fun sl => fH t.heap names fun h => fN t.next fun n => K ⟨sl, h, n⟩
theorem headK_eq (names : List Nat) (t : St) (K : St → Prop) : headK names t K = K (t.only names) := by simp only [headK, fVs_eq, fH_eq, fN_eq]; rfl

def muOf (names : List Nat) (r : List (Nat × Nat)) (μ : Mu) : Mu := fun n => if names.contains n then μ (renOf r n) else none
section
variable {names : List Nat} {r : List (Nat × Nat)} {μ : Mu}
theorem leC_ok {x y : SC} {v : Value} (h : leC names r x y) (hx : x.ok μ v) : y.ok (muOf names r μ) v := by
  unfold leC at h
  split at h
  · split at h
    · rename_i hk; subst hk; subst h; exact hx
    · exact h.elim
  · split at h
    · rename_i hk; subst hk; subst h; exact hx
    · exact h.elim
  · split at h
    · rename_i hk; subst hk; subst h; exact hx
    · exact h.elim
  · subst h; exact hx
  · subst h; exact hx
  · subst h; exact hx
  · subst h; exact hx
  · exact hx
  · exact hx
  · subst h; exact hx
  · split at h
    · rename_i hc
      simp only [Bool.and_eq_true, beq_iff_eq] at hc
      obtain ⟨⟨h1, h2⟩, h3⟩ := hc
      obtain ⟨rfl, rfl⟩ := h
      subst h3
      obtain ⟨l, hl, hv⟩ := hx
      exact ⟨l, by simp only [muOf]; rw [if_pos h1, h2]; exact hl, hv⟩
    · exact h.elim
  · split at h
    · rename_i hc
      simp only [Bool.and_eq_true, beq_iff_eq] at hc
      obtain ⟨⟨h1, h2⟩, h3⟩ := hc
      obtain ⟨⟨rfl, rfl⟩, rfl, rfl⟩ := h
      subst h3
      obtain ⟨l, a, hl, hv⟩ := hx
      exact ⟨l, a, by simp only [muOf]; rw [if_pos h1, h2]; exact hl, hv⟩
    · exact h.elim
  · split at h
    · rename_i hc
      simp only [Bool.and_eq_true, beq_iff_eq] at hc
      obtain ⟨h1, h2⟩ := hc
      obtain ⟨rfl, rfl⟩ := h
      obtain ⟨l, a, hl, hv⟩ := hx
      exact ⟨l, a, by simp only [muOf]; rw [if_pos h1, h2]; exact hl, hv⟩
    · exact h.elim
  · exact h.elim
theorem leL_ok : ∀ {xs ys : List SC} {vs : List Value}, leL names r xs ys → All2 (SC.ok μ) xs vs → All2 (SC.ok (muOf names r μ)) ys vs
  | [], [], [], _, _ => trivial
  | [x], [y], [v], h, hx => ⟨leC_ok h hx.1, trivial⟩
  | x :: x2 :: xs, y :: y2 :: ys, v :: vs, h, hx => ⟨leC_ok h.1 hx.1, leL_ok h.2 hx.2⟩
  | [], [], _ :: _, _, hx => hx.elim
  | [x], [y], [], _, hx => hx.elim
  | [x], [y], _ :: _ :: _, _, hx => hx.2.elim
  | x :: x2 :: xs, y :: y2 :: ys, [], _, hx => hx.elim
  | [], _ :: _, _, h, _ => h.elim
  | [_], [], _, h, _ => h.elim
  | [_], _ :: _ :: _, _, h, _ => h.elim
  | _ :: _ :: _, [], _, h, _ => h.elim
  | _ :: _ :: _, [_], _, h, _ => h.elim
theorem leL_len : ∀ {xs ys : List SC}, leL names r xs ys → xs.length = ys.length
  | [], [], _ => rfl
  | [x], [y], h => rfl
  | x :: x2 :: xs, y :: y2 :: ys, h => by have := leL_len h.2; simp at this ⊢; omega
  | [], _ :: _, h => h.elim
  | [_], [], h => h.elim
  | [_], _ :: _ :: _, h => h.elim
  | _ :: _ :: _, [], h => h.elim
  | _ :: _ :: _, [_], h => h.elim
theorem leL_get : ∀ {xs ys : List SC}, leL names r xs ys → ∀ (j : Nat) (y : SC), ys[j]? = some y → ∃ x, xs[j]? = some x ∧ leC names r x y
  | [], [], _, j, y, h => by simp at h
  | [x], [z], h, 0, y, hy => by simp at hy; subst hy; exact ⟨x, rfl, h⟩
  | [x], [z], h, j + 1, y, hy => by simp at hy
  | x :: x2 :: xs, z :: y2 :: ys, h, 0, y, hy => by simp at hy; subst hy; exact ⟨x, rfl, h.1⟩
  | x :: x2 :: xs, z :: y2 :: ys, h, j + 1, y, hy => by simpa using leL_get h.2 j y (by simpa using hy)
  | [], _ :: _, h, _, _, _ => h.elim
  | [_], [], h, _, _, _ => h.elim
  | [_], _ :: _ :: _, h, _, _, _ => h.elim
  | _ :: _ :: _, [], h, _, _, _ => h.elim
  | _ :: _ :: _, [_], h, _, _, _ => h.elim
theorem leS1_ok {x y : S1} {v : Value} (h : leS1 names r x y) (hx : x.ok μ v) : y.ok (muOf names r μ) v := by
  unfold leS1 at h
  split at h
  · exact leC_ok h hx
  · obtain ⟨vs, hv, ha⟩ := hx; exact ⟨vs, hv, leL_ok h ha⟩
  · exact h.elim
theorem leT_ok : ∀ {xs ys : List S1} {vs : List Value}, leT names r xs ys → AllS (S1.ok μ) xs vs → AllS (S1.ok (muOf names r μ)) ys vs
  | [], [], [], _, _ => trivial
  | x :: xs, y :: ys, v :: vs, h, hx => ⟨leS1_ok h.1 hx.1, leT_ok h.2 hx.2⟩
  | [], [], _ :: _, _, hx => hx.elim
  | _ :: _, _ :: _, [], _, hx => hx.elim
  | [], _ :: _, _, h, _ => h.elim
  | _ :: _, [], _, h, _ => h.elim
theorem leV_ok {x y : SV} {v : Value} (h : leV names r x y) (hx : x.ok μ v) : y.ok (muOf names r μ) v := by
  unfold leV at h
  split at h
  · trivial
  · exact leS1_ok h hx
  · obtain ⟨vs, hv, ha⟩ := hx; exact ⟨vs, hv, leT_ok h ha⟩
  · exact h.elim
theorem leVs_get : ∀ {xs ys : List SV}, leVs names r xs ys → xs.length = ys.length ∧ ∀ (i : Nat) (y : SV), ys[i]? = some y → ∃ x, xs[i]? = some x ∧ leV names r x y
  | [], [], _ => ⟨rfl, fun i y h => by simp at h⟩
  | x :: xs, y :: ys, h => by
    have hh : leV names r x y ∧ leVs names r xs ys := by
      cases y with
      | u => exact ⟨trivial, h⟩
      | s z => exact h
      | t z => exact h
    obtain ⟨h1, h2⟩ := leVs_get hh.2
    refine ⟨by simp [h1], fun i z hz => ?_⟩
    cases i with
    | zero => simp at hz; subst hz; exact ⟨x, rfl, hh.1⟩
    | succ i => simpa using h2 i z (by simpa using hz)
  | [], y :: ys, h => by cases y <;> exact h.elim
  | x :: xs, [], h => h.elim
theorem leElems {e n : Nat} {f g : Nat → List SC} {a : Nat → Option Value} (h : ∀ i, i < n → leL names r (f i) (g i)) (hf : Elems μ e n f a) : Elems (muOf names r μ) e n g a := fun i hi => by
  obtain ⟨h1, h2⟩ := hf i hi
  refine ⟨by rw [← leL_len (h i hi)]; exact h1, fun j y hy => ?_⟩
  obtain ⟨x, hx, hle⟩ := leL_get (h i hi) j y hy
  obtain ⟨v, hv, hok⟩ := h2 j x hx
  exact ⟨v, hv, leC_ok hle hok⟩
theorem Elems.move {k : IntKind} {l : List Int} {n : Nat} {μ μ' : Mu} {a : Nat → Option Value} (h : Elems μ 1 n (intsF k l) a) : Elems μ' 1 n (intsF k l) a := fun i hi => by
  obtain ⟨h1, h2⟩ := h i hi
  refine ⟨h1, fun j c hc => ?_⟩
  obtain ⟨v, hv, hok⟩ := h2 j c hc
  refine ⟨v, hv, ?_⟩
  match j, hc with
  | 0, hc => simp [intsF] at hc; subst hc; exact hok
  | j + 1, hc => simp [intsF] at hc
theorem leB_ok {b b' : Blk} {w : World} {l : Loc} (h : leB names r b b') (hb : b.ok μ w l) : b'.ok (muOf names r μ) w l ∧ b'.excl w l = b.excl w l ∧ b'.uses w l = b.uses w l := by
  unfold leB at h
  split at h
  · split at h
    · rename_i ht; subst ht
      obtain ⟨h0, vs, hv, ha⟩ := hb
      exact ⟨⟨h0, vs, hv, leL_ok h ha⟩, rfl, rfl⟩
    · exact h.elim
  · split at h
    · rename_i he; subst he
      obtain ⟨rfl, h⟩ := h
      exact ⟨⟨hb.1, leElems h hb.2⟩, rfl, rfl⟩
    · exact h.elim
  · split at h
    · rename_i he
      obtain ⟨rfl, rfl⟩ := he
      obtain ⟨rfl, h⟩ := h
      obtain ⟨a, c, xs, k1, k2, k3, k4, k5, k6⟩ := hb
      exact ⟨⟨a, c, xs, k1, k2, k3, k4, k5, leElems h k6⟩, rfl, rfl⟩
    · exact h.elim
  · split at h
    · rename_i he
      subst he; subst h
      exact ⟨⟨hb.1, hb.2.move⟩, rfl, rfl⟩
    · exact h.elim
  · split at h
    · rename_i he
      subst he
      subst h
      obtain ⟨t, a, c, xs, k1, k2, k3, k4, k5, k6⟩ := hb
      exact ⟨⟨t, a, c, xs, k1, k2, k3, k4, k5, Elems.move k6⟩, rfl, rfl⟩
    · exact h.elim
  · split at h
    · rename_i he
      subst he
      obtain ⟨h1, h2⟩ := h
      obtain rfl := leHd_eq h1
      obtain rfl := leOL_eq h2
      exact ⟨hb, rfl, rfl⟩
    · exact h.elim
  · exact h.elim
theorem leH_get {h h' : Nat → Option Blk} : ∀ {ns : List Nat}, leH names r h h' ns → ∀ n ∈ ns, ∀ b', h' n = some b' → ∃ b, h (renOf r n) = some b ∧ leB names r b b'
  | n :: ns, hl, m, hm, b', hb' => by
    obtain ⟨h1, h2⟩ := hl
    rcases List.mem_cons.1 hm with rfl | hm
    · rw [hb'] at h1
      simp only [] at h1
      split at h1
      · rename_i b hb
        exact ⟨b, hb, h1⟩
      · exact h1.elim
    · exact leH_get h2 m hm b' hb'
theorem nodup_map {α β : Type} {f : α → β} : ∀ {l : List α}, (l.map f).Nodup → ∀ x ∈ l, ∀ y ∈ l, f x = f y → x = y
  | a :: l, h, x, hx, y, hy, he => by
    rw [List.map_cons, List.nodup_cons] at h
    rcases List.mem_cons.1 hx with rfl | hx' <;> rcases List.mem_cons.1 hy with rfl | hy'
    · rfl
    · exact absurd (List.mem_map.2 ⟨y, hy', he.symm⟩) h.1
    · exact absurd (List.mem_map.2 ⟨x, hx', he⟩) h.1
    · exact nodup_map h.2 x hx' y hy' he
theorem leSt_ok {w0 : World} {I : Nat → Prop} {s t : St} {a : Act} {w : World} (h : leSt names r s t) (hm : Models w0 I μ s a w) : Models w0 I (muOf names r μ) (t.only names) a w ∧ Dom (muOf names r μ) t.next := by
  unfold leSt at h
  split at h
  · rename_i hc
    simp only [Bool.and_eq_true, decide_eq_true_eq, List.all_eq_true] at hc
    obtain ⟨hlt, hnd⟩ := hc
    obtain ⟨h1, h2⟩ := h
    obtain ⟨g1, g2⟩ := leVs_get h1
    have hmem : ∀ {n : Nat}, names.contains n = true → n ∈ names := fun h => by simpa using h
    have key : ∀ n b', (t.only names).heap n = some b' → n ∈ names ∧ ∃ b l, s.heap (renOf r n) = some b ∧ μ (renOf r n) = some l ∧ muOf names r μ n = some l ∧ b'.ok (muOf names r μ) w l ∧ b'.excl w l = b.excl w l ∧ b'.uses w l = b.uses w l := fun n b' hb' => by
      simp only [St.only, only] at hb'
      split at hb'
      · rename_i hn
        obtain ⟨b, hb, hle⟩ := leH_get h2 n (hmem hn) b' hb'
        obtain ⟨l, hl, hok⟩ := hm.hm.ok _ b hb
        obtain ⟨k1, k2, k3⟩ := leB_ok hle hok
        exact ⟨hmem hn, b, l, hb, hl, by simp only [muOf]; rw [if_pos hn]; exact hl, k1, k2, k3⟩
      · cases hb'
    refine ⟨{ size := by rw [hm.size]; exact g1, slots := fun i y hy => ?_, defers := hm.defers, hm := ⟨fun n b' hb' => ?_, fun n m b c l k x hne hb hc' hl hk hx => ?_⟩, mine := fun n b l x hb hl hx => ?_, fr := hm.fr }, fun n l hl => ?_⟩
    · obtain ⟨x, hx, hle⟩ := g2 i y hy
      obtain ⟨v, hv, hok⟩ := hm.slots i x hx
      exact ⟨v, hv, leV_ok hle hok⟩
    · obtain ⟨_, b, l, _, _, k3, k4, _⟩ := key n b' hb'
      exact ⟨l, k3, k4⟩
    · obtain ⟨n1, b0, l0, a1, a2, a3, a4, a5, a6⟩ := key n b hb
      obtain ⟨m1, c0, k0, b1, b2, b3, b4, b5, b6⟩ := key m c hc'
      rw [hl] at a3; cases a3
      rw [hk] at b3; cases b3
      rw [b6]
      exact hm.hm.apart (renOf r n) (renOf r m) b0 c0 l k x (fun e => hne (nodup_map hnd n n1 m m1 e)) a1 b1 a2 b2 (by rw [← a5]; exact hx)
    · obtain ⟨n1, b0, l0, a1, a2, a3, a4, a5, a6⟩ := key n b hb
      rw [hl] at a3; cases a3
      exact hm.mine _ b0 l x a1 a2 (by rw [← a5]; exact hx)
    · simp only [muOf] at hl
      split at hl
      · rename_i hn
        exact hlt n (hmem hn)
      · cases hl
  · exact h.elim
end

/-! ### code -/
inductive Ex where
  | nor
  | ret
  | exi (id : Nat)
/-- what holds at a loop's head, or between two pieces: states of a kind, over the state at the beginning. 'lit': the rounds are numbered from 0 to lit, and walked one by one -/
structure Ann where
  A : Type
  names : St → List Nat
  r0 : List (Nat × Nat) := []
  r1 : St → St → List (Nat × Nat) := fun _ _ => []
  st : Nat → A → St → St
  inv : St → Nat → A → Prop
  dec : St → A → Nat := fun _ _ => 0
  wit : St → A
  lit : Option Nat := none
structure Ctl where
  lp : Nat → Option Ann
  cut : Nat → Option Ann
  fuel : Nat
  spl : Nat → Option (Nat × Int × Nat) := fun _ => none
  weak : Nat → Bool := fun _ => false
  owns : Nat → Option (Nat × IntKind) := fun _ => none
def firstId : Code → Option Nat
  | .region id _ _ => some id
  | .seq a b => match firstId a with
    | some i => some i
    | none => firstId b
  | .cond _ a b => match firstId a with
    | some i => some i
    | none => firstId b
  | .block _ b => firstId b
  | .loop b => firstId b
  | .scope b => firstId b
  | _ => none
def annAt (f : Nat → Option Ann) (c : Code) : Option Ann :=
  match firstId c with
  | some i => f i
  | none => none
def splAt (f : Nat → Option (Nat × Int × Nat)) (c : Code) : Option (Nat × Int × Nat) :=
  match firstId c with
  | some i => f i
  | none => none
def weakAt (f : Nat → Bool) (c : Code) : Bool :=
  match firstId c with
  | some i => f i
  | none => false
/-- a number in a slot, parted into the numbers that it may be -/
def splGo (k : IntKind) (v : Int) (t : Nat) (s : St) (K : St → Prop) : Int → Nat → Prop
  | _, 0 => True
  | lo, n + 1 => (v = lo → fSp (s.slots.set t (one (.num k lo))) fun sl => K ⟨sl, s.heap, s.next⟩) ∧ fI (lo + 1) fun lo => splGo k v t s K lo n
def splitS (wk : Bool) (t : Nat) (lo : Int) (n : Nat) (s : St) (K : St → Prop) : Prop :=
  match (s.slots.getD t .u).int? with
  | some (k, v, q) => match q with
    | true => K s
    | false => match wk with
      | false => Lf (lo ≤ v ∧ v < lo + n) ∧ splGo k v t s K lo n
      | true => (¬(lo ≤ v ∧ v < lo + n) → K s) ∧ splGo k v t s K lo n
  | none => False
theorem splGo_ok {k : IntKind} {v : Int} {t : Nat} {s : St} {K : St → Prop} : ∀ {n : Nat} {lo : Int}, splGo k v t s K lo n → lo ≤ v → v < lo + n → K { s with slots := s.slots.set t (one (.num k v)) }
  | 0, lo, _, h1, h2 => by omega
  | n + 1, lo, h, h1, h2 => by
    simp only [splGo, fSp_eq, fI_eq] at h
    by_cases e : v = lo
    · have := h.1 e
      rw [← e] at this
      exact this
    · exact splGo_ok h.2 (by omega) (by omega)
theorem splitS_ok {wk : Bool} {t : Nat} {lo : Int} {n : Nat} {s : St} {K : St → Prop} {w0 : World} {I : Nat → Prop} {μ : Mu} {a : Act} {w : World} (h : splitS wk t lo n s K) (hm : Models w0 I μ s a w) : ∃ s', Models w0 I μ s' a w ∧ s'.next = s.next ∧ K s' := by
  unfold splitS at h
  split at h
  · rename_i k v q hi
    cases q
    · have hh : ((lo ≤ v ∧ v < lo + n) ∧ splGo k v t s K lo n) ∨ K s := by
        cases wk
        · exact .inl ⟨h.1.h, h.2⟩
        · by_cases e : lo ≤ v ∧ v < lo + n
          · exact .inl ⟨e, h.2⟩
          · exact .inr (h.1 e)
      rcases hh.symm with hh | ⟨⟨h1, h2⟩, h3⟩
      · exact ⟨s, hm, rfl, hh⟩
      refine ⟨{ s with slots := s.slots.set t (one (.num k v)) }, ⟨by simpa using hm.size, fun i x hx => ?_, hm.defers, hm.hm, hm.mine, hm.fr⟩, rfl, splGo_ok h3 h1 h2⟩
      by_cases ht : t = i
      · subst ht
        have hlt : t < s.slots.length := by
          have := (List.getElem?_eq_some_iff.1 hx).1
          simpa using this
        simp [hlt] at hx
        subst hx
        obtain ⟨u, hu, hok⟩ := hm.slots t _ (List.getElem?_eq_getElem hlt)
        have hi' : (s.slots[t]).int? = some (k, v, false) := by simpa [List.getD, hlt] using hi
        exact ⟨u, hu, SV.int_ok hi' hok⟩
      · rw [List.getElem?_set_ne ht] at hx
        exact hm.slots i x hx
    · exact ⟨s, hm, rfl, h⟩
  · exact h.elim
/-- a row in a slot, named anew as the call's own -/
def ownGo (t : Nat) (k : IntKind) (s : St) (h : Nat → Option Blk) (L : List Int) (K : St → Prop) : Prop :=
  ∀ c, L.length ≤ c → fN s.next fun b => fSp (s.slots.set t (one (.own b L.length c false))) fun sl => fN (b + 4) fun nx => K ⟨sl, upd h b (some (.oints k L)), nx⟩
def ownS (o : Option (Nat × IntKind)) (s : St) (K : St → Prop) : Prop :=
  match o with
  | none => K s
  | some (t, k) => match dstN (s.slots.getD t .u) with
    | [] => match dstL k (s.slots.getD t .u) none with
      | some L => ownGo t k s s.heap L K
      | none => False
    | [a] => match dstL k (s.slots.getD t .u) (some (s.heap a)) with
      | some L => ownGo t k s (upd s.heap a none) L K
      | none => False
    | _ => False
def ownAt (f : Nat → Option (Nat × IntKind)) (c : Code) : Option (Nat × IntKind) :=
  match firstId c with
  | some i => f i
  | none => none
theorem ownS_ok {o : Option (Nat × IntKind)} {s : St} {K : St → Prop} {w0 : World} {I : Nat → Prop} {μ : Mu} {a : Act} {w : World} (h : ownS o s K) (hm : Models w0 I μ s a w) (hd : Dom μ s.next) : ∃ μ' s', Models w0 I μ' s' a w ∧ Dom μ' s'.next ∧ K s' := by
  have hf : ∀ n ∈ freshN s.next, μ n = none := fun n hn => by
    cases hx : μ n with
    | none => rfl
    | some l =>
      have := hd n l hx
      simp [freshN] at hn
      omega
  have gen : ∀ (t : Nat) (k : IntKind) (L : List Int) (ws : List (Option Blk)), (s.slots.getD t .u) ≠ .u → ((dstN (s.slots.getD t .u) = [] ∧ ws = []) ∨ ∃ a, dstN (s.slots.getD t .u) = [a] ∧ ws = [none]) → (∀ u, (s.slots.getD t .u).ok μ u → DstOk μ s.heap w k (dstN (s.slots.getD t .u)) u L) →
      ownGo t k s (updL s.heap (dstN (s.slots.getD t .u)) ws) L K → ∃ μ' s', Models w0 I μ' s' a w ∧ Dom μ' s'.next ∧ K s' := fun t k L ws hu hw hdst hk => by
    have hlt : t < s.slots.length := by
      rcases Nat.lt_or_ge t s.slots.length with h' | h'
      · exact h'
      · exact absurd (by simp [List.getD, List.getElem?_eq_none h']) hu
    obtain ⟨v, hv, hok⟩ := hm.slots t _ (List.getElem?_eq_getElem hlt)
    have hget : s.slots.getD t .u = s.slots[t] := by simp [List.getD, hlt]
    obtain ⟨c, μ', hc, he⟩ := own_eff hf (hdst v (by rw [hget]; exact hok)) hw
    have hM := Models.apply (some t) hm hf he
    have ha : a.put (some t) v = a := by
      obtain ⟨tm, df⟩ := a
      simp only [Act.put]
      congr 1
      apply Array.ext_getElem?
      intro i
      by_cases hi : t = i
      · subst hi
        have hsz : t < tm.size := (Array.getElem?_eq_some_iff.1 hv).1
        rw [hv]
        simp [hsz]
      · rw [Array.getElem?_setIfInBounds_ne hi]
    rw [ha] at hM
    have hk2 := hk c hc
    simp only [fN_eq, fSp_eq] at hk2
    refine ⟨μ', ⟨s.slots.set t (one (.own s.next L.length c false)), upd (updL s.heap (dstN (s.slots.getD t .u)) ws) s.next (some (.oints k L)), s.next + 4⟩, ⟨hM.size, hM.slots, hM.defers, hM.hm, hM.mine, hM.fr⟩, fun n l hl => ?_, hk2⟩
    show n < s.next + 4
    rcases he.dom n l hl with h' | h'
    · have := hd n l h'; omega
    · simp [freshN] at h'; omega
  unfold ownS at h
  split at h
  · exact ⟨μ, s, hm, hd, h⟩
  · rename_i t k
    split at h
    · rename_i hn
      split at h
      · rename_i L hL
        refine gen t k L [] (fun e => by rw [e] at hL; simp [dstL] at hL) (.inl ⟨hn, rfl⟩) (fun u hu => dst_ok hm.hm hu (.inl rfl) hL) ?_
        rw [hn]; exact h
      · exact h.elim
    · rename_i b hn
      split at h
      · rename_i L hL
        refine gen t k L [none] (fun e => by rw [e] at hL; simp [dstL] at hL) (.inr ⟨b, hn, rfl⟩) (fun u hu => dst_ok hm.hm hu (.inr ⟨b, hn, rfl⟩) hL) ?_
        rw [hn]; exact h
      · exact h.elim
    · exact h.elim
def unroll (B : St → (Ex → St → Prop) → Prop) (K : Ex → St → Prop) : Nat → St → Prop
  | 0, _ => False
  | n + 1, s => B s fun e s' => match e with
    | .nor => unroll B K n s'
    | .ret => K .ret s'
    | .exi i => K (.exi i) s'
/-- rounds that are numbered: from k on, n more -/
def rounds (X : Ann) (s : St) (B : St → (Ex → St → Prop) → Prop) (K : Ex → St → Prop) : Nat → Nat → Prop
  | k, 0 => ∀ x, X.inv s k x → headK (X.names s) (X.st k x s) fun t => B t fun e s' => match e with
    | .nor => False
    | .ret => K .ret s'
    | .exi i => K (.exi i) s'
  | k, n + 1 => (∀ x, X.inv s k x → headK (X.names s) (X.st k x s) fun t => B t fun e s' => match e with
    | .nor => leSt (X.names s) (X.r1 s s') s' (X.st (k + 1) (X.wit s') s) ∧ Lf (X.inv s (k + 1) (X.wit s'))
    | .ret => K .ret s'
    | .exi i => K (.exi i) s') ∧ rounds X s B K (k + 1) n
def loopW (X : Ann) (s : St) (B : St → (Ex → St → Prop) → Prop) (K : Ex → St → Prop) : Prop :=
  (leSt (X.names s) X.r0 s (X.st 0 (X.wit s) s) ∧ Lf (X.inv s 0 (X.wit s))) ∧
  match X.lit with
  | some n => rounds X s B K 0 n
  | none => ∀ x, X.inv s 0 x → headK (X.names s) (X.st 0 x s) fun t => B t fun e s' => match e with
    | .nor => (leSt (X.names s) (X.r1 s s') s' (X.st 0 (X.wit s') s) ∧ Lf (X.inv s 0 (X.wit s'))) ∧ Lf (X.dec s (X.wit s') < X.dec s x)
    | .ret => K .ret s'
    | .exi i => K (.exi i) s'
def cwp (P : Program) (Γ : Env) (C : Ctl) : Code → St → (Ex → St → Prop) → Prop
  | .skip, s, K => K .nor s
  | .label _, s, K => K .nor s
  | .region _ ops d, s, K => if d then regionD P Γ ops s (K .nor) else regionP P Γ ops s (K .nor)
  | .seq a b, s, K => match annAt C.cut b with
    | none => match splAt C.spl b with
      | none => cwp P Γ C a s fun e s' => match e with
        | .nor => ownS (ownAt C.owns b) s' fun s2 => cwp P Γ C b s2 K
        | .ret => K .ret s'
        | .exi i => K (.exi i) s'
      | some (t, lo, n) => cwp P Γ C a s fun e s' => match e with
        | .nor => splitS (weakAt C.weak b) t lo n s' fun s2 => cwp P Γ C b s2 K
        | .ret => K .ret s'
        | .exi i => K (.exi i) s'
    | some X => (cwp P Γ C a s fun e s' => match e with
        | .nor => leSt (X.names s) X.r0 s' (X.st 0 (X.wit s') s) ∧ Lf (X.inv s 0 (X.wit s'))
        | .ret => K .ret s'
        | .exi i => K (.exi i) s') ∧ ∀ x, X.inv s 0 x → headK (X.names s) (X.st 0 x s) fun t => cwp P Γ C b t K
  | .cond c x y, s, K => match (evS s.slots c).bool? with
    | some (b, q) => match q with
      | true => match b with
        | true => cwp P Γ C x s K
        | false => cwp P Γ C y s K
      | false => (b = true → cwp P Γ C x s K) ∧ (b = false → cwp P Γ C y s K)
    | none => False
  | .block id b, s, K => cwp P Γ C b s fun e s' => match e with
    | .nor => K .nor s'
    | .ret => K .ret s'
    | .exi i => if i = id then K .nor s' else K (.exi i) s'
  | .loop b, s, K => match annAt C.lp b with
    | some X => loopW X s (cwp P Γ C b) K
    | none => unroll (cwp P Γ C b) K C.fuel s
  | .scope b, s, K => cwp P Γ C b s K
  | .exit id, s, K => K (.exi id) s
  | .ret, s, K => K .ret s
  | _, _, _ => False

def Post (w0 : World) (I : Nat → Prop) (K : Ex → St → Prop) : Exit → Act → World → Prop
  | .normal, a, w => At w0 I (K .nor) a w
  | .ret, a, w => At w0 I (K .ret) a w
  | .exit i, a, w => At w0 I (K (.exi i)) a w
  | _, _, _ => False
theorem At.mono {w0 : World} {I : Nat → Prop} {K K' : St → Prop} {a : Act} {w : World} (h : ∀ s, K s → K' s) (hh : At w0 I K a w) : At w0 I K' a w := by
  obtain ⟨μ, s, h1, h2, h3⟩ := hh
  exact ⟨μ, s, h1, h2, h s h3⟩
theorem at_le {w0 : World} {I : Nat → Prop} {names : List Nat} {r : List (Nat × Nat)} {μ : Mu} {s t : St} {a : Act} {w : World} {K : St → Prop} (h : leSt names r s t) (hm : Models w0 I μ s a w) (hk : K (t.only names)) : At w0 I K a w := by
  obtain ⟨h1, h2⟩ := leSt_ok h hm
  exact ⟨_, _, h1, h2, hk⟩

/-- a body that is walked serves a loop that goes on by K' -/
def Body (P : Program) (w0 : World) (I : Nat → Prop) (c : Code) (B : St → (Ex → St → Prop) → Prop) : Prop :=
  ∀ s K μ a w, Models w0 I μ s a w → Dom μ s.next → B s K → c.wp P (Post w0 I K) a w
theorem unroll_sound {P : Program} {w0 : World} {I : Nat → Prop} {c : Code} {B : St → (Ex → St → Prop) → Prop} (hB : Body P w0 I c B) {K : Ex → St → Prop} {n : Nat} {μ : Mu} {s : St} {a : Act} {w : World}
    (hm : Models w0 I μ s a w) (hd : Dom μ s.next) (h : unroll B K n s) : (Code.loop c).wp P (Post w0 I K) a w := by
  refine wp_loop_ghost (fun k a w => At w0 I (unroll B K k) a w) n ⟨μ, s, hm, hd, h⟩ ?_
  rintro k a w ⟨μ, s, hm, hd, h⟩
  cases k with
  | zero => exact h.elim
  | succ k =>
    refine wp_mono (hB s _ μ a w hm hd h) fun e a' w' he => ?_
    cases e with
    | normal => exact ⟨k, Nat.lt_succ_self k, he⟩
    | ret => exact he
    | exit i => exact he
    | goto l => exact he.elim
    | panic ch => exact he.elim
    | outgrown => exact he.elim
theorem rounds_get {X : Ann} {s : St} {B : St → (Ex → St → Prop) → Prop} {K : Ex → St → Prop} : ∀ {n k : Nat}, rounds X s B K k n → ∀ j, k ≤ j → j ≤ k + n → ∀ x, X.inv s j x → B ((X.st j x s).only (X.names s)) fun e s' => match e with
    | .nor => if j = k + n then False else leSt (X.names s) (X.r1 s s') s' (X.st (j + 1) (X.wit s') s) ∧ Lf (X.inv s (j + 1) (X.wit s'))
    | .ret => K .ret s'
    | .exi i => K (.exi i) s'
  | 0, k, h, j, h1, h2, x, hx => by
    have e : j = k := by omega
    subst e
    have := h x hx
    rw [headK_eq] at this
    simp only [Nat.add_zero, if_true]
    exact this
  | n + 1, k, h, j, h1, h2, x, hx => by
    by_cases e : j = k
    · subst e
      have := h.1 x hx
      rw [headK_eq] at this
      have hne : ¬ j = j + (n + 1) := by omega
      simp only [hne, if_false]
      exact this
    · have := rounds_get h.2 j (by omega) (by omega) x hx
      have e2 : k + 1 + n = k + (n + 1) := by omega
      rw [e2] at this
      exact this
theorem loopW_sound {P : Program} {w0 : World} {I : Nat → Prop} {c : Code} {B : St → (Ex → St → Prop) → Prop} (hB : Body P w0 I c B) {X : Ann} {K : Ex → St → Prop} {μ : Mu} {s : St} {a : Act} {w : World}
    (hm : Models w0 I μ s a w) (hd : Dom μ s.next) (h : loopW X s B K) : (Code.loop c).wp P (Post w0 I K) a w := by
  obtain ⟨⟨hle, hinv⟩, h⟩ := h
  obtain ⟨hm0, hd0⟩ := leSt_ok hle hm
  cases hl : X.lit with
  | none =>
    rw [hl] at h
    simp only [headK_eq] at h
    refine wp_loop_ghost (fun k a w => ∃ x, k = X.dec s x ∧ X.inv s 0 x ∧ ∃ μ, Models w0 I μ ((X.st 0 x s).only (X.names s)) a w ∧ Dom μ (X.st 0 x s).next) _ ⟨X.wit s, rfl, hinv.h, _, hm0, hd0⟩ ?_
    rintro k a w ⟨x, rfl, hx, μ', hm', hd'⟩
    refine wp_mono (hB _ _ μ' a w hm' hd' (h x hx)) fun e a' w' he => ?_
    cases e with
    | normal =>
      obtain ⟨μ2, s2, hm2, hd2, ⟨hle2, hinv2⟩, hlt⟩ := he
      obtain ⟨g1, g2⟩ := leSt_ok hle2 hm2
      exact ⟨_, hlt.h, X.wit s2, rfl, hinv2.h, _, g1, g2⟩
    | ret => exact he
    | exit i => exact he
    | goto l => exact he.elim
    | panic ch => exact he.elim
    | outgrown => exact he.elim
  | some n =>
    rw [hl] at h
    simp only [] at h
    refine wp_loop_ghost (fun m a w => ∃ k x, k + m = n ∧ X.inv s k x ∧ ∃ μ, Models w0 I μ ((X.st k x s).only (X.names s)) a w ∧ Dom μ (X.st k x s).next) n ⟨0, X.wit s, by omega, hinv.h, _, hm0, hd0⟩ ?_
    rintro m a w ⟨k, x, hkm, hx, μ', hm', hd'⟩
    refine wp_mono (hB _ _ μ' a w hm' hd' (rounds_get h k (by omega) (by omega) x hx)) fun e a' w' he => ?_
    cases e with
    | normal =>
      obtain ⟨μ2, s2, hm2, hd2, hh⟩ := he
      simp only [] at hh
      split at hh
      · exact hh.elim
      · obtain ⟨hle2, hinv2⟩ := hh
        obtain ⟨g1, g2⟩ := leSt_ok hle2 hm2
        exact ⟨m - 1, by omega, k + 1, X.wit s2, by omega, hinv2.h, _, g1, g2⟩
    | ret => exact he
    | exit i => exact he
    | goto l => exact he.elim
    | panic ch => exact he.elim
    | outgrown => exact he.elim

theorem cwp_sound {P : Program} {Γ : Env} (hΓ : EnvOk P Γ) (hmix : P.follows .mixedOrders = true) (C : Ctl) {w0 : World} {I : Nat → Prop} : ∀ c, Body P w0 I c (cwp P Γ C c) := by
  intro c
  induction c with
  | skip => intro s K μ a w hm hd h; exact wp_skip ⟨μ, s, hm, hd, h⟩
  | label l => intro s K μ a w hm hd h; exact wp_label ⟨μ, s, hm, hd, h⟩
  | region id ops d =>
    intro s K μ a w hm hd h
    simp only [cwp] at h
    cases d
    · exact regionP_sound hΓ hm hd (fun a w h => h) (by simpa using h)
    · exact regionD_sound hΓ hmix hm hd (fun a w h => h) (by simpa using h)
  | seq x y ihx ihy =>
    intro s K μ a w hm hd h
    simp only [cwp] at h
    split at h
    · split at h
      · refine wp_seq (wp_mono (ihx s _ μ a w hm hd h) fun e a' w' he => ?_)
        cases e with
        | normal =>
          obtain ⟨μ', s', h1, h2, h3⟩ := he
          obtain ⟨μ2, s2, g1, g2, g3⟩ := ownS_ok h3 h1 h2
          exact ihy s2 K μ2 a' w' g1 g2 g3
        | ret => exact he
        | exit i => exact he
        | goto l => exact he.elim
        | panic ch => exact he.elim
        | outgrown => exact he.elim
      · refine wp_seq (wp_mono (ihx s _ μ a w hm hd h) fun e a' w' he => ?_)
        cases e with
        | normal =>
          obtain ⟨μ', s', h1, h2, h3⟩ := he
          obtain ⟨s2, g1, g2, g3⟩ := splitS_ok h3 h1
          exact ihy s2 K μ' a' w' g1 (by rw [g2]; exact h2) g3
        | ret => exact he
        | exit i => exact he
        | goto l => exact he.elim
        | panic ch => exact he.elim
        | outgrown => exact he.elim
    · rename_i X hX
      refine wp_seq (wp_mono (ihx s _ μ a w hm hd h.1) fun e a' w' he => ?_)
      cases e with
      | normal =>
        obtain ⟨μ', s', h1, h2, h3, h4⟩ := he
        obtain ⟨g1, g2⟩ := leSt_ok h3 h1
        have h5 := h.2 _ h4.h
        rw [headK_eq] at h5
        exact ihy _ K _ a' w' g1 g2 h5
      | ret => exact he
      | exit i => exact he
      | goto l => exact he.elim
      | panic ch => exact he.elim
      | outgrown => exact he.elim
  | cond c x y ihx ihy =>
    intro s K μ a w hm hd h
    simp only [cwp] at h
    have hev := evS_ok hm c
    split at h
    · rename_i b q hb
      have hv := SV.bool_ok hb hev
      cases q
      · exact wp_cond_split hv (fun e => ihx s K μ a w hm hd (h.1 e)) (fun e => ihy s K μ a w hm hd (h.2 e))
      · cases b
        · exact wp_cond_false hv (ihy s K μ a w hm hd h)
        · exact wp_cond_true hv (ihx s K μ a w hm hd h)
    · exact h.elim
  | block id b ih =>
    intro s K μ a w hm hd h
    simp only [cwp] at h
    refine wp_block (wp_mono (ih s _ μ a w hm hd h) fun e a' w' he => ?_)
    cases e with
    | normal => exact he
    | ret => exact he
    | exit i =>
      obtain ⟨μ', s', h1, h2, h3⟩ := he
      simp only [Exit.inBlock]
      simp only [] at h3
      split
      · rename_i hid
        rw [if_pos hid] at h3
        exact ⟨μ', s', h1, h2, h3⟩
      · rename_i hid
        rw [if_neg hid] at h3
        exact ⟨μ', s', h1, h2, h3⟩
    | goto l => exact he.elim
    | panic ch => exact he.elim
    | outgrown => exact he.elim
  | loop b ih =>
    intro s K μ a w hm hd h
    simp only [cwp] at h
    split at h
    · exact loopW_sound ih hm hd h
    · exact unroll_sound ih hm hd h
  | scope b ih =>
    intro s K μ a w hm hd h
    simp only [cwp] at h
    refine wp_scope_straight (wp_mono (ih s K μ a w hm hd h) fun e a' w' he => ?_)
    cases e with
    | normal => exact he
    | ret => exact he
    | exit i => exact he
    | goto l => exact he.elim
    | panic ch => exact he.elim
    | outgrown => exact he.elim
  | exit id => intro s K μ a w hm hd h; exact wp_exit ⟨μ, s, hm, hd, h⟩
  | ret => intro s K μ a w hm hd h; exact wp_ret ⟨μ, s, hm, hd, h⟩
  | rangeFunc => intro s K μ a w hm hd h; exact h.elim
  | goto l => intro s K μ a w hm hd h; exact h.elim
  | refuse why => intro s K μ a w hm hd h; exact h.elim
end Go.Proofs.Ytplpmnippkkkkaa.Sx
