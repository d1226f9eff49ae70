/- Two structs or arrays held against each other; structs built. No Go text in sight. -/
import Derived.Test.YtplpmnippkkkkaaSxE
import Derived.ChangeKeysEq
namespace Go.Proofs.Ytplpmnippkkkkaa.Sx
open Go
set_option linter.unusedVariables false
set_option linter.unusedSimpArgs false

theorem beqBytes (a b : ByteArray) : (a == b) = true ↔ a = b := by
  obtain ⟨⟨x⟩⟩ := a
  obtain ⟨⟨y⟩⟩ := b
  show ((⟨x⟩ : Array UInt8) == ⟨y⟩) = true ↔ _
  simp
def eqLeaf : TypeDesc → SC → SC → Option Prop
  | .int _, .num k a, .num k' b => if k = k' then some (a = b) else none
  | .int _, .num k a, .int k' b => if k = k' then some (a = b) else none
  | .int _, .int k a, .num k' b => if k = k' then some (a = b) else none
  | .int _, .int k a, .int k' b => if k = k' then some (a = b) else none
  | .bool, .tru a, .tru b => some (a = b)
  | .bool, .tru a, .boo b => some (a = b)
  | .bool, .boo a, .tru b => some (a = b)
  | .bool, .boo a, .boo b => some (a = b)
  | .string, .str a, .str b => some (a = b)
  | _, _, _ => none
theorem eqLeaf_ok {P : Program} {μ : Mu} {w : World} {t : TypeId} {d : TypeDesc} {x y : SC} {u v : Value} {p : Prop} (hd : P.underlying t = some d) (h : eqLeaf d x y = some p) (hx : x.ok μ u) (hy : y.ok μ v) (m : Nat) :
    ∃ b : Bool, (Op.equalIn (m + 1) t u v).run P w = .ok b w ∧ (b = true ↔ p) := by
  have int : ∀ {k k' k0 : IntKind} {a b : Int}, P.underlying t = some (.int k0) → u = .int k a → v = .int k' b → (if k = k' then some (a = b) else none) = some p → ∃ b : Bool, (Op.equalIn (m + 1) t u v).run P w = .ok b w ∧ (b = true ↔ p) := by
    intro k k' k0 a b hd hu hv h
    subst hu; subst hv
    split at h
    · rename_i hk; subst hk
      cases h
      exact ⟨a == b, run_equalIn_int w m t k k0 a b hd, by simp⟩
    · cases h
  have bool : ∀ {a b : Bool}, P.underlying t = some .bool → u = .bool a → v = .bool b → some (a = b) = some p → ∃ b : Bool, (Op.equalIn (m + 1) t u v).run P w = .ok b w ∧ (b = true ↔ p) := by
    intro a b hd hu hv h
    subst hu; subst hv
    cases h
    exact ⟨a == b, run_equalIn_bool' w m t a b hd, by simp⟩
  unfold eqLeaf at h
  split at h
  · exact int hd hx hy h
  · exact int hd hx hy h
  · exact int hd hx hy h
  · exact int hd hx hy h
  · exact bool hd hx hy h
  · exact bool hd hx hy h
  · exact bool hd hx hy h
  · exact bool hd hx hy h
  · rename_i a b
    have e1 : u = .string a := hx
    have e2 : v = .string b := hy
    subst e1; subst e2
    cases h
    refine ⟨a == b, ?_, beqBytes a b⟩
    rw [run_equalIn_string w m t a b hd, beq_toListBytes]
  · cases h

def conjP : List Prop → Prop
  | [] => True
  | [p] => p
  | p :: q :: ps => p ∧ conjP (q :: ps)
theorem conjP_cons (p : Prop) (ps : List Prop) : conjP (p :: ps) ↔ p ∧ conjP ps := by
  cases ps with
  | nil => simp [conjP]
  | cons q ps => rfl
theorem conjP_append (ps qs : List Prop) : conjP (ps ++ qs) ↔ conjP ps ∧ conjP qs := by
  induction ps with
  | nil => simp [conjP]
  | cons p ps ih => rw [List.cons_append, conjP_cons, conjP_cons, ih, and_assoc]

def partS (P : Program) (t : TypeId) (cs : List SC) (off : Nat) : Option (List SC) :=
  match P.underlying t, P.info? t with
  | some d, some inf => if agD d then some ((cs.drop off).take inf.size) else
      match cs[off]? with
      | some c => some [c]
      | none => none
  | _, _ => none
def VR (P : Program) (μ : Mu) (t : TypeId) (cs : List SC) (v : Value) : Prop :=
  ∃ d, P.underlying t = some d ∧ if agD d then ∃ vs : List Value, v = .agg vs.toArray ∧ All2 (SC.ok μ) cs vs else ∃ c, cs = [c] ∧ c.ok μ v
theorem partS_ok {P : Program} {μ : Mu} {w : World} {t : TypeId} {cs xs : List SC} {vs : List Value} {off : Nat} (ha : All2 (SC.ok μ) cs vs) (h : partS P t cs off = some xs) :
    ∃ z, (part t vs.toArray off).run P w = .ok z w ∧ VR P μ t xs z := by
  unfold partS at h
  split at h
  · rename_i d inf hu hi
    split at h
    · rename_i hag
      cases h
      refine ⟨.agg (vs.toArray.extract off (off + inf.size)), by simp [part, run_isAgg hu, hag, run_sizeOf' hi], d, hu, ?_⟩
      rw [if_pos hag]
      exact ⟨(vs.drop off).take inf.size, by simp [List.extract_eq_take_drop], (ha.drop off).take inf.size⟩
    · rename_i hag
      split at h
      · rename_i c hc
        cases h
        obtain ⟨v, hv, hok⟩ := ha.get off c hc
        exact ⟨v, by simp [part, run_isAgg hu, hag, hv], d, hu, by rw [if_neg hag]; exact ⟨c, rfl, hok⟩⟩
      · cases h
  · cases h

def eqFs (P : Program) (rec : TypeId → List SC → List SC → Option (List Prop)) (xs ys : List SC) : List Field → Option (List Prop)
  | [] => some []
  | f :: fs => if f.name = "_" then eqFs P rec xs ys fs else
    match partS P f.type xs f.offset, partS P f.type ys f.offset with
    | some a, some b => match rec f.type a b, eqFs P rec xs ys fs with
      | some p, some q => some (p ++ q)
      | _, _ => none
    | _, _ => none
def eqIs (P : Program) (rec : List SC → List SC → Option (List Prop)) (e : TypeId) (n : Nat) (xs ys : List SC) : List Nat → Option (List Prop)
  | [] => some []
  | i :: is =>
    match partS P e xs (i * n), partS P e ys (i * n) with
    | some a, some b => match rec a b, eqIs P rec e n xs ys is with
      | some p, some q => some (p ++ q)
      | _, _ => none
    | _, _ => none
def eqP (P : Program) : Nat → TypeId → List SC → List SC → Option (List Prop)
  | 0, _, _, _ => none
  | d + 1, t, xs, ys =>
    match P.underlying t with
    | some (.struct fs) => if P.stoodInHeld t then none else eqFs P (eqP P d) xs ys fs.toList
    | some (.array n e) => match P.info? e with
      | some _ => eqIs P (eqP P d e) e (P.cellsOf e) xs ys (List.range n)
      | none => none
    | some dd => match xs, ys with
      | [x], [y] => match eqLeaf dd x y with
        | some p => some [p]
        | none => none
      | _, _ => none
    | none => none

theorem eqFs_ok {P : Program} {μ : Mu} {w : World} {m : Nat} {rec : TypeId → List SC → List SC → Option (List Prop)}
    (hrec : ∀ t xs ys ps u v, rec t xs ys = some ps → VR P μ t xs u → VR P μ t ys v → ∃ b : Bool, (Op.equalIn m t u v).run P w = .ok b w ∧ (b = true ↔ conjP ps)) {xs ys : List SC} {us vs : List Value}
    (hx : All2 (SC.ok μ) xs us) (hy : All2 (SC.ok μ) ys vs) : ∀ (fs : List Field) (ps : List Prop), eqFs P rec xs ys fs = some ps → ∃ b : Bool, (Op.eqFields m us.toArray vs.toArray fs).run P w = .ok b w ∧ (b = true ↔ conjP ps)
  | [], ps, h => by cases h; exact ⟨true, rfl, by simp [conjP]⟩
  | f :: fs, ps, h => by
    simp only [eqFs] at h
    split at h
    · rename_i hn
      obtain ⟨b, h1, h2⟩ := eqFs_ok hrec hx hy fs ps h
      exact ⟨b, by simp [Op.eqFields, hn, h1], h2⟩
    · rename_i hn
      split at h
      · rename_i a b ha hb
        obtain ⟨z1, g1, g2⟩ := partS_ok (w := w) hx ha
        obtain ⟨z2, g3, g4⟩ := partS_ok (w := w) hy hb
        split at h
        · rename_i p q hp hq
          cases h
          obtain ⟨b1, k1, k2⟩ := hrec _ _ _ _ _ _ hp g2 g4
          obtain ⟨b2, k3, k4⟩ := eqFs_ok hrec hx hy fs q hq
          cases b1
          · refine ⟨false, by simp [Op.eqFields, hn, g1, g3, k1], ?_⟩
            rw [conjP_append]
            simp only [Bool.false_eq_true, false_iff] at k2 ⊢
            exact fun hh => k2 hh.1
          · refine ⟨b2, by simp [Op.eqFields, hn, g1, g3, k1, k3], ?_⟩
            rw [conjP_append, k4]
            simp only [true_iff] at k2
            simp [k2]
        · cases h
      · cases h
theorem eqIs_ok {P : Program} {μ : Mu} {w : World} {m n : Nat} {e : TypeId} {rec : List SC → List SC → Option (List Prop)}
    (hrec : ∀ xs ys ps u v, rec xs ys = some ps → VR P μ e xs u → VR P μ e ys v → ∃ b : Bool, (Op.equalIn m e u v).run P w = .ok b w ∧ (b = true ↔ conjP ps)) {xs ys : List SC} {us vs : List Value}
    (hx : All2 (SC.ok μ) xs us) (hy : All2 (SC.ok μ) ys vs) : ∀ (is : List Nat) (ps : List Prop), eqIs P rec e n xs ys is = some ps → ∃ b : Bool, (Op.eqItems m e n us.toArray vs.toArray is).run P w = .ok b w ∧ (b = true ↔ conjP ps)
  | [], ps, h => by cases h; exact ⟨true, by simp [Op.eqItems], by simp [conjP]⟩
  | i :: is, ps, h => by
    simp only [eqIs] at h
    split at h
    · rename_i a b ha hb
      obtain ⟨z1, g1, g2⟩ := partS_ok (w := w) hx ha
      obtain ⟨z2, g3, g4⟩ := partS_ok (w := w) hy hb
      split at h
      · rename_i p q hp hq
        cases h
        obtain ⟨b1, k1, k2⟩ := hrec _ _ _ _ _ hp g2 g4
        obtain ⟨b2, k3, k4⟩ := eqIs_ok hrec hx hy is q hq
        cases b1
        · refine ⟨false, by simp [Op.eqItems, g1, g3, k1], ?_⟩
          rw [conjP_append]
          simp only [Bool.false_eq_true, false_iff] at k2 ⊢
          exact fun hh => k2 hh.1
        · refine ⟨b2, by simp [Op.eqItems, g1, g3, k1, k3], ?_⟩
          rw [conjP_append, k4]
          simp only [true_iff] at k2
          simp [k2]
      · cases h
    · cases h
theorem eqP_ok {P : Program} {μ : Mu} {w : World} : ∀ (d m : Nat) (t : TypeId) (xs ys : List SC) (ps : List Prop) (u v : Value), eqP P d t xs ys = some ps → VR P μ t xs u → VR P μ t ys v →
    ∃ b : Bool, (Op.equalIn (m + d) t u v).run P w = .ok b w ∧ (b = true ↔ conjP ps)
  | 0, _, _, _, _, _, _, _, h, _, _ => by cases h
  | d + 1, m, t, xs, ys, ps, u, v, h, hx, hy => by
    obtain ⟨dx, hdx, hx⟩ := hx
    obtain ⟨dy, hdy, hy⟩ := hy
    rw [hdx] at hdy
    cases hdy
    simp only [eqP, hdx] at h
    split at h
    · rename_i fs he
      cases he
      simp only [agD, if_true] at hx hy
      obtain ⟨us, rfl, hxa⟩ := hx
      obtain ⟨vs, rfl, hya⟩ := hy
      split at h
      · cases h
      · rename_i hst
        obtain ⟨b, h1, h2⟩ := eqFs_ok (P := P) (w := w) (m := m + d) (fun t xs ys ps u v h hx hy => eqP_ok d m t xs ys ps u v h hx hy) hxa hya fs.toList ps h
        refine ⟨b, ?_, h2⟩
        have hf : P.fieldsOf t = fs := by simp [Program.fieldsOf, hdx]
        rw [← Nat.add_assoc, run_equalIn_struct w (m + d) t us.toArray vs.toArray (by rw [hf]; exact hdx) (by simpa using hst), hf]
        exact h1
    · rename_i n e he
      cases he
      simp only [agD, if_true] at hx hy
      obtain ⟨us, rfl, hxa⟩ := hx
      obtain ⟨vs, rfl, hya⟩ := hy
      split at h
      · rename_i inf hi
        obtain ⟨b, h1, h2⟩ := eqIs_ok (P := P) (w := w) (m := m + d) (fun xs ys ps u v h hx hy => eqP_ok d m e xs ys ps u v h hx hy) hxa hya _ ps h
        refine ⟨b, ?_, h2⟩
        rw [← Nat.add_assoc, run_equalIn_array w (m + d) us.toArray vs.toArray hdx hi]
        exact h1
      · cases h
    · rename_i dd hns hna he
      cases he
      have hag : agD dx = false := by
        cases dx <;> first | rfl | exact absurd rfl (hns _) | exact absurd rfl (hna _ _)
      simp only [hag, Bool.false_eq_true, if_false] at hx hy
      obtain ⟨c1, rfl, hc1⟩ := hx
      obtain ⟨c2, rfl, hc2⟩ := hy
      simp only [] at h
      split at h
      · rename_i p hp
        cases h
        obtain ⟨b, h1, h2⟩ := eqLeaf_ok (w := w) hdx hp hc1 hc2 (m + d)
        exact ⟨b, by rw [← Nat.add_assoc]; exact h1, by simpa [conjP] using h2⟩
      · cases h
    · rename_i he
      cases he

def eqOut (P : Program) (op : BinOp) (t : TypeId) (xs ys : List SC) : Out SV :=
  if P.eqGuardType P.depth t then .fail else
  match P.underlying t, eqP P 20 t xs ys with
  | some d, some ps => if agD d then
      match op with
      | .eql => .br (conjP ps) oT oF
      | .neq => .br (conjP ps) oF oT
      | _ => .fail
    else .fail
  | _, _ => .fail
theorem eq_ok {μ : Mu} {P : Program} {w : World} {K : SV → Prop} {op : BinOp} {t : TypeId} {x y : Operand} {xs ys : List SC} {us vs : List Value} (hx : All2 (SC.ok μ) xs us) (hy : All2 (SC.ok μ) ys vs) (h : (eqOut P op t xs ys).wp K) :
    ∃ z sv, (do eqGuard op t x y (.agg us.toArray) (.agg vs.toArray); binOp op t (.agg us.toArray) (.agg vs.toArray)).run P w = .ok z w ∧ K sv ∧ sv.ok μ z := by
  unfold eqOut at h
  split at h
  · exact h.elim
  · rename_i hg
    split at h
    · rename_i d ps hd hps
      split at h
      · rename_i hag
        have hr := run_eqGuard_agg (P := P) w op t x y us.toArray vs.toArray (by simpa using hg)
        obtain ⟨b, h1, h2⟩ := eqP_ok (P := P) (μ := μ) (w := w) 20 9980 t xs ys ps (.agg us.toArray) (.agg vs.toArray) hps ⟨d, hd, by rw [if_pos hag]; exact ⟨us, rfl, hx⟩⟩ ⟨d, hd, by rw [if_pos hag]; exact ⟨vs, rfl, hy⟩⟩
        have he : (Op.equalIn 10000 t (.agg us.toArray) (.agg vs.toArray)).run P w = .ok b w := h1
        cases op <;> simp only [] at h <;> try exact h.elim
        · refine ⟨.bool b, ?_⟩
          have hb : (do eqGuard .eql t x y (.agg us.toArray) (.agg vs.toArray); binOp .eql t (.agg us.toArray) (.agg vs.toArray) : Sem Value).run P w = .ok (.bool b) w := by
            rw [Sem.run_bind, hr]; simp only [Result.andThen_ok]; rw [run_eql_struct, he]; rfl
          by_cases hc : conjP ps
          · exact ⟨_, hb, h.1 hc, okT (h2.2 hc)⟩
          · exact ⟨_, hb, h.2 hc, okF (by cases b; rfl; exact absurd (h2.1 rfl) hc)⟩
        · refine ⟨.bool (!b), ?_⟩
          have hb : (do eqGuard .neq t x y (.agg us.toArray) (.agg vs.toArray); binOp .neq t (.agg us.toArray) (.agg vs.toArray) : Sem Value).run P w = .ok (.bool (!b)) w := by
            rw [Sem.run_bind, hr]; simp only [Result.andThen_ok]; rw [run_neq_struct, he]; rfl
          by_cases hc : conjP ps
          · exact ⟨_, hb, h.1 hc, okF (by simp [h2.2 hc])⟩
          · exact ⟨_, hb, h.2 hc, okT (by cases b; rfl; exact absurd (h2.1 rfl) hc)⟩
      · exact h.elim
    · exact h.elim

def strEq (op : BinOp) (a b : ByteArray) : Out SV :=
  match op with
  | .eql => .br (a = b) oT oF
  | .neq => .br (a = b) oF oT
  | _ => .fail
theorem str_out_ok {μ : Mu} {P : Program} {w : World} {K : SV → Prop} {op : BinOp} {t : TypeId} {a b : ByteArray} (hu : P.underlying t = some .string) (h : (strEq op a b).wp K) :
    ∃ z sv, (binOp op t (.string a) (.string b)).run P w = .ok z w ∧ K sv ∧ sv.ok μ z := by
  have hb : (a.toList == b.toList) = decide (a = b) := by
    rw [← beq_toListBytes]
    have := beqBytes a b
    by_cases hc : a = b
    · rw [this.2 hc]; simp [hc]
    · have hn : ¬ (a == b) = true := fun h => hc (this.1 h)
      simp at hn
      rw [hn]; simp [hc]
  cases op <;> simp only [strEq] at h <;> try exact h.elim
  · refine ⟨.bool (decide (a = b)), ?_⟩
    have hr : (binOp .eql t (.string a) (.string b)).run P w = .ok (.bool (decide (a = b))) w := by simp [binOp, Op.stringOp, hb]
    obtain ⟨h1, h2⟩ := h
    by_cases hc : a = b
    · exact ⟨_, hr, h1 hc, okT (by simp [hc])⟩
    · exact ⟨_, hr, h2 hc, okF (by simp [hc])⟩
  · refine ⟨.bool (!decide (a = b)), ?_⟩
    have hr : (binOp .neq t (.string a) (.string b)).run P w = .ok (.bool (!decide (a = b))) w := by simp [binOp, Op.stringOp, hb]
    obtain ⟨h1, h2⟩ := h
    by_cases hc : a = b
    · exact ⟨_, hr, h1 hc, okF (by simp [hc])⟩
    · exact ⟨_, hr, h2 hc, okT (by simp [hc])⟩

/-- a struct built of parts -/
def fillS (place : Nat → Option (Nat × Nat)) (cells : List SC) : List (Nat × SV) → Option (List SC)
  | [] => some cells
  | (i, v) :: rest =>
    match place i, v.cells? with
    | some (off, size), some cs => if cs.length = size ∧ off + cs.length ≤ cells.length then fillS place (setAt cells off cs) rest else none
    | _, _ => none
def AllP (μ : Mu) : List (Nat × SV) → List (Nat × Value) → Prop
  | [], [] => True
  | (i, x) :: xs, (j, v) :: vs => i = j ∧ x.ok μ v ∧ AllP μ xs vs
  | _, _ => False
theorem foldl_set (off : Nat) : ∀ (vs : List Value) (k : Nat) (cells : Array Value), off + k + vs.length ≤ cells.size →
    ((vs.zipIdx k).foldl (fun cs (c, j) => cs.setIfInBounds (off + j) c) cells).toList = cells.toList.take (off + k) ++ vs ++ cells.toList.drop (off + k + vs.length)
  | [], k, cells, h => by simp
  | v :: vs, k, cells, h => by
    simp only [List.zipIdx_cons, List.foldl_cons]
    rw [foldl_set off vs (k + 1) (cells.setIfInBounds (off + k) v) (by simp at h ⊢; omega)]
    have := list_seg_step cells.toList (off + k) v vs (by simp at h ⊢; omega)
    simpa [Array.toList_setIfInBounds, Nat.add_assoc] using this
theorem fill_ok {μ : Mu} {place : Nat → Option (Nat × Nat)} : ∀ {parts : List (Nat × SV)} {vparts : List (Nat × Value)} {cells out : List SC} {vs : List Value}, AllP μ parts vparts → All2 (SC.ok μ) cells vs → fillS place cells parts = some out →
    ∃ us : List Value, Instr.fill place vs.toArray vparts = some us.toArray ∧ All2 (SC.ok μ) out us
  | [], [], cells, out, vs, _, ha, h => by cases h; exact ⟨vs, rfl, ha⟩
  | (i, x) :: xs, (j, v) :: rest, cells, out, vs, hp, ha, h => by
    obtain ⟨rfl, hx, hr⟩ := hp
    simp only [fillS] at h
    split at h
    · rename_i off size cs hpl hc
      split at h
      · rename_i hcond
        obtain ⟨h1, h2⟩ := hcond
        have hv := SV.cells_ok hc hx
        have hl := hv.len
        have hal := ha.len
        have hsz : v.cells.size = size := by rw [← h1, ← hl]; simp
        obtain ⟨us, g1, g2⟩ := fill_ok hr (ha.setAt (j := off) hv) h
        refine ⟨us, ?_, g2⟩
        simp only [Instr.fill, hpl]
        rw [if_neg (by simp only [hsz, List.size_toArray]; simp; omega)]
        rw [← g1]
        congr 1
        apply Array.toList_inj.1
        have hf := foldl_set off v.cells.toList 0 vs.toArray (by simp at hl ⊢; omega)
        rw [← Array.foldl_toList, Array.toList_zipIdx, hf]
        simp
      · cases h
    · cases h
  | [], _ :: _, _, _, _, hp, _, _ => hp.elim
  | _ :: _, [], _, _, _, hp, _, _ => hp.elim
def placesL (P : Program) : List Field → Option (List (Nat × Nat))
  | [] => some []
  | f :: fs => match P.info? f.type, placesL P fs with
    | some inf, some l => some ((f.offset, inf.size) :: l)
    | _, _ => none
theorem places_ok {P : Program} {w : World} : ∀ {fs : List Field} {l : List (Nat × Nat)}, placesL P fs = some l → (fs.mapM fun f => Prod.mk f.offset <$> Go.sizeOf f.type).run P w = .ok l w
  | [], l, h => by cases h; rfl
  | f :: fs, l, h => by
    simp only [placesL] at h
    split at h
    · rename_i inf l' hi hl
      cases h
      rw [List.mapM_cons]
      simp [run_sizeOf' hi, places_ok hl]
    · cases h
def buildOut (P : Program) (t : TypeId) (parts : List (Nat × SV)) : Out SV :=
  match P.info? t, P.underlying t with
  | some inf, some (.struct fs) => match inf.zero, placesL P fs.toList with
    | some z, some pl => match constL z.cells.toList with
      | some cs => match fillS (fun i => pl[i]?) cs parts with
        | some out => .ret (.s (.a out))
        | none => .fail
      | none => .fail
    | _, _ => .fail
  | some inf, some (.array n e) => match inf.zero, P.info? e with
    | some z, some ie => match constL z.cells.toList with
      | some cs => match fillS (fun i => some (i * ie.size, ie.size)) cs parts with
        | some out => .ret (.s (.a out))
        | none => .fail
      | none => .fail
    | _, _ => .fail
  | _, _ => .fail
theorem build_ok {μ : Mu} {P : Program} {w : World} {K : SV → Prop} {t : TypeId} {parts : List (Nat × SV)} {vparts : List (Nat × Value)} (hp : AllP μ parts vparts) (h : (buildOut P t parts).wp K) :
    ∃ z sv, (Instr.build t vparts.toArray).run P w = .ok z w ∧ K sv ∧ sv.ok μ z := by
  unfold buildOut at h
  split at h
  · rename_i inf fs hi hu
    split at h
    · rename_i z pl hz hpl
      split at h
      · rename_i cs hcs
        split at h
        · rename_i out hf
          obtain ⟨us, g1, g2⟩ := fill_ok hp (constL_ok hcs) hf
          refine ⟨.agg us.toArray, _, ?_, h, ⟨us, rfl, g2⟩⟩
          have hpl' := places_ok (w := w) hpl
          have hm : (fs.mapM fun f => Prod.mk f.offset <$> Go.sizeOf f.type).run P w = .ok pl.toArray w := by
            rw [Array.mapM_eq_mapM_toList, Sem.run_map, hpl']
            rfl
          have g1' : Instr.fill (fun i => pl[i]?) z.cells vparts = some us.toArray := by rw [← g1]
          simp [Instr.build, zeroValue, typeInfo, hi, hz, run_underlying hu, hm, g1']
        · exact h.elim
      · exact h.elim
    · exact h.elim
  · rename_i inf n e hi hu
    split at h
    · rename_i z ie hz hie
      split at h
      · rename_i cs hcs
        split at h
        · rename_i out hf
          obtain ⟨us, g1, g2⟩ := fill_ok hp (constL_ok hcs) hf
          refine ⟨.agg us.toArray, _, ?_, h, ⟨us, rfl, g2⟩⟩
          have g1' : Instr.fill (fun i => some (i * ie.size, ie.size)) z.cells vparts = some us.toArray := by rw [← g1]
          simp [Instr.build, zeroValue, typeInfo, hi, hz, run_underlying hu, run_sizeOf' hie, g1']
        · exact h.elim
      · exact h.elim
    · exact h.elim
  · exact h.elim
end Go.Proofs.Ytplpmnippkkkkaa.Sx
