/- Functions: entered, left; contracts of functions whose arguments and results are plain values. No Go text in sight. -/
import Derived.Test.YtplpmnippkkkkaaSxK
namespace Go.Proofs.Ytplpmnippkkkkaa.Sx
open Go Go.RowKit
set_option linter.unusedVariables false
set_option linter.unusedSimpArgs false

def resS (P : Program) (s : St) : ResultVar → Option S1
  | .tmp t => match s.slots.getD t .u with
    | .s x => some x
    | _ => none
  | .cell a t => match s.slots.getD a .u, P.info? t, P.underlying t with
    | .s (.c (.ptr b i e j)), some inf, some d => match s.heap b with
      | some k => match blkGet k i e j inf.size with
        | some (none, cs) => match packV (agD d) cs with
          | some (.s x) => some x
          | _ => none
        | _ => none
      | none => none
    | _, _, _ => none
def resL (P : Program) (s : St) : List ResultVar → Option (List S1)
  | [] => some []
  | r :: rs => match resS P s r, resL P s rs with
    | some x, some xs => some (x :: xs)
    | _, _ => none
def resV : List S1 → SV
  | [x] => .s x
  | xs => .t xs
def oneRes (tmps : Array Value) : ResultVar → Sem Value
  | .tmp t => pure (tmps.getD t undef)
  | .cell a t => do loadVar t (← asAddr (tmps.getD a undef))
theorem resS_ok {P : Program} {w0 : World} {I : Nat → Prop} {μ : Mu} {s : St} {a : Act} {w : World} (hm : Models w0 I μ s a w) {r : ResultVar} {x : S1} (h : resS P s r = some x) :
    ∃ v, (oneRes a.tmps r).run P w = .ok v w ∧ x.ok μ v := by
  have slot : ∀ (t : Nat) (y : SV), s.slots.getD t .u = y → y ≠ .u → y.ok μ (a.tmps.getD t undef) := fun t y hy hne => by
    have := evS_ok hm (.tmp t)
    simp only [evS, Act.eval] at this
    rw [hy] at this
    exact this
  cases r with
  | tmp t =>
    simp only [resS] at h
    split at h
    · rename_i y hy
      cases h
      exact ⟨_, rfl, slot t _ hy (by simp)⟩
    · cases h
  | cell ad t =>
    simp only [resS] at h
    split at h
    · rename_i b i e j inf d hs hi hu
      split at h
      · rename_i k hk
        split at h
        · rename_i cs hg
          split at h
          · rename_i y hp
            cases h
            obtain ⟨l, hl, hv⟩ := slot ad _ hs (by simp)
            obtain ⟨l', hl', hok⟩ := hm.hm.ok b k hk
            rw [hl] at hl'; cases hl'
            obtain ⟨vs, h1, h2, h3⟩ := blkGet_ok hok hg trivial
            have hc : ∀ (x : Nat) (v : Value), vs[x]? = some v → w.cell? ((⟨l.b, l.off + (i * e + j), none⟩ : Addr).add x) = some v := fun x v hv => by
              rw [Addr.add_lit']; exact h3 x v hv
            unfold packV at hp
            split at hp
            · rename_i hag
              cases hp
              refine ⟨.agg vs.toArray, ?_, ⟨vs, rfl, h2⟩⟩
              have hrun := run_loadCells_list (P := P) w ⟨l.b, l.off + (i * e + j), none⟩ vs hc
              rw [h1] at hrun
              simp [oneRes, hv, asAddr, loadVar, run_isAgg hu, hag, run_sizeOf' hi, hrun]
            · rename_i hag
              split at hp
              · rename_i c
                cases hp
                match vs, h2 with
                | [v], h2 =>
                  refine ⟨v, ?_, h2.1⟩
                  have := hc 0 v rfl
                  rw [Addr.add_lit', Nat.add_zero] at this
                  simp [oneRes, hv, asAddr, loadVar, run_isAgg hu, hag, this]
                | [], h2 => exact h2.elim
                | _ :: _ :: _, h2 => exact h2.2.elim
              · cases hp
          · cases h
        · cases h
      · cases h
    · cases h
theorem resL_ok {P : Program} {w0 : World} {I : Nat → Prop} {μ : Mu} {s : St} {a : Act} {w : World} (hm : Models w0 I μ s a w) : ∀ {rs : List ResultVar} {xs : List S1}, resL P s rs = some xs →
    ∃ vs : List Value, (rs.mapM (oneRes a.tmps)).run P w = .ok vs w ∧ AllS (S1.ok μ) xs vs
  | [], xs, h => by cases h; exact ⟨[], rfl, trivial⟩
  | r :: rs, xs, h => by
    simp only [resL] at h
    split at h
    · rename_i x ys h1 h2
      cases h
      obtain ⟨v, g1, g2⟩ := resS_ok hm h1
      obtain ⟨vs, g3, g4⟩ := resL_ok hm h2
      exact ⟨v :: vs, by rw [List.mapM_cons]; simp [g1, g3], g2, g4⟩
    · cases h
theorem resV_ok {P : Program} {w0 : World} {I : Nat → Prop} {μ : Mu} {s : St} {a : Act} {w : World} {fn : Func} (hm : Models w0 I μ s a w) {xs : List S1} (h : resL P s fn.results.toList = some xs) :
    ∃ v, (results fn a.tmps).run P w = .ok v w ∧ (resV xs).ok μ v := by
  obtain ⟨vs, h1, h2⟩ := resL_ok hm h
  have hrun : (results fn a.tmps).run P w = .ok (if h : vs.toArray.size = 1 then vs.toArray[0] else .tuple vs.toArray) w := by
    have e : results fn a.tmps = (do let vs ← fn.results.mapM (oneRes a.tmps); pure (if h : vs.size = 1 then vs[0] else .tuple vs)) := by
      unfold results
      congr 1
    rw [e, Array.mapM_eq_mapM_toList]
    simp [h1]
  refine ⟨_, hrun, ?_⟩
  match xs, vs, h2 with
  | [], [], _ => exact ⟨[], rfl, trivial⟩
  | [x], [v], h2 => exact h2.1
  | x :: y :: xs, u :: v :: vs, h2 => exact ⟨u :: v :: vs, by simp, h2⟩
  | [], _ :: _, h2 => exact h2.elim
  | _ :: _, [], h2 => exact h2.elim
  | [_], _ :: _ :: _, h2 => exact h2.2.elim
  | _ :: _ :: _, [_], h2 => exact h2.2.elim

/-- what a function leaves with -/
def retK (P : Program) (fn : Func) (K : SV → St → Prop) : Ex → St → Prop
  | .nor, s => match resL P s fn.results.toList with
    | some xs => K (resV xs) s
    | none => False
  | .ret, s => match resL P s fn.results.toList with
    | some xs => K (resV xs) s
    | none => False
  | .exi _, _ => False
def entry (fn : Func) (args : List SV) (h : Nat → Option Blk) (next : Nat) : St := { slots := args ++ List.replicate (fn.ntmps - args.length) .u, heap := h, next }
def entryK (fn : Func) (args : List SV) (h : Nat → Option Blk) (next : Nat) (K : St → Prop) : Prop := fVs (args ++ List.replicate (fn.ntmps - args.length) .u) fun sl => fN next fun n => K ⟨sl, h, n⟩
theorem entryK_eq (fn : Func) (args : List SV) (h : Nat → Option Blk) (next : Nat) (K : St → Prop) : entryK fn args h next K = K (entry fn args h next) := by simp only [entryK, fVs_eq, fN_eq]; rfl
theorem allV_len {μ : Mu} : ∀ {xs : List SV} {vs : List Value}, AllV μ xs vs → xs.length = vs.length
  | [], [], _ => rfl
  | _ :: _, _ :: _, h => by simp [allV_len h.2]
  | [], _ :: _, h => h.elim
  | _ :: _, [], h => h.elim
theorem allV_get {μ : Mu} : ∀ {xs : List SV} {vs : List Value}, AllV μ xs vs → ∀ (i : Nat) (x : SV), xs[i]? = some x → ∃ v, vs[i]? = some v ∧ x.ok μ v
  | [], [], _, i, x, h => by simp at h
  | _ :: _, v :: _, hh, 0, x, h => by simp at h; subst h; exact ⟨v, rfl, hh.1⟩
  | _ :: _, _ :: _, hh, i + 1, x, h => by simpa using allV_get hh.2 i x (by simpa using h)
  | [], _ :: _, h, _, _, _ => h.elim
  | _ :: _, [], h, _, _, _ => h.elim
theorem fn_sound {P : Program} {Γ : Env} (hΓ : EnvOk P Γ) (hmix : P.follows .mixedOrders = true) (C : Ctl) {f : FuncId} {fn : Func} {c : Code} (hf : P.funcs[f]? = some fn) (hb : fn.body = some c)
    {I : Nat → Prop} {μ : Mu} {args : List SV} {vals : List Value} {h : Nat → Option Blk} {next : Nat} {w : World} {K : SV → St → Prop} (ha : AllV μ args vals) (hm : HeapM μ h w) (hd : Dom μ next)
    (hmine : ∀ n b l x, h n = some b → μ n = some l → b.excl w l x → I x ∨ w.heap.size ≤ x) (hk0 : entryK fn args h next fun s => cwp P Γ C c s (retK P fn K)) :
    Calls P f vals.toArray w fun e w' => ∃ v sv μ' s a, e = .returned v ∧ Models w I μ' s a w' ∧ sv.ok μ' v ∧ K sv s := by
  have hk := hk0
  rw [entryK_eq] at hk
  have hl := allV_len ha
  have hM : Models w I μ (entry fn args h next) { tmps := vals.toArray ++ Array.replicate (fn.ntmps - vals.toArray.size) undef, defers := [] } w :=
    { size := by simp [entry, hl], defers := rfl, hm := hm, mine := hmine, fr := ⟨rfl, rfl, rfl, Nat.le_refl _, fun _ _ _ => rfl⟩
      slots := fun i x hx => by
        simp only [entry] at hx
        rcases Nat.lt_or_ge i args.length with hlt | hge
        · rw [List.getElem?_append_left hlt] at hx
          obtain ⟨v, hv, hok⟩ := allV_get ha i x hx
          exact ⟨v, by rw [Array.getElem?_append_left (by simp; omega)]; simpa using hv, hok⟩
        · rw [List.getElem?_append_right hge] at hx
          have hlt2 : i - args.length < fn.ntmps - args.length := by
            have := (List.getElem?_eq_some_iff.1 hx).1
            simpa using this
          rw [List.getElem?_replicate] at hx
          simp [hlt2] at hx
          subst hx
          refine ⟨undef, ?_, trivial⟩
          rw [Array.getElem?_append_right (by simp; omega)]
          simp [← hl, hlt2] }
  refine calls_of_wp hf hb (wp_mono (cwp_sound hΓ hmix C c _ _ μ _ w hM hd hk) fun e a' w' he => ?_)
  have fin : At w I (fun s => match resL P s fn.results.toList with | some xs => K (resV xs) s | none => False) a' w' →
      a'.defers = [] ∧ ∃ v, (results fn a'.tmps).run P w' = .ok v w' ∧ ∃ v' sv μ' s a, Ending.returned v = .returned v' ∧ Models w I μ' s a w' ∧ sv.ok μ' v' ∧ K sv s := by
    rintro ⟨μ', s, h1, h2, h3⟩
    split at h3
    · rename_i xs hxs
      obtain ⟨v, g1, g2⟩ := resV_ok h1 hxs
      exact ⟨h1.defers, v, g1, v, _, μ', s, a', rfl, h1, g2, h3⟩
    · exact h3.elim
  cases e with
  | normal => exact fin he
  | ret => exact fin he
  | exit i => obtain ⟨_, _, _, _, h⟩ := he; exact h.elim
  | goto l => exact he.elim
  | panic ch => exact he.elim
  | outgrown => exact he.elim

/-! ### contracts of plain values -/
inductive Leaf where
  | I (n : Int)
  | B (b : Bool)
  | S (z : ByteArray)
inductive LK where
  | i (k : IntKind)
  | b
  | s
inductive PV where
  | c (k : LK)
  | a (ks : List LK)
def matchC : LK → SC → Option Leaf
  | .i k, .num k' n => if k = k' then some (.I n) else none
  | .i k, .int k' n => if k = k' then some (.I n) else none
  | .b, .tru b => some (.B b)
  | .b, .boo b => some (.B b)
  | .s, .str z => some (.S z)
  | _, _ => none
def matchL : List LK → List SC → Option (List Leaf)
  | [], [] => some []
  | k :: ks, c :: cs => match matchC k c, matchL ks cs with
    | some l, some L => some (l :: L)
    | _, _ => none
  | _, _ => none
def matchV : List PV → List SV → Option (List Leaf)
  | [], [] => some []
  | .c k :: ps, .s (.c c) :: xs => match matchC k c, matchV ps xs with
    | some l, some L => some (l :: L)
    | _, _ => none
  | .a ks :: ps, .s (.a cs) :: xs => match matchL ks cs, matchV ps xs with
    | some l, some L => some (l ++ L)
    | _, _ => none
  | _, _ => none
def instC : LK → Leaf → SC
  | .i k, .I n => .int k n
  | .b, .B b => .boo b
  | .s, .S z => .str z
  | _, _ => .nil
def instL : List LK → List Leaf → List SC
  | k :: ks, l :: L => instC k l :: instL ks L
  | _, _ => []
def instVs : List PV → List Leaf → List SV
  | .c k :: ps, l :: L => one (instC k l) :: instVs ps L
  | .a ks :: ps, L => .s (.a (instL ks L)) :: instVs ps (L.drop ks.length)
  | _, _ => []
def fitC : LK → Leaf → Bool
  | .i _, .I _ => true
  | .b, .B _ => true
  | .s, .S _ => true
  | _, _ => false
def kinds : List PV → List LK
  | [] => []
  | .c k :: ps => k :: kinds ps
  | .a ks :: ps => ks ++ kinds ps
def fits : List LK → List Leaf → Bool
  | [], [] => true
  | k :: ks, l :: L => fitC k l && fits ks L
  | _, _ => false
def gI (L : List Leaf) (i : Nat) : Int :=
  match L[i]? with
  | some (.I n) => n
  | _ => 0
def gB (L : List Leaf) (i : Nat) : Bool :=
  match L[i]? with
  | some (.B n) => n
  | _ => false
theorem fit_i {k : IntKind} {ks : List LK} {L : List Leaf} (h : fits (.i k :: ks) L = true) : ∃ n L', L = .I n :: L' ∧ fits ks L' = true := by
  match L, h with
  | .I n :: L', h => exact ⟨n, L', rfl, by simpa [fits, fitC] using h⟩
  | .B _ :: _, h => simp [fits, fitC] at h
  | .S _ :: _, h => simp [fits, fitC] at h
  | [], h => simp [fits] at h
theorem fit_b {ks : List LK} {L : List Leaf} (h : fits (.b :: ks) L = true) : ∃ n L', L = .B n :: L' ∧ fits ks L' = true := by
  match L, h with
  | .B n :: L', h => exact ⟨n, L', rfl, by simpa [fits, fitC] using h⟩
  | .I _ :: _, h => simp [fits, fitC] at h
  | .S _ :: _, h => simp [fits, fitC] at h
  | [], h => simp [fits] at h
theorem fit_nil {L : List Leaf} (h : fits [] L = true) : L = [] := by
  cases L with
  | nil => rfl
  | cons l L => simp [fits] at h
theorem fits_append : ∀ {a b : List LK} {L M : List Leaf}, fits a L = true → fits b M = true → fits (a ++ b) (L ++ M) = true
  | [], _, [], _, _, h => h
  | k :: a, b, l :: L, M, h, h2 => by
    simp only [fits, Bool.and_eq_true] at h
    simp only [List.cons_append, fits, Bool.and_eq_true]
    exact ⟨h.1, fits_append h.2 h2⟩
  | [], _, _ :: _, _, h, _ => by simp [fits] at h
  | _ :: _, _, [], _, h, _ => by simp [fits] at h
def noMu : Mu := fun _ => none
theorem matchC_ok {μ : Mu} {k : LK} {c : SC} {l : Leaf} {v : Value} (h : matchC k c = some l) (hc : c.ok μ v) : (instC k l).ok noMu v ∧ fitC k l = true := by
  unfold matchC at h
  split at h
  · split at h
    · rename_i hk; subst hk; cases h; exact ⟨hc, rfl⟩
    · cases h
  · split at h
    · rename_i hk; subst hk; cases h; exact ⟨hc, rfl⟩
    · cases h
  · cases h; exact ⟨hc, rfl⟩
  · cases h; exact ⟨hc, rfl⟩
  · cases h; exact ⟨hc, rfl⟩
  · cases h
theorem matchL_ok {μ : Mu} : ∀ {ks : List LK} {cs : List SC} {L : List Leaf} {vs : List Value}, matchL ks cs = some L → All2 (SC.ok μ) cs vs → (∀ M, All2 (SC.ok noMu) (instL ks (L ++ M)) vs) ∧ fits ks L = true ∧ L.length = ks.length
  | [], [], L, [], h, _ => by cases h; exact ⟨fun M => by cases M <;> trivial, rfl, rfl⟩
  | k :: ks, c :: cs, L, v :: vs, h, hc => by
    simp only [matchL] at h
    split at h
    · rename_i l L' h1 h2
      cases h
      obtain ⟨g1, g2⟩ := matchC_ok h1 hc.1
      obtain ⟨g3, g4, g5⟩ := matchL_ok h2 hc.2
      exact ⟨fun M => ⟨g1, g3 M⟩, by simp [fits, g2, g4], by simp [g5]⟩
    · cases h
  | [], [], _, _ :: _, _, hc => hc.elim
  | _ :: _, _ :: _, _, [], _, hc => hc.elim
  | [], _ :: _, _, _, h, _ => by cases h
  | _ :: _, [], _, _, h, _ => by cases h
theorem matchV_ok {μ : Mu} : ∀ {ps : List PV} {xs : List SV} {L : List Leaf} {vs : List Value}, matchV ps xs = some L → AllV μ xs vs → AllV noMu (instVs ps L) vs ∧ fits (kinds ps) L = true
  | [], [], L, [], h, _ => by cases h; exact ⟨trivial, rfl⟩
  | .c k :: ps, .s (.c c) :: xs, L, v :: vs, h, hc => by
    simp only [matchV] at h
    split at h
    · rename_i l L' h1 h2
      cases h
      obtain ⟨g1, g2⟩ := matchC_ok h1 hc.1
      obtain ⟨g3, g4⟩ := matchV_ok h2 hc.2
      exact ⟨⟨g1, g3⟩, by simp [kinds, fits, g2, g4]⟩
    · cases h
  | .a ks :: ps, .s (.a cs) :: xs, L, v :: vs, h, hc => by
    simp only [matchV] at h
    split at h
    · rename_i l L' h1 h2
      cases h
      obtain ⟨us, rfl, ha⟩ := hc.1
      obtain ⟨g1, g2, g5⟩ := matchL_ok h1 ha
      obtain ⟨g3, g4⟩ := matchV_ok h2 hc.2
      refine ⟨⟨⟨us, rfl, g1 L'⟩, ?_⟩, fits_append g2 g4⟩
      rw [← g5, List.drop_left]
      exact g3
    · cases h
  | [], [], _, _ :: _, _, hc => hc.elim
  | _ :: _, _ :: _, _, [], h, hc => hc.elim
  | [], _ :: _, _, _, h, _ => by cases h
  | .c _ :: _, [], _, _, h, _ => by cases h
  | .a _ :: _, [], _, _, h, _ => by cases h
  | .c _ :: _, .s (.a _) :: _, _, _, h, _ => by cases h
  | .a _ :: _, .s (.c _) :: _, _, _, h, _ => by cases h
  | .c _ :: _, .t _ :: _, _, _, h, _ => by cases h
  | .c _ :: _, .u :: _, _, _, h, _ => by cases h
  | .a _ :: _, .t _ :: _, _, _, h, _ => by cases h
  | .a _ :: _, .u :: _, _, _, h, _ => by cases h

def SC.val : SC → Value
  | .num k n => .int k n
  | .int k n => .int k n
  | .tru b => .bool b
  | .boo b => .bool b
  | .str z => .string z
  | .nil => .pointer none
  | _ => undef
def SV.val : SV → Value
  | .s (.c c) => c.val
  | .s (.a cs) => .agg (cs.map SC.val).toArray
  | _ => undef
theorem instC_val {μ : Mu} {k : LK} {l : Leaf} {v : Value} (h : (instC k l).ok μ v) : v = (instC k l).val := by
  cases k <;> cases l <;> exact h
theorem instL_val {μ : Mu} : ∀ {ks : List LK} {L : List Leaf} {vs : List Value}, All2 (SC.ok μ) (instL ks L) vs → vs = (instL ks L).map SC.val
  | [], _, [], _ => rfl
  | _ :: _, [], [], _ => rfl
  | k :: ks, l :: L, v :: vs, h => by simp only [instL, List.map_cons]; rw [← instC_val h.1, ← instL_val h.2]
  | [], _, _ :: _, h => h.elim
  | _ :: _, [], _ :: _, h => h.elim
  | _ :: _, _ :: _, [], h => h.elim
theorem instVs_val {μ : Mu} : ∀ {ps : List PV} {L : List Leaf} {vs : List Value}, AllV μ (instVs ps L) vs → vs = (instVs ps L).map SV.val
  | [], _, [], _ => rfl
  | .c _ :: _, [], [], _ => rfl
  | .c k :: ps, l :: L, v :: vs, h => by
    simp only [instVs, List.map_cons]
    rw [← instVs_val h.2]
    congr 1
    exact instC_val h.1
  | .a ks :: ps, L, v :: vs, h => by
    simp only [instVs] at h ⊢
    obtain ⟨⟨us, rfl, ha⟩, h2⟩ := h
    rw [List.map_cons, ← instVs_val h2, instL_val ha]
    rfl
  | [], _, _ :: _, h => h.elim
  | .c _ :: _, [], _ :: _, h => h.elim
  | .c _ :: _, _ :: _, [], h => h.elim
  | .a _ :: _, _, [], h => h.elim

structure Con0 where
  pat : List PV
  pre : Option (List Leaf → Prop) := none
  out : List Leaf → Out SV
def preO (p : Option (List Leaf → Prop)) (L : List Leaf) (o : Out SV) : Out SV :=
  match p with
  | none => o
  | some p => .ast (p L) o
def preP (p : Option (List Leaf → Prop)) (L : List Leaf) : Prop :=
  match p with
  | none => True
  | some p => p L
theorem preO_ok {p : Option (List Leaf → Prop)} {L : List Leaf} {o : Out SV} {K : SV → Prop} (h : (preO p L o).wp K) : preP p L ∧ o.wp K := by
  cases p with
  | none => exact ⟨trivial, h⟩
  | some p => exact ⟨h.1.h, h.2⟩
def Con0.spec (c : Con0) : Spec := fun _ args => match matchV c.pat args with
  | some L => Req.pure (preO c.pre L (c.out L))
  | none => Req.fail
/-- does a result meet what is told? -/
def Out.mt : Out SV → SV → Prop
  | .ret a, x => leV [] [] x a
  | .fail, _ => False
  | .eqn e f, x => ∀ y, y = e → (f y).mt x
  | .br c a b, x => (c ∧ a.mt x) ∨ (¬c ∧ b.mt x)
  | .brB q a b, x => (q = true ∧ a.mt x) ∨ (q = false ∧ b.mt x)
  | .ast _ k, x => k.mt x
  | .fact _ _ k, x => k.mt x
  | .all φ _ f, x => ∃ y, φ y ∧ (f y).mt x
theorem Out.mt_posts : ∀ {o : Out SV} {x : SV}, o.mt x → ∃ r, o.posts r ∧ leV [] [] x r
  | .ret a, x, h => ⟨a, rfl, h⟩
  | .fail, _, h => h.elim
  | .eqn e f, x, h => Out.mt_posts (o := f e) (h e rfl)
  | .br c a b, x, h => by
    rcases h with ⟨hc, h⟩ | ⟨hc, h⟩
    · obtain ⟨r, h1, h2⟩ := Out.mt_posts h; exact ⟨r, .inl ⟨hc, h1⟩, h2⟩
    · obtain ⟨r, h1, h2⟩ := Out.mt_posts h; exact ⟨r, .inr ⟨hc, h1⟩, h2⟩
  | .brB q a b, x, h => by
    rcases h with ⟨hc, h⟩ | ⟨hc, h⟩
    · obtain ⟨r, h1, h2⟩ := Out.mt_posts h; exact ⟨r, .inl ⟨hc, h1⟩, h2⟩
    · obtain ⟨r, h1, h2⟩ := Out.mt_posts h; exact ⟨r, .inr ⟨hc, h1⟩, h2⟩
  | .ast _ k, x, h => Out.mt_posts (o := k) h
  | .fact _ _ k, x, h => Out.mt_posts (o := k) h
  | .all φ _ f, x, ⟨y, hy, h⟩ => by obtain ⟨r, h1, h2⟩ := Out.mt_posts h; exact ⟨r, ⟨y, hy, h1⟩, h2⟩
theorem noHeap (μ : Mu) (w : World) : HeapM μ (fun _ => none) w := ⟨fun _ _ h => (by cases h), fun _ _ _ _ _ _ _ _ h => (by cases h)⟩
theorem muNil (μ : Mu) : muOf [] [] μ = noMu := by funext n; simp [muOf, noMu]
/-- what is to be shown of the text -/
def Con0.vc (c : Con0) (P : Program) (Γ : Env) (C : Ctl) (fn : Func) (L : List Leaf) : Prop :=
  entryK fn (instVs c.pat L) (fun _ => none) 0 fun s => cwp P Γ C (fn.body.getD .skip) s (retK P fn fun sv _ => (c.out L).mt sv)
theorem Con0.calls {P : Program} {Γ : Env} (hΓ : EnvOk P Γ) (hmix : P.follows .mixedOrders = true) {C : Ctl} {f : FuncId} {fn : Func} (hf : P.funcs[f]? = some fn) (hb : fn.body.isSome = true) (c : Con0)
    {L : List Leaf} (h : c.vc P Γ C fn L) {vals : List Value} {w : World} (ha : AllV noMu (instVs c.pat L) vals) :
    Calls P f vals.toArray w fun e w' => ∃ v r, e = .returned v ∧ (c.out L).posts r ∧ r.ok noMu v ∧ Below w.heap.size w w' := by
  have hb' : fn.body = some (fn.body.getD .skip) := by
    cases hx : fn.body with
    | none => rw [hx] at hb; cases hb
    | some c => rfl
  refine (fn_sound hΓ hmix C hf hb' (I := fun _ => False) ha (noHeap _ w) (fun n l hl => by cases hl) (fun n b l x hb => by cases hb) h).mono fun e w' he => ?_
  obtain ⟨v, sv, μ', s, a, rfl, hm, hok, hk⟩ := he
  obtain ⟨r, h1, h2⟩ := Out.mt_posts hk
  have h3 := leV_ok h2 hok
  rw [muNil] at h3
  exact ⟨v, r, rfl, h1, h3, ⟨hm.fr.os, hm.fr.tape, hm.fr.output, hm.fr.size, fun x hx => hm.fr.block x hx fun h => h⟩⟩
theorem ok_noMu {μ : Mu} {x : SV} {v : Value} (h : x.ok noMu v) : x.ok μ v := SV.ok_ext (fun n l hl => by cases hl) h
theorem Con0.ok {P : Program} {Γ : Env} (hΓ : EnvOk P Γ) (hmix : P.follows .mixedOrders = true) {C : Ctl} {f : FuncId} {fn : Func} (hf : P.funcs[f]? = some fn) (hb : fn.body.isSome = true) (c : Con0)
    (h : ∀ L, fits (kinds c.pat) L = true → preP c.pre L → c.vc P Γ C fn L) : SpecOk P f c.spec := by
  intro μ hh w base args vals hm ha hfr K hk
  unfold Con0.spec at hk ⊢
  split at hk
  · rename_i L hL
    obtain ⟨h1, h2⟩ := preO_ok (Out.wp_bind.1 hk)
    obtain ⟨ha', hft⟩ := matchV_ok hL ha
    refine (Con0.calls hΓ hmix hf hb c (h L hft h1) ha').mono fun e w' he => ?_
    obtain ⟨v, r, rfl, g1, g2, g3⟩ := he
    exact ⟨v, μ, ⟨r, [], []⟩, rfl, Out.wp_posts h2 r g1, { ext := Ext.refl μ, dom := fun _ _ h => .inl h, val := ok_noMu g2, os := g3.os, tape := g3.tape, output := g3.output, size := g3.size, keep := fun x hx _ => g3.block x hx, wrs := List.nodup_nil, wsl := rfl, nsl := by simp, olds := fun j n b' h => by simp [Req.pure] at h, news := fun j b h => by simp at h, newsApart := fun j k b c l m x _ h => by simp at h }⟩
  · exact hk.elim
/-- slots that are kept; the others are forgotten -/
def keepS (is : List Nat) : Nat → List SV → List SV
  | _, [] => []
  | i, x :: xs => (if is.contains i then x else .u) :: keepS is (i + 1) xs
def ptrN (x : SV) : Nat :=
  match x with
  | .s (.c (.ptr b _ _ _)) => b
  | _ => 0
def intN (x : SV) : Int :=
  match x with
  | .s (.c (.int _ n)) => n
  | .s (.c (.num _ n)) => n
  | _ => 0
def boolN (x : SV) : Bool :=
  match x with
  | .s (.c (.boo n)) => n
  | .s (.c (.tru n)) => n
  | _ => false
def cellsN (b : Option Blk) : List SC :=
  match b with
  | some (.cells _ cs) => cs
  | _ => []
def cellI (cs : List SC) (i : Nat) : Int :=
  match cs[i]? with
  | some (.int _ n) => n
  | some (.num _ n) => n
  | _ => 0
def cellB (cs : List SC) (i : Nat) : Bool :=
  match cs[i]? with
  | some (.boo n) => n
  | some (.tru n) => n
  | _ => false
/-- a contract that was shown by another road -/
theorem Con0.of_calls {P : Program} {f : FuncId} (c : Con0) (h : ∀ L, fits (kinds c.pat) L = true → preP c.pre L → ∀ w, Calls P f ((instVs c.pat L).map SV.val).toArray w fun e w' => ∃ v r, e = .returned v ∧ (c.out L).posts r ∧ r.ok noMu v ∧ Below w.heap.size w w') : SpecOk P f c.spec := by
  intro μ hh w base args vals hm ha hfr K hk
  unfold Con0.spec at hk ⊢
  split at hk
  · rename_i L hL
    obtain ⟨h1, h2⟩ := preO_ok (Out.wp_bind.1 hk)
    obtain ⟨ha', hft⟩ := matchV_ok hL ha
    rw [instVs_val ha']
    refine (h L hft h1 w).mono fun e w' he => ?_
    obtain ⟨v, r, rfl, g1, g2, g3⟩ := he
    exact ⟨v, μ, ⟨r, [], []⟩, rfl, Out.wp_posts h2 r g1, { ext := Ext.refl μ, dom := fun _ _ h => .inl h, val := ok_noMu g2, os := g3.os, tape := g3.tape, output := g3.output, size := g3.size, keep := fun x hx _ => g3.block x hx, wrs := List.nodup_nil, wsl := rfl, nsl := by simp, olds := fun j n b' h => by simp [Req.pure] at h, news := fun j b h => by simp at h, newsApart := fun j k b c l m x _ h => by simp at h }⟩
  · exact hk.elim
def envL : List (FuncId × Spec) → Env
  | [] => fun _ => none
  | (f, sp) :: l => fun g => if g = f then some sp else envL l g
theorem envL_nil (P : Program) : EnvOk P (envL []) := fun f sp h => by cases h
theorem envL_cons {P : Program} {f : FuncId} {sp : Spec} {l : List (FuncId × Spec)} (hc : Callable P f) (hs : SpecOk P f sp) (h : EnvOk P (envL l)) : EnvOk P (envL ((f, sp) :: l)) := fun g sp' hg => by
  simp only [envL] at hg
  split at hg
  · rename_i e
    subst e
    cases hg
    exact ⟨hc, hs⟩
  · exact h g sp' hg
theorem of_eq {a b : Prop} (e : a = b) (h : b) : a := e ▸ h
end Go.Proofs.Ytplpmnippkkkkaa.Sx
