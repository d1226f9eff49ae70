/- Contracts of functions that read rows of numbers, and hand back numbers, tuples, or new rows. No Go text in sight. -/
import Derived.Test.YtplpmnippkkkkaaSxM
namespace Go.Proofs.Ytplpmnippkkkkaa.Sx
open Go Go.RowKit
set_option linter.unusedVariables false
set_option linter.unusedSimpArgs false

inductive PA where
  | v (k : LK)
  | a (ks : List LK)
  | r (k : IntKind)
inductive RC where
  | c (x : S1)
  | r (k : IntKind) (L : List Int)
/-- a row that is read: what it holds, how long its value's room is -/
structure Rw where
  L : List Int
  c : Nat

/-! ### the caller's side -/
def rowNames : List PA → List SV → List Nat
  | .r _ :: ps, x :: xs => dstN x ++ rowNames ps xs
  | _ :: ps, _ :: xs => rowNames ps xs
  | _, _ => []
structure Mt where
  L : List Leaf
  R : List (List Int)
  p : List Prop
def addP (p : Option Prop) (l : List Prop) : List Prop :=
  match p with
  | some p => p :: l
  | none => l
def matchA : List PA → List SV → List (Option Blk) → Option Mt
  | [], [], _ => some ⟨[], [], []⟩
  | .v k :: ps, .s (.c c) :: xs, bl => match matchC k c, matchA ps xs bl with
    | some l, some m => some ⟨l :: m.L, m.R, m.p⟩
    | _, _ => none
  | .a ks :: ps, .s (.a cs) :: xs, bl => match matchL ks cs, matchA ps xs bl with
    | some l, some m => some ⟨l ++ m.L, m.R, m.p⟩
    | _, _ => none
  | .r k :: ps, x :: xs, bl => match dstN x with
    | [] => match srcL k x none, matchA ps xs bl with
      | some (p, M), some m => some ⟨m.L, M :: m.R, addP p m.p⟩
      | _, _ => none
    | [_] => match bl with
      | b :: bl => match srcL k x (some b), matchA ps xs bl with
        | some (p, M), some m => some ⟨m.L, M :: m.R, addP p m.p⟩
        | _, _ => none
      | [] => none
    | _ => none
  | _, _, _ => none
def astL : List Prop → Out Res → Out Res
  | [], o => o
  | p :: ps, o => .ast p (astL ps o)
def allP : List Prop → Prop
  | [] => True
  | p :: ps => p ∧ allP ps
theorem astL_ok : ∀ {ps : List Prop} {o : Out Res} {K : Res → Prop}, (astL ps o).wp K → allP ps ∧ o.wp K
  | [], _, _, h => ⟨trivial, h⟩
  | _ :: _, _, _, h => by obtain ⟨⟨h1⟩, h2⟩ := h; obtain ⟨h3, h4⟩ := astL_ok h2; exact ⟨⟨h1, h3⟩, h4⟩
def rowsN : List RC → Nat
  | [] => 0
  | .c _ :: rs => rowsN rs
  | .r _ _ :: rs => rowsN rs + 1
def mkGo (base : Nat) : Nat → List RC → (List S1 → List Blk → Out Res) → Out Res
  | _, [], k => k [] []
  | j, .c x :: rs, k => mkGo base j rs fun xs bs => k (x :: xs) bs
  | j, .r q L :: rs, k => .all (fun c => L.length ≤ c) ⟨_, Nat.le_refl _⟩ fun c => mkGo base (j + 1) rs fun xs bs => k (.c (.own (base + j) L.length c false) :: xs) (.oints q L :: bs)
def mkRes (base : Nat) (rs : List RC) : Out Res := if rowsN rs ≤ 4 then mkGo base 0 rs fun xs bs => .ret ⟨resV xs, [], bs⟩ else .fail
structure Con1 where
  pat : List PA
  pre : Option (List Leaf → List (List Int) → Prop) := none
  out : List Leaf → List (List Int) → Out (List RC)
def preO1 (p : Option (List Leaf → List (List Int) → Prop)) (L : List Leaf) (R : List (List Int)) (o : Out Res) : Out Res :=
  match p with
  | none => o
  | some p => .ast (p L R) o
def preP1 (p : Option (List Leaf → List (List Int) → Prop)) (L : List Leaf) (R : List (List Int)) : Prop :=
  match p with
  | none => True
  | some p => p L R
theorem preO1_ok {p : Option (List Leaf → List (List Int) → Prop)} {L : List Leaf} {R : List (List Int)} {o : Out Res} {K : Res → Prop} (h : (preO1 p L R o).wp K) : preP1 p L R ∧ o.wp K := by
  cases p with
  | none => exact ⟨trivial, h⟩
  | some p => exact ⟨h.1.h, h.2⟩
def Con1.spec (c : Con1) : Spec := fun base args => ⟨rowNames c.pat args, [], fun bl => match matchA c.pat args bl with
  | some m => astL m.p (preO1 c.pre m.L m.R ((c.out m.L m.R).bind (mkRes base)))
  | none => .fail⟩

/-! ### the callee's side -/
def instA : List PA → List Leaf → List Rw → Nat → List SV
  | .v k :: ps, l :: L, R, i => one (instC k l) :: instA ps L R i
  | .a ks :: ps, L, R, i => .s (.a (instL ks L)) :: instA ps (L.drop ks.length) R i
  | .r _ :: ps, L, r :: R, i => one (.sli i 0 1 0 r.L.length r.c false) :: instA ps L R (i + 1)
  | _, _, _, _ => []
def heapA : List PA → List Rw → Nat → Nat → Option Blk
  | .r k :: ps, r :: R, i => upd (heapA ps R (i + 1)) i (some (.ints k r.L))
  | .r _ :: _, [], _ => fun _ => none
  | _ :: ps, R, i => heapA ps R i
  | [], _, _ => fun _ => none
def rowsA : List PA → Nat
  | [] => 0
  | .r _ :: ps => rowsA ps + 1
  | _ :: ps => rowsA ps
def kindsA : List PA → List LK
  | [] => []
  | .v k :: ps => k :: kindsA ps
  | .a ks :: ps => ks ++ kindsA ps
  | .r _ :: ps => kindsA ps
def svL : SV → Option (List S1)
  | .s x => some [x]
  | .t [_] => none
  | .t xs => some xs
  | .u => none
def hd1 (h : Nat → Option Blk) : List Nat → Option (Option Blk)
  | [b] => some (h b)
  | _ => none
def mR (h : Nat → Option Blk) : List Nat → List S1 → List RC → Prop
  | _, [], [] => True
  | seen, x :: xs, .c y :: rs => leS1 [] [] x y ∧ mR h seen xs rs
  | seen, x :: xs, .r k L :: rs => match dstN (.s x) with
    | [] => match dstL k (.s x) none with
      | some L' => L' = L ∧ mR h seen xs rs
      | none => False
    | b :: _ => if seen.contains b then False else match dstL k (.s x) (some (h b)) with
      | some L' => L' = L ∧ mR h (b :: seen) xs rs
      | none => False
  | _, _, _ => False
def mR0 (sv : SV) (h : Nat → Option Blk) (rs : List RC) : Prop :=
  match svL sv with
  | some xs => mR h [] xs rs
  | none => False
def Out.mt1 : Out (List RC) → SV → (Nat → Option Blk) → Prop
  | .ret a, x, h => mR0 x h a
  | .fail, _, _ => False
  | .eqn e f, x, h => ∀ y, y = e → (f y).mt1 x h
  | .br c a b, x, h => (c ∧ a.mt1 x h) ∨ (¬c ∧ b.mt1 x h)
  | .brB q a b, x, h => (q = true ∧ a.mt1 x h) ∨ (q = false ∧ b.mt1 x h)
  | .ast _ k, x, h => k.mt1 x h
  | .fact _ _ k, x, h => k.mt1 x h
  | .all φ _ f, x, h => ∃ y, φ y ∧ (f y).mt1 x h
theorem Out.mt1_posts : ∀ {o : Out (List RC)} {x : SV} {h : Nat → Option Blk}, o.mt1 x h → ∃ r, o.posts r ∧ mR0 x h r
  | .ret a, x, h, hh => ⟨a, rfl, hh⟩
  | .fail, _, _, hh => hh.elim
  | .eqn e f, x, h, hh => Out.mt1_posts (o := f e) (hh e rfl)
  | .br c a b, x, h, hh => by
    rcases hh with ⟨hc, hh⟩ | ⟨hc, hh⟩
    · obtain ⟨r, h1, h2⟩ := Out.mt1_posts hh; exact ⟨r, .inl ⟨hc, h1⟩, h2⟩
    · obtain ⟨r, h1, h2⟩ := Out.mt1_posts hh; exact ⟨r, .inr ⟨hc, h1⟩, h2⟩
  | .brB q a b, x, h, hh => by
    rcases hh with ⟨hc, hh⟩ | ⟨hc, hh⟩
    · obtain ⟨r, h1, h2⟩ := Out.mt1_posts hh; exact ⟨r, .inl ⟨hc, h1⟩, h2⟩
    · obtain ⟨r, h1, h2⟩ := Out.mt1_posts hh; exact ⟨r, .inr ⟨hc, h1⟩, h2⟩
  | .ast _ k, x, h, hh => Out.mt1_posts (o := k) hh
  | .fact _ _ k, x, h, hh => Out.mt1_posts (o := k) hh
  | .all φ _ f, x, h, ⟨y, hy, hh⟩ => by obtain ⟨r, h1, h2⟩ := Out.mt1_posts hh; exact ⟨r, ⟨y, hy, h1⟩, h2⟩
/-- what is to be shown of the text: for all leaves, all rows -/
def Con1.vc (c : Con1) (P : Program) (Γ : Env) (C : Ctl) (fn : Func) (L : List Leaf) (R : List Rw) : Prop :=
  entryK fn (instA c.pat L R 0) (heapA c.pat R 0) (rowsA c.pat) fun s => cwp P Γ C (fn.body.getD .skip) s (retK P fn fun sv s' => (c.out L (R.map Rw.L)).mt1 sv s'.heap)

/-! ### the one serves the other -/
theorem row_view {μ : Mu} {h : Nat → Option Blk} {w : World} {k : IntKind} {x : SV} {u : Value} {p : Option Prop} {M : List Int} (hm : HeapM μ h w) (hx : x.ok μ u) {bl : Option (Option Blk)} (hbl : bl = none ∨ ∃ b, dstN x = [b] ∧ bl = some (h b)) (hd : srcL k x bl = some (p, M)) (hp : holds p) :
    ∃ a c b o, u = .slice a M.length c ∧ M.length ≤ c ∧ c ≤ maxLen ∧ (0 < c → a = some ⟨b, o, none⟩) ∧ ∀ j, j < M.length → w.cell? ⟨b, o + j, none⟩ = some (.int k (M.getD j 0)) := by
  have sub : ∀ {b i n c : Nat} {l : Loc} {a : Option Addr} {L : List Int}, i + n ≤ L.length → (0 < c → a = some ⟨l.b, l.off + (i * 1 + 0), none⟩) → n ≤ c → c ≤ maxLen → (∀ j, j < L.length → w.cell? ⟨l.b, l.off + j, none⟩ = some (.int k (L.getD j 0))) →
      ∃ a' c' b o, Value.slice a n c = .slice a' ((L.drop i).take n).length c' ∧ ((L.drop i).take n).length ≤ c' ∧ c' ≤ maxLen ∧ (0 < c' → a' = some ⟨b, o, none⟩) ∧ ∀ j, j < ((L.drop i).take n).length → w.cell? ⟨b, o + j, none⟩ = some (.int k (((L.drop i).take n).getD j 0)) := by
    intro b i n c l a L hle ha hnc hcm hcell
    have hlen : ((L.drop i).take n).length = n := by simp; omega
    refine ⟨a, c, l.b, l.off + i, by rw [hlen], by omega, hcm, fun hc => by simpa using ha hc, fun j hj => ?_⟩
    have hc := hcell (i + j) (by omega)
    rw [Nat.add_assoc, hc]
    congr 2
    simp only [List.getD_eq_getElem?_getD]
    rw [List.getElem?_take_of_lt (by omega), List.getElem?_drop]
  unfold srcL at hd
  split at hd
  · cases hd
    obtain ⟨a, rfl⟩ := hx
    exact ⟨a, 0, 0, 0, rfl, Nat.le_refl _, Nat.zero_le _, fun h => by omega, fun j hj => by simp at hj⟩
  · rename_i b n c q
    split at hd
    · rename_i k' L'
      split at hd
      · rename_i hk
        cases hd
        subst hk
        rcases hbl with hbl | ⟨b', hb', hbl⟩
        · cases hbl
        · simp [dstN] at hb'
          subst hb'
          have hb : h b = some (.oints k' M) := (Option.some.inj hbl).symm
          obtain ⟨l, a, hl, rfl, _⟩ := hx
          obtain ⟨l', hl', tt, hok⟩ := hm.ok b _ hb
          rw [hl] at hl'; cases hl'
          obtain ⟨a', c', e1, e2, e3, e4⟩ := own_vals hok
          refine ⟨a', c', l.b, l.off, e1, e2, e3, fun hc => (e4 hc).1, fun j hj => ?_⟩
          obtain ⟨_, cur, hcur, hsz, hat⟩ := e4 (by omega)
          simp only [World.cell?, hcur]
          simp only [Option.isSome_none, Bool.false_eq_true, if_false]
          exact hat j hj
      · cases hd
    · cases hd
  · rename_i b i e j n c q
    split at hd
    · rename_i t cs
      split at hd
      · rename_i hcond
        simp at hcond
        obtain ⟨rfl, rfl, hle⟩ := hcond
        split at hd
        · rename_i M' hM
          cases hd
          rcases hbl with hbl | ⟨b', hb', hbl⟩
          · cases hbl
          · simp [dstN] at hb'
            subst hb'
            have hb : h b = some (.cells t cs) := (Option.some.inj hbl).symm
            obtain ⟨l, a, hl, rfl, ha, hnc, hcm⟩ := hx
            obtain ⟨l', hl', h0, vs, hv, hall⟩ := hm.ok b _ hb
            rw [hl] at hl'; cases hl'
            have hvals := intsC_ok hM ((hall.drop j).take n)
            have hlen : M.length = n := by
              have h1 := congrArg List.length hvals
              have h2 := hall.len
              simp [valsI_len] at h1
              omega
            subst hlen
            refine ⟨a, c, l.b, j, rfl, hnc, hcm, fun hc => by rw [ha hc, h0]; simp, fun y hy => ?_⟩
            have := congrArg (fun l => l[y]?) hvals
            simp only [valsI_get _ _ _ hy] at this
            rw [List.getElem?_take_of_lt hy, List.getElem?_drop] at this
            simp [World.cell?, hv, this]
        · cases hd
      · cases hd
    · rename_i k' L
      split at hd
      · rename_i hcond
        obtain ⟨rfl, rfl, rfl⟩ := hcond
        cases hd
        rcases hbl with hbl | ⟨b', hb', hbl⟩
        · cases hbl
        · simp [dstN] at hb'
          subst hb'
          have hb : h b = some (.ints k' L) := (Option.some.inj hbl).symm
          obtain ⟨l, a, hl, rfl, ha, hnc, hcm⟩ := hx
          obtain ⟨l', hl', hok⟩ := hm.ok b _ hb
          rw [hl] at hl'; cases hl'
          refine sub (b := b) hp ha hnc hcm fun y hy => ?_
          obtain ⟨_, g⟩ := hok.2 y hy
          obtain ⟨v, hv, hokv⟩ := g 0 _ rfl
          have hv' : w.cell? ⟨l.b, l.off + y, none⟩ = some v := by simpa using hv
          rw [hv', show v = .int k' (L.getD y 0) from hokv]
      · cases hd
    · rename_i k' L
      split at hd
      · rename_i hcond
        obtain ⟨rfl, rfl, rfl⟩ := hcond
        cases hd
        rcases hbl with hbl | ⟨b', hb', hbl⟩
        · cases hbl
        · simp [dstN] at hb'
          subst hb'
          have hb : h b = some (.oints k' L) := (Option.some.inj hbl).symm
          obtain ⟨l, a, hl, rfl, ha, hnc, hcm⟩ := hx
          obtain ⟨l', hl', tt, hok⟩ := hm.ok b _ hb
          rw [hl] at hl'; cases hl'
          obtain ⟨a', c', e1, e2, e3, e4⟩ := own_vals hok
          refine sub (b := b) hp ha hnc hcm fun y hy => ?_
          obtain ⟨_, cur, hcur, hsz, hat⟩ := e4 (by omega)
          simp only [World.cell?, hcur]
          simp only [Option.isSome_none, Bool.false_eq_true, if_false]
          exact hat y hy
      · cases hd
    · cases hd
  · cases hd
theorem allV_ext {μ μ' : Mu} (h : Ext μ μ') : ∀ {xs : List SV} {vs : List Value}, AllV μ xs vs → AllV μ' xs vs
  | [], [], _ => trivial
  | _ :: _, _ :: _, hh => ⟨SV.ok_ext h hh.1, allV_ext h hh.2⟩
  | [], _ :: _, hh => hh.elim
  | _ :: _, [], hh => hh.elim
theorem instL_ext {μ : Mu} : ∀ {ks : List LK} {L : List Leaf} {vs : List Value}, All2 (SC.ok noMu) (instL ks L) vs → All2 (SC.ok μ) (instL ks L) vs := fun h => h.imp fun _ _ => SC.ok_ext fun n l hl => by cases hl
theorem matchA_ok {μ : Mu} {h : Nat → Option Blk} {w : World} (hm : HeapM μ h w) : ∀ {ps : List PA} {xs : List SV} {bl : List (Option Blk)} {m : Mt} {vs : List Value} (i : Nat), bl = (rowNames ps xs).map h → matchA ps xs bl = some m → AllV μ xs vs → allP m.p →
    fits (kindsA ps) m.L = true ∧ ∃ (R : List Rw) (ν : Mu), R.map Rw.L = m.R ∧ R.length = rowsA ps ∧ (∀ r ∈ R, r.L.length ≤ r.c ∧ r.c ≤ maxLen) ∧ (∀ n l, ν n = some l → i ≤ n ∧ n < i + rowsA ps) ∧ AllV ν (instA ps m.L R i) vs ∧ ∀ n b, heapA ps R i n = some b → ∃ k r, b = .ints k r ∧ ∃ l, ν n = some l ∧ viewOk ν w l 1 r.length (intsF k r)
  | [], [], bl, m, [], i, _, hh, _, _ => by
    simp only [matchA] at hh
    cases hh
    exact ⟨rfl, [], noMu, rfl, rfl, fun r hr => (by cases hr), fun n l h => (by cases h), trivial, fun n b h => (by simp [heapA] at h)⟩
  | .v k :: ps, .s (.c c) :: xs, bl, m, v :: vs, i, hb, hh, ha, hp => by
    simp only [matchA] at hh
    split at hh
    · rename_i l m' h1 h2
      cases hh
      obtain ⟨g1, g2⟩ := matchC_ok h1 ha.1
      obtain ⟨g3, R, ν, g4, gl, gc, g5, g6, g7⟩ := matchA_ok hm i (by simpa [rowNames] using hb) h2 ha.2 hp
      exact ⟨by simp [kindsA, fits, g2, g3], R, ν, g4, by simpa [rowsA] using gl, gc, by simpa [rowsA] using g5, ⟨SC.ok_ext (fun n l hl => by cases hl) g1, g6⟩, by simpa [heapA] using g7⟩
    · cases hh
  | .a ks :: ps, .s (.a cs) :: xs, bl, m, v :: vs, i, hb, hh, ha, hp => by
    simp only [matchA] at hh
    split at hh
    · rename_i l m' h1 h2
      cases hh
      obtain ⟨us, rfl, hu⟩ := ha.1
      obtain ⟨g1, g2, g8⟩ := matchL_ok h1 hu
      obtain ⟨g3, R, ν, g4, gl, gc, g5, g6, g7⟩ := matchA_ok hm i (by simpa [rowNames] using hb) h2 ha.2 hp
      refine ⟨fits_append g2 g3, R, ν, g4, by simpa [rowsA] using gl, gc, by simpa [rowsA] using g5, ⟨⟨us, rfl, instL_ext (g1 m'.L)⟩, ?_⟩, by simpa [heapA] using g7⟩
      simp only []
      rw [← g8, List.drop_left]
      exact g6
    · cases hh
  | .r k :: ps, x :: xs, bl, m, v :: vs, i, hb, hh, ha, hp => by
    have fin : ∀ (p : Option Prop) (M : List Int) (m' : Mt) (bl' : List (Option Blk)) (bb : Option (Option Blk)), bl' = (rowNames ps xs).map h → (bb = none ∨ ∃ b, dstN x = [b] ∧ bb = some (h b)) → srcL k x bb = some (p, M) → matchA ps xs bl' = some m' → allP (addP p m'.p) →
        fits (kindsA (.r k :: ps)) m'.L = true ∧ ∃ (R : List Rw) (ν : Mu), R.map Rw.L = M :: m'.R ∧ R.length = rowsA (.r k :: ps) ∧ (∀ r ∈ R, r.L.length ≤ r.c ∧ r.c ≤ maxLen) ∧ (∀ n l, ν n = some l → i ≤ n ∧ n < i + rowsA (.r k :: ps)) ∧ AllV ν (instA (.r k :: ps) m'.L R i) (v :: vs) ∧ ∀ n b, heapA (.r k :: ps) R i n = some b → ∃ k r, b = .ints k r ∧ ∃ l, ν n = some l ∧ viewOk ν w l 1 r.length (intsF k r) := by
      intro p M m' bl' bb hb' hbb h1 h2 hp'
      have hpp : holds p ∧ allP m'.p := by
        cases p with
        | none => exact ⟨trivial, hp'⟩
        | some p => exact hp'
      obtain ⟨a, c, b, o, rfl, e1, e2, e3, e4⟩ := row_view hm ha.1 hbb h1 hpp.1
      obtain ⟨g3, R, ν, g4, gl, gc, g5, g6, g7⟩ := matchA_ok hm (i + 1) hb' h2 ha.2 hpp.2
      let ν' : Mu := fun n => if n = i then some ⟨b, o, undef⟩ else ν n
      have hnone : ν i = none := by
        cases hx : ν i with
        | none => rfl
        | some l => have := (g5 i l hx).1; omega
      have hext : Ext ν ν' := fun n l hl => by
        by_cases hn : n = i
        · subst hn; rw [hnone] at hl; cases hl
        · simp [ν', hn, hl]
      refine ⟨g3, ⟨M, c⟩ :: R, ν', by simp [g4], by simp [rowsA, gl], fun r hr => ?_, fun n l hl => ?_, ⟨⟨⟨b, o, undef⟩, a, by simp [ν'], rfl, fun hc => by simpa using e3 hc, e1, e2⟩, ?_⟩, fun n bk hbk => ?_⟩
      · rcases List.mem_cons.1 hr with rfl | hr
        · exact ⟨e1, e2⟩
        · exact gc r hr
      · by_cases hn : n = i
        · subst hn; simp [rowsA]
        · have := g5 n l (by simpa [ν', hn] using hl)
          simp only [rowsA]
          omega
      · exact allV_ext hext g6
      · by_cases hn : n = i
        · subst hn
          simp [heapA, upd] at hbk
          subst hbk
          refine ⟨k, M, rfl, ⟨b, o, undef⟩, by simp [ν'], fun hn => World.block_lt_of_cell? w _ (e4 0 hn), fun y hy => ⟨rfl, fun j c hc => ?_⟩⟩
          match j, hc with
          | 0, hc =>
            simp [intsF] at hc
            subst hc
            exact ⟨_, by simpa using e4 y hy, by simp [SC.ok, List.getD_eq_getElem?_getD]⟩
          | j + 1, hc => simp [intsF] at hc
        · simp [heapA, upd, hn] at hbk
          obtain ⟨k2, r2, rfl, l, hl, hv⟩ := g7 n bk hbk
          exact ⟨k2, r2, rfl, l, hext _ _ hl, hv.ext hext⟩
    simp only [matchA] at hh
    split at hh
    · rename_i hd
      split at hh
      · rename_i p M m' h1 h2
        cases hh
        exact fin p M m' bl none (by simpa [rowNames, hd] using hb) (.inl rfl) h1 h2 hp
      · cases hh
    · rename_i b hd
      split at hh
      · rename_i b' bl'
        simp [rowNames, hd] at hb
        obtain ⟨rfl, hb⟩ := hb
        split at hh
        · rename_i p M m' h1 h2
          cases hh
          exact fin p M m' bl' _ hb (.inr ⟨b, hd, rfl⟩) h1 h2 hp
        · cases hh
      · cases hh
    · cases hh
  | [], [], _, _, _ :: _, _, _, _, ha, _ => ha.elim
  | [], _ :: _, _, _, _, _, _, hh, _, _ => by simp [matchA] at hh
  | .v _ :: _, [], _, _, _, _, _, hh, _, _ => by simp [matchA] at hh
  | .a _ :: _, [], _, _, _, _, _, hh, _, _ => by simp [matchA] at hh
  | .r _ :: _, [], _, _, _, _, _, hh, _, _ => by simp [matchA] at hh
  | .v _ :: _, .s (.a _) :: _, _, _, _, _, _, hh, _, _ => by simp [matchA] at hh
  | .v _ :: _, .t _ :: _, _, _, _, _, _, hh, _, _ => by simp [matchA] at hh
  | .v _ :: _, .u :: _, _, _, _, _, _, hh, _, _ => by simp [matchA] at hh
  | .a _ :: _, .s (.c _) :: _, _, _, _, _, _, hh, _, _ => by simp [matchA] at hh
  | .a _ :: _, .t _ :: _, _, _, _, _, _, hh, _, _ => by simp [matchA] at hh
  | .a _ :: _, .u :: _, _, _, _, _, _, hh, _, _ => by simp [matchA] at hh
  | _ :: _, _ :: _, _, _, [], _, _, _, ha, _ => ha.elim
def RowsNew (μ : Mu) (h : Nat → Option Blk) (w : World) (seen : List Nat) (ls : List Loc) (bs : List Blk) : Prop :=
  ∀ (i : Nat) (b : Blk) (l : Loc), bs[i]? = some b → ls[i]? = some l → (∀ ν : Mu, b.ok ν w l) ∧ ∀ x, b.uses w l x → ∃ n bk m, n ∉ seen ∧ h n = some bk ∧ μ n = some m ∧ bk.excl w m x
def RowsApart (w : World) (ls : List Loc) (bs : List Blk) : Prop :=
  ∀ (i i' : Nat) (b b' : Blk) (l l' : Loc) (x : Nat), i ≠ i' → bs[i]? = some b → bs[i']? = some b' → ls[i]? = some l → ls[i']? = some l' → b.uses w l x → ¬b'.uses w l' x
theorem allS_len {R : S1 → Value → Prop} : ∀ {xs : List S1} {vs : List Value}, AllS R xs vs → xs.length = vs.length
  | [], [], _ => rfl
  | _ :: _, _ :: _, h => by simp [allS_len h.2]
  | [], _ :: _, h => h.elim
  | _ :: _, [], h => h.elim
theorem mkGo_ok {μ : Mu} {h : Nat → Option Blk} {w : World} (hm : HeapM μ h w) (base : Nat) : ∀ {xs : List S1} {rs : List RC} {vs : List Value} {seen : List Nat} {j : Nat} {k : List S1 → List Blk → Out Res} {K : Res → Prop}, mR h seen xs rs → AllS (S1.ok μ) xs vs → (mkGo base j rs k).wp K →
    ∃ (ls : List Loc) (ys : List S1) (bs : List Blk), (k ys bs).wp K ∧ ls.length = bs.length ∧ bs.length = rowsN rs ∧ (∀ ν : Mu, (∀ i l, ls[i]? = some l → ν (base + (j + i)) = some l) → AllS (S1.ok ν) ys vs) ∧
      RowsNew μ h w seen ls bs ∧ RowsApart w ls bs
  | [], [], [], seen, j, k, K, _, _, hk => ⟨[], [], [], hk, rfl, rfl, fun _ _ => trivial, fun i b l h => (by simp at h), fun i i' b b' l l' x _ h => (by simp at h)⟩
  | x :: xs, .c y :: rs, v :: vs, seen, j, k, K, hr, ha, hk => by
    obtain ⟨ls, ys, bs, g1, g2, g3, g4, g5, g6⟩ := mkGo_ok hm base (xs := xs) hr.2 ha.2 hk
    refine ⟨ls, y :: ys, bs, g1, g2, g3, fun ν hν => ⟨?_, g4 ν hν⟩, g5, g6⟩
    have := leS1_ok hr.1 ha.1
    rw [muNil] at this
    exact ok_noMu (x := .s y) this
  | x :: xs, .r q L :: rs, v :: vs, seen, j, k, K, hr, ha, hk => by
    have key : ∀ (names : List Nat) (seen' : List Nat), DstOk μ h w q names v L → mR h seen' xs rs → (∀ n, n ∈ names → n ∉ seen ∧ n ∈ seen') → (∀ n, n ∉ seen' → n ∉ seen) → ∃ (ls : List Loc) (ys : List S1) (bs : List Blk), (k ys bs).wp K ∧ ls.length = bs.length ∧ bs.length = rowsN (.r q L :: rs) ∧ (∀ ν : Mu, (∀ i l, ls[i]? = some l → ν (base + (j + i)) = some l) → AllS (S1.ok ν) ys (v :: vs)) ∧
      RowsNew μ h w seen ls bs ∧ RowsApart w ls bs := fun names seen' hd hr' hn1 hn2 => by
      obtain ⟨l, c, e1, e2, e3, e4, e5, e6, e7⟩ := row_new (ν := noMu) hd
      obtain ⟨ls, ys, bs, g1, g2, g3, g4, g5, g6⟩ := mkGo_ok hm base (xs := xs) hr' ha.2 (hk c e3)
      have hq : ∀ ν : Mu, (Blk.oints q L).ok ν w l := fun ν => by
        obtain ⟨l2, c2, f1, f2, f3, f4, f5, f6, f7⟩ := row_new (ν := ν) hd
        exact Blk.ok_ext (fun n l hl => by cases hl) e6
      have hu : ∀ x, (Blk.oints q L).uses w l x → ∃ n bk m, n ∉ seen ∧ n ∈ seen' ∧ h n = some bk ∧ μ n = some m ∧ bk.excl w m x := fun x hx => by
        obtain ⟨b, bk, m, a1, a2, a3, a4⟩ := e7 x hx
        obtain ⟨b1, b2⟩ := hn1 b (by rw [a1]; simp)
        exact ⟨b, bk, m, b1, b2, a2, a3, a4⟩
      have apart : ∀ (i : Nat) (b' : Blk) (l' : Loc) (x : Nat), bs[i]? = some b' → ls[i]? = some l' → (Blk.oints q L).uses w l x → ¬b'.uses w l' x := fun i b' l' x hb hl hx hx' => by
        obtain ⟨n, bk, m, a1, a2, a3, a4, a5⟩ := hu x hx
        obtain ⟨n', bk', m', c1, c2, c3, c4⟩ := (g5 i b' l' hb hl).2 x hx'
        exact hm.apart n n' bk bk' m m' x (fun e => c1 (e ▸ a2)) a3 c2 a4 c3 a5 (Blk.uses_of_excl c4)
      refine ⟨l :: ls, _ :: ys, _ :: bs, g1, by simp [g2], by simp [rowsN, g3], fun ν hν => ⟨⟨l, (match l.hd with | .slice a _ _ => a | _ => none), ?_, e1, e2, e5, e3, e4⟩, g4 ν fun i l' hl' => ?_⟩, fun i b l' hb hl => ?_, fun i i' b b' l1 l2 x hne hb hb' hl hl' hx => ?_⟩
      · simpa using hν 0 l rfl
      · have := hν (i + 1) l' (by simpa using hl')
        rw [← this]
        congr 1
        omega
      · match i, hb, hl with
        | 0, hb, hl =>
          simp at hb hl
          subst hb; subst hl
          exact ⟨hq, fun x hx => by obtain ⟨n, bk, m, a1, _, a3, a4, a5⟩ := hu x hx; exact ⟨n, bk, m, a1, a3, a4, a5⟩⟩
        | i + 1, hb, hl =>
          obtain ⟨h1, h2⟩ := g5 i b l' (by simpa using hb) (by simpa using hl)
          exact ⟨h1, fun x hx => by obtain ⟨n, bk, m, a1, a3⟩ := h2 x hx; exact ⟨n, bk, m, hn2 n a1, a3⟩⟩
      · match i, i', hb, hb', hl, hl' with
        | 0, 0, _, _, _, _ => exact absurd rfl hne
        | 0, i' + 1, hb, hb', hl, hl' =>
          simp at hb hl
          subst hb; subst hl
          exact apart i' b' l2 x (by simpa using hb') (by simpa using hl') hx
        | i + 1, 0, hb, hb', hl, hl' =>
          simp at hb' hl'
          subst hb'; subst hl'
          exact fun hx' => apart i b l1 x (by simpa using hb) (by simpa using hl) hx' hx
        | i + 1, i' + 1, hb, hb', hl, hl' => exact g6 i i' b b' l1 l2 x (fun e => hne (by rw [e])) (by simpa using hb) (by simpa using hb') (by simpa using hl) (by simpa using hl') hx
    simp only [mR] at hr
    split at hr
    · rename_i hn
      split at hr
      · rename_i L' hL
        obtain ⟨rfl, hr⟩ := hr
        have hd := dst_ok (x := .s x) hm ha.1 (.inl rfl) hL
        rw [hn] at hd
        exact key [] seen hd hr (fun n h => by cases h) (fun n h => h)
      · exact hr.elim
    · rename_i b bs hn
      split at hr
      · exact hr.elim
      · rename_i hseen
        split at hr
        · rename_i L' hL
          obtain ⟨rfl, hr⟩ := hr
          have hone : dstN (.s x) = [b] := by
            cases x with
            | c y => cases y <;> simp [dstN] at hn ⊢ <;> exact hn.1
            | a cs => simp [dstN] at hn
          have hd := dst_ok (x := .s x) hm ha.1 (.inr ⟨b, hone, rfl⟩) hL
          rw [hone] at hd
          refine key [b] (b :: seen) hd hr (fun n h => ?_) (fun n h hs => h (List.mem_cons_of_mem _ hs))
          simp at h
          subst h
          exact ⟨by simpa using hseen, by simp⟩
        · exact hr.elim
  | [], [], _ :: _, _, _, _, _, _, ha, _ => ha.elim
  | _ :: _, _ :: _, [], _, _, _, _, _, ha, _ => ha.elim
  | [], _ :: _, _, _, _, _, _, hr, _, _ => by simp [mR] at hr
  | _ :: _, [], _, _, _, _, _, hr, _, _ => by simp [mR] at hr
theorem Con1.ok {P : Program} {Γ : Env} (hΓ : EnvOk P Γ) (hmix : P.follows .mixedOrders = true) {C : Ctl} {f : FuncId} {fn : Func} (hf : P.funcs[f]? = some fn) (hb : fn.body.isSome = true) (c : Con1)
    (hvc : ∀ L R, fits (kindsA c.pat) L = true → R.length = rowsA c.pat → (∀ r ∈ R, r.L.length ≤ r.c ∧ r.c ≤ maxLen) → preP1 c.pre L (R.map Rw.L) → c.vc P Γ C fn L R) : SpecOk P f c.spec := by
  intro μ hh w base args vals hm ha hfr K hk
  have hb' : fn.body = some (fn.body.getD .skip) := by
    cases hx : fn.body with
    | none => rw [hx] at hb; cases hb
    | some c => rfl
  have hk' := hk
  simp only [Con1.spec, Req.pre, List.append_nil] at hk'
  split at hk'
  · rename_i m hmt
    obtain ⟨hps, hk1⟩ := astL_ok hk'
    obtain ⟨hpre, hk2⟩ := preO1_ok hk1
    obtain ⟨g1, R, ν, g2, g3, g4, g5, g6, g7⟩ := matchA_ok hm 0 rfl hmt ha hps
    rw [← g2] at hpre hk2
    have hM : HeapM ν (heapA c.pat R 0) w := ⟨fun n b hb => by obtain ⟨k, r, rfl, l, hl, hv⟩ := g7 n b hb; exact ⟨l, hl, hv⟩, fun n m b c' l k x _ hb _ _ _ hx => by obtain ⟨k, r, rfl, l, hl, hv⟩ := g7 n b hb; cases hx⟩
    have hdom : Dom ν (rowsA c.pat) := fun n l hl => by have := (g5 n l hl).2; omega
    refine (fn_sound hΓ hmix C hf hb' (I := fun _ => False) g6 hM hdom (fun n b l x hb hl hx => by obtain ⟨k, r, rfl, _⟩ := g7 n b hb; cases hx) (hvc m.L R g1 g3 g4 hpre)).mono fun e w' he => ?_
    obtain ⟨v, sv, μ', s, a, rfl, hmod, hok, hmt1⟩ := he
    obtain ⟨rs, h1, h2⟩ := Out.mt1_posts hmt1
    have hk3 := Out.wp_posts (Out.wp_bind.1 hk2) rs h1
    unfold mkRes at hk3
    split at hk3
    · rename_i hle
      unfold mR0 at h2
      split at h2
      · rename_i xs hxs
        have hvs : ∃ vs, AllS (S1.ok μ') xs vs ∧ ∀ (ν : Mu) (ys : List S1), ys.length = xs.length → AllS (S1.ok ν) ys vs → (resV ys).ok ν v := by
          unfold svL at hxs
          split at hxs
          · cases hxs
            exact ⟨[v], ⟨hok, trivial⟩, fun ν ys hl hy => by match ys, hl, hy with | [y], _, hy => exact hy.1⟩
          · cases hxs
          · rename_i ts hne
            cases hxs
            obtain ⟨us, rfl, hu⟩ := hok
            refine ⟨us, hu, fun ν ys hl hy => ?_⟩
            match ys, hl, hy with
            | [], hl, hy => exact ⟨us, rfl, hy⟩
            | [y], hl, hy =>
              obtain ⟨t, rfl⟩ := List.length_eq_one_iff.1 hl.symm
              exact (hne t rfl).elim
            | y :: z :: ys, hl, hy => exact ⟨us, rfl, hy⟩
          · cases hxs
        obtain ⟨vs, hvs, hval⟩ := hvs
        obtain ⟨ls, ys, bs, q1, q2, q3, q4, q5, q6⟩ := mkGo_ok hmod.hm base h2 hvs hk3
        have hl4 : ls.length ≤ 4 := by omega
        let μc : Mu := fun n => if base ≤ n ∧ n < base + ls.length then ls[n - base]? else μ n
        have hin : ∀ n, base ≤ n ∧ n < base + ls.length → n ∈ freshN base := fun n hn => by simp [freshN]; omega
        have hat : ∀ (j : Nat) (l : Loc), ls[j]? = some l → μc (base + j) = some l := fun j l hl => by
          have hj : j < ls.length := (List.getElem?_eq_some_iff.1 hl).1
          have e : base + j - base = j := by omega
          simp only [μc]
          rw [if_pos (by omega), e, hl]
        have hback : ∀ (j : Nat) (l : Loc), j < ls.length → μc (base + j) = some l → ls[j]? = some l := fun j l hj hl => by
          have e : base + j - base = j := by omega
          simp only [μc] at hl
          rw [if_pos (by omega), e] at hl
          exact hl
        have hall : AllS (S1.ok μc) ys vs := q4 μc fun i l hl => by rw [Nat.zero_add]; exact hat i l hl
        have hys : ys.length = xs.length := by rw [allS_len hall, allS_len hvs]
        refine ⟨v, μc, ⟨resV ys, [], bs⟩, rfl, q1, { ext := fun n l hl => ?_, dom := fun n l hl => ?_, val := hval μc ys hys hall, os := hmod.fr.os, tape := hmod.fr.tape, output := hmod.fr.output, size := hmod.fr.size, keep := fun x hx _ => hmod.fr.block x hx fun h => h, wrs := List.nodup_nil, wsl := rfl, nsl := (by simp only []; omega), olds := fun j n b' h => (by simp [Con1.spec] at h), news := fun j b hj => ?_, newsApart := fun j k b c l m x hne hj hk' hl hm' hx => ?_ }⟩
        · simp only [μc]
          by_cases hn : base ≤ n ∧ n < base + ls.length
          · rw [hfr n (hin n hn)] at hl; cases hl
          · rw [if_neg hn]; exact hl
        · simp only [μc] at hl
          by_cases hn : base ≤ n ∧ n < base + ls.length
          · exact .inr (hin n hn)
          · rw [if_neg hn] at hl; exact .inl hl
        · have hjl : j < ls.length := by
            have h0 : j < bs.length := by simpa using (List.getElem?_eq_some_iff.1 hj).1
            omega
          obtain ⟨l, hl⟩ : ∃ l, ls[j]? = some l := ⟨_, List.getElem?_eq_getElem hjl⟩
          obtain ⟨k1, k2⟩ := q5 j b l hj hl
          refine ⟨l, hat j l hl, k1 μc, fun x hx => ?_⟩
          obtain ⟨n, bk, m', _, a2, a3, a4⟩ := k2 x hx
          rcases hmod.mine n bk m' x a2 a3 a4 with hI | hge
          · exact hI.elim
          · exact .inl hge
        · have hjl : j < ls.length := by
            have h0 : j < bs.length := by simpa using (List.getElem?_eq_some_iff.1 hj).1
            omega
          have hkl : k < ls.length := by
            have h0 : k < bs.length := by simpa using (List.getElem?_eq_some_iff.1 hk').1
            omega
          exact q6 j k b c l m x hne hj hk' (hback j l hjl hl) (hback k m hkl hm') (Blk.uses_of_excl hx)
      · exact h2.elim
    · exact hk3.elim
  · exact hk'.elim
end Go.Proofs.Ytplpmnippkkkkaa.Sx
