/- A region that draws its order: the proof. No Go text in sight. Code as a claim on states: sequences, branches, loops by what holds at their heads. No Go text in sight. Functions: entered, left; contracts of functions whose arguments and results are plain values. No Go text in sight. Contracts whose answers are written out where all that they are told is: for closed calls. No Go text in sight. Contracts of functions that read rows of numbers, and hand back numbers, tuples, or new rows. No Go text in sight. -/
import Derived.Test.YtcaipfdnadlkdaaSxAA
import Derived.Deep.LoopGhost
import Derived.Scope
namespace Go.Proofs.Ytcaipfdnadlkdaa.Sx
open Go
set_option linter.unusedVariables false
set_option linter.unusedSimpArgs false

section
variable {P : Program} {Γ : Env} {ops : Array Oper} {tab : List Nat} {base0 : Nat}

theorem stepD_true {i : Nat} {s : St} {g : Log} {K : St → Log → Prop} {o : Oper} (ho : ops[i]? = some o) (hw : wantedS ops s.slots o = some true) : stepD P Γ ops tab base0 i s g K ↔
    (logOk tab i (reqAt P Γ ops i (base0 + 4 * i) s.slots o).rd (reqAt P Γ ops i (base0 + 4 * i) s.slots o).wr g = true ∧ namesOk tab base0 i ((reqAt P Γ ops i (base0 + 4 * i) s.slots o).rd ++ (reqAt P Γ ops i (base0 + 4 * i) s.slots o).wr) = true) ∧
    (reqAt P Γ ops i (base0 + 4 * i) s.slots o).pre s.heap fun res => K (s.apply o.dst (base0 + 4 * i) (reqAt P Γ ops i (base0 + 4 * i) s.slots o).wr res) ((i, (reqAt P Γ ops i (base0 + 4 * i) s.slots o).rd, (reqAt P Γ ops i (base0 + 4 * i) s.slots o).wr) :: g) := by
  simp only [stepD, ho, hw, St.applyK_eq, fNs_eq]
  by_cases hc : (logOk tab i (reqAt P Γ ops i (base0 + 4 * i) s.slots o).rd (reqAt P Γ ops i (base0 + 4 * i) s.slots o).wr g && namesOk tab base0 i ((reqAt P Γ ops i (base0 + 4 * i) s.slots o).rd ++ (reqAt P Γ ops i (base0 + 4 * i) s.slots o).wr)) = true
  · rw [if_pos hc]
    rw [Bool.and_eq_true] at hc
    exact ⟨fun h => ⟨hc, h⟩, fun h => h.2⟩
  · rw [if_neg hc]
    rw [Bool.and_eq_true] at hc
    exact ⟨fun h => h.elim, fun h => hc h.1⟩
theorem stepD_false {i : Nat} {s : St} {g : Log} {K : St → Log → Prop} {o : Oper} (ho : ops[i]? = some o) (hw : wantedS ops s.slots o = some false) : stepD P Γ ops tab base0 i s g K ↔ K { s with slots := putS s.slots o.dst (.t []) } g := by
  simp only [stepD, ho, hw, fSp_eq]
theorem stepD_no {i : Nat} {s : St} {g : Log} {K : St → Log → Prop} {o : Oper} (ho : ops[i]? = some o) (hw : wantedS ops s.slots o = none) : stepD P Γ ops tab base0 i s g K ↔ False := by
  simp only [stepD, ho, hw]
theorem stepD_none {i : Nat} {s : St} {g : Log} {K : St → Log → Prop} (ho : ops[i]? = none) : stepD P Γ ops tab base0 i s g K ↔ K s g := by
  simp only [stepD, ho]

theorem logOk_sub {i : Nat} {rd wr : List Nat} {g g' : Log} (h : logOk tab i rd wr g = true) (hs : ∀ x ∈ g', x ∈ g) : logOk tab i rd wr g' = true := by
  unfold logOk at *
  rw [List.all_eq_true] at *
  exact fun x hx => h x (hs x hx)
theorem stepD_log {i : Nat} {s : St} {g g' : Log} {K K' : St → Log → Prop} (h : stepD P Γ ops tab base0 i s g K) (hs : ∀ x ∈ g', x ∈ g) (hk : ∀ s1 g1 g1', K s1 g1 → (∀ x ∈ g1', x ∈ g1) → K' s1 g1') : stepD P Γ ops tab base0 i s g' K' := by
  cases ho : ops[i]? with
  | none => rw [stepD_none ho] at h ⊢; exact hk _ _ _ h hs
  | some o =>
    cases hw : wantedS ops s.slots o with
    | none => rw [stepD_no ho hw] at h; exact h.elim
    | some b =>
      cases b
      · rw [stepD_false ho hw] at h ⊢; exact hk _ _ _ h hs
      · rw [stepD_true ho hw] at h ⊢
        obtain ⟨⟨h1, h2⟩, h3⟩ := h
        refine ⟨⟨logOk_sub h1 hs, h2⟩, Out.wp_mono (fun r hr => hk _ _ _ hr fun x hx => ?_) h3⟩
        rcases List.mem_cons.1 hx with rfl | hx
        · exact List.mem_cons_self ..
        · exact List.mem_cons_of_mem _ (hs x hx)
theorem runD_log : ∀ (L : List Nat) {s : St} {g g' : Log} {K : St → Prop}, runD P Γ ops tab base0 L s g K → (∀ x ∈ g', x ∈ g) → runD P Γ ops tab base0 L s g' K
  | [], _, _, _, _, h, _ => h
  | i :: L, _, _, _, _, h, hs => stepD_log h hs fun _ _ _ hk hs' => runD_log L hk hs'

theorem inter_false {a b : List Nat} (h : inter a b = false) {x : Nat} (hx : x ∈ a) : x ∉ b := by
  unfold inter at h
  rw [List.any_eq_false] at h
  have := h x hx
  simpa using this
theorem clash_spec {rd wr rd' wr' : List Nat} (h : clash rd wr rd' wr' = false) : (∀ x ∈ wr, x ∉ rd') ∧ (∀ x ∈ wr, x ∉ wr') ∧ (∀ x ∈ rd, x ∉ wr') := by
  unfold clash at h
  simp only [Bool.or_eq_false_iff] at h
  exact ⟨fun x hx => inter_false h.1.1 hx, fun x hx => inter_false h.1.2 hx, fun x hx => inter_false h.2 hx⟩
theorem clash_of {rd wr rd' wr' : List Nat} (h1 : ∀ x ∈ wr, x ∉ rd') (h2 : ∀ x ∈ wr, x ∉ wr') (h3 : ∀ x ∈ rd, x ∉ wr') : clash rd wr rd' wr' = false := by
  have none : ∀ {a b : List Nat}, (∀ x ∈ a, x ∉ b) → inter a b = false := fun {a b} h => by
    unfold inter
    rw [List.any_eq_false]
    intro x hx
    simpa using h x hx
  unfold clash
  rw [none h1, none h2, none h3]
  rfl
/-- names of an operation that isn't ahead are not touched -/
theorem namesOk_fresh {i q : Nat} {ns : List Nat} (h : namesOk tab base0 i ns = true) (hq : bit tab i q = false ∨ i ≤ q) {x : Nat} (hx : x ∈ ns) : x ∉ freshN (base0 + 4 * q) := fun hf => by
  unfold namesOk at h
  rw [List.all_eq_true] at h
  have := h x hx
  rw [mem_freshN] at hf
  have e : (x - base0) / 4 = q := by omega
  rw [e] at this
  simp only [Bool.or_eq_true, decide_eq_true_eq, Bool.and_eq_true] at this
  rcases this with h1 | ⟨h1, h2⟩
  · omega
  · rcases hq with hq | hq
    · rw [hq] at h1; cases h1
    · omega

theorem swap {q i : Nat} {s : St} {g : Log} {K : St → Log → Prop} (hlt : q < i) (hb : bit tab i q = false) (hap : ∀ oq oi, ops[q]? = some oq → ops[i]? = some oi → Oper.apart ops oq oi = true)
    (hK : ∀ s1 g1 g1', K s1 g1 → (∀ x ∈ g1', x ∈ g1) → K s1 g1') (h : stepD P Γ ops tab base0 q s g fun s1 g1 => stepD P Γ ops tab base0 i s1 g1 K) :
    stepD P Γ ops tab base0 i s g fun s1 g1 => stepD P Γ ops tab base0 q s1 g1 K := by
  cases hoq : ops[q]? with
  | none =>
    rw [stepD_none hoq] at h
    exact stepD_log h (fun x hx => hx) fun s1 g1 g1' h1 hs => (stepD_none hoq).2 (hK _ _ _ h1 hs)
  | some oq =>
  cases hoi : ops[i]? with
  | none =>
    rw [stepD_none hoi]
    exact stepD_log h (fun x hx => hx) fun s1 g1 g1' h1 hs => hK _ _ _ ((stepD_none hoi).1 h1) hs
  | some oi =>
  obtain ⟨a1, a2, a3⟩ := Oper.apart_spec (hap oq oi hoq hoi)
  have a2' : ∀ d, oi.dst = some d → oq.dst ≠ some d := fun d h1 h2 => a2 d h2 h1
  cases hwq : wantedS ops s.slots oq with
  | none => rw [stepD_no hoq hwq] at h; exact h.elim
  | some bq =>
  cases bq
  · rw [stepD_false hoq hwq] at h
    have hwi : wantedS ops (putS s.slots oq.dst (.t [])) oi = wantedS ops s.slots oi := wantedS_put a1
    cases hw : wantedS ops s.slots oi with
    | none => rw [stepD_no hoi (by rw [← hw]; exact hwi)] at h; exact h.elim
    | some bi =>
    cases bi
    · rw [stepD_false hoi (by rw [← hw]; exact hwi)] at h
      rw [stepD_false hoi hw, stepD_false hoq (by rw [← hwq]; exact wantedS_put a3)]
      dsimp only at h ⊢
      rw [putS_comm a2'] 
      exact h
    · rw [stepD_true hoi (by rw [← hw]; exact hwi)] at h
      rw [stepD_true hoi hw]
      dsimp only at h
      rw [reqAt_put a1] at h
      obtain ⟨h1, h2⟩ := h
      refine ⟨h1, Out.wp_mono (fun r hr => ?_) h2⟩
      rw [stepD_false hoq (by rw [← hwq]; exact wantedS_put a3)]
      unfold St.apply at hr ⊢
      dsimp only at hr ⊢
      rw [putS_comm a2']
      exact hr
  · rw [stepD_true hoq hwq] at h
    obtain ⟨⟨hq1, hq2⟩, h⟩ := h
    have hwi : ∀ r : Res, wantedS ops (s.apply oq.dst (base0 + 4 * q) (reqAt P Γ ops q (base0 + 4 * q) s.slots oq).wr r).slots oi = wantedS ops s.slots oi := fun r => wantedS_put a1
    have hri : ∀ r : Res, reqAt P Γ ops i (base0 + 4 * i) (s.apply oq.dst (base0 + 4 * q) (reqAt P Γ ops q (base0 + 4 * q) s.slots oq).wr r).slots oi = reqAt P Γ ops i (base0 + 4 * i) s.slots oi := fun r => reqAt_put a1
    have hrq : ∀ r : Res, reqAt P Γ ops q (base0 + 4 * q) (s.apply oi.dst (base0 + 4 * i) (reqAt P Γ ops i (base0 + 4 * i) s.slots oi).wr r).slots oq = reqAt P Γ ops q (base0 + 4 * q) s.slots oq := fun r => reqAt_put a3
    cases hw : wantedS ops s.slots oi with
    | none =>
      exact (Out.wp_const (o := (reqAt P Γ ops q (base0 + 4 * q) s.slots oq).act _) (X := False) (Out.wp_mono (fun r hr => by
        rw [stepD_no hoi (by rw [hwi r, hw])] at hr; exact hr) h)).elim
    | some bi =>
    cases bi
    · rw [stepD_false hoi hw, stepD_true hoq (by rw [← hwq]; exact wantedS_put a3)]
      dsimp only
      rw [reqAt_put a3]
      refine ⟨⟨hq1, hq2⟩, Out.wp_mono (fun r hr => ?_) h⟩
      rw [stepD_false hoi (by rw [hwi r, hw])] at hr
      unfold St.apply at hr ⊢
      dsimp only at hr ⊢
      rw [putS_comm a2']
      exact hr
    · have hboth : (reqAt P Γ ops q (base0 + 4 * q) s.slots oq).pre s.heap fun r =>
          (logOk tab i (reqAt P Γ ops i (base0 + 4 * i) s.slots oi).rd (reqAt P Γ ops i (base0 + 4 * i) s.slots oi).wr ((q, (reqAt P Γ ops q (base0 + 4 * q) s.slots oq).rd, (reqAt P Γ ops q (base0 + 4 * q) s.slots oq).wr) :: g) = true ∧
            namesOk tab base0 i ((reqAt P Γ ops i (base0 + 4 * i) s.slots oi).rd ++ (reqAt P Γ ops i (base0 + 4 * i) s.slots oi).wr) = true) ∧
          (reqAt P Γ ops i (base0 + 4 * i) s.slots oi).pre (s.apply oq.dst (base0 + 4 * q) (reqAt P Γ ops q (base0 + 4 * q) s.slots oq).wr r).heap fun ri =>
            K ((s.apply oq.dst (base0 + 4 * q) (reqAt P Γ ops q (base0 + 4 * q) s.slots oq).wr r).apply oi.dst (base0 + 4 * i) (reqAt P Γ ops i (base0 + 4 * i) s.slots oi).wr ri)
              ((i, (reqAt P Γ ops i (base0 + 4 * i) s.slots oi).rd, (reqAt P Γ ops i (base0 + 4 * i) s.slots oi).wr) :: (q, (reqAt P Γ ops q (base0 + 4 * q) s.slots oq).rd, (reqAt P Γ ops q (base0 + 4 * q) s.slots oq).wr) :: g) :=
        Out.wp_mono (fun r hr => by
          rw [stepD_true hoi (by rw [hwi r, hw]), hri r] at hr
          exact hr) h
      generalize hRq : reqAt P Γ ops q (base0 + 4 * q) s.slots oq = Rq at *
      generalize hRi : reqAt P Γ ops i (base0 + 4 * i) s.slots oi = Ri at *
      obtain ⟨hi1, hi2⟩ := Out.wp_const (Out.wp_mono (fun r hr => hr.1) hboth)
      have hcl : clash Ri.rd Ri.wr Rq.rd Rq.wr = false := by
        unfold logOk at hi1
        rw [List.all_cons, Bool.and_eq_true] at hi1
        have := hi1.1
        rw [hb] at this
        simpa using this
      obtain ⟨c1, c2, c3⟩ := clash_spec hcl
      have hIq : ∀ x ∈ Ri.rd ++ Ri.wr, x ∉ Rq.wr ∧ x ∉ freshN (base0 + 4 * q) := fun x hx => by
        refine ⟨?_, namesOk_fresh hi2 (.inl hb) hx⟩
        rcases List.mem_append.1 hx with hx | hx
        · exact c3 x hx
        · exact c2 x hx
      have hQi : ∀ x ∈ Rq.rd ++ Rq.wr, x ∉ Ri.wr ∧ x ∉ freshN (base0 + 4 * i) := fun x hx => by
        refine ⟨?_, namesOk_fresh hq2 (.inr (Nat.le_of_lt hlt)) hx⟩
        rcases List.mem_append.1 hx with hx | hx
        · exact fun hw => c1 x hw hx
        · exact fun hw => c2 x hw hx
      have hmapI : ∀ r : Res, (Ri.rd ++ Ri.wr).map (s.apply oq.dst (base0 + 4 * q) Rq.wr r).heap = (Ri.rd ++ Ri.wr).map s.heap := fun r =>
        List.map_congr_left fun x hx => applyH_other (hIq x hx).1 (hIq x hx).2
      have hmapQ : ∀ r : Res, (Rq.rd ++ Rq.wr).map (s.apply oi.dst (base0 + 4 * i) Ri.wr r).heap = (Rq.rd ++ Rq.wr).map s.heap := fun r =>
        List.map_congr_left fun x hx => applyH_other (hQi x hx).1 (hQi x hx).2
      have hdis : ∀ x, (x ∈ Rq.wr ∨ x ∈ freshN (base0 + 4 * q)) → x ∉ Ri.wr ∧ x ∉ freshN (base0 + 4 * i) := fun x hx => by
        rcases hx with hx | hx
        · exact hQi x (List.mem_append_right _ hx)
        · refine ⟨fun hw => (hIq x (List.mem_append_right _ hw)).2 hx, fun hf => ?_⟩
          rw [mem_freshN] at hx hf
          omega
      have hst : ∀ rq ri : Res, (s.apply oi.dst (base0 + 4 * i) Ri.wr ri).apply oq.dst (base0 + 4 * q) Rq.wr rq = (s.apply oq.dst (base0 + 4 * q) Rq.wr rq).apply oi.dst (base0 + 4 * i) Ri.wr ri := fun rq ri => by
        unfold St.apply
        dsimp only
        rw [putS_comm a2', applyH_comm hdis]
      have hsw : (Ri.act ((Ri.rd ++ Ri.wr).map s.heap)).wp fun ri => (Rq.act ((Rq.rd ++ Rq.wr).map s.heap)).wp fun rq =>
          K ((s.apply oq.dst (base0 + 4 * q) Rq.wr rq).apply oi.dst (base0 + 4 * i) Ri.wr ri) ((i, Ri.rd, Ri.wr) :: (q, Rq.rd, Rq.wr) :: g) := by
        refine Out.wp_swap (Out.wp_mono (fun r hr => ?_) hboth)
        have := hr.2
        unfold Req.pre at this
        rw [hmapI r] at this
        exact this
      have hi0 : logOk tab i Ri.rd Ri.wr g = true := logOk_sub hi1 fun x hx => List.mem_cons_of_mem _ hx
      have hq0 : logOk tab q Rq.rd Rq.wr ((i, Ri.rd, Ri.wr) :: g) = true := by
        unfold logOk at hq1 ⊢
        rw [List.all_cons, hq1, Bool.and_true]
        have : clash Rq.rd Rq.wr Ri.rd Ri.wr = false := clash_of (fun x hx hr => (hIq x (List.mem_append_left _ hr)).1 hx) (fun x hx => (hQi x (List.mem_append_right _ hx)).1) (fun x hx => (hQi x (List.mem_append_left _ hx)).1)
        simp [this]
      rw [stepD_true hoi hw, hRi]
      refine ⟨⟨hi0, hi2⟩, Out.wp_mono (fun ri hri' => ?_) hsw⟩
      rw [stepD_true hoq (by rw [← hwq]; exact wantedS_put a3), hrq ri]
      refine ⟨⟨hq0, hq2⟩, ?_⟩
      unfold Req.pre
      rw [hmapQ ri]
      refine Out.wp_mono (fun rq hr => ?_) hri'
      rw [hst rq ri]
      refine hK _ _ _ hr fun x hx => ?_
      simp only [List.mem_cons] at hx ⊢
      rcases hx with h | h | h
      · exact .inr (.inl h)
      · exact .inl h
      · exact .inr (.inr h)

/-- one that stands ready may come first -/
theorem pull {i : Nat} {K : St → Prop} : ∀ (L1 L2 : List Nat) {s : St} {g : Log}, (∀ q ∈ L1, q < i ∧ bit tab i q = false ∧ ∀ oq oi, ops[q]? = some oq → ops[i]? = some oi → Oper.apart ops oq oi = true) →
    runD P Γ ops tab base0 (L1 ++ i :: L2) s g K → stepD P Γ ops tab base0 i s g fun s1 g1 => runD P Γ ops tab base0 (L1 ++ L2) s1 g1 K
  | [], L2, s, g, _, h => h
  | q :: L1, L2, s, g, hq, h => by
    obtain ⟨h1, h2, h3⟩ := hq q (by simp)
    have h' : stepD P Γ ops tab base0 q s g fun s1 g1 => stepD P Γ ops tab base0 i s1 g1 fun s2 g2 => runD P Γ ops tab base0 (L1 ++ L2) s2 g2 K :=
      stepD_log h (fun x hx => hx) fun s1 g1 g1' hk hs => pull L1 L2 (fun q hq' => hq q (by simp [hq'])) (runD_log _ hk hs)
    exact swap h1 h2 h3 (fun s1 g1 g1' hk hs => runD_log _ hk hs) h'
end

theorem apartOk_spec {ops : Array Oper} {tab : List Nat} (h : apartOk ops tab = true) {q i : Nat} (hq : q < i) (hb : bit tab i q = false) (oq oi : Oper) (h1 : ops[q]? = some oq) (h2 : ops[i]? = some oi) : Oper.apart ops oq oi = true := by
  unfold apartOk at h
  rw [List.all_eq_true] at h
  have h3 := h i (by simpa using (Array.getElem?_eq_some_iff.1 h2).1)
  rw [List.all_eq_true] at h3
  have h4 := h3 q (by simpa using hq)
  rw [hb, h1, h2] at h4
  simpa using h4

theorem runD_sound {P : Program} {Γ : Env} (hΓ : EnvOk P Γ) {ops : Array Oper} {base0 : Nat} {w0 : World} {I : Nat → Prop} {K : St → Prop} {Q : Exit → Act → World → Prop} (hed : edgesOk ops = true) (hap : apartOk ops (ancTab ops) = true)
    (hQ : ∀ a w, (∃ μ s, Models w0 I μ s a w ∧ Dom μ (base0 + 4 * ops.size) ∧ K s) → Q .normal a w) :
    ∀ (fuel : Nat) (L : List Nat) (listed : Array Bool) (μ : Mu) (s : St) (g : Log) (a : Act) (w : World), L.length = fuel → L.Pairwise (· < ·) → (∀ j, j ∈ L ↔ j < ops.size ∧ listed.getD j true = false) →
      (∀ i q, listed.getD i false = true → bit (ancTab ops) i q = true → listed.getD q false = true) → listed.size = ops.size → Models w0 I μ s a w →
      (∀ n l, μ n = some l → n < base0 ∨ ∃ j, listed.getD j false = true ∧ n ∈ freshN (base0 + 4 * j)) → runD P Γ ops (ancTab ops) base0 L s g K → wpAny P .any ops Q fuel listed a w := by
  intro fuel
  induction fuel with
  | zero =>
    intro L listed μ s g a w hl _ hL _ hsz hm hd h
    have hnil : L = [] := List.eq_nil_of_length_eq_zero hl
    subst hnil
    have hr : Region.ready .any ops listed = [] := by
      cases hx : Region.ready .any ops listed with
      | nil => rfl
      | cons j js =>
        have hj : j ∈ Region.ready .any ops listed := by rw [hx]; simp
        obtain ⟨h0, o, ho, _⟩ := mem_ready.1 hj
        exact absurd ((hL j).2 ⟨(Array.getElem?_eq_some_iff.1 ho).1, h0⟩) (by simp)
    refine ⟨hr, hQ a w ⟨μ, s, hm, fun n l hl => ?_, h⟩⟩
    rcases hd n l hl with h1 | ⟨j, h1, h2⟩
    · omega
    · rw [mem_freshN] at h2
      have hj : j < ops.size := by
        rw [← hsz]
        rcases Nat.lt_or_ge j listed.size with h | h
        · exact h
        · simp [Array.getElem?_eq_none h] at h1
      omega
  | succ fuel ih =>
    intro L listed μ s g a w hl hp hL hcl hsz hm hd h
    refine ⟨fun hr => ?_, fun i hi => ?_⟩
    · -- the first that is left is ready
      cases L with
      | nil => simp at hl
      | cons i L =>
        exfalso
        have hin := (hL i).1 (by simp)
        obtain ⟨o, ho⟩ : ∃ o, ops[i]? = some o := ⟨_, Array.getElem?_eq_getElem hin.1⟩
        have hr' : i ∈ Region.ready .any ops listed := by
          refine mem_ready.2 ⟨hin.2, o, ho, fun e he hb => ?_⟩
          have hlt : e.on < i := by
            unfold edgesOk at hed
            rw [List.all_eq_true] at hed
            have h1 := hed i (by simpa using hin.1)
            rw [ho] at h1
            simp only [List.all_eq_true, decide_eq_true_eq] at h1
            exact h1 e.on (by
              unfold depsOf
              rw [List.mem_filterMap]
              exact ⟨e, by simpa using he, by rw [if_pos hb]⟩)
          have hne : e.on ∉ i :: L := fun hc => by
            rcases List.mem_cons.1 hc with hc | hc
            · omega
            · have := (List.pairwise_cons.1 hp).1 _ hc; omega
          have h2 := fun h => hne ((hL e.on).2 h)
          have hel : e.on < listed.size := by rw [hsz]; omega
          cases hx : listed.getD e.on false
          · exfalso
            refine h2 ⟨by omega, ?_⟩
            simp [hel] at hx ⊢
            exact hx
          · rfl
        rw [hr] at hr'
        cases hr'
    · obtain ⟨h0, o, ho, hall⟩ := mem_ready.1 hi
      have hil : i < ops.size := (Array.getElem?_eq_some_iff.1 ho).1
      have hiL : i ∈ L := (hL i).2 ⟨hil, h0⟩
      obtain ⟨L1, L2, rfl⟩ := List.append_of_mem hiL
      have hanc : ∀ q, bit (ancTab ops) i q = true → listed.getD q false = true := fun q hq => by
        obtain ⟨e, he, h2⟩ := anc_step ho hq
        have hel : listed.getD e false = true := by
          unfold depsOf at he
          rw [List.mem_filterMap] at he
          obtain ⟨ed, hed, h3⟩ := he
          split at h3
          · rename_i hb
            cases h3
            exact hall ed (by simpa using hed) hb
          · cases h3
        rcases h2 with rfl | h2
        · exact hel
        · exact hcl e q hel h2
      have hlisted : ∀ {q : Nat}, listed.getD q false = true → listed.getD q true = false → False := fun {q} h1 h2 => by
        rcases Nat.lt_or_ge q listed.size with h' | h'
        · simp [h'] at h1 h2
          rw [h1] at h2; cases h2
        · simp [Array.getElem?_eq_none h'] at h1
      have hq : ∀ q ∈ L1, q < i ∧ bit (ancTab ops) i q = false ∧ ∀ oq oi, ops[q]? = some oq → ops[i]? = some oi → Oper.apart ops oq oi = true := fun q hq => by
        have hlt : q < i := (List.pairwise_append.1 hp).2.2 q hq i (by simp)
        have hb : bit (ancTab ops) i q = false := by
          cases hx : bit (ancTab ops) i q
          · rfl
          · exact (hlisted (hanc q hx) ((hL q).1 (by simp [hq])).2).elim
        exact ⟨hlt, hb, fun oq oi => apartOk_spec hap hlt hb oq oi⟩
      have hpull := pull L1 L2 hq h
      have hf : ∀ n ∈ freshN (base0 + 4 * i), μ n = none := fun n hn => by
        cases hx : μ n with
        | none => rfl
        | some l =>
          rw [mem_freshN] at hn
          rcases hd n l hx with h1 | ⟨j, h1, h2⟩
          · omega
          · rw [mem_freshN] at h2
            have : j = i := by omega
            subst this
            exact (hlisted h1 h0).elim
      have hset : ∀ {q : Nat}, listed.getD q false = true → (listed.setIfInBounds i true).getD q false = true := fun {q} h => getD_set_true h
      have hsi : (listed.setIfInBounds i true).getD i false = true := by
        simp [hsz, hil]
      -- the step, as one of a state alone
      have hstep : stepS P Γ ops i (base0 + 4 * i) s fun s1 => ∃ g1, runD P Γ ops (ancTab ops) base0 (L1 ++ L2) s1 g1 K := by
        unfold stepS
        rw [ho]
        simp only [St.applyK_eq, fSp_eq]
        cases hw : wantedS ops s.slots o with
        | none => rw [stepD_no ho hw] at hpull; exact hpull.elim
        | some b =>
          cases b
          · rw [stepD_false ho hw] at hpull; exact ⟨_, hpull⟩
          · rw [stepD_true ho hw] at hpull; exact Out.wp_mono (fun r hr => ⟨_, hr⟩) hpull.2
      refine wpOp_mono (fun a' w' hh => ?_) (step_sound hΓ hm hf hstep)
      obtain ⟨μ', s', hm', hd', g1, hr⟩ := hh
      refine ih (L1 ++ L2) (listed.setIfInBounds i true) μ' s' g1 a' w' (by simp at hl ⊢; omega) ?_ ?_ ?_ (by simpa using hsz) hm' ?_ hr
      · rw [List.pairwise_append] at hp ⊢
        exact ⟨hp.1, (List.pairwise_cons.1 hp.2.1).2, fun x hx y hy => hp.2.2 x hx y (by simp [hy])⟩
      · intro j
        have hni : i ∉ L1 ++ L2 := by
          rw [List.pairwise_append] at hp
          intro hc
          rcases List.mem_append.1 hc with hc | hc
          · have := hp.2.2 i hc i (by simp); omega
          · have := (List.pairwise_cons.1 hp.2.1).1 i hc; omega
        have hmem : j ∈ L1 ++ L2 ↔ j ∈ L1 ++ i :: L2 ∧ j ≠ i := by
          simp only [List.mem_append, List.mem_cons] at hni ⊢
          constructor
          · intro hj
            refine ⟨?_, fun e => by subst e; exact hni hj⟩
            rcases hj with hj | hj
            · exact .inl hj
            · exact .inr (.inr hj)
          · rintro ⟨hj | hj | hj, hne⟩
            · exact .inl hj
            · exact absurd hj hne
            · exact .inr hj
        rw [hmem, hL j]
        constructor
        · rintro ⟨⟨h1, h2⟩, h3⟩
          exact ⟨h1, by rw [getD_set_ne true (Ne.symm h3)]; exact h2⟩
        · rintro ⟨h1, h2⟩
          by_cases hji : j = i
          · subst hji
            simp [hsz, hil] at h2
          · rw [getD_set_ne true (Ne.symm hji)] at h2
            exact ⟨⟨h1, h2⟩, hji⟩
      · intro x q hx hb
        by_cases hxi : x = i
        · subst hxi
          exact hset (hanc q hb)
        · rw [getD_set_ne false (Ne.symm hxi)] at hx
          exact hset (hcl x q hx hb)
      · intro n l hl'
        rcases hd' n l hl' with h1 | h1
        · rcases hd n l h1 with h2 | ⟨j, h2, h3⟩
          · exact .inl h2
          · exact .inr ⟨j, hset h2, h3⟩
        · exact .inr ⟨i, hsi, h1⟩
theorem regionD_sound {P : Program} {Γ : Env} (hΓ : EnvOk P Γ) (hmix : P.follows .mixedOrders = true) {ops : Array Oper} {id : Nat} {w0 : World} {I : Nat → Prop} {μ : Mu} {s : St} {a : Act} {w : World} {K : St → Prop} {Q : Exit → Act → World → Prop}
    (hm : Models w0 I μ s a w) (hd : Dom μ s.next) (hQ : ∀ a w, At w0 I K a w → Q .normal a w) (h : regionD P Γ ops s K) : (Code.region id ops true).wp P Q a w := by
  unfold regionD at h
  simp only [fN_eq, fNs_eq] at h
  split at h
  · rename_i hc
    rw [Bool.and_eq_true] at hc
    refine wp_region_any hmix ?_
    have hm' : Models w0 I μ s a { w with drawn := w.drawn + 1 } :=
      ⟨hm.size, hm.slots, hm.defers, ⟨fun n b hb => by
        obtain ⟨l, h1, h2⟩ := hm.hm.ok n b hb
        exact ⟨l, h1, Blk.ok_world h2 (Nat.le_refl _) fun _ _ => rfl⟩, hm.hm.apart⟩, hm.mine, ⟨hm.fr.os, hm.fr.tape, hm.fr.output, hm.fr.size, hm.fr.block⟩⟩
    refine runD_sound hΓ (base0 := s.next) (K := fun s' => K { s' with next := s.next + 4 * ops.size }) hc.1 hc.2 (fun a' w' ⟨μ', s', hm', hd', hk⟩ => hQ a' w' ⟨μ', _, hm'.next _, hd', hk⟩) ops.size (List.range ops.size) _ μ s [] a _ (by simp)
      List.pairwise_lt_range ?_ ?_ (by simp) hm' (fun n l hl => .inl (hd n l hl)) h
    · intro j
      simp only [List.mem_range]
      constructor
      · intro hj
        exact ⟨hj, by simp [hj]⟩
      · exact fun hj => hj.1
    · intro i q hi
      exfalso
      rcases Nat.lt_or_ge i ops.size with h | h
      · simp [h] at hi
      · simp [Array.getElem?_eq_none, h] at hi
  · exact h.elim
end Go.Proofs.Ytcaipfdnadlkdaa.Sx

namespace Go.Proofs.Ytcaipfdnadlkdaa.Sx
open Go
set_option linter.unusedVariables false
set_option linter.unusedSimpArgs false

/-! ### a state that says less -/
def renOf (r : List (Nat × Nat)) (n : Nat) : Nat :=
  match r with
  | [] => n
  | (a, b) :: r => if n = a then b else renOf r n
def leC (names : List Nat) (r : List (Nat × Nat)) : SC → SC → Prop
  | .num k a, .num k' b => if k = k' then a = b else False
  | .num k a, .int k' b => if k = k' then a = b else False
  | .int k a, .int k' b => if k = k' then a = b else False
  | .tru a, .tru b => a = b
  | .tru a, .boo b => a = b
  | .boo a, .boo b => a = b
  | .str a, .str b => a = b
  | .nil, .nil => True
  | .nos, .nos => True
  | .fn f, .fn g => f = g
  | .ptr b i e j, .ptr b' i' e' j' => if names.contains b' && renOf r b' == b && e == e' then i = i' ∧ j = j' else False
  | .sli b i e j n c q, .sli b' i' e' j' n' c' q' => if names.contains b' && renOf r b' == b && e == e' then (i = i' ∧ j = j') ∧ n = n' ∧ c = c' else False
  | .own b n c q, .own b' n' c' q' => if names.contains b' && renOf r b' == b then n = n' ∧ c = c' else False
  | _, _ => False
def leL (names : List Nat) (r : List (Nat × Nat)) : List SC → List SC → Prop
  | [], [] => True
  | [x], [y] => leC names r x y
  | x :: x2 :: xs, y :: y2 :: ys => leC names r x y ∧ leL names r (x2 :: xs) (y2 :: ys)
  | _, _ => False
def leS1 (names : List Nat) (r : List (Nat × Nat)) : S1 → S1 → Prop
  | .c x, .c y => leC names r x y
  | .a xs, .a ys => leL names r xs ys
  | _, _ => False
def leT (names : List Nat) (r : List (Nat × Nat)) : List S1 → List S1 → Prop
  | [], [] => True
  | x :: xs, y :: ys => leS1 names r x y ∧ leT names r xs ys
  | _, _ => False
def leV (names : List Nat) (r : List (Nat × Nat)) : SV → SV → Prop
  | _, .u => True
  | .s x, .s y => leS1 names r x y
  | .t xs, .t ys => leT names r xs ys
  | _, _ => False
def leVs (names : List Nat) (r : List (Nat × Nat)) : List SV → List SV → Prop
  | [], [] => True
  | _ :: xs, .u :: ys => leVs names r xs ys
  | x :: xs, y :: ys => leV names r x y ∧ leVs names r xs ys
  | _, _ => False
def leHd : List Int → List Int → Prop
  | [], [] => True
  | x :: xs, y :: ys => x = y ∧ leHd xs ys
  | _, _ => False
theorem leHd_eq : ∀ {xs ys : List Int}, leHd xs ys → xs = ys
  | [], [], _ => rfl
  | x :: xs, y :: ys, h => by rw [show x = y from h.1, leHd_eq h.2]
  | [], _ :: _, h => h.elim
  | _ :: _, [], h => h.elim
def leOL : OL → OL → Prop
  | .ints k l, .ints k' l' => if k = k' then l = l' else False
  | .strs l, .strs l' => l = l'
  | .raws l, .raws l' => l = l'
  | _, _ => False
theorem leOL_eq {x y : OL} (h : leOL x y) : x = y := by
  unfold leOL at h
  split at h
  · split at h
    · rename_i e; subst e; subst h; rfl
    · exact h.elim
  · subst h; rfl
  · subst h; rfl
  · exact h.elim
def leB (names : List Nat) (r : List (Nat × Nat)) : Blk → Blk → Prop
  | .cells t xs, .cells t' ys => if t = t' then leL names r xs ys else False
  | .view e n f, .view e' n' g => if e = e' then n = n' ∧ ∀ i, i < n' → leL names r (f i) (g i) else False
  | .own t e n f, .own t' e' n' g => if t = t' ∧ e = e' then n = n' ∧ ∀ i, i < n' → leL names r (f i) (g i) else False
  | .ints k l, .ints k' l' => if k = k' then l = l' else False
  | .oints k l, .oints k' l' => if k = k' then l = l' else False
  | .obj t hd l, .obj t' hd' l' => if t = t' then leHd hd hd' ∧ leOL l l' else False
  | _, _ => False
def leH (names : List Nat) (r : List (Nat × Nat)) (h h' : Nat → Option Blk) : List Nat → Prop
  | [] => True
  | n :: ns => (match h' n with
    | none => True
    | some b' => match h (renOf r n) with
      | some b => leB names r b b'
      | none => False) ∧ leH names r h h' ns
/-- t's heap is meant at 'names' alone -/
def leSt (names : List Nat) (r : List (Nat × Nat)) (s t : St) : Prop :=
  if (names.all fun n => decide (n < t.next)) && decide ((names.map (renOf r)).Nodup) then leVs names r s.slots t.slots ∧ leH names r s.heap t.heap names else False
def St.only (names : List Nat) (t : St) : St := { t with heap := Sx.only names t.heap }
def headK (names : List Nat) (t : St) (K : St → Prop) : Prop := fVs t.slots fun sl => fH t.heap names fun h => fN t.next fun n => K ⟨sl, h, n⟩
theorem headK_eq (names : List Nat) (t : St) (K : St → Prop) : headK names t K = K (t.only names) := by simp only [headK, fVs_eq, fH_eq, fN_eq]; rfl

def muOf (names : List Nat) (r : List (Nat × Nat)) (μ : Mu) : Mu := fun n => if names.contains n then μ (renOf r n) else none
section
variable {names : List Nat} {r : List (Nat × Nat)} {μ : Mu}
theorem leC_ok {x y : SC} {v : Value} (h : leC names r x y) (hx : x.ok μ v) : y.ok (muOf names r μ) v := by
  unfold leC at h
  split at h
  · split at h
    · rename_i hk; subst hk; subst h; exact hx
    · exact h.elim
  · split at h
    · rename_i hk; subst hk; subst h; exact hx
    · exact h.elim
  · split at h
    · rename_i hk; subst hk; subst h; exact hx
    · exact h.elim
  · subst h; exact hx
  · subst h; exact hx
  · subst h; exact hx
  · subst h; exact hx
  · exact hx
  · exact hx
  · subst h; exact hx
  · split at h
    · rename_i hc
      simp only [Bool.and_eq_true, beq_iff_eq] at hc
      obtain ⟨⟨h1, h2⟩, h3⟩ := hc
      obtain ⟨rfl, rfl⟩ := h
      subst h3
      obtain ⟨l, hl, hv⟩ := hx
      exact ⟨l, by simp only [muOf]; rw [if_pos h1, h2]; exact hl, hv⟩
    · exact h.elim
  · split at h
    · rename_i hc
      simp only [Bool.and_eq_true, beq_iff_eq] at hc
      obtain ⟨⟨h1, h2⟩, h3⟩ := hc
      obtain ⟨⟨rfl, rfl⟩, rfl, rfl⟩ := h
      subst h3
      obtain ⟨l, a, hl, hv⟩ := hx
      exact ⟨l, a, by simp only [muOf]; rw [if_pos h1, h2]; exact hl, hv⟩
    · exact h.elim
  · split at h
    · rename_i hc
      simp only [Bool.and_eq_true, beq_iff_eq] at hc
      obtain ⟨h1, h2⟩ := hc
      obtain ⟨rfl, rfl⟩ := h
      obtain ⟨l, a, hl, hv⟩ := hx
      exact ⟨l, a, by simp only [muOf]; rw [if_pos h1, h2]; exact hl, hv⟩
    · exact h.elim
  · exact h.elim
theorem leL_ok : ∀ {xs ys : List SC} {vs : List Value}, leL names r xs ys → All2 (SC.ok μ) xs vs → All2 (SC.ok (muOf names r μ)) ys vs
  | [], [], [], _, _ => trivial
  | [x], [y], [v], h, hx => ⟨leC_ok h hx.1, trivial⟩
  | x :: x2 :: xs, y :: y2 :: ys, v :: vs, h, hx => ⟨leC_ok h.1 hx.1, leL_ok h.2 hx.2⟩
  | [], [], _ :: _, _, hx => hx.elim
  | [x], [y], [], _, hx => hx.elim
  | [x], [y], _ :: _ :: _, _, hx => hx.2.elim
  | x :: x2 :: xs, y :: y2 :: ys, [], _, hx => hx.elim
  | [], _ :: _, _, h, _ => h.elim
  | [_], [], _, h, _ => h.elim
  | [_], _ :: _ :: _, _, h, _ => h.elim
  | _ :: _ :: _, [], _, h, _ => h.elim
  | _ :: _ :: _, [_], _, h, _ => h.elim
theorem leL_len : ∀ {xs ys : List SC}, leL names r xs ys → xs.length = ys.length
  | [], [], _ => rfl
  | [x], [y], h => rfl
  | x :: x2 :: xs, y :: y2 :: ys, h => by have := leL_len h.2; simp at this ⊢; omega
  | [], _ :: _, h => h.elim
  | [_], [], h => h.elim
  | [_], _ :: _ :: _, h => h.elim
  | _ :: _ :: _, [], h => h.elim
  | _ :: _ :: _, [_], h => h.elim
theorem leL_get : ∀ {xs ys : List SC}, leL names r xs ys → ∀ (j : Nat) (y : SC), ys[j]? = some y → ∃ x, xs[j]? = some x ∧ leC names r x y
  | [], [], _, j, y, h => by simp at h
  | [x], [z], h, 0, y, hy => by simp at hy; subst hy; exact ⟨x, rfl, h⟩
  | [x], [z], h, j + 1, y, hy => by simp at hy
  | x :: x2 :: xs, z :: y2 :: ys, h, 0, y, hy => by simp at hy; subst hy; exact ⟨x, rfl, h.1⟩
  | x :: x2 :: xs, z :: y2 :: ys, h, j + 1, y, hy => by simpa using leL_get h.2 j y (by simpa using hy)
  | [], _ :: _, h, _, _, _ => h.elim
  | [_], [], h, _, _, _ => h.elim
  | [_], _ :: _ :: _, h, _, _, _ => h.elim
  | _ :: _ :: _, [], h, _, _, _ => h.elim
  | _ :: _ :: _, [_], h, _, _, _ => h.elim
theorem leS1_ok {x y : S1} {v : Value} (h : leS1 names r x y) (hx : x.ok μ v) : y.ok (muOf names r μ) v := by
  unfold leS1 at h
  split at h
  · exact leC_ok h hx
  · obtain ⟨vs, hv, ha⟩ := hx; exact ⟨vs, hv, leL_ok h ha⟩
  · exact h.elim
theorem leT_ok : ∀ {xs ys : List S1} {vs : List Value}, leT names r xs ys → AllS (S1.ok μ) xs vs → AllS (S1.ok (muOf names r μ)) ys vs
  | [], [], [], _, _ => trivial
  | x :: xs, y :: ys, v :: vs, h, hx => ⟨leS1_ok h.1 hx.1, leT_ok h.2 hx.2⟩
  | [], [], _ :: _, _, hx => hx.elim
  | _ :: _, _ :: _, [], _, hx => hx.elim
  | [], _ :: _, _, h, _ => h.elim
  | _ :: _, [], _, h, _ => h.elim
theorem leV_ok {x y : SV} {v : Value} (h : leV names r x y) (hx : x.ok μ v) : y.ok (muOf names r μ) v := by
  unfold leV at h
  split at h
  · trivial
  · exact leS1_ok h hx
  · obtain ⟨vs, hv, ha⟩ := hx; exact ⟨vs, hv, leT_ok h ha⟩
  · exact h.elim
theorem leVs_get : ∀ {xs ys : List SV}, leVs names r xs ys → xs.length = ys.length ∧ ∀ (i : Nat) (y : SV), ys[i]? = some y → ∃ x, xs[i]? = some x ∧ leV names r x y
  | [], [], _ => ⟨rfl, fun i y h => by simp at h⟩
  | x :: xs, y :: ys, h => by
    have hh : leV names r x y ∧ leVs names r xs ys := by
      cases y with
      | u => exact ⟨trivial, h⟩
      | s z => exact h
      | t z => exact h
    obtain ⟨h1, h2⟩ := leVs_get hh.2
    refine ⟨by simp [h1], fun i z hz => ?_⟩
    cases i with
    | zero => simp at hz; subst hz; exact ⟨x, rfl, hh.1⟩
    | succ i => simpa using h2 i z (by simpa using hz)
  | [], y :: ys, h => by cases y <;> exact h.elim
  | x :: xs, [], h => h.elim
theorem leElems {e n : Nat} {f g : Nat → List SC} {a : Nat → Option Value} (h : ∀ i, i < n → leL names r (f i) (g i)) (hf : Elems μ e n f a) : Elems (muOf names r μ) e n g a := fun i hi => by
  obtain ⟨h1, h2⟩ := hf i hi
  refine ⟨by rw [← leL_len (h i hi)]; exact h1, fun j y hy => ?_⟩
  obtain ⟨x, hx, hle⟩ := leL_get (h i hi) j y hy
  obtain ⟨v, hv, hok⟩ := h2 j x hx
  exact ⟨v, hv, leC_ok hle hok⟩
theorem Elems.move {k : IntKind} {l : List Int} {n : Nat} {μ μ' : Mu} {a : Nat → Option Value} (h : Elems μ 1 n (intsF k l) a) : Elems μ' 1 n (intsF k l) a := fun i hi => by
  obtain ⟨h1, h2⟩ := h i hi
  refine ⟨h1, fun j c hc => ?_⟩
  obtain ⟨v, hv, hok⟩ := h2 j c hc
  refine ⟨v, hv, ?_⟩
  match j, hc with
  | 0, hc => simp [intsF] at hc; subst hc; exact hok
  | j + 1, hc => simp [intsF] at hc
theorem leB_ok {b b' : Blk} {w : World} {l : Loc} (h : leB names r b b') (hb : b.ok μ w l) : b'.ok (muOf names r μ) w l ∧ b'.excl w l = b.excl w l ∧ b'.uses w l = b.uses w l := by
  unfold leB at h
  split at h
  · split at h
    · rename_i ht; subst ht
      obtain ⟨h0, vs, hv, ha⟩ := hb
      exact ⟨⟨h0, vs, hv, leL_ok h ha⟩, rfl, rfl⟩
    · exact h.elim
  · split at h
    · rename_i he; subst he
      obtain ⟨rfl, h⟩ := h
      exact ⟨⟨hb.1, leElems h hb.2⟩, rfl, rfl⟩
    · exact h.elim
  · split at h
    · rename_i he
      obtain ⟨rfl, rfl⟩ := he
      obtain ⟨rfl, h⟩ := h
      obtain ⟨a, c, xs, k1, k2, k3, k4, k5, k6⟩ := hb
      exact ⟨⟨a, c, xs, k1, k2, k3, k4, k5, leElems h k6⟩, rfl, rfl⟩
    · exact h.elim
  · split at h
    · rename_i he
      subst he; subst h
      exact ⟨⟨hb.1, hb.2.move⟩, rfl, rfl⟩
    · exact h.elim
  · split at h
    · rename_i he
      subst he
      subst h
      obtain ⟨t, a, c, xs, k1, k2, k3, k4, k5, k6⟩ := hb
      exact ⟨⟨t, a, c, xs, k1, k2, k3, k4, k5, Elems.move k6⟩, rfl, rfl⟩
    · exact h.elim
  · split at h
    · rename_i he
      subst he
      obtain ⟨h1, h2⟩ := h
      obtain rfl := leHd_eq h1
      obtain rfl := leOL_eq h2
      exact ⟨hb, rfl, rfl⟩
    · exact h.elim
  · exact h.elim
theorem leH_get {h h' : Nat → Option Blk} : ∀ {ns : List Nat}, leH names r h h' ns → ∀ n ∈ ns, ∀ b', h' n = some b' → ∃ b, h (renOf r n) = some b ∧ leB names r b b'
  | n :: ns, hl, m, hm, b', hb' => by
    obtain ⟨h1, h2⟩ := hl
    rcases List.mem_cons.1 hm with rfl | hm
    · rw [hb'] at h1
      simp only [] at h1
      split at h1
      · rename_i b hb
        exact ⟨b, hb, h1⟩
      · exact h1.elim
    · exact leH_get h2 m hm b' hb'
theorem nodup_map {α β : Type} {f : α → β} : ∀ {l : List α}, (l.map f).Nodup → ∀ x ∈ l, ∀ y ∈ l, f x = f y → x = y
  | a :: l, h, x, hx, y, hy, he => by
    rw [List.map_cons, List.nodup_cons] at h
    rcases List.mem_cons.1 hx with rfl | hx' <;> rcases List.mem_cons.1 hy with rfl | hy'
    · rfl
    · exact absurd (List.mem_map.2 ⟨y, hy', he.symm⟩) h.1
    · exact absurd (List.mem_map.2 ⟨x, hx', he⟩) h.1
    · exact nodup_map h.2 x hx' y hy' he
theorem leSt_ok {w0 : World} {I : Nat → Prop} {s t : St} {a : Act} {w : World} (h : leSt names r s t) (hm : Models w0 I μ s a w) : Models w0 I (muOf names r μ) (t.only names) a w ∧ Dom (muOf names r μ) t.next := by
  unfold leSt at h
  split at h
  · rename_i hc
    simp only [Bool.and_eq_true, decide_eq_true_eq, List.all_eq_true] at hc
    obtain ⟨hlt, hnd⟩ := hc
    obtain ⟨h1, h2⟩ := h
    obtain ⟨g1, g2⟩ := leVs_get h1
    have hmem : ∀ {n : Nat}, names.contains n = true → n ∈ names := fun h => by simpa using h
    have key : ∀ n b', (t.only names).heap n = some b' → n ∈ names ∧ ∃ b l, s.heap (renOf r n) = some b ∧ μ (renOf r n) = some l ∧ muOf names r μ n = some l ∧ b'.ok (muOf names r μ) w l ∧ b'.excl w l = b.excl w l ∧ b'.uses w l = b.uses w l := fun n b' hb' => by
      simp only [St.only, only] at hb'
      split at hb'
      · rename_i hn
        obtain ⟨b, hb, hle⟩ := leH_get h2 n (hmem hn) b' hb'
        obtain ⟨l, hl, hok⟩ := hm.hm.ok _ b hb
        obtain ⟨k1, k2, k3⟩ := leB_ok hle hok
        exact ⟨hmem hn, b, l, hb, hl, by simp only [muOf]; rw [if_pos hn]; exact hl, k1, k2, k3⟩
      · cases hb'
    refine ⟨{ size := by rw [hm.size]; exact g1, slots := fun i y hy => ?_, defers := hm.defers, hm := ⟨fun n b' hb' => ?_, fun n m b c l k x hne hb hc' hl hk hx => ?_⟩, mine := fun n b l x hb hl hx => ?_, fr := hm.fr }, fun n l hl => ?_⟩
    · obtain ⟨x, hx, hle⟩ := g2 i y hy
      obtain ⟨v, hv, hok⟩ := hm.slots i x hx
      exact ⟨v, hv, leV_ok hle hok⟩
    · obtain ⟨_, b, l, _, _, k3, k4, _⟩ := key n b' hb'
      exact ⟨l, k3, k4⟩
    · obtain ⟨n1, b0, l0, a1, a2, a3, a4, a5, a6⟩ := key n b hb
      obtain ⟨m1, c0, k0, b1, b2, b3, b4, b5, b6⟩ := key m c hc'
      rw [hl] at a3; cases a3
      rw [hk] at b3; cases b3
      rw [b6]
      exact hm.hm.apart (renOf r n) (renOf r m) b0 c0 l k x (fun e => hne (nodup_map hnd n n1 m m1 e)) a1 b1 a2 b2 (by rw [← a5]; exact hx)
    · obtain ⟨n1, b0, l0, a1, a2, a3, a4, a5, a6⟩ := key n b hb
      rw [hl] at a3; cases a3
      exact hm.mine _ b0 l x a1 a2 (by rw [← a5]; exact hx)
    · simp only [muOf] at hl
      split at hl
      · rename_i hn
        exact hlt n (hmem hn)
      · cases hl
  · exact h.elim
end

/-! ### code -/
inductive Ex where
  | nor
  | ret
  | exi (id : Nat)
/-- what holds at a loop's head, or between two pieces: states of a kind, over the state at the beginning. 'lit': the rounds are numbered from 0 to lit, and walked one by one -/
structure Ann where
  A : Type
  names : St → List Nat
  r0 : List (Nat × Nat) := []
  r1 : St → St → List (Nat × Nat) := fun _ _ => []
  st : Nat → A → St → St
  inv : St → Nat → A → Prop
  dec : St → A → Nat := fun _ _ => 0
  wit : St → A
  lit : Option Nat := none
structure Ctl where
  lp : Nat → Option Ann
  cut : Nat → Option Ann
  fuel : Nat
  spl : Nat → Option (Nat × Int × Nat) := fun _ => none
  weak : Nat → Bool := fun _ => false
  owns : Nat → Option (Nat × IntKind) := fun _ => none
def firstId : Code → Option Nat
  | .region id _ _ => some id
  | .seq a b => match firstId a with
    | some i => some i
    | none => firstId b
  | .cond _ a b => match firstId a with
    | some i => some i
    | none => firstId b
  | .block _ b => firstId b
  | .loop b => firstId b
  | .scope b => firstId b
  | _ => none
def annAt (f : Nat → Option Ann) (c : Code) : Option Ann :=
  match firstId c with
  | some i => f i
  | none => none
def splAt (f : Nat → Option (Nat × Int × Nat)) (c : Code) : Option (Nat × Int × Nat) :=
  match firstId c with
  | some i => f i
  | none => none
def weakAt (f : Nat → Bool) (c : Code) : Bool :=
  match firstId c with
  | some i => f i
  | none => false
/-- a number in a slot, parted into the numbers that it may be -/
def splGo (k : IntKind) (v : Int) (t : Nat) (s : St) (K : St → Prop) : Int → Nat → Prop
  | _, 0 => True
  | lo, n + 1 => (v = lo → fSp (s.slots.set t (one (.num k lo))) fun sl => K ⟨sl, s.heap, s.next⟩) ∧ fI (lo + 1) fun lo => splGo k v t s K lo n
def splitS (wk : Bool) (t : Nat) (lo : Int) (n : Nat) (s : St) (K : St → Prop) : Prop :=
  match (s.slots.getD t .u).int? with
  | some (k, v, q) => match q with
    | true => K s
    | false => match wk with
      | false => Lf (lo ≤ v ∧ v < lo + n) ∧ splGo k v t s K lo n
      | true => (¬(lo ≤ v ∧ v < lo + n) → K s) ∧ splGo k v t s K lo n
  | none => False
theorem splGo_ok {k : IntKind} {v : Int} {t : Nat} {s : St} {K : St → Prop} : ∀ {n : Nat} {lo : Int}, splGo k v t s K lo n → lo ≤ v → v < lo + n → K { s with slots := s.slots.set t (one (.num k v)) }
  | 0, lo, _, h1, h2 => by omega
  | n + 1, lo, h, h1, h2 => by
    simp only [splGo, fSp_eq, fI_eq] at h
    by_cases e : v = lo
    · have := h.1 e
      rw [← e] at this
      exact this
    · exact splGo_ok h.2 (by omega) (by omega)
theorem splitS_ok {wk : Bool} {t : Nat} {lo : Int} {n : Nat} {s : St} {K : St → Prop} {w0 : World} {I : Nat → Prop} {μ : Mu} {a : Act} {w : World} (h : splitS wk t lo n s K) (hm : Models w0 I μ s a w) : ∃ s', Models w0 I μ s' a w ∧ s'.next = s.next ∧ K s' := by
  unfold splitS at h
  split at h
  · rename_i k v q hi
    cases q
    · have hh : ((lo ≤ v ∧ v < lo + n) ∧ splGo k v t s K lo n) ∨ K s := by
        cases wk
        · exact .inl ⟨h.1.h, h.2⟩
        · by_cases e : lo ≤ v ∧ v < lo + n
          · exact .inl ⟨e, h.2⟩
          · exact .inr (h.1 e)
      rcases hh.symm with hh | ⟨⟨h1, h2⟩, h3⟩
      · exact ⟨s, hm, rfl, hh⟩
      refine ⟨{ s with slots := s.slots.set t (one (.num k v)) }, ⟨by simpa using hm.size, fun i x hx => ?_, hm.defers, hm.hm, hm.mine, hm.fr⟩, rfl, splGo_ok h3 h1 h2⟩
      by_cases ht : t = i
      · subst ht
        have hlt : t < s.slots.length := by
          have := (List.getElem?_eq_some_iff.1 hx).1
          simpa using this
        simp [hlt] at hx
        subst hx
        obtain ⟨u, hu, hok⟩ := hm.slots t _ (List.getElem?_eq_getElem hlt)
        have hi' : (s.slots[t]).int? = some (k, v, false) := by simpa [List.getD, hlt] using hi
        exact ⟨u, hu, SV.int_ok hi' hok⟩
      · rw [List.getElem?_set_ne ht] at hx
        exact hm.slots i x hx
    · exact ⟨s, hm, rfl, h⟩
  · exact h.elim
/-- a row in a slot, named anew as the call's own -/
def ownGo (t : Nat) (k : IntKind) (s : St) (h : Nat → Option Blk) (L : List Int) (K : St → Prop) : Prop :=
  ∀ c, L.length ≤ c → fN s.next fun b => fSp (s.slots.set t (one (.own b L.length c false))) fun sl => fN (b + 4) fun nx => K ⟨sl, upd h b (some (.oints k L)), nx⟩
def ownS (o : Option (Nat × IntKind)) (s : St) (K : St → Prop) : Prop :=
  match o with
  | none => K s
  | some (t, k) => match dstN (s.slots.getD t .u) with
    | [] => match dstL k (s.slots.getD t .u) none with
      | some L => ownGo t k s s.heap L K
      | none => False
    | [a] => match dstL k (s.slots.getD t .u) (some (s.heap a)) with
      | some L => ownGo t k s (upd s.heap a none) L K
      | none => False
    | _ => False
def ownAt (f : Nat → Option (Nat × IntKind)) (c : Code) : Option (Nat × IntKind) :=
  match firstId c with
  | some i => f i
  | none => none
theorem ownS_ok {o : Option (Nat × IntKind)} {s : St} {K : St → Prop} {w0 : World} {I : Nat → Prop} {μ : Mu} {a : Act} {w : World} (h : ownS o s K) (hm : Models w0 I μ s a w) (hd : Dom μ s.next) : ∃ μ' s', Models w0 I μ' s' a w ∧ Dom μ' s'.next ∧ K s' := by
  have hf : ∀ n ∈ freshN s.next, μ n = none := fun n hn => by
    cases hx : μ n with
    | none => rfl
    | some l =>
      have := hd n l hx
      simp [freshN] at hn
      omega
  have gen : ∀ (t : Nat) (k : IntKind) (L : List Int) (ws : List (Option Blk)), (s.slots.getD t .u) ≠ .u → ((dstN (s.slots.getD t .u) = [] ∧ ws = []) ∨ ∃ a, dstN (s.slots.getD t .u) = [a] ∧ ws = [none]) → (∀ u, (s.slots.getD t .u).ok μ u → DstOk μ s.heap w k (dstN (s.slots.getD t .u)) u L) →
      ownGo t k s (updL s.heap (dstN (s.slots.getD t .u)) ws) L K → ∃ μ' s', Models w0 I μ' s' a w ∧ Dom μ' s'.next ∧ K s' := fun t k L ws hu hw hdst hk => by
    have hlt : t < s.slots.length := by
      rcases Nat.lt_or_ge t s.slots.length with h' | h'
      · exact h'
      · exact absurd (by simp [List.getD, List.getElem?_eq_none h']) hu
    obtain ⟨v, hv, hok⟩ := hm.slots t _ (List.getElem?_eq_getElem hlt)
    have hget : s.slots.getD t .u = s.slots[t] := by simp [List.getD, hlt]
    obtain ⟨c, μ', hc, he⟩ := own_eff hf (hdst v (by rw [hget]; exact hok)) hw
    have hM := Models.apply (some t) hm hf he
    have ha : a.put (some t) v = a := by
      obtain ⟨tm, df⟩ := a
      simp only [Act.put]
      congr 1
      apply Array.ext_getElem?
      intro i
      by_cases hi : t = i
      · subst hi
        have hsz : t < tm.size := (Array.getElem?_eq_some_iff.1 hv).1
        rw [hv]
        simp [hsz]
      · rw [Array.getElem?_setIfInBounds_ne hi]
    rw [ha] at hM
    have hk2 := hk c hc
    simp only [fN_eq, fSp_eq] at hk2
    refine ⟨μ', ⟨s.slots.set t (one (.own s.next L.length c false)), upd (updL s.heap (dstN (s.slots.getD t .u)) ws) s.next (some (.oints k L)), s.next + 4⟩, ⟨hM.size, hM.slots, hM.defers, hM.hm, hM.mine, hM.fr⟩, fun n l hl => ?_, hk2⟩
    show n < s.next + 4
    rcases he.dom n l hl with h' | h'
    · have := hd n l h'; omega
    · simp [freshN] at h'; omega
  unfold ownS at h
  split at h
  · exact ⟨μ, s, hm, hd, h⟩
  · rename_i t k
    split at h
    · rename_i hn
      split at h
      · rename_i L hL
        refine gen t k L [] (fun e => by rw [e] at hL; simp [dstL] at hL) (.inl ⟨hn, rfl⟩) (fun u hu => dst_ok hm.hm hu (.inl rfl) hL) ?_
        rw [hn]; exact h
      · exact h.elim
    · rename_i b hn
      split at h
      · rename_i L hL
        refine gen t k L [none] (fun e => by rw [e] at hL; simp [dstL] at hL) (.inr ⟨b, hn, rfl⟩) (fun u hu => dst_ok hm.hm hu (.inr ⟨b, hn, rfl⟩) hL) ?_
        rw [hn]; exact h
      · exact h.elim
    · exact h.elim
def unroll (B : St → (Ex → St → Prop) → Prop) (K : Ex → St → Prop) : Nat → St → Prop
  | 0, _ => False
  | n + 1, s => B s fun e s' => match e with
    | .nor => unroll B K n s'
    | .ret => K .ret s'
    | .exi i => K (.exi i) s'
/-- rounds that are numbered: from k on, n more -/
def rounds (X : Ann) (s : St) (B : St → (Ex → St → Prop) → Prop) (K : Ex → St → Prop) : Nat → Nat → Prop
  | k, 0 => ∀ x, X.inv s k x → headK (X.names s) (X.st k x s) fun t => B t fun e s' => match e with
    | .nor => False
    | .ret => K .ret s'
    | .exi i => K (.exi i) s'
  | k, n + 1 => (∀ x, X.inv s k x → headK (X.names s) (X.st k x s) fun t => B t fun e s' => match e with
    | .nor => leSt (X.names s) (X.r1 s s') s' (X.st (k + 1) (X.wit s') s) ∧ Lf (X.inv s (k + 1) (X.wit s'))
    | .ret => K .ret s'
    | .exi i => K (.exi i) s') ∧ rounds X s B K (k + 1) n
def loopW (X : Ann) (s : St) (B : St → (Ex → St → Prop) → Prop) (K : Ex → St → Prop) : Prop :=
  (leSt (X.names s) X.r0 s (X.st 0 (X.wit s) s) ∧ Lf (X.inv s 0 (X.wit s))) ∧
  match X.lit with
  | some n => rounds X s B K 0 n
  | none => ∀ x, X.inv s 0 x → headK (X.names s) (X.st 0 x s) fun t => B t fun e s' => match e with
    | .nor => (leSt (X.names s) (X.r1 s s') s' (X.st 0 (X.wit s') s) ∧ Lf (X.inv s 0 (X.wit s'))) ∧ Lf (X.dec s (X.wit s') < X.dec s x)
    | .ret => K .ret s'
    | .exi i => K (.exi i) s'
def cwp (P : Program) (Γ : Env) (C : Ctl) : Code → St → (Ex → St → Prop) → Prop
  | .skip, s, K => K .nor s
  | .label _, s, K => K .nor s
  | .region _ ops d, s, K => if d then regionD P Γ ops s (K .nor) else regionP P Γ ops s (K .nor)
  | .seq a b, s, K => match annAt C.cut b with
    | none => match splAt C.spl b with
      | none => cwp P Γ C a s fun e s' => match e with
        | .nor => ownS (ownAt C.owns b) s' fun s2 => cwp P Γ C b s2 K
        | .ret => K .ret s'
        | .exi i => K (.exi i) s'
      | some (t, lo, n) => cwp P Γ C a s fun e s' => match e with
        | .nor => splitS (weakAt C.weak b) t lo n s' fun s2 => cwp P Γ C b s2 K
        | .ret => K .ret s'
        | .exi i => K (.exi i) s'
    | some X => (cwp P Γ C a s fun e s' => match e with
        | .nor => ownS (ownAt C.owns b) s' fun s2 => leSt (X.names s) (X.r0 ++ X.r1 s s2) s2 (X.st 0 (X.wit s2) s) ∧ Lf (X.inv s 0 (X.wit s2))
        | .ret => K .ret s'
        | .exi i => K (.exi i) s') ∧ ∀ x, X.inv s 0 x → headK (X.names s) (X.st 0 x s) fun t => cwp P Γ C b t K
  | .cond c x y, s, K => match (evS s.slots c).bool? with
    | some (b, q) => match q with
      | true => match b with
        | true => cwp P Γ C x s K
        | false => cwp P Γ C y s K
      | false => (b = true → cwp P Γ C x s K) ∧ (b = false → cwp P Γ C y s K)
    | none => False
  | .block id b, s, K => cwp P Γ C b s fun e s' => match e with
    | .nor => K .nor s'
    | .ret => K .ret s'
    | .exi i => if i = id then K .nor s' else K (.exi i) s'
  | .loop b, s, K => match annAt C.lp b with
    | some X => loopW X s (cwp P Γ C b) K
    | none => unroll (cwp P Γ C b) K C.fuel s
  | .scope b, s, K => cwp P Γ C b s K
  | .exit id, s, K => K (.exi id) s
  | .ret, s, K => K .ret s
  | _, _, _ => False

def Post (w0 : World) (I : Nat → Prop) (K : Ex → St → Prop) : Exit → Act → World → Prop
  | .normal, a, w => At w0 I (K .nor) a w
  | .ret, a, w => At w0 I (K .ret) a w
  | .exit i, a, w => At w0 I (K (.exi i)) a w
  | _, _, _ => False
theorem At.mono {w0 : World} {I : Nat → Prop} {K K' : St → Prop} {a : Act} {w : World} (h : ∀ s, K s → K' s) (hh : At w0 I K a w) : At w0 I K' a w := by
  obtain ⟨μ, s, h1, h2, h3⟩ := hh
  exact ⟨μ, s, h1, h2, h s h3⟩
theorem at_le {w0 : World} {I : Nat → Prop} {names : List Nat} {r : List (Nat × Nat)} {μ : Mu} {s t : St} {a : Act} {w : World} {K : St → Prop} (h : leSt names r s t) (hm : Models w0 I μ s a w) (hk : K (t.only names)) : At w0 I K a w := by
  obtain ⟨h1, h2⟩ := leSt_ok h hm
  exact ⟨_, _, h1, h2, hk⟩

/-- a body that is walked serves a loop that goes on by K' -/
def Body (P : Program) (w0 : World) (I : Nat → Prop) (c : Code) (B : St → (Ex → St → Prop) → Prop) : Prop :=
  ∀ s K μ a w, Models w0 I μ s a w → Dom μ s.next → B s K → c.wp P (Post w0 I K) a w
theorem unroll_sound {P : Program} {w0 : World} {I : Nat → Prop} {c : Code} {B : St → (Ex → St → Prop) → Prop} (hB : Body P w0 I c B) {K : Ex → St → Prop} {n : Nat} {μ : Mu} {s : St} {a : Act} {w : World}
    (hm : Models w0 I μ s a w) (hd : Dom μ s.next) (h : unroll B K n s) : (Code.loop c).wp P (Post w0 I K) a w := by
  refine wp_loop_ghost (fun k a w => At w0 I (unroll B K k) a w) n ⟨μ, s, hm, hd, h⟩ ?_
  rintro k a w ⟨μ, s, hm, hd, h⟩
  cases k with
  | zero => exact h.elim
  | succ k =>
    refine wp_mono (hB s _ μ a w hm hd h) fun e a' w' he => ?_
    cases e with
    | normal => exact ⟨k, Nat.lt_succ_self k, he⟩
    | ret => exact he
    | exit i => exact he
    | goto l => exact he.elim
    | panic ch => exact he.elim
    | outgrown => exact he.elim
theorem rounds_get {X : Ann} {s : St} {B : St → (Ex → St → Prop) → Prop} {K : Ex → St → Prop} : ∀ {n k : Nat}, rounds X s B K k n → ∀ j, k ≤ j → j ≤ k + n → ∀ x, X.inv s j x → B ((X.st j x s).only (X.names s)) fun e s' => match e with
    | .nor => if j = k + n then False else leSt (X.names s) (X.r1 s s') s' (X.st (j + 1) (X.wit s') s) ∧ Lf (X.inv s (j + 1) (X.wit s'))
    | .ret => K .ret s'
    | .exi i => K (.exi i) s'
  | 0, k, h, j, h1, h2, x, hx => by
    have e : j = k := by omega
    subst e
    have := h x hx
    rw [headK_eq] at this
    simp only [Nat.add_zero, if_true]
    exact this
  | n + 1, k, h, j, h1, h2, x, hx => by
    by_cases e : j = k
    · subst e
      have := h.1 x hx
      rw [headK_eq] at this
      have hne : ¬ j = j + (n + 1) := by omega
      simp only [hne, if_false]
      exact this
    · have := rounds_get h.2 j (by omega) (by omega) x hx
      have e2 : k + 1 + n = k + (n + 1) := by omega
      rw [e2] at this
      exact this
theorem loopW_sound {P : Program} {w0 : World} {I : Nat → Prop} {c : Code} {B : St → (Ex → St → Prop) → Prop} (hB : Body P w0 I c B) {X : Ann} {K : Ex → St → Prop} {μ : Mu} {s : St} {a : Act} {w : World}
    (hm : Models w0 I μ s a w) (hd : Dom μ s.next) (h : loopW X s B K) : (Code.loop c).wp P (Post w0 I K) a w := by
  obtain ⟨⟨hle, hinv⟩, h⟩ := h
  obtain ⟨hm0, hd0⟩ := leSt_ok hle hm
  cases hl : X.lit with
  | none =>
    rw [hl] at h
    simp only [headK_eq] at h
    refine wp_loop_ghost (fun k a w => ∃ x, k = X.dec s x ∧ X.inv s 0 x ∧ ∃ μ, Models w0 I μ ((X.st 0 x s).only (X.names s)) a w ∧ Dom μ (X.st 0 x s).next) _ ⟨X.wit s, rfl, hinv.h, _, hm0, hd0⟩ ?_
    rintro k a w ⟨x, rfl, hx, μ', hm', hd'⟩
    refine wp_mono (hB _ _ μ' a w hm' hd' (h x hx)) fun e a' w' he => ?_
    cases e with
    | normal =>
      obtain ⟨μ2, s2, hm2, hd2, ⟨hle2, hinv2⟩, hlt⟩ := he
      obtain ⟨g1, g2⟩ := leSt_ok hle2 hm2
      exact ⟨_, hlt.h, X.wit s2, rfl, hinv2.h, _, g1, g2⟩
    | ret => exact he
    | exit i => exact he
    | goto l => exact he.elim
    | panic ch => exact he.elim
    | outgrown => exact he.elim
  | some n =>
    rw [hl] at h
    simp only [] at h
    refine wp_loop_ghost (fun m a w => ∃ k x, k + m = n ∧ X.inv s k x ∧ ∃ μ, Models w0 I μ ((X.st k x s).only (X.names s)) a w ∧ Dom μ (X.st k x s).next) n ⟨0, X.wit s, by omega, hinv.h, _, hm0, hd0⟩ ?_
    rintro m a w ⟨k, x, hkm, hx, μ', hm', hd'⟩
    refine wp_mono (hB _ _ μ' a w hm' hd' (rounds_get h k (by omega) (by omega) x hx)) fun e a' w' he => ?_
    cases e with
    | normal =>
      obtain ⟨μ2, s2, hm2, hd2, hh⟩ := he
      simp only [] at hh
      split at hh
      · exact hh.elim
      · obtain ⟨hle2, hinv2⟩ := hh
        obtain ⟨g1, g2⟩ := leSt_ok hle2 hm2
        exact ⟨m - 1, by omega, k + 1, X.wit s2, by omega, hinv2.h, _, g1, g2⟩
    | ret => exact he
    | exit i => exact he
    | goto l => exact he.elim
    | panic ch => exact he.elim
    | outgrown => exact he.elim

theorem cwp_sound {P : Program} {Γ : Env} (hΓ : EnvOk P Γ) (hmix : P.follows .mixedOrders = true) (C : Ctl) {w0 : World} {I : Nat → Prop} : ∀ c, Body P w0 I c (cwp P Γ C c) := by
  intro c
  induction c with
  | skip => intro s K μ a w hm hd h; exact wp_skip ⟨μ, s, hm, hd, h⟩
  | label l => intro s K μ a w hm hd h; exact wp_label ⟨μ, s, hm, hd, h⟩
  | region id ops d =>
    intro s K μ a w hm hd h
    simp only [cwp] at h
    cases d
    · exact regionP_sound hΓ hm hd (fun a w h => h) (by simpa using h)
    · exact regionD_sound hΓ hmix hm hd (fun a w h => h) (by simpa using h)
  | seq x y ihx ihy =>
    intro s K μ a w hm hd h
    simp only [cwp] at h
    split at h
    · split at h
      · refine wp_seq (wp_mono (ihx s _ μ a w hm hd h) fun e a' w' he => ?_)
        cases e with
        | normal =>
          obtain ⟨μ', s', h1, h2, h3⟩ := he
          obtain ⟨μ2, s2, g1, g2, g3⟩ := ownS_ok h3 h1 h2
          exact ihy s2 K μ2 a' w' g1 g2 g3
        | ret => exact he
        | exit i => exact he
        | goto l => exact he.elim
        | panic ch => exact he.elim
        | outgrown => exact he.elim
      · refine wp_seq (wp_mono (ihx s _ μ a w hm hd h) fun e a' w' he => ?_)
        cases e with
        | normal =>
          obtain ⟨μ', s', h1, h2, h3⟩ := he
          obtain ⟨s2, g1, g2, g3⟩ := splitS_ok h3 h1
          exact ihy s2 K μ' a' w' g1 (by rw [g2]; exact h2) g3
        | ret => exact he
        | exit i => exact he
        | goto l => exact he.elim
        | panic ch => exact he.elim
        | outgrown => exact he.elim
    · rename_i X hX
      refine wp_seq (wp_mono (ihx s _ μ a w hm hd h.1) fun e a' w' he => ?_)
      cases e with
      | normal =>
        obtain ⟨μ1, s1, q1, q2, h0⟩ := he
        obtain ⟨μ', s', h1, h2, h3, h4⟩ := ownS_ok h0 q1 q2
        obtain ⟨g1, g2⟩ := leSt_ok h3 h1
        have h5 := h.2 _ h4.h
        rw [headK_eq] at h5
        exact ihy _ K _ a' w' g1 g2 h5
      | ret => exact he
      | exit i => exact he
      | goto l => exact he.elim
      | panic ch => exact he.elim
      | outgrown => exact he.elim
  | cond c x y ihx ihy =>
    intro s K μ a w hm hd h
    simp only [cwp] at h
    have hev := evS_ok hm c
    split at h
    · rename_i b q hb
      have hv := SV.bool_ok hb hev
      cases q
      · exact wp_cond_split hv (fun e => ihx s K μ a w hm hd (h.1 e)) (fun e => ihy s K μ a w hm hd (h.2 e))
      · cases b
        · exact wp_cond_false hv (ihy s K μ a w hm hd h)
        · exact wp_cond_true hv (ihx s K μ a w hm hd h)
    · exact h.elim
  | block id b ih =>
    intro s K μ a w hm hd h
    simp only [cwp] at h
    refine wp_block (wp_mono (ih s _ μ a w hm hd h) fun e a' w' he => ?_)
    cases e with
    | normal => exact he
    | ret => exact he
    | exit i =>
      obtain ⟨μ', s', h1, h2, h3⟩ := he
      simp only [Exit.inBlock]
      simp only [] at h3
      split
      · rename_i hid
        rw [if_pos hid] at h3
        exact ⟨μ', s', h1, h2, h3⟩
      · rename_i hid
        rw [if_neg hid] at h3
        exact ⟨μ', s', h1, h2, h3⟩
    | goto l => exact he.elim
    | panic ch => exact he.elim
    | outgrown => exact he.elim
  | loop b ih =>
    intro s K μ a w hm hd h
    simp only [cwp] at h
    split at h
    · exact loopW_sound ih hm hd h
    · exact unroll_sound ih hm hd h
  | scope b ih =>
    intro s K μ a w hm hd h
    simp only [cwp] at h
    refine wp_scope_straight (wp_mono (ih s K μ a w hm hd h) fun e a' w' he => ?_)
    cases e with
    | normal => exact he
    | ret => exact he
    | exit i => exact he
    | goto l => exact he.elim
    | panic ch => exact he.elim
    | outgrown => exact he.elim
  | exit id => intro s K μ a w hm hd h; exact wp_exit ⟨μ, s, hm, hd, h⟩
  | ret => intro s K μ a w hm hd h; exact wp_ret ⟨μ, s, hm, hd, h⟩
  | rangeFunc => intro s K μ a w hm hd h; exact h.elim
  | goto l => intro s K μ a w hm hd h; exact h.elim
  | refuse why => intro s K μ a w hm hd h; exact h.elim
end Go.Proofs.Ytcaipfdnadlkdaa.Sx

namespace Go.Proofs.Ytcaipfdnadlkdaa.Sx
open Go Go.RowKit
set_option linter.unusedVariables false
set_option linter.unusedSimpArgs false

def resS (P : Program) (s : St) : ResultVar → Option S1
  | .tmp t => match s.slots.getD t .u with
    | .s x => some x
    | _ => none
  | .cell a t => match s.slots.getD a .u, P.info? t, P.underlying t with
    | .s (.c (.ptr b i e j)), some inf, some d => match s.heap b with
      | some k => match blkGet k i e j inf.size with
        | some (none, cs) => match packV (agD d) cs with
          | some (.s x) => some x
          | _ => none
        | _ => none
      | none => none
    | _, _, _ => none
def resL (P : Program) (s : St) : List ResultVar → Option (List S1)
  | [] => some []
  | r :: rs => match resS P s r, resL P s rs with
    | some x, some xs => some (x :: xs)
    | _, _ => none
def resV : List S1 → SV
  | [x] => .s x
  | xs => .t xs
def oneRes (tmps : Array Value) : ResultVar → Sem Value
  | .tmp t => pure (tmps.getD t undef)
  | .cell a t => do loadVar t (← asAddr (tmps.getD a undef))
theorem resS_ok {P : Program} {w0 : World} {I : Nat → Prop} {μ : Mu} {s : St} {a : Act} {w : World} (hm : Models w0 I μ s a w) {r : ResultVar} {x : S1} (h : resS P s r = some x) :
    ∃ v, (oneRes a.tmps r).run P w = .ok v w ∧ x.ok μ v := by
  have slot : ∀ (t : Nat) (y : SV), s.slots.getD t .u = y → y ≠ .u → y.ok μ (a.tmps.getD t undef) := fun t y hy hne => by
    have := evS_ok hm (.tmp t)
    simp only [evS, Act.eval] at this
    rw [hy] at this
    exact this
  cases r with
  | tmp t =>
    simp only [resS] at h
    split at h
    · rename_i y hy
      cases h
      exact ⟨_, rfl, slot t _ hy (by simp)⟩
    · cases h
  | cell ad t =>
    simp only [resS] at h
    split at h
    · rename_i b i e j inf d hs hi hu
      split at h
      · rename_i k hk
        split at h
        · rename_i cs hg
          split at h
          · rename_i y hp
            cases h
            obtain ⟨l, hl, hv⟩ := slot ad _ hs (by simp)
            obtain ⟨l', hl', hok⟩ := hm.hm.ok b k hk
            rw [hl] at hl'; cases hl'
            obtain ⟨vs, h1, h2, h3⟩ := blkGet_ok hok hg trivial
            have hc : ∀ (x : Nat) (v : Value), vs[x]? = some v → w.cell? ((⟨l.b, l.off + (i * e + j), none⟩ : Addr).add x) = some v := fun x v hv => by
              rw [Addr.add_lit']; exact h3 x v hv
            unfold packV at hp
            split at hp
            · rename_i hag
              cases hp
              refine ⟨.agg vs.toArray, ?_, ⟨vs, rfl, h2⟩⟩
              have hrun := run_loadCells_list (P := P) w ⟨l.b, l.off + (i * e + j), none⟩ vs hc
              rw [h1] at hrun
              simp [oneRes, hv, asAddr, loadVar, run_isAgg hu, hag, run_sizeOf' hi, hrun]
            · rename_i hag
              split at hp
              · rename_i c
                cases hp
                match vs, h2 with
                | [v], h2 =>
                  refine ⟨v, ?_, h2.1⟩
                  have := hc 0 v rfl
                  rw [Addr.add_lit', Nat.add_zero] at this
                  simp [oneRes, hv, asAddr, loadVar, run_isAgg hu, hag, this]
                | [], h2 => exact h2.elim
                | _ :: _ :: _, h2 => exact h2.2.elim
              · cases hp
          · cases h
        · cases h
      · cases h
    · cases h
theorem resL_ok {P : Program} {w0 : World} {I : Nat → Prop} {μ : Mu} {s : St} {a : Act} {w : World} (hm : Models w0 I μ s a w) : ∀ {rs : List ResultVar} {xs : List S1}, resL P s rs = some xs →
    ∃ vs : List Value, (rs.mapM (oneRes a.tmps)).run P w = .ok vs w ∧ AllS (S1.ok μ) xs vs
  | [], xs, h => by cases h; exact ⟨[], rfl, trivial⟩
  | r :: rs, xs, h => by
    simp only [resL] at h
    split at h
    · rename_i x ys h1 h2
      cases h
      obtain ⟨v, g1, g2⟩ := resS_ok hm h1
      obtain ⟨vs, g3, g4⟩ := resL_ok hm h2
      exact ⟨v :: vs, by rw [List.mapM_cons]; simp [g1, g3], g2, g4⟩
    · cases h
theorem resV_ok {P : Program} {w0 : World} {I : Nat → Prop} {μ : Mu} {s : St} {a : Act} {w : World} {fn : Func} (hm : Models w0 I μ s a w) {xs : List S1} (h : resL P s fn.results.toList = some xs) :
    ∃ v, (results fn a.tmps).run P w = .ok v w ∧ (resV xs).ok μ v := by
  obtain ⟨vs, h1, h2⟩ := resL_ok hm h
  have hrun : (results fn a.tmps).run P w = .ok (if h : vs.toArray.size = 1 then vs.toArray[0] else .tuple vs.toArray) w := by
    have e : results fn a.tmps = (do let vs ← fn.results.mapM (oneRes a.tmps); pure (if h : vs.size = 1 then vs[0] else .tuple vs)) := by
      unfold results
      congr 1
    rw [e, Array.mapM_eq_mapM_toList]
    simp [h1]
  refine ⟨_, hrun, ?_⟩
  match xs, vs, h2 with
  | [], [], _ => exact ⟨[], rfl, trivial⟩
  | [x], [v], h2 => exact h2.1
  | x :: y :: xs, u :: v :: vs, h2 => exact ⟨u :: v :: vs, by simp, h2⟩
  | [], _ :: _, h2 => exact h2.elim
  | _ :: _, [], h2 => exact h2.elim
  | [_], _ :: _ :: _, h2 => exact h2.2.elim
  | _ :: _ :: _, [_], h2 => exact h2.2.elim

/-- what a function leaves with -/
def retK (P : Program) (fn : Func) (K : SV → St → Prop) : Ex → St → Prop
  | .nor, s => match resL P s fn.results.toList with
    | some xs => K (resV xs) s
    | none => False
  | .ret, s => match resL P s fn.results.toList with
    | some xs => K (resV xs) s
    | none => False
  | .exi _, _ => False
def entry (fn : Func) (args : List SV) (h : Nat → Option Blk) (next : Nat) : St := { slots := args ++ List.replicate (fn.ntmps - args.length) .u, heap := h, next }
def entryK (fn : Func) (args : List SV) (h : Nat → Option Blk) (next : Nat) (K : St → Prop) : Prop := fVs (args ++ List.replicate (fn.ntmps - args.length) .u) fun sl => fN next fun n => K ⟨sl, h, n⟩
theorem entryK_eq (fn : Func) (args : List SV) (h : Nat → Option Blk) (next : Nat) (K : St → Prop) : entryK fn args h next K = K (entry fn args h next) := by simp only [entryK, fVs_eq, fN_eq]; rfl
theorem allV_len {μ : Mu} : ∀ {xs : List SV} {vs : List Value}, AllV μ xs vs → xs.length = vs.length
  | [], [], _ => rfl
  | _ :: _, _ :: _, h => by simp [allV_len h.2]
  | [], _ :: _, h => h.elim
  | _ :: _, [], h => h.elim
theorem allV_get {μ : Mu} : ∀ {xs : List SV} {vs : List Value}, AllV μ xs vs → ∀ (i : Nat) (x : SV), xs[i]? = some x → ∃ v, vs[i]? = some v ∧ x.ok μ v
  | [], [], _, i, x, h => by simp at h
  | _ :: _, v :: _, hh, 0, x, h => by simp at h; subst h; exact ⟨v, rfl, hh.1⟩
  | _ :: _, _ :: _, hh, i + 1, x, h => by simpa using allV_get hh.2 i x (by simpa using h)
  | [], _ :: _, h, _, _, _ => h.elim
  | _ :: _, [], h, _, _, _ => h.elim
theorem fn_sound {P : Program} {Γ : Env} (hΓ : EnvOk P Γ) (hmix : P.follows .mixedOrders = true) (C : Ctl) {f : FuncId} {fn : Func} {c : Code} (hf : P.funcs[f]? = some fn) (hb : fn.body = some c)
    {I : Nat → Prop} {μ : Mu} {args : List SV} {vals : List Value} {h : Nat → Option Blk} {next : Nat} {w : World} {K : SV → St → Prop} (ha : AllV μ args vals) (hm : HeapM μ h w) (hd : Dom μ next)
    (hmine : ∀ n b l x, h n = some b → μ n = some l → b.excl w l x → I x ∨ w.heap.size ≤ x) (hk0 : entryK fn args h next fun s => cwp P Γ C c s (retK P fn K)) :
    Calls P f vals.toArray w fun e w' => ∃ v sv μ' s a, e = .returned v ∧ Models w I μ' s a w' ∧ sv.ok μ' v ∧ K sv s := by
  have hk := hk0
  rw [entryK_eq] at hk
  have hl := allV_len ha
  have hM : Models w I μ (entry fn args h next) { tmps := vals.toArray ++ Array.replicate (fn.ntmps - vals.toArray.size) undef, defers := [] } w :=
    { size := by simp [entry, hl], defers := rfl, hm := hm, mine := hmine, fr := ⟨rfl, rfl, rfl, Nat.le_refl _, fun _ _ _ => rfl⟩
      slots := fun i x hx => by
        simp only [entry] at hx
        rcases Nat.lt_or_ge i args.length with hlt | hge
        · rw [List.getElem?_append_left hlt] at hx
          obtain ⟨v, hv, hok⟩ := allV_get ha i x hx
          exact ⟨v, by rw [Array.getElem?_append_left (by simp; omega)]; simpa using hv, hok⟩
        · rw [List.getElem?_append_right hge] at hx
          have hlt2 : i - args.length < fn.ntmps - args.length := by
            have := (List.getElem?_eq_some_iff.1 hx).1
            simpa using this
          rw [List.getElem?_replicate] at hx
          simp [hlt2] at hx
          subst hx
          refine ⟨undef, ?_, trivial⟩
          rw [Array.getElem?_append_right (by simp; omega)]
          simp [← hl, hlt2] }
  refine calls_of_wp hf hb (wp_mono (cwp_sound hΓ hmix C c _ _ μ _ w hM hd hk) fun e a' w' he => ?_)
  have fin : At w I (fun s => match resL P s fn.results.toList with | some xs => K (resV xs) s | none => False) a' w' →
      a'.defers = [] ∧ ∃ v, (results fn a'.tmps).run P w' = .ok v w' ∧ ∃ v' sv μ' s a, Ending.returned v = .returned v' ∧ Models w I μ' s a w' ∧ sv.ok μ' v' ∧ K sv s := by
    rintro ⟨μ', s, h1, h2, h3⟩
    split at h3
    · rename_i xs hxs
      obtain ⟨v, g1, g2⟩ := resV_ok h1 hxs
      exact ⟨h1.defers, v, g1, v, _, μ', s, a', rfl, h1, g2, h3⟩
    · exact h3.elim
  cases e with
  | normal => exact fin he
  | ret => exact fin he
  | exit i => obtain ⟨_, _, _, _, h⟩ := he; exact h.elim
  | goto l => exact he.elim
  | panic ch => exact he.elim
  | outgrown => exact he.elim

/-! ### contracts of plain values -/
inductive Leaf where
  | I (n : Int)
  | B (b : Bool)
  | S (z : ByteArray)
inductive LK where
  | i (k : IntKind)
  | b
  | s
inductive PV where
  | c (k : LK)
  | a (ks : List LK)
def matchC : LK → SC → Option Leaf
  | .i k, .num k' n => if k = k' then some (.I n) else none
  | .i k, .int k' n => if k = k' then some (.I n) else none
  | .b, .tru b => some (.B b)
  | .b, .boo b => some (.B b)
  | .s, .str z => some (.S z)
  | _, _ => none
def matchL : List LK → List SC → Option (List Leaf)
  | [], [] => some []
  | k :: ks, c :: cs => match matchC k c, matchL ks cs with
    | some l, some L => some (l :: L)
    | _, _ => none
  | _, _ => none
def matchV : List PV → List SV → Option (List Leaf)
  | [], [] => some []
  | .c k :: ps, .s (.c c) :: xs => match matchC k c, matchV ps xs with
    | some l, some L => some (l :: L)
    | _, _ => none
  | .a ks :: ps, .s (.a cs) :: xs => match matchL ks cs, matchV ps xs with
    | some l, some L => some (l ++ L)
    | _, _ => none
  | _, _ => none
def instC : LK → Leaf → SC
  | .i k, .I n => .int k n
  | .b, .B b => .boo b
  | .s, .S z => .str z
  | _, _ => .nil
def instL : List LK → List Leaf → List SC
  | k :: ks, l :: L => instC k l :: instL ks L
  | _, _ => []
def instVs : List PV → List Leaf → List SV
  | .c k :: ps, l :: L => one (instC k l) :: instVs ps L
  | .a ks :: ps, L => .s (.a (instL ks L)) :: instVs ps (L.drop ks.length)
  | _, _ => []
def fitC : LK → Leaf → Bool
  | .i _, .I _ => true
  | .b, .B _ => true
  | .s, .S _ => true
  | _, _ => false
def kinds : List PV → List LK
  | [] => []
  | .c k :: ps => k :: kinds ps
  | .a ks :: ps => ks ++ kinds ps
def fits : List LK → List Leaf → Bool
  | [], [] => true
  | k :: ks, l :: L => fitC k l && fits ks L
  | _, _ => false
def gI (L : List Leaf) (i : Nat) : Int :=
  match L[i]? with
  | some (.I n) => n
  | _ => 0
def gB (L : List Leaf) (i : Nat) : Bool :=
  match L[i]? with
  | some (.B n) => n
  | _ => false
theorem fit_i {k : IntKind} {ks : List LK} {L : List Leaf} (h : fits (.i k :: ks) L = true) : ∃ n L', L = .I n :: L' ∧ fits ks L' = true := by
  match L, h with
  | .I n :: L', h => exact ⟨n, L', rfl, by simpa [fits, fitC] using h⟩
  | .B _ :: _, h => simp [fits, fitC] at h
  | .S _ :: _, h => simp [fits, fitC] at h
  | [], h => simp [fits] at h
theorem fit_b {ks : List LK} {L : List Leaf} (h : fits (.b :: ks) L = true) : ∃ n L', L = .B n :: L' ∧ fits ks L' = true := by
  match L, h with
  | .B n :: L', h => exact ⟨n, L', rfl, by simpa [fits, fitC] using h⟩
  | .I _ :: _, h => simp [fits, fitC] at h
  | .S _ :: _, h => simp [fits, fitC] at h
  | [], h => simp [fits] at h
theorem fit_nil {L : List Leaf} (h : fits [] L = true) : L = [] := by
  cases L with
  | nil => rfl
  | cons l L => simp [fits] at h
theorem fits_append : ∀ {a b : List LK} {L M : List Leaf}, fits a L = true → fits b M = true → fits (a ++ b) (L ++ M) = true
  | [], _, [], _, _, h => h
  | k :: a, b, l :: L, M, h, h2 => by
    simp only [fits, Bool.and_eq_true] at h
    simp only [List.cons_append, fits, Bool.and_eq_true]
    exact ⟨h.1, fits_append h.2 h2⟩
  | [], _, _ :: _, _, h, _ => by simp [fits] at h
  | _ :: _, _, [], _, h, _ => by simp [fits] at h
def noMu : Mu := fun _ => none
theorem matchC_ok {μ : Mu} {k : LK} {c : SC} {l : Leaf} {v : Value} (h : matchC k c = some l) (hc : c.ok μ v) : (instC k l).ok noMu v ∧ fitC k l = true := by
  unfold matchC at h
  split at h
  · split at h
    · rename_i hk; subst hk; cases h; exact ⟨hc, rfl⟩
    · cases h
  · split at h
    · rename_i hk; subst hk; cases h; exact ⟨hc, rfl⟩
    · cases h
  · cases h; exact ⟨hc, rfl⟩
  · cases h; exact ⟨hc, rfl⟩
  · cases h; exact ⟨hc, rfl⟩
  · cases h
theorem matchL_ok {μ : Mu} : ∀ {ks : List LK} {cs : List SC} {L : List Leaf} {vs : List Value}, matchL ks cs = some L → All2 (SC.ok μ) cs vs → (∀ M, All2 (SC.ok noMu) (instL ks (L ++ M)) vs) ∧ fits ks L = true ∧ L.length = ks.length
  | [], [], L, [], h, _ => by cases h; exact ⟨fun M => by cases M <;> trivial, rfl, rfl⟩
  | k :: ks, c :: cs, L, v :: vs, h, hc => by
    simp only [matchL] at h
    split at h
    · rename_i l L' h1 h2
      cases h
      obtain ⟨g1, g2⟩ := matchC_ok h1 hc.1
      obtain ⟨g3, g4, g5⟩ := matchL_ok h2 hc.2
      exact ⟨fun M => ⟨g1, g3 M⟩, by simp [fits, g2, g4], by simp [g5]⟩
    · cases h
  | [], [], _, _ :: _, _, hc => hc.elim
  | _ :: _, _ :: _, _, [], _, hc => hc.elim
  | [], _ :: _, _, _, h, _ => by cases h
  | _ :: _, [], _, _, h, _ => by cases h
theorem matchV_ok {μ : Mu} : ∀ {ps : List PV} {xs : List SV} {L : List Leaf} {vs : List Value}, matchV ps xs = some L → AllV μ xs vs → AllV noMu (instVs ps L) vs ∧ fits (kinds ps) L = true
  | [], [], L, [], h, _ => by cases h; exact ⟨trivial, rfl⟩
  | .c k :: ps, .s (.c c) :: xs, L, v :: vs, h, hc => by
    simp only [matchV] at h
    split at h
    · rename_i l L' h1 h2
      cases h
      obtain ⟨g1, g2⟩ := matchC_ok h1 hc.1
      obtain ⟨g3, g4⟩ := matchV_ok h2 hc.2
      exact ⟨⟨g1, g3⟩, by simp [kinds, fits, g2, g4]⟩
    · cases h
  | .a ks :: ps, .s (.a cs) :: xs, L, v :: vs, h, hc => by
    simp only [matchV] at h
    split at h
    · rename_i l L' h1 h2
      cases h
      obtain ⟨us, rfl, ha⟩ := hc.1
      obtain ⟨g1, g2, g5⟩ := matchL_ok h1 ha
      obtain ⟨g3, g4⟩ := matchV_ok h2 hc.2
      refine ⟨⟨⟨us, rfl, g1 L'⟩, ?_⟩, fits_append g2 g4⟩
      rw [← g5, List.drop_left]
      exact g3
    · cases h
  | [], [], _, _ :: _, _, hc => hc.elim
  | _ :: _, _ :: _, _, [], h, hc => hc.elim
  | [], _ :: _, _, _, h, _ => by cases h
  | .c _ :: _, [], _, _, h, _ => by cases h
  | .a _ :: _, [], _, _, h, _ => by cases h
  | .c _ :: _, .s (.a _) :: _, _, _, h, _ => by cases h
  | .a _ :: _, .s (.c _) :: _, _, _, h, _ => by cases h
  | .c _ :: _, .t _ :: _, _, _, h, _ => by cases h
  | .c _ :: _, .u :: _, _, _, h, _ => by cases h
  | .a _ :: _, .t _ :: _, _, _, h, _ => by cases h
  | .a _ :: _, .u :: _, _, _, h, _ => by cases h

def SC.val : SC → Value
  | .num k n => .int k n
  | .int k n => .int k n
  | .tru b => .bool b
  | .boo b => .bool b
  | .str z => .string z
  | .nil => .pointer none
  | _ => undef
def SV.val : SV → Value
  | .s (.c c) => c.val
  | .s (.a cs) => .agg (cs.map SC.val).toArray
  | _ => undef
theorem instC_val {μ : Mu} {k : LK} {l : Leaf} {v : Value} (h : (instC k l).ok μ v) : v = (instC k l).val := by
  cases k <;> cases l <;> exact h
theorem instL_val {μ : Mu} : ∀ {ks : List LK} {L : List Leaf} {vs : List Value}, All2 (SC.ok μ) (instL ks L) vs → vs = (instL ks L).map SC.val
  | [], _, [], _ => rfl
  | _ :: _, [], [], _ => rfl
  | k :: ks, l :: L, v :: vs, h => by simp only [instL, List.map_cons]; rw [← instC_val h.1, ← instL_val h.2]
  | [], _, _ :: _, h => h.elim
  | _ :: _, [], _ :: _, h => h.elim
  | _ :: _, _ :: _, [], h => h.elim
theorem instVs_val {μ : Mu} : ∀ {ps : List PV} {L : List Leaf} {vs : List Value}, AllV μ (instVs ps L) vs → vs = (instVs ps L).map SV.val
  | [], _, [], _ => rfl
  | .c _ :: _, [], [], _ => rfl
  | .c k :: ps, l :: L, v :: vs, h => by
    simp only [instVs, List.map_cons]
    rw [← instVs_val h.2]
    congr 1
    exact instC_val h.1
  | .a ks :: ps, L, v :: vs, h => by
    simp only [instVs] at h ⊢
    obtain ⟨⟨us, rfl, ha⟩, h2⟩ := h
    rw [List.map_cons, ← instVs_val h2, instL_val ha]
    rfl
  | [], _, _ :: _, h => h.elim
  | .c _ :: _, [], _ :: _, h => h.elim
  | .c _ :: _, _ :: _, [], h => h.elim
  | .a _ :: _, _, [], h => h.elim

structure Con0 where
  pat : List PV
  pre : Option (List Leaf → Prop) := none
  out : List Leaf → Out SV
def preO (p : Option (List Leaf → Prop)) (L : List Leaf) (o : Out SV) : Out SV :=
  match p with
  | none => o
  | some p => .ast (p L) o
def preP (p : Option (List Leaf → Prop)) (L : List Leaf) : Prop :=
  match p with
  | none => True
  | some p => p L
theorem preO_ok {p : Option (List Leaf → Prop)} {L : List Leaf} {o : Out SV} {K : SV → Prop} (h : (preO p L o).wp K) : preP p L ∧ o.wp K := by
  cases p with
  | none => exact ⟨trivial, h⟩
  | some p => exact ⟨h.1.h, h.2⟩
def Con0.spec (c : Con0) : Spec := fun _ args => match matchV c.pat args with
  | some L => Req.pure (preO c.pre L (c.out L))
  | none => Req.fail
/-- does a result meet what is told? -/
def Out.mt : Out SV → SV → Prop
  | .ret a, x => leV [] [] x a
  | .fail, _ => False
  | .eqn e f, x => ∀ y, y = e → (f y).mt x
  | .br c a b, x => (c ∧ a.mt x) ∨ (¬c ∧ b.mt x)
  | .brB q a b, x => (q = true ∧ a.mt x) ∨ (q = false ∧ b.mt x)
  | .ast _ k, x => k.mt x
  | .fact _ _ k, x => k.mt x
  | .all φ _ f, x => ∃ y, φ y ∧ (f y).mt x
theorem Out.mt_posts : ∀ {o : Out SV} {x : SV}, o.mt x → ∃ r, o.posts r ∧ leV [] [] x r
  | .ret a, x, h => ⟨a, rfl, h⟩
  | .fail, _, h => h.elim
  | .eqn e f, x, h => Out.mt_posts (o := f e) (h e rfl)
  | .br c a b, x, h => by
    rcases h with ⟨hc, h⟩ | ⟨hc, h⟩
    · obtain ⟨r, h1, h2⟩ := Out.mt_posts h; exact ⟨r, .inl ⟨hc, h1⟩, h2⟩
    · obtain ⟨r, h1, h2⟩ := Out.mt_posts h; exact ⟨r, .inr ⟨hc, h1⟩, h2⟩
  | .brB q a b, x, h => by
    rcases h with ⟨hc, h⟩ | ⟨hc, h⟩
    · obtain ⟨r, h1, h2⟩ := Out.mt_posts h; exact ⟨r, .inl ⟨hc, h1⟩, h2⟩
    · obtain ⟨r, h1, h2⟩ := Out.mt_posts h; exact ⟨r, .inr ⟨hc, h1⟩, h2⟩
  | .ast _ k, x, h => Out.mt_posts (o := k) h
  | .fact _ _ k, x, h => Out.mt_posts (o := k) h
  | .all φ _ f, x, ⟨y, hy, h⟩ => by obtain ⟨r, h1, h2⟩ := Out.mt_posts h; exact ⟨r, ⟨y, hy, h1⟩, h2⟩
theorem noHeap (μ : Mu) (w : World) : HeapM μ (fun _ => none) w := ⟨fun _ _ h => (by cases h), fun _ _ _ _ _ _ _ _ h => (by cases h)⟩
theorem muNil (μ : Mu) : muOf [] [] μ = noMu := by funext n; simp [muOf, noMu]
/-- what is to be shown of the text -/
def Con0.vc (c : Con0) (P : Program) (Γ : Env) (C : Ctl) (fn : Func) (L : List Leaf) : Prop :=
  entryK fn (instVs c.pat L) (fun _ => none) 0 fun s => cwp P Γ C (fn.body.getD .skip) s (retK P fn fun sv _ => (c.out L).mt sv)
theorem Con0.calls {P : Program} {Γ : Env} (hΓ : EnvOk P Γ) (hmix : P.follows .mixedOrders = true) {C : Ctl} {f : FuncId} {fn : Func} (hf : P.funcs[f]? = some fn) (hb : fn.body.isSome = true) (c : Con0)
    {L : List Leaf} (h : c.vc P Γ C fn L) {vals : List Value} {w : World} (ha : AllV noMu (instVs c.pat L) vals) :
    Calls P f vals.toArray w fun e w' => ∃ v r, e = .returned v ∧ (c.out L).posts r ∧ r.ok noMu v ∧ Below w.heap.size w w' := by
  have hb' : fn.body = some (fn.body.getD .skip) := by
    cases hx : fn.body with
    | none => rw [hx] at hb; cases hb
    | some c => rfl
  refine (fn_sound hΓ hmix C hf hb' (I := fun _ => False) ha (noHeap _ w) (fun n l hl => by cases hl) (fun n b l x hb => by cases hb) h).mono fun e w' he => ?_
  obtain ⟨v, sv, μ', s, a, rfl, hm, hok, hk⟩ := he
  obtain ⟨r, h1, h2⟩ := Out.mt_posts hk
  have h3 := leV_ok h2 hok
  rw [muNil] at h3
  exact ⟨v, r, rfl, h1, h3, ⟨hm.fr.os, hm.fr.tape, hm.fr.output, hm.fr.size, fun x hx => hm.fr.block x hx fun h => h⟩⟩
theorem ok_noMu {μ : Mu} {x : SV} {v : Value} (h : x.ok noMu v) : x.ok μ v := SV.ok_ext (fun n l hl => by cases hl) h
theorem Con0.ok {P : Program} {Γ : Env} (hΓ : EnvOk P Γ) (hmix : P.follows .mixedOrders = true) {C : Ctl} {f : FuncId} {fn : Func} (hf : P.funcs[f]? = some fn) (hb : fn.body.isSome = true) (c : Con0)
    (h : ∀ L, fits (kinds c.pat) L = true → preP c.pre L → c.vc P Γ C fn L) : SpecOk P f c.spec := by
  intro μ hh w base args vals hm ha hfr K hk
  unfold Con0.spec at hk ⊢
  split at hk
  · rename_i L hL
    obtain ⟨h1, h2⟩ := preO_ok (Out.wp_bind.1 hk)
    obtain ⟨ha', hft⟩ := matchV_ok hL ha
    refine (Con0.calls hΓ hmix hf hb c (h L hft h1) ha').mono fun e w' he => ?_
    obtain ⟨v, r, rfl, g1, g2, g3⟩ := he
    exact ⟨v, μ, ⟨r, [], []⟩, rfl, Out.wp_posts h2 r g1, { ext := Ext.refl μ, dom := fun _ _ h => .inl h, val := ok_noMu g2, os := g3.os, tape := g3.tape, output := g3.output, size := g3.size, keep := fun x hx _ => g3.block x hx, wrs := List.nodup_nil, wsl := rfl, nsl := by simp, olds := fun j n b' h => by simp [Req.pure] at h, news := fun j b h => by simp at h, newsApart := fun j k b c l m x _ h => by simp at h }⟩
  · exact hk.elim
/-- slots that are kept; the others are forgotten -/
def keepS (is : List Nat) : Nat → List SV → List SV
  | _, [] => []
  | i, x :: xs => (if is.contains i then x else .u) :: keepS is (i + 1) xs
def ptrN (x : SV) : Nat :=
  match x with
  | .s (.c (.ptr b _ _ _)) => b
  | _ => 0
def intN (x : SV) : Int :=
  match x with
  | .s (.c (.int _ n)) => n
  | .s (.c (.num _ n)) => n
  | _ => 0
def boolN (x : SV) : Bool :=
  match x with
  | .s (.c (.boo n)) => n
  | .s (.c (.tru n)) => n
  | _ => false
def cellsN (b : Option Blk) : List SC :=
  match b with
  | some (.cells _ cs) => cs
  | _ => []
def cellI (cs : List SC) (i : Nat) : Int :=
  match cs[i]? with
  | some (.int _ n) => n
  | some (.num _ n) => n
  | _ => 0
def cellB (cs : List SC) (i : Nat) : Bool :=
  match cs[i]? with
  | some (.boo n) => n
  | some (.tru n) => n
  | _ => false
/-- a contract that was shown by another road -/
theorem Con0.of_calls {P : Program} {f : FuncId} (c : Con0) (h : ∀ L, fits (kinds c.pat) L = true → preP c.pre L → ∀ w, Calls P f ((instVs c.pat L).map SV.val).toArray w fun e w' => ∃ v r, e = .returned v ∧ (c.out L).posts r ∧ r.ok noMu v ∧ Below w.heap.size w w') : SpecOk P f c.spec := by
  intro μ hh w base args vals hm ha hfr K hk
  unfold Con0.spec at hk ⊢
  split at hk
  · rename_i L hL
    obtain ⟨h1, h2⟩ := preO_ok (Out.wp_bind.1 hk)
    obtain ⟨ha', hft⟩ := matchV_ok hL ha
    rw [instVs_val ha']
    refine (h L hft h1 w).mono fun e w' he => ?_
    obtain ⟨v, r, rfl, g1, g2, g3⟩ := he
    exact ⟨v, μ, ⟨r, [], []⟩, rfl, Out.wp_posts h2 r g1, { ext := Ext.refl μ, dom := fun _ _ h => .inl h, val := ok_noMu g2, os := g3.os, tape := g3.tape, output := g3.output, size := g3.size, keep := fun x hx _ => g3.block x hx, wrs := List.nodup_nil, wsl := rfl, nsl := by simp, olds := fun j n b' h => by simp [Req.pure] at h, news := fun j b h => by simp at h, newsApart := fun j k b c l m x _ h => by simp at h }⟩
  · exact hk.elim
def envL : List (FuncId × Spec) → Env
  | [] => fun _ => none
  | (f, sp) :: l => fun g => if g = f then some sp else envL l g
theorem envL_nil (P : Program) : EnvOk P (envL []) := fun f sp h => by cases h
theorem envL_cons {P : Program} {f : FuncId} {sp : Spec} {l : List (FuncId × Spec)} (hc : Callable P f) (hs : SpecOk P f sp) (h : EnvOk P (envL l)) : EnvOk P (envL ((f, sp) :: l)) := fun g sp' hg => by
  simp only [envL] at hg
  split at hg
  · rename_i e
    subst e
    cases hg
    exact ⟨hc, hs⟩
  · exact h g sp' hg
theorem of_eq {a b : Prop} (e : a = b) (h : b) : a := e ▸ h
end Go.Proofs.Ytcaipfdnadlkdaa.Sx

namespace Go.Proofs.Ytcaipfdnadlkdaa.Sx
open Go
set_option linter.unusedVariables false
set_option linter.unusedSimpArgs false
def litC : SC → SC
  | .int k n => .num k n
  | .boo b => .tru b
  | c => c
def litL : List SC → List SC
  | [] => []
  | c :: cs => litC c :: litL cs
def lit1 : S1 → S1
  | .c c => .c (litC c)
  | .a cs => .a (litL cs)
def litT : List S1 → List S1
  | [] => []
  | c :: cs => lit1 c :: litT cs
def litV : SV → SV
  | .s x => .s (lit1 x)
  | .t xs => .t (litT xs)
  | .u => .u
theorem litC_ok {μ : Mu} {c : SC} {v : Value} (h : c.ok μ v) : (litC c).ok μ v := by cases c <;> exact h
theorem litL_ok {μ : Mu} : ∀ {cs : List SC} {vs : List Value}, All2 (SC.ok μ) cs vs → All2 (SC.ok μ) (litL cs) vs
  | [], [], _ => trivial
  | _ :: _, _ :: _, h => ⟨litC_ok h.1, litL_ok h.2⟩
  | [], _ :: _, h => h.elim
  | _ :: _, [], h => h.elim
theorem lit1_ok {μ : Mu} {c : S1} {v : Value} (h : c.ok μ v) : (lit1 c).ok μ v := by
  cases c with
  | c c => exact litC_ok (c := c) h
  | a cs => obtain ⟨vs, h1, h2⟩ := h; exact ⟨vs, h1, litL_ok h2⟩
theorem litT_ok {μ : Mu} : ∀ {cs : List S1} {vs : List Value}, AllS (S1.ok μ) cs vs → AllS (S1.ok μ) (litT cs) vs
  | [], [], _ => trivial
  | _ :: _, _ :: _, h => ⟨lit1_ok h.1, litT_ok h.2⟩
  | [], _ :: _, h => h.elim
  | _ :: _, [], h => h.elim
theorem litV_ok {μ : Mu} {x : SV} {v : Value} (h : x.ok μ v) : (litV x).ok μ v := by
  cases x with
  | s x => exact lit1_ok (c := x) h
  | t xs => obtain ⟨vs, h1, h2⟩ := h; exact ⟨vs, h1, litT_ok h2⟩
  | u => trivial
def Out.lit : Out SV → Out SV
  | .ret a => .ret (litV a)
  | .fail => .fail
  | .eqn e f => (f e).lit
  | .br c x y => .br c x.lit y.lit
  | .brB b x y => match b with
    | true => x.lit
    | false => y.lit
  | .ast p k => .ast p k.lit
  | .fact p h k => .fact p h k.lit
  | .all φ ne f => .all φ ne fun x => (f x).lit
theorem Out.lit_wp {K : SV → Prop} : ∀ {o : Out SV}, o.lit.wp K → o.wp fun r => K (litV r)
  | .ret a, h => h
  | .fail, h => h
  | .eqn e f, h => fun x hx => by subst hx; exact Out.lit_wp h
  | .br c x y, h => ⟨fun hc => Out.lit_wp (h.1 hc), fun hc => Out.lit_wp (h.2 hc)⟩
  | .brB b x y, h => by
    cases b
    · exact ⟨fun e => (by cases e), fun _ => Out.lit_wp (o := y) h⟩
    · exact ⟨fun _ => Out.lit_wp (o := x) h, fun e => (by cases e)⟩
  | .ast p k, h => ⟨h.1, Out.lit_wp h.2⟩
  | .fact p hp k, h => fun hc => Out.lit_wp (h hc)
  | .all φ ne f, h => fun x hx => Out.lit_wp (h x hx)
def Con0.lit (c : Con0) : Con0 := { c with out := fun L => (c.out L).lit }
theorem Con0.lit_ok {P : Program} {f : FuncId} {c : Con0} (hc : SpecOk P f c.spec) : SpecOk P f c.lit.spec := by
  intro μ hh w base args vals hm ha hfr K hk
  have h1 : ∃ L, matchV c.pat args = some L := by
    cases hL : matchV c.pat args with
    | none => simp only [Con0.spec, Con0.lit, hL] at hk; exact hk.elim
    | some L => exact ⟨L, rfl⟩
  obtain ⟨L, hL⟩ := h1
  have e1 : c.lit.spec base args = Req.pure (preO c.pre L (c.out L).lit) := by simp only [Con0.spec, Con0.lit, hL]
  have e2 : c.spec base args = Req.pure (preO c.pre L (c.out L)) := by simp only [Con0.spec, hL]
  rw [e1] at hk ⊢
  obtain ⟨p1, p2⟩ := preO_ok (Out.wp_bind.1 hk)
  have hk2 : (c.spec base args).pre hh (fun r => K ⟨litV r.v, r.ws, r.ns⟩) := by
    rw [e2]
    refine Out.wp_bind.2 ?_
    cases hp : c.pre with
    | none => exact Out.lit_wp p2
    | some p => exact ⟨⟨by rw [hp] at p1; exact p1⟩, Out.lit_wp p2⟩
  refine (hc μ hh w base args vals hm ha hfr _ hk2).mono fun e w' he => ?_
  obtain ⟨v, μ', r, rfl, hr, hE⟩ := he
  rw [e2] at hE
  exact ⟨v, μ', ⟨litV r.v, r.ws, r.ns⟩, rfl, hr, { hE with val := litV_ok hE.val }⟩
end Go.Proofs.Ytcaipfdnadlkdaa.Sx

namespace Go.Proofs.Ytcaipfdnadlkdaa.Sx
open Go Go.RowKit
set_option linter.unusedVariables false
set_option linter.unusedSimpArgs false

inductive PA where
  | v (k : LK)
  | a (ks : List LK)
  | r (k : IntKind)
inductive RC where
  | c (x : S1)
  | r (k : IntKind) (L : List Int)
/-- a row that is read: what it holds, how long its value's room is -/
structure Rw where
  L : List Int
  c : Nat

/-! ### the caller's side -/
def rowNames : List PA → List SV → List Nat
  | .r _ :: ps, x :: xs => dstN x ++ rowNames ps xs
  | _ :: ps, _ :: xs => rowNames ps xs
  | _, _ => []
structure Mt where
  L : List Leaf
  R : List (List Int)
  p : List Prop
def addP (p : Option Prop) (l : List Prop) : List Prop :=
  match p with
  | some p => p :: l
  | none => l
def matchA : List PA → List SV → List (Option Blk) → Option Mt
  | [], [], _ => some ⟨[], [], []⟩
  | .v k :: ps, .s (.c c) :: xs, bl => match matchC k c, matchA ps xs bl with
    | some l, some m => some ⟨l :: m.L, m.R, m.p⟩
    | _, _ => none
  | .a ks :: ps, .s (.a cs) :: xs, bl => match matchL ks cs, matchA ps xs bl with
    | some l, some m => some ⟨l ++ m.L, m.R, m.p⟩
    | _, _ => none
  | .r k :: ps, x :: xs, bl => match dstN x with
    | [] => match srcL k x none, matchA ps xs bl with
      | some (p, M), some m => some ⟨m.L, M :: m.R, addP p m.p⟩
      | _, _ => none
    | [_] => match bl with
      | b :: bl => match srcL k x (some b), matchA ps xs bl with
        | some (p, M), some m => some ⟨m.L, M :: m.R, addP p m.p⟩
        | _, _ => none
      | [] => none
    | _ => none
  | _, _, _ => none
def astL : List Prop → Out Res → Out Res
  | [], o => o
  | p :: ps, o => .ast p (astL ps o)
def allP : List Prop → Prop
  | [] => True
  | p :: ps => p ∧ allP ps
theorem astL_ok : ∀ {ps : List Prop} {o : Out Res} {K : Res → Prop}, (astL ps o).wp K → allP ps ∧ o.wp K
  | [], _, _, h => ⟨trivial, h⟩
  | _ :: _, _, _, h => by obtain ⟨⟨h1⟩, h2⟩ := h; obtain ⟨h3, h4⟩ := astL_ok h2; exact ⟨⟨h1, h3⟩, h4⟩
def rowsN : List RC → Nat
  | [] => 0
  | .c _ :: rs => rowsN rs
  | .r _ _ :: rs => rowsN rs + 1
def mkGo (base : Nat) : Nat → List RC → (List S1 → List Blk → Out Res) → Out Res
  | _, [], k => k [] []
  | j, .c x :: rs, k => mkGo base j rs fun xs bs => k (x :: xs) bs
  | j, .r q L :: rs, k => .all (fun c => L.length ≤ c) ⟨_, Nat.le_refl _⟩ fun c => mkGo base (j + 1) rs fun xs bs => k (.c (.own (base + j) L.length c false) :: xs) (.oints q L :: bs)
def mkRes (base : Nat) (rs : List RC) : Out Res := if rowsN rs ≤ 4 then mkGo base 0 rs fun xs bs => .ret ⟨resV xs, [], bs⟩ else .fail
structure Con1 where
  pat : List PA
  pre : Option (List Leaf → List (List Int) → Prop) := none
  out : List Leaf → List (List Int) → Out (List RC)
def preO1 (p : Option (List Leaf → List (List Int) → Prop)) (L : List Leaf) (R : List (List Int)) (o : Out Res) : Out Res :=
  match p with
  | none => o
  | some p => .ast (p L R) o
def preP1 (p : Option (List Leaf → List (List Int) → Prop)) (L : List Leaf) (R : List (List Int)) : Prop :=
  match p with
  | none => True
  | some p => p L R
theorem preO1_ok {p : Option (List Leaf → List (List Int) → Prop)} {L : List Leaf} {R : List (List Int)} {o : Out Res} {K : Res → Prop} (h : (preO1 p L R o).wp K) : preP1 p L R ∧ o.wp K := by
  cases p with
  | none => exact ⟨trivial, h⟩
  | some p => exact ⟨h.1.h, h.2⟩
def Con1.spec (c : Con1) : Spec := fun base args => ⟨rowNames c.pat args, [], fun bl => match matchA c.pat args bl with
  | some m => astL m.p (preO1 c.pre m.L m.R ((c.out m.L m.R).bind (mkRes base)))
  | none => .fail⟩

/-! ### the callee's side -/
def instA : List PA → List Leaf → List Rw → Nat → List SV
  | .v k :: ps, l :: L, R, i => one (instC k l) :: instA ps L R i
  | .a ks :: ps, L, R, i => .s (.a (instL ks L)) :: instA ps (L.drop ks.length) R i
  | .r _ :: ps, L, r :: R, i => one (.sli i 0 1 0 r.L.length r.c false) :: instA ps L R (i + 1)
  | _, _, _, _ => []
def heapA : List PA → List Rw → Nat → Nat → Option Blk
  | .r k :: ps, r :: R, i => upd (heapA ps R (i + 1)) i (some (.ints k r.L))
  | .r _ :: _, [], _ => fun _ => none
  | _ :: ps, R, i => heapA ps R i
  | [], _, _ => fun _ => none
def rowsA : List PA → Nat
  | [] => 0
  | .r _ :: ps => rowsA ps + 1
  | _ :: ps => rowsA ps
def kindsA : List PA → List LK
  | [] => []
  | .v k :: ps => k :: kindsA ps
  | .a ks :: ps => ks ++ kindsA ps
  | .r _ :: ps => kindsA ps
def svL : SV → Option (List S1)
  | .s x => some [x]
  | .t [_] => none
  | .t xs => some xs
  | .u => none
def hd1 (h : Nat → Option Blk) : List Nat → Option (Option Blk)
  | [b] => some (h b)
  | _ => none
def mR (h : Nat → Option Blk) : List Nat → List S1 → List RC → Prop
  | _, [], [] => True
  | seen, x :: xs, .c y :: rs => leS1 [] [] x y ∧ mR h seen xs rs
  | seen, x :: xs, .r k L :: rs => match dstN (.s x) with
    | [] => match dstL k (.s x) none with
      | some L' => L' = L ∧ mR h seen xs rs
      | none => False
    | b :: _ => if seen.contains b then False else match dstL k (.s x) (some (h b)) with
      | some L' => L' = L ∧ mR h (b :: seen) xs rs
      | none => False
  | _, _, _ => False
def mR0 (sv : SV) (h : Nat → Option Blk) (rs : List RC) : Prop :=
  match svL sv with
  | some xs => mR h [] xs rs
  | none => False
def Out.mt1 : Out (List RC) → SV → (Nat → Option Blk) → Prop
  | .ret a, x, h => mR0 x h a
  | .fail, _, _ => False
  | .eqn e f, x, h => ∀ y, y = e → (f y).mt1 x h
  | .br c a b, x, h => (c ∧ a.mt1 x h) ∨ (¬c ∧ b.mt1 x h)
  | .brB q a b, x, h => (q = true ∧ a.mt1 x h) ∨ (q = false ∧ b.mt1 x h)
  | .ast _ k, x, h => k.mt1 x h
  | .fact _ _ k, x, h => k.mt1 x h
  | .all φ _ f, x, h => ∃ y, φ y ∧ (f y).mt1 x h
theorem Out.mt1_posts : ∀ {o : Out (List RC)} {x : SV} {h : Nat → Option Blk}, o.mt1 x h → ∃ r, o.posts r ∧ mR0 x h r
  | .ret a, x, h, hh => ⟨a, rfl, hh⟩
  | .fail, _, _, hh => hh.elim
  | .eqn e f, x, h, hh => Out.mt1_posts (o := f e) (hh e rfl)
  | .br c a b, x, h, hh => by
    rcases hh with ⟨hc, hh⟩ | ⟨hc, hh⟩
    · obtain ⟨r, h1, h2⟩ := Out.mt1_posts hh; exact ⟨r, .inl ⟨hc, h1⟩, h2⟩
    · obtain ⟨r, h1, h2⟩ := Out.mt1_posts hh; exact ⟨r, .inr ⟨hc, h1⟩, h2⟩
  | .brB q a b, x, h, hh => by
    rcases hh with ⟨hc, hh⟩ | ⟨hc, hh⟩
    · obtain ⟨r, h1, h2⟩ := Out.mt1_posts hh; exact ⟨r, .inl ⟨hc, h1⟩, h2⟩
    · obtain ⟨r, h1, h2⟩ := Out.mt1_posts hh; exact ⟨r, .inr ⟨hc, h1⟩, h2⟩
  | .ast _ k, x, h, hh => Out.mt1_posts (o := k) hh
  | .fact _ _ k, x, h, hh => Out.mt1_posts (o := k) hh
  | .all φ _ f, x, h, ⟨y, hy, hh⟩ => by obtain ⟨r, h1, h2⟩ := Out.mt1_posts hh; exact ⟨r, ⟨y, hy, h1⟩, h2⟩
/-- what is to be shown of the text: for all leaves, all rows -/
def Con1.vc (c : Con1) (P : Program) (Γ : Env) (C : Ctl) (fn : Func) (L : List Leaf) (R : List Rw) : Prop :=
  entryK fn (instA c.pat L R 0) (heapA c.pat R 0) (rowsA c.pat) fun s => cwp P Γ C (fn.body.getD .skip) s (retK P fn fun sv s' => (c.out L (R.map Rw.L)).mt1 sv s'.heap)

/-! ### the one serves the other -/
theorem row_view {μ : Mu} {h : Nat → Option Blk} {w : World} {k : IntKind} {x : SV} {u : Value} {p : Option Prop} {M : List Int} (hm : HeapM μ h w) (hx : x.ok μ u) {bl : Option (Option Blk)} (hbl : bl = none ∨ ∃ b, dstN x = [b] ∧ bl = some (h b)) (hd : srcL k x bl = some (p, M)) (hp : holds p) :
    ∃ a c b o, u = .slice a M.length c ∧ M.length ≤ c ∧ c ≤ maxLen ∧ (0 < c → a = some ⟨b, o, none⟩) ∧ ∀ j, j < M.length → w.cell? ⟨b, o + j, none⟩ = some (.int k (M.getD j 0)) := by
  have sub : ∀ {b i n c : Nat} {l : Loc} {a : Option Addr} {L : List Int}, i + n ≤ L.length → (0 < c → a = some ⟨l.b, l.off + (i * 1 + 0), none⟩) → n ≤ c → c ≤ maxLen → (∀ j, j < L.length → w.cell? ⟨l.b, l.off + j, none⟩ = some (.int k (L.getD j 0))) →
      ∃ a' c' b o, Value.slice a n c = .slice a' ((L.drop i).take n).length c' ∧ ((L.drop i).take n).length ≤ c' ∧ c' ≤ maxLen ∧ (0 < c' → a' = some ⟨b, o, none⟩) ∧ ∀ j, j < ((L.drop i).take n).length → w.cell? ⟨b, o + j, none⟩ = some (.int k (((L.drop i).take n).getD j 0)) := by
    intro b i n c l a L hle ha hnc hcm hcell
    have hlen : ((L.drop i).take n).length = n := by simp; omega
    refine ⟨a, c, l.b, l.off + i, by rw [hlen], by omega, hcm, fun hc => by simpa using ha hc, fun j hj => ?_⟩
    have hc := hcell (i + j) (by omega)
    rw [Nat.add_assoc, hc]
    congr 2
    simp only [List.getD_eq_getElem?_getD]
    rw [List.getElem?_take_of_lt (by omega), List.getElem?_drop]
  unfold srcL at hd
  split at hd
  · cases hd
    obtain ⟨a, rfl⟩ := hx
    exact ⟨a, 0, 0, 0, rfl, Nat.le_refl _, Nat.zero_le _, fun h => by omega, fun j hj => by simp at hj⟩
  · rename_i b n c q
    split at hd
    · rename_i k' L'
      split at hd
      · rename_i hk
        cases hd
        subst hk
        rcases hbl with hbl | ⟨b', hb', hbl⟩
        · cases hbl
        · simp [dstN] at hb'
          subst hb'
          have hb : h b = some (.oints k' M) := (Option.some.inj hbl).symm
          obtain ⟨l, a, hl, rfl, _⟩ := hx
          obtain ⟨l', hl', tt, hok⟩ := hm.ok b _ hb
          rw [hl] at hl'; cases hl'
          obtain ⟨a', c', e1, e2, e3, e4⟩ := own_vals hok
          refine ⟨a', c', l.b, l.off, e1, e2, e3, fun hc => (e4 hc).1, fun j hj => ?_⟩
          obtain ⟨_, cur, hcur, hsz, hat⟩ := e4 (by omega)
          simp only [World.cell?, hcur]
          simp only [Option.isSome_none, Bool.false_eq_true, if_false]
          exact hat j hj
      · cases hd
    · cases hd
  · rename_i b i e j n c q
    split at hd
    · rename_i t cs
      split at hd
      · rename_i hcond
        simp at hcond
        obtain ⟨rfl, rfl, hle⟩ := hcond
        split at hd
        · rename_i M' hM
          cases hd
          rcases hbl with hbl | ⟨b', hb', hbl⟩
          · cases hbl
          · simp [dstN] at hb'
            subst hb'
            have hb : h b = some (.cells t cs) := (Option.some.inj hbl).symm
            obtain ⟨l, a, hl, rfl, ha, hnc, hcm⟩ := hx
            obtain ⟨l', hl', h0, vs, hv, hall⟩ := hm.ok b _ hb
            rw [hl] at hl'; cases hl'
            have hvals := intsC_ok hM ((hall.drop j).take n)
            have hlen : M.length = n := by
              have h1 := congrArg List.length hvals
              have h2 := hall.len
              simp [valsI_len] at h1
              omega
            subst hlen
            refine ⟨a, c, l.b, j, rfl, hnc, hcm, fun hc => by rw [ha hc, h0]; simp, fun y hy => ?_⟩
            have := congrArg (fun l => l[y]?) hvals
            simp only [valsI_get _ _ _ hy] at this
            rw [List.getElem?_take_of_lt hy, List.getElem?_drop] at this
            simp [World.cell?, hv, this]
        · cases hd
      · cases hd
    · rename_i k' L
      split at hd
      · rename_i hcond
        obtain ⟨rfl, rfl, rfl⟩ := hcond
        cases hd
        rcases hbl with hbl | ⟨b', hb', hbl⟩
        · cases hbl
        · simp [dstN] at hb'
          subst hb'
          have hb : h b = some (.ints k' L) := (Option.some.inj hbl).symm
          obtain ⟨l, a, hl, rfl, ha, hnc, hcm⟩ := hx
          obtain ⟨l', hl', hok⟩ := hm.ok b _ hb
          rw [hl] at hl'; cases hl'
          refine sub (b := b) hp ha hnc hcm fun y hy => ?_
          obtain ⟨_, g⟩ := hok.2 y hy
          obtain ⟨v, hv, hokv⟩ := g 0 _ rfl
          have hv' : w.cell? ⟨l.b, l.off + y, none⟩ = some v := by simpa using hv
          rw [hv', show v = .int k' (L.getD y 0) from hokv]
      · cases hd
    · rename_i k' L
      split at hd
      · rename_i hcond
        obtain ⟨rfl, rfl, rfl⟩ := hcond
        cases hd
        rcases hbl with hbl | ⟨b', hb', hbl⟩
        · cases hbl
        · simp [dstN] at hb'
          subst hb'
          have hb : h b = some (.oints k' L) := (Option.some.inj hbl).symm
          obtain ⟨l, a, hl, rfl, ha, hnc, hcm⟩ := hx
          obtain ⟨l', hl', tt, hok⟩ := hm.ok b _ hb
          rw [hl] at hl'; cases hl'
          obtain ⟨a', c', e1, e2, e3, e4⟩ := own_vals hok
          refine sub (b := b) hp ha hnc hcm fun y hy => ?_
          obtain ⟨_, cur, hcur, hsz, hat⟩ := e4 (by omega)
          simp only [World.cell?, hcur]
          simp only [Option.isSome_none, Bool.false_eq_true, if_false]
          exact hat y hy
      · cases hd
    · cases hd
  · cases hd
theorem allV_ext {μ μ' : Mu} (h : Ext μ μ') : ∀ {xs : List SV} {vs : List Value}, AllV μ xs vs → AllV μ' xs vs
  | [], [], _ => trivial
  | _ :: _, _ :: _, hh => ⟨SV.ok_ext h hh.1, allV_ext h hh.2⟩
  | [], _ :: _, hh => hh.elim
  | _ :: _, [], hh => hh.elim
theorem instL_ext {μ : Mu} : ∀ {ks : List LK} {L : List Leaf} {vs : List Value}, All2 (SC.ok noMu) (instL ks L) vs → All2 (SC.ok μ) (instL ks L) vs := fun h => h.imp fun _ _ => SC.ok_ext fun n l hl => by cases hl
theorem matchA_ok {μ : Mu} {h : Nat → Option Blk} {w : World} (hm : HeapM μ h w) : ∀ {ps : List PA} {xs : List SV} {bl : List (Option Blk)} {m : Mt} {vs : List Value} (i : Nat), bl = (rowNames ps xs).map h → matchA ps xs bl = some m → AllV μ xs vs → allP m.p →
    fits (kindsA ps) m.L = true ∧ ∃ (R : List Rw) (ν : Mu), R.map Rw.L = m.R ∧ R.length = rowsA ps ∧ (∀ r ∈ R, r.L.length ≤ r.c ∧ r.c ≤ maxLen) ∧ (∀ n l, ν n = some l → i ≤ n ∧ n < i + rowsA ps) ∧ AllV ν (instA ps m.L R i) vs ∧ ∀ n b, heapA ps R i n = some b → ∃ k r, b = .ints k r ∧ ∃ l, ν n = some l ∧ viewOk ν w l 1 r.length (intsF k r)
  | [], [], bl, m, [], i, _, hh, _, _ => by
    simp only [matchA] at hh
    cases hh
    exact ⟨rfl, [], noMu, rfl, rfl, fun r hr => (by cases hr), fun n l h => (by cases h), trivial, fun n b h => (by simp [heapA] at h)⟩
  | .v k :: ps, .s (.c c) :: xs, bl, m, v :: vs, i, hb, hh, ha, hp => by
    simp only [matchA] at hh
    split at hh
    · rename_i l m' h1 h2
      cases hh
      obtain ⟨g1, g2⟩ := matchC_ok h1 ha.1
      obtain ⟨g3, R, ν, g4, gl, gc, g5, g6, g7⟩ := matchA_ok hm i (by simpa [rowNames] using hb) h2 ha.2 hp
      exact ⟨by simp [kindsA, fits, g2, g3], R, ν, g4, by simpa [rowsA] using gl, gc, by simpa [rowsA] using g5, ⟨SC.ok_ext (fun n l hl => by cases hl) g1, g6⟩, by simpa [heapA] using g7⟩
    · cases hh
  | .a ks :: ps, .s (.a cs) :: xs, bl, m, v :: vs, i, hb, hh, ha, hp => by
    simp only [matchA] at hh
    split at hh
    · rename_i l m' h1 h2
      cases hh
      obtain ⟨us, rfl, hu⟩ := ha.1
      obtain ⟨g1, g2, g8⟩ := matchL_ok h1 hu
      obtain ⟨g3, R, ν, g4, gl, gc, g5, g6, g7⟩ := matchA_ok hm i (by simpa [rowNames] using hb) h2 ha.2 hp
      refine ⟨fits_append g2 g3, R, ν, g4, by simpa [rowsA] using gl, gc, by simpa [rowsA] using g5, ⟨⟨us, rfl, instL_ext (g1 m'.L)⟩, ?_⟩, by simpa [heapA] using g7⟩
      simp only []
      rw [← g8, List.drop_left]
      exact g6
    · cases hh
  | .r k :: ps, x :: xs, bl, m, v :: vs, i, hb, hh, ha, hp => by
    have fin : ∀ (p : Option Prop) (M : List Int) (m' : Mt) (bl' : List (Option Blk)) (bb : Option (Option Blk)), bl' = (rowNames ps xs).map h → (bb = none ∨ ∃ b, dstN x = [b] ∧ bb = some (h b)) → srcL k x bb = some (p, M) → matchA ps xs bl' = some m' → allP (addP p m'.p) →
        fits (kindsA (.r k :: ps)) m'.L = true ∧ ∃ (R : List Rw) (ν : Mu), R.map Rw.L = M :: m'.R ∧ R.length = rowsA (.r k :: ps) ∧ (∀ r ∈ R, r.L.length ≤ r.c ∧ r.c ≤ maxLen) ∧ (∀ n l, ν n = some l → i ≤ n ∧ n < i + rowsA (.r k :: ps)) ∧ AllV ν (instA (.r k :: ps) m'.L R i) (v :: vs) ∧ ∀ n b, heapA (.r k :: ps) R i n = some b → ∃ k r, b = .ints k r ∧ ∃ l, ν n = some l ∧ viewOk ν w l 1 r.length (intsF k r) := by
      intro p M m' bl' bb hb' hbb h1 h2 hp'
      have hpp : holds p ∧ allP m'.p := by
        cases p with
        | none => exact ⟨trivial, hp'⟩
        | some p => exact hp'
      obtain ⟨a, c, b, o, rfl, e1, e2, e3, e4⟩ := row_view hm ha.1 hbb h1 hpp.1
      obtain ⟨g3, R, ν, g4, gl, gc, g5, g6, g7⟩ := matchA_ok hm (i + 1) hb' h2 ha.2 hpp.2
      let ν' : Mu := fun n => if n = i then some ⟨b, o, undef⟩ else ν n
      have hnone : ν i = none := by
        cases hx : ν i with
        | none => rfl
        | some l => have := (g5 i l hx).1; omega
      have hext : Ext ν ν' := fun n l hl => by
        by_cases hn : n = i
        · subst hn; rw [hnone] at hl; cases hl
        · simp [ν', hn, hl]
      refine ⟨g3, ⟨M, c⟩ :: R, ν', by simp [g4], by simp [rowsA, gl], fun r hr => ?_, fun n l hl => ?_, ⟨⟨⟨b, o, undef⟩, a, by simp [ν'], rfl, fun hc => by simpa using e3 hc, e1, e2⟩, ?_⟩, fun n bk hbk => ?_⟩
      · rcases List.mem_cons.1 hr with rfl | hr
        · exact ⟨e1, e2⟩
        · exact gc r hr
      · by_cases hn : n = i
        · subst hn; simp [rowsA]
        · have := g5 n l (by simpa [ν', hn] using hl)
          simp only [rowsA]
          omega
      · exact allV_ext hext g6
      · by_cases hn : n = i
        · subst hn
          simp [heapA, upd] at hbk
          subst hbk
          refine ⟨k, M, rfl, ⟨b, o, undef⟩, by simp [ν'], fun hn => World.block_lt_of_cell? w _ (e4 0 hn), fun y hy => ⟨rfl, fun j c hc => ?_⟩⟩
          match j, hc with
          | 0, hc =>
            simp [intsF] at hc
            subst hc
            exact ⟨_, by simpa using e4 y hy, by simp [SC.ok, List.getD_eq_getElem?_getD]⟩
          | j + 1, hc => simp [intsF] at hc
        · simp [heapA, upd, hn] at hbk
          obtain ⟨k2, r2, rfl, l, hl, hv⟩ := g7 n bk hbk
          exact ⟨k2, r2, rfl, l, hext _ _ hl, hv.ext hext⟩
    simp only [matchA] at hh
    split at hh
    · rename_i hd
      split at hh
      · rename_i p M m' h1 h2
        cases hh
        exact fin p M m' bl none (by simpa [rowNames, hd] using hb) (.inl rfl) h1 h2 hp
      · cases hh
    · rename_i b hd
      split at hh
      · rename_i b' bl'
        simp [rowNames, hd] at hb
        obtain ⟨rfl, hb⟩ := hb
        split at hh
        · rename_i p M m' h1 h2
          cases hh
          exact fin p M m' bl' _ hb (.inr ⟨b, hd, rfl⟩) h1 h2 hp
        · cases hh
      · cases hh
    · cases hh
  | [], [], _, _, _ :: _, _, _, _, ha, _ => ha.elim
  | [], _ :: _, _, _, _, _, _, hh, _, _ => by simp [matchA] at hh
  | .v _ :: _, [], _, _, _, _, _, hh, _, _ => by simp [matchA] at hh
  | .a _ :: _, [], _, _, _, _, _, hh, _, _ => by simp [matchA] at hh
  | .r _ :: _, [], _, _, _, _, _, hh, _, _ => by simp [matchA] at hh
  | .v _ :: _, .s (.a _) :: _, _, _, _, _, _, hh, _, _ => by simp [matchA] at hh
  | .v _ :: _, .t _ :: _, _, _, _, _, _, hh, _, _ => by simp [matchA] at hh
  | .v _ :: _, .u :: _, _, _, _, _, _, hh, _, _ => by simp [matchA] at hh
  | .a _ :: _, .s (.c _) :: _, _, _, _, _, _, hh, _, _ => by simp [matchA] at hh
  | .a _ :: _, .t _ :: _, _, _, _, _, _, hh, _, _ => by simp [matchA] at hh
  | .a _ :: _, .u :: _, _, _, _, _, _, hh, _, _ => by simp [matchA] at hh
  | _ :: _, _ :: _, _, _, [], _, _, _, ha, _ => ha.elim
def RowsNew (μ : Mu) (h : Nat → Option Blk) (w : World) (seen : List Nat) (ls : List Loc) (bs : List Blk) : Prop :=
  ∀ (i : Nat) (b : Blk) (l : Loc), bs[i]? = some b → ls[i]? = some l → (∀ ν : Mu, b.ok ν w l) ∧ ∀ x, b.uses w l x → ∃ n bk m, n ∉ seen ∧ h n = some bk ∧ μ n = some m ∧ bk.excl w m x
def RowsApart (w : World) (ls : List Loc) (bs : List Blk) : Prop :=
  ∀ (i i' : Nat) (b b' : Blk) (l l' : Loc) (x : Nat), i ≠ i' → bs[i]? = some b → bs[i']? = some b' → ls[i]? = some l → ls[i']? = some l' → b.uses w l x → ¬b'.uses w l' x
theorem allS_len {R : S1 → Value → Prop} : ∀ {xs : List S1} {vs : List Value}, AllS R xs vs → xs.length = vs.length
  | [], [], _ => rfl
  | _ :: _, _ :: _, h => by simp [allS_len h.2]
  | [], _ :: _, h => h.elim
  | _ :: _, [], h => h.elim
theorem mkGo_ok {μ : Mu} {h : Nat → Option Blk} {w : World} (hm : HeapM μ h w) (base : Nat) : ∀ {xs : List S1} {rs : List RC} {vs : List Value} {seen : List Nat} {j : Nat} {k : List S1 → List Blk → Out Res} {K : Res → Prop}, mR h seen xs rs → AllS (S1.ok μ) xs vs → (mkGo base j rs k).wp K →
    ∃ (ls : List Loc) (ys : List S1) (bs : List Blk), (k ys bs).wp K ∧ ls.length = bs.length ∧ bs.length = rowsN rs ∧ (∀ ν : Mu, (∀ i l, ls[i]? = some l → ν (base + (j + i)) = some l) → AllS (S1.ok ν) ys vs) ∧
      RowsNew μ h w seen ls bs ∧ RowsApart w ls bs
  | [], [], [], seen, j, k, K, _, _, hk => ⟨[], [], [], hk, rfl, rfl, fun _ _ => trivial, fun i b l h => (by simp at h), fun i i' b b' l l' x _ h => (by simp at h)⟩
  | x :: xs, .c y :: rs, v :: vs, seen, j, k, K, hr, ha, hk => by
    obtain ⟨ls, ys, bs, g1, g2, g3, g4, g5, g6⟩ := mkGo_ok hm base (xs := xs) hr.2 ha.2 hk
    refine ⟨ls, y :: ys, bs, g1, g2, g3, fun ν hν => ⟨?_, g4 ν hν⟩, g5, g6⟩
    have := leS1_ok hr.1 ha.1
    rw [muNil] at this
    exact ok_noMu (x := .s y) this
  | x :: xs, .r q L :: rs, v :: vs, seen, j, k, K, hr, ha, hk => by
    have key : ∀ (names : List Nat) (seen' : List Nat), DstOk μ h w q names v L → mR h seen' xs rs → (∀ n, n ∈ names → n ∉ seen ∧ n ∈ seen') → (∀ n, n ∉ seen' → n ∉ seen) → ∃ (ls : List Loc) (ys : List S1) (bs : List Blk), (k ys bs).wp K ∧ ls.length = bs.length ∧ bs.length = rowsN (.r q L :: rs) ∧ (∀ ν : Mu, (∀ i l, ls[i]? = some l → ν (base + (j + i)) = some l) → AllS (S1.ok ν) ys (v :: vs)) ∧
      RowsNew μ h w seen ls bs ∧ RowsApart w ls bs := fun names seen' hd hr' hn1 hn2 => by
      obtain ⟨l, c, e1, e2, e3, e4, e5, e6, e7⟩ := row_new (ν := noMu) hd
      obtain ⟨ls, ys, bs, g1, g2, g3, g4, g5, g6⟩ := mkGo_ok hm base (xs := xs) hr' ha.2 (hk c e3)
      have hq : ∀ ν : Mu, (Blk.oints q L).ok ν w l := fun ν => by
        obtain ⟨l2, c2, f1, f2, f3, f4, f5, f6, f7⟩ := row_new (ν := ν) hd
        exact Blk.ok_ext (fun n l hl => by cases hl) e6
      have hu : ∀ x, (Blk.oints q L).uses w l x → ∃ n bk m, n ∉ seen ∧ n ∈ seen' ∧ h n = some bk ∧ μ n = some m ∧ bk.excl w m x := fun x hx => by
        obtain ⟨b, bk, m, a1, a2, a3, a4⟩ := e7 x hx
        obtain ⟨b1, b2⟩ := hn1 b (by rw [a1]; simp)
        exact ⟨b, bk, m, b1, b2, a2, a3, a4⟩
      have apart : ∀ (i : Nat) (b' : Blk) (l' : Loc) (x : Nat), bs[i]? = some b' → ls[i]? = some l' → (Blk.oints q L).uses w l x → ¬b'.uses w l' x := fun i b' l' x hb hl hx hx' => by
        obtain ⟨n, bk, m, a1, a2, a3, a4, a5⟩ := hu x hx
        obtain ⟨n', bk', m', c1, c2, c3, c4⟩ := (g5 i b' l' hb hl).2 x hx'
        exact hm.apart n n' bk bk' m m' x (fun e => c1 (e ▸ a2)) a3 c2 a4 c3 a5 (Blk.uses_of_excl c4)
      refine ⟨l :: ls, _ :: ys, _ :: bs, g1, by simp [g2], by simp [rowsN, g3], fun ν hν => ⟨⟨l, (match l.hd with | .slice a _ _ => a | _ => none), ?_, e1, e2, e5, e3, e4⟩, g4 ν fun i l' hl' => ?_⟩, fun i b l' hb hl => ?_, fun i i' b b' l1 l2 x hne hb hb' hl hl' hx => ?_⟩
      · simpa using hν 0 l rfl
      · have := hν (i + 1) l' (by simpa using hl')
        rw [← this]
        congr 1
        omega
      · match i, hb, hl with
        | 0, hb, hl =>
          simp at hb hl
          subst hb; subst hl
          exact ⟨hq, fun x hx => by obtain ⟨n, bk, m, a1, _, a3, a4, a5⟩ := hu x hx; exact ⟨n, bk, m, a1, a3, a4, a5⟩⟩
        | i + 1, hb, hl =>
          obtain ⟨h1, h2⟩ := g5 i b l' (by simpa using hb) (by simpa using hl)
          exact ⟨h1, fun x hx => by obtain ⟨n, bk, m, a1, a3⟩ := h2 x hx; exact ⟨n, bk, m, hn2 n a1, a3⟩⟩
      · match i, i', hb, hb', hl, hl' with
        | 0, 0, _, _, _, _ => exact absurd rfl hne
        | 0, i' + 1, hb, hb', hl, hl' =>
          simp at hb hl
          subst hb; subst hl
          exact apart i' b' l2 x (by simpa using hb') (by simpa using hl') hx
        | i + 1, 0, hb, hb', hl, hl' =>
          simp at hb' hl'
          subst hb'; subst hl'
          exact fun hx' => apart i b l1 x (by simpa using hb) (by simpa using hl) hx' hx
        | i + 1, i' + 1, hb, hb', hl, hl' => exact g6 i i' b b' l1 l2 x (fun e => hne (by rw [e])) (by simpa using hb) (by simpa using hb') (by simpa using hl) (by simpa using hl') hx
    simp only [mR] at hr
    split at hr
    · rename_i hn
      split at hr
      · rename_i L' hL
        obtain ⟨rfl, hr⟩ := hr
        have hd := dst_ok (x := .s x) hm ha.1 (.inl rfl) hL
        rw [hn] at hd
        exact key [] seen hd hr (fun n h => by cases h) (fun n h => h)
      · exact hr.elim
    · rename_i b bs hn
      split at hr
      · exact hr.elim
      · rename_i hseen
        split at hr
        · rename_i L' hL
          obtain ⟨rfl, hr⟩ := hr
          have hone : dstN (.s x) = [b] := by
            cases x with
            | c y => cases y <;> simp [dstN] at hn ⊢ <;> exact hn.1
            | a cs => simp [dstN] at hn
          have hd := dst_ok (x := .s x) hm ha.1 (.inr ⟨b, hone, rfl⟩) hL
          rw [hone] at hd
          refine key [b] (b :: seen) hd hr (fun n h => ?_) (fun n h hs => h (List.mem_cons_of_mem _ hs))
          simp at h
          subst h
          exact ⟨by simpa using hseen, by simp⟩
        · exact hr.elim
  | [], [], _ :: _, _, _, _, _, _, ha, _ => ha.elim
  | _ :: _, _ :: _, [], _, _, _, _, _, ha, _ => ha.elim
  | [], _ :: _, _, _, _, _, _, hr, _, _ => by simp [mR] at hr
  | _ :: _, [], _, _, _, _, _, hr, _, _ => by simp [mR] at hr
theorem Con1.ok {P : Program} {Γ : Env} (hΓ : EnvOk P Γ) (hmix : P.follows .mixedOrders = true) {C : Ctl} {f : FuncId} {fn : Func} (hf : P.funcs[f]? = some fn) (hb : fn.body.isSome = true) (c : Con1)
    (hvc : ∀ L R, fits (kindsA c.pat) L = true → R.length = rowsA c.pat → (∀ r ∈ R, r.L.length ≤ r.c ∧ r.c ≤ maxLen) → preP1 c.pre L (R.map Rw.L) → c.vc P Γ C fn L R) : SpecOk P f c.spec := by
  intro μ hh w base args vals hm ha hfr K hk
  have hb' : fn.body = some (fn.body.getD .skip) := by
    cases hx : fn.body with
    | none => rw [hx] at hb; cases hb
    | some c => rfl
  have hk' := hk
  simp only [Con1.spec, Req.pre, List.append_nil] at hk'
  split at hk'
  · rename_i m hmt
    obtain ⟨hps, hk1⟩ := astL_ok hk'
    obtain ⟨hpre, hk2⟩ := preO1_ok hk1
    obtain ⟨g1, R, ν, g2, g3, g4, g5, g6, g7⟩ := matchA_ok hm 0 rfl hmt ha hps
    rw [← g2] at hpre hk2
    have hM : HeapM ν (heapA c.pat R 0) w := ⟨fun n b hb => by obtain ⟨k, r, rfl, l, hl, hv⟩ := g7 n b hb; exact ⟨l, hl, hv⟩, fun n m b c' l k x _ hb _ _ _ hx => by obtain ⟨k, r, rfl, l, hl, hv⟩ := g7 n b hb; cases hx⟩
    have hdom : Dom ν (rowsA c.pat) := fun n l hl => by have := (g5 n l hl).2; omega
    refine (fn_sound hΓ hmix C hf hb' (I := fun _ => False) g6 hM hdom (fun n b l x hb hl hx => by obtain ⟨k, r, rfl, _⟩ := g7 n b hb; cases hx) (hvc m.L R g1 g3 g4 hpre)).mono fun e w' he => ?_
    obtain ⟨v, sv, μ', s, a, rfl, hmod, hok, hmt1⟩ := he
    obtain ⟨rs, h1, h2⟩ := Out.mt1_posts hmt1
    have hk3 := Out.wp_posts (Out.wp_bind.1 hk2) rs h1
    unfold mkRes at hk3
    split at hk3
    · rename_i hle
      unfold mR0 at h2
      split at h2
      · rename_i xs hxs
        have hvs : ∃ vs, AllS (S1.ok μ') xs vs ∧ ∀ (ν : Mu) (ys : List S1), ys.length = xs.length → AllS (S1.ok ν) ys vs → (resV ys).ok ν v := by
          unfold svL at hxs
          split at hxs
          · cases hxs
            exact ⟨[v], ⟨hok, trivial⟩, fun ν ys hl hy => by match ys, hl, hy with | [y], _, hy => exact hy.1⟩
          · cases hxs
          · rename_i ts hne
            cases hxs
            obtain ⟨us, rfl, hu⟩ := hok
            refine ⟨us, hu, fun ν ys hl hy => ?_⟩
            match ys, hl, hy with
            | [], hl, hy => exact ⟨us, rfl, hy⟩
            | [y], hl, hy =>
              obtain ⟨t, rfl⟩ := List.length_eq_one_iff.1 hl.symm
              exact (hne t rfl).elim
            | y :: z :: ys, hl, hy => exact ⟨us, rfl, hy⟩
          · cases hxs
        obtain ⟨vs, hvs, hval⟩ := hvs
        obtain ⟨ls, ys, bs, q1, q2, q3, q4, q5, q6⟩ := mkGo_ok hmod.hm base h2 hvs hk3
        have hl4 : ls.length ≤ 4 := by omega
        let μc : Mu := fun n => if base ≤ n ∧ n < base + ls.length then ls[n - base]? else μ n
        have hin : ∀ n, base ≤ n ∧ n < base + ls.length → n ∈ freshN base := fun n hn => by simp [freshN]; omega
        have hat : ∀ (j : Nat) (l : Loc), ls[j]? = some l → μc (base + j) = some l := fun j l hl => by
          have hj : j < ls.length := (List.getElem?_eq_some_iff.1 hl).1
          have e : base + j - base = j := by omega
          simp only [μc]
          rw [if_pos (by omega), e, hl]
        have hback : ∀ (j : Nat) (l : Loc), j < ls.length → μc (base + j) = some l → ls[j]? = some l := fun j l hj hl => by
          have e : base + j - base = j := by omega
          simp only [μc] at hl
          rw [if_pos (by omega), e] at hl
          exact hl
        have hall : AllS (S1.ok μc) ys vs := q4 μc fun i l hl => by rw [Nat.zero_add]; exact hat i l hl
        have hys : ys.length = xs.length := by rw [allS_len hall, allS_len hvs]
        refine ⟨v, μc, ⟨resV ys, [], bs⟩, rfl, q1, { ext := fun n l hl => ?_, dom := fun n l hl => ?_, val := hval μc ys hys hall, os := hmod.fr.os, tape := hmod.fr.tape, output := hmod.fr.output, size := hmod.fr.size, keep := fun x hx _ => hmod.fr.block x hx fun h => h, wrs := List.nodup_nil, wsl := rfl, nsl := (by simp only []; omega), olds := fun j n b' h => (by simp [Con1.spec] at h), news := fun j b hj => ?_, newsApart := fun j k b c l m x hne hj hk' hl hm' hx => ?_ }⟩
        · simp only [μc]
          by_cases hn : base ≤ n ∧ n < base + ls.length
          · rw [hfr n (hin n hn)] at hl; cases hl
          · rw [if_neg hn]; exact hl
        · simp only [μc] at hl
          by_cases hn : base ≤ n ∧ n < base + ls.length
          · exact .inr (hin n hn)
          · rw [if_neg hn] at hl; exact .inl hl
        · have hjl : j < ls.length := by
            have h0 : j < bs.length := by simpa using (List.getElem?_eq_some_iff.1 hj).1
            omega
          obtain ⟨l, hl⟩ : ∃ l, ls[j]? = some l := ⟨_, List.getElem?_eq_getElem hjl⟩
          obtain ⟨k1, k2⟩ := q5 j b l hj hl
          refine ⟨l, hat j l hl, k1 μc, fun x hx => ?_⟩
          obtain ⟨n, bk, m', _, a2, a3, a4⟩ := k2 x hx
          rcases hmod.mine n bk m' x a2 a3 a4 with hI | hge
          · exact hI.elim
          · exact .inl hge
        · have hjl : j < ls.length := by
            have h0 : j < bs.length := by simpa using (List.getElem?_eq_some_iff.1 hj).1
            omega
          have hkl : k < ls.length := by
            have h0 : k < bs.length := by simpa using (List.getElem?_eq_some_iff.1 hk').1
            omega
          exact q6 j k b c l m x hne hj hk' (hback j l hjl hl) (hback k m hkl hm') (Blk.uses_of_excl hx)
      · exact h2.elim
    · exact hk3.elim
  · exact hk'.elim
end Go.Proofs.Ytcaipfdnadlkdaa.Sx
