/- A region that draws its order: the proof. No Go text in sight. -/
import Derived.Test.YtplpmnippkkkkaaSxI
namespace Go.Proofs.Ytplpmnippkkkkaa.Sx
open Go
set_option linter.unusedVariables false
set_option linter.unusedSimpArgs false

section
variable {P : Program} {Γ : Env} {ops : Array Oper} {tab : List Nat} {base0 : Nat}

theorem stepD_true {i : Nat} {s : St} {g : Log} {K : St → Log → Prop} {o : Oper} (ho : ops[i]? = some o) (hw : wantedS ops s.slots o = some true) : stepD P Γ ops tab base0 i s g K ↔
    (logOk tab i (reqAt P Γ ops i (base0 + 4 * i) s.slots o).rd (reqAt P Γ ops i (base0 + 4 * i) s.slots o).wr g = true ∧ namesOk tab base0 i ((reqAt P Γ ops i (base0 + 4 * i) s.slots o).rd ++ (reqAt P Γ ops i (base0 + 4 * i) s.slots o).wr) = true) ∧
    (reqAt P Γ ops i (base0 + 4 * i) s.slots o).pre s.heap fun res => K (s.apply o.dst (base0 + 4 * i) (reqAt P Γ ops i (base0 + 4 * i) s.slots o).wr res) ((i, (reqAt P Γ ops i (base0 + 4 * i) s.slots o).rd, (reqAt P Γ ops i (base0 + 4 * i) s.slots o).wr) :: g) := by
  simp only [stepD, ho, hw, St.applyK_eq, fNs_eq]
  by_cases hc : (logOk tab i (reqAt P Γ ops i (base0 + 4 * i) s.slots o).rd (reqAt P Γ ops i (base0 + 4 * i) s.slots o).wr g && namesOk tab base0 i ((reqAt P Γ ops i (base0 + 4 * i) s.slots o).rd ++ (reqAt P Γ ops i (base0 + 4 * i) s.slots o).wr)) = true
  · rw [if_pos hc]
    rw [Bool.and_eq_true] at hc
    exact ⟨fun h => ⟨hc, h⟩, fun h => h.2⟩
  · rw [if_neg hc]
    rw [Bool.and_eq_true] at hc
    exact ⟨fun h => h.elim, fun h => hc h.1⟩
theorem stepD_false {i : Nat} {s : St} {g : Log} {K : St → Log → Prop} {o : Oper} (ho : ops[i]? = some o) (hw : wantedS ops s.slots o = some false) : stepD P Γ ops tab base0 i s g K ↔ K { s with slots := putS s.slots o.dst (.t []) } g := by
  simp only [stepD, ho, hw, fSp_eq]
theorem stepD_no {i : Nat} {s : St} {g : Log} {K : St → Log → Prop} {o : Oper} (ho : ops[i]? = some o) (hw : wantedS ops s.slots o = none) : stepD P Γ ops tab base0 i s g K ↔ False := by
  simp only [stepD, ho, hw]
theorem stepD_none {i : Nat} {s : St} {g : Log} {K : St → Log → Prop} (ho : ops[i]? = none) : stepD P Γ ops tab base0 i s g K ↔ K s g := by
  simp only [stepD, ho]

theorem logOk_sub {i : Nat} {rd wr : List Nat} {g g' : Log} (h : logOk tab i rd wr g = true) (hs : ∀ x ∈ g', x ∈ g) : logOk tab i rd wr g' = true := by
  unfold logOk at *
  rw [List.all_eq_true] at *
  exact fun x hx => h x (hs x hx)
theorem stepD_log {i : Nat} {s : St} {g g' : Log} {K K' : St → Log → Prop} (h : stepD P Γ ops tab base0 i s g K) (hs : ∀ x ∈ g', x ∈ g) (hk : ∀ s1 g1 g1', K s1 g1 → (∀ x ∈ g1', x ∈ g1) → K' s1 g1') : stepD P Γ ops tab base0 i s g' K' := by
  cases ho : ops[i]? with
  | none => rw [stepD_none ho] at h ⊢; exact hk _ _ _ h hs
  | some o =>
    cases hw : wantedS ops s.slots o with
    | none => rw [stepD_no ho hw] at h; exact h.elim
    | some b =>
      cases b
      · rw [stepD_false ho hw] at h ⊢; exact hk _ _ _ h hs
      · rw [stepD_true ho hw] at h ⊢
        obtain ⟨⟨h1, h2⟩, h3⟩ := h
        refine ⟨⟨logOk_sub h1 hs, h2⟩, Out.wp_mono (fun r hr => hk _ _ _ hr fun x hx => ?_) h3⟩
        rcases List.mem_cons.1 hx with rfl | hx
        · exact List.mem_cons_self ..
        · exact List.mem_cons_of_mem _ (hs x hx)
theorem runD_log : ∀ (L : List Nat) {s : St} {g g' : Log} {K : St → Prop}, runD P Γ ops tab base0 L s g K → (∀ x ∈ g', x ∈ g) → runD P Γ ops tab base0 L s g' K
  | [], _, _, _, _, h, _ => h
  | i :: L, _, _, _, _, h, hs => stepD_log h hs fun _ _ _ hk hs' => runD_log L hk hs'

theorem inter_false {a b : List Nat} (h : inter a b = false) {x : Nat} (hx : x ∈ a) : x ∉ b := by
  unfold inter at h
  rw [List.any_eq_false] at h
  have := h x hx
  simpa using this
theorem clash_spec {rd wr rd' wr' : List Nat} (h : clash rd wr rd' wr' = false) : (∀ x ∈ wr, x ∉ rd') ∧ (∀ x ∈ wr, x ∉ wr') ∧ (∀ x ∈ rd, x ∉ wr') := by
  unfold clash at h
  simp only [Bool.or_eq_false_iff] at h
  exact ⟨fun x hx => inter_false h.1.1 hx, fun x hx => inter_false h.1.2 hx, fun x hx => inter_false h.2 hx⟩
theorem clash_of {rd wr rd' wr' : List Nat} (h1 : ∀ x ∈ wr, x ∉ rd') (h2 : ∀ x ∈ wr, x ∉ wr') (h3 : ∀ x ∈ rd, x ∉ wr') : clash rd wr rd' wr' = false := by
  have none : ∀ {a b : List Nat}, (∀ x ∈ a, x ∉ b) → inter a b = false := fun {a b} h => by
    unfold inter
    rw [List.any_eq_false]
    intro x hx
    simpa using h x hx
  unfold clash
  rw [none h1, none h2, none h3]
  rfl
/-- names of an operation that isn't ahead are not touched -/
theorem namesOk_fresh {i q : Nat} {ns : List Nat} (h : namesOk tab base0 i ns = true) (hq : bit tab i q = false ∨ i ≤ q) {x : Nat} (hx : x ∈ ns) : x ∉ freshN (base0 + 4 * q) := fun hf => by
  unfold namesOk at h
  rw [List.all_eq_true] at h
  have := h x hx
  rw [mem_freshN] at hf
  have e : (x - base0) / 4 = q := by omega
  rw [e] at this
  simp only [Bool.or_eq_true, decide_eq_true_eq, Bool.and_eq_true] at this
  rcases this with h1 | ⟨h1, h2⟩
  · omega
  · rcases hq with hq | hq
    · rw [hq] at h1; cases h1
    · omega

theorem swap {q i : Nat} {s : St} {g : Log} {K : St → Log → Prop} (hlt : q < i) (hb : bit tab i q = false) (hap : ∀ oq oi, ops[q]? = some oq → ops[i]? = some oi → Oper.apart ops oq oi = true)
    (hK : ∀ s1 g1 g1', K s1 g1 → (∀ x ∈ g1', x ∈ g1) → K s1 g1') (h : stepD P Γ ops tab base0 q s g fun s1 g1 => stepD P Γ ops tab base0 i s1 g1 K) :
    stepD P Γ ops tab base0 i s g fun s1 g1 => stepD P Γ ops tab base0 q s1 g1 K := by
  cases hoq : ops[q]? with
  | none =>
    rw [stepD_none hoq] at h
    exact stepD_log h (fun x hx => hx) fun s1 g1 g1' h1 hs => (stepD_none hoq).2 (hK _ _ _ h1 hs)
  | some oq =>
  cases hoi : ops[i]? with
  | none =>
    rw [stepD_none hoi]
    exact stepD_log h (fun x hx => hx) fun s1 g1 g1' h1 hs => hK _ _ _ ((stepD_none hoi).1 h1) hs
  | some oi =>
  obtain ⟨a1, a2, a3⟩ := Oper.apart_spec (hap oq oi hoq hoi)
  have a2' : ∀ d, oi.dst = some d → oq.dst ≠ some d := fun d h1 h2 => a2 d h2 h1
  cases hwq : wantedS ops s.slots oq with
  | none => rw [stepD_no hoq hwq] at h; exact h.elim
  | some bq =>
  cases bq
  · rw [stepD_false hoq hwq] at h
    have hwi : wantedS ops (putS s.slots oq.dst (.t [])) oi = wantedS ops s.slots oi := wantedS_put a1
    cases hw : wantedS ops s.slots oi with
    | none => rw [stepD_no hoi (by rw [← hw]; exact hwi)] at h; exact h.elim
    | some bi =>
    cases bi
    · rw [stepD_false hoi (by rw [← hw]; exact hwi)] at h
      rw [stepD_false hoi hw, stepD_false hoq (by rw [← hwq]; exact wantedS_put a3)]
      dsimp only at h ⊢
      rw [putS_comm a2'] 
      exact h
    · rw [stepD_true hoi (by rw [← hw]; exact hwi)] at h
      rw [stepD_true hoi hw]
      dsimp only at h
      rw [reqAt_put a1] at h
      obtain ⟨h1, h2⟩ := h
      refine ⟨h1, Out.wp_mono (fun r hr => ?_) h2⟩
      rw [stepD_false hoq (by rw [← hwq]; exact wantedS_put a3)]
      unfold St.apply at hr ⊢
      dsimp only at hr ⊢
      rw [putS_comm a2']
      exact hr
  · rw [stepD_true hoq hwq] at h
    obtain ⟨⟨hq1, hq2⟩, h⟩ := h
    have hwi : ∀ r : Res, wantedS ops (s.apply oq.dst (base0 + 4 * q) (reqAt P Γ ops q (base0 + 4 * q) s.slots oq).wr r).slots oi = wantedS ops s.slots oi := fun r => wantedS_put a1
    have hri : ∀ r : Res, reqAt P Γ ops i (base0 + 4 * i) (s.apply oq.dst (base0 + 4 * q) (reqAt P Γ ops q (base0 + 4 * q) s.slots oq).wr r).slots oi = reqAt P Γ ops i (base0 + 4 * i) s.slots oi := fun r => reqAt_put a1
    have hrq : ∀ r : Res, reqAt P Γ ops q (base0 + 4 * q) (s.apply oi.dst (base0 + 4 * i) (reqAt P Γ ops i (base0 + 4 * i) s.slots oi).wr r).slots oq = reqAt P Γ ops q (base0 + 4 * q) s.slots oq := fun r => reqAt_put a3
    cases hw : wantedS ops s.slots oi with
    | none =>
      exact (Out.wp_const (o := (reqAt P Γ ops q (base0 + 4 * q) s.slots oq).act _) (X := False) (Out.wp_mono (fun r hr => by
        rw [stepD_no hoi (by rw [hwi r, hw])] at hr; exact hr) h)).elim
    | some bi =>
    cases bi
    · rw [stepD_false hoi hw, stepD_true hoq (by rw [← hwq]; exact wantedS_put a3)]
      dsimp only
      rw [reqAt_put a3]
      refine ⟨⟨hq1, hq2⟩, Out.wp_mono (fun r hr => ?_) h⟩
      rw [stepD_false hoi (by rw [hwi r, hw])] at hr
      unfold St.apply at hr ⊢
      dsimp only at hr ⊢
      rw [putS_comm a2']
      exact hr
    · have hboth : (reqAt P Γ ops q (base0 + 4 * q) s.slots oq).pre s.heap fun r =>
          (logOk tab i (reqAt P Γ ops i (base0 + 4 * i) s.slots oi).rd (reqAt P Γ ops i (base0 + 4 * i) s.slots oi).wr ((q, (reqAt P Γ ops q (base0 + 4 * q) s.slots oq).rd, (reqAt P Γ ops q (base0 + 4 * q) s.slots oq).wr) :: g) = true ∧
            namesOk tab base0 i ((reqAt P Γ ops i (base0 + 4 * i) s.slots oi).rd ++ (reqAt P Γ ops i (base0 + 4 * i) s.slots oi).wr) = true) ∧
          (reqAt P Γ ops i (base0 + 4 * i) s.slots oi).pre (s.apply oq.dst (base0 + 4 * q) (reqAt P Γ ops q (base0 + 4 * q) s.slots oq).wr r).heap fun ri =>
            K ((s.apply oq.dst (base0 + 4 * q) (reqAt P Γ ops q (base0 + 4 * q) s.slots oq).wr r).apply oi.dst (base0 + 4 * i) (reqAt P Γ ops i (base0 + 4 * i) s.slots oi).wr ri)
              ((i, (reqAt P Γ ops i (base0 + 4 * i) s.slots oi).rd, (reqAt P Γ ops i (base0 + 4 * i) s.slots oi).wr) :: (q, (reqAt P Γ ops q (base0 + 4 * q) s.slots oq).rd, (reqAt P Γ ops q (base0 + 4 * q) s.slots oq).wr) :: g) :=
        Out.wp_mono (fun r hr => by
          rw [stepD_true hoi (by rw [hwi r, hw]), hri r] at hr
          exact hr) h
      generalize hRq : reqAt P Γ ops q (base0 + 4 * q) s.slots oq = Rq at *
      generalize hRi : reqAt P Γ ops i (base0 + 4 * i) s.slots oi = Ri at *
      obtain ⟨hi1, hi2⟩ := Out.wp_const (Out.wp_mono (fun r hr => hr.1) hboth)
      have hcl : clash Ri.rd Ri.wr Rq.rd Rq.wr = false := by
        unfold logOk at hi1
        rw [List.all_cons, Bool.and_eq_true] at hi1
        have := hi1.1
        rw [hb] at this
        simpa using this
      obtain ⟨c1, c2, c3⟩ := clash_spec hcl
      have hIq : ∀ x ∈ Ri.rd ++ Ri.wr, x ∉ Rq.wr ∧ x ∉ freshN (base0 + 4 * q) := fun x hx => by
        refine ⟨?_, namesOk_fresh hi2 (.inl hb) hx⟩
        rcases List.mem_append.1 hx with hx | hx
        · exact c3 x hx
        · exact c2 x hx
      have hQi : ∀ x ∈ Rq.rd ++ Rq.wr, x ∉ Ri.wr ∧ x ∉ freshN (base0 + 4 * i) := fun x hx => by
        refine ⟨?_, namesOk_fresh hq2 (.inr (Nat.le_of_lt hlt)) hx⟩
        rcases List.mem_append.1 hx with hx | hx
        · exact fun hw => c1 x hw hx
        · exact fun hw => c2 x hw hx
      have hmapI : ∀ r : Res, (Ri.rd ++ Ri.wr).map (s.apply oq.dst (base0 + 4 * q) Rq.wr r).heap = (Ri.rd ++ Ri.wr).map s.heap := fun r =>
        List.map_congr_left fun x hx => applyH_other (hIq x hx).1 (hIq x hx).2
      have hmapQ : ∀ r : Res, (Rq.rd ++ Rq.wr).map (s.apply oi.dst (base0 + 4 * i) Ri.wr r).heap = (Rq.rd ++ Rq.wr).map s.heap := fun r =>
        List.map_congr_left fun x hx => applyH_other (hQi x hx).1 (hQi x hx).2
      have hdis : ∀ x, (x ∈ Rq.wr ∨ x ∈ freshN (base0 + 4 * q)) → x ∉ Ri.wr ∧ x ∉ freshN (base0 + 4 * i) := fun x hx => by
        rcases hx with hx | hx
        · exact hQi x (List.mem_append_right _ hx)
        · refine ⟨fun hw => (hIq x (List.mem_append_right _ hw)).2 hx, fun hf => ?_⟩
          rw [mem_freshN] at hx hf
          omega
      have hst : ∀ rq ri : Res, (s.apply oi.dst (base0 + 4 * i) Ri.wr ri).apply oq.dst (base0 + 4 * q) Rq.wr rq = (s.apply oq.dst (base0 + 4 * q) Rq.wr rq).apply oi.dst (base0 + 4 * i) Ri.wr ri := fun rq ri => by
        unfold St.apply
        dsimp only
        rw [putS_comm a2', applyH_comm hdis]
      have hsw : (Ri.act ((Ri.rd ++ Ri.wr).map s.heap)).wp fun ri => (Rq.act ((Rq.rd ++ Rq.wr).map s.heap)).wp fun rq =>
          K ((s.apply oq.dst (base0 + 4 * q) Rq.wr rq).apply oi.dst (base0 + 4 * i) Ri.wr ri) ((i, Ri.rd, Ri.wr) :: (q, Rq.rd, Rq.wr) :: g) := by
        refine Out.wp_swap (Out.wp_mono (fun r hr => ?_) hboth)
        have := hr.2
        unfold Req.pre at this
        rw [hmapI r] at this
        exact this
      have hi0 : logOk tab i Ri.rd Ri.wr g = true := logOk_sub hi1 fun x hx => List.mem_cons_of_mem _ hx
      have hq0 : logOk tab q Rq.rd Rq.wr ((i, Ri.rd, Ri.wr) :: g) = true := by
        unfold logOk at hq1 ⊢
        rw [List.all_cons, hq1, Bool.and_true]
        have : clash Rq.rd Rq.wr Ri.rd Ri.wr = false := clash_of (fun x hx hr => (hIq x (List.mem_append_left _ hr)).1 hx) (fun x hx => (hQi x (List.mem_append_right _ hx)).1) (fun x hx => (hQi x (List.mem_append_left _ hx)).1)
        simp [this]
      rw [stepD_true hoi hw, hRi]
      refine ⟨⟨hi0, hi2⟩, Out.wp_mono (fun ri hri' => ?_) hsw⟩
      rw [stepD_true hoq (by rw [← hwq]; exact wantedS_put a3), hrq ri]
      refine ⟨⟨hq0, hq2⟩, ?_⟩
      unfold Req.pre
      rw [hmapQ ri]
      refine Out.wp_mono (fun rq hr => ?_) hri'
      rw [hst rq ri]
      refine hK _ _ _ hr fun x hx => ?_
      simp only [List.mem_cons] at hx ⊢
      rcases hx with h | h | h
      · exact .inr (.inl h)
      · exact .inl h
      · exact .inr (.inr h)

/-- one that stands ready may come first -/
theorem pull {i : Nat} {K : St → Prop} : ∀ (L1 L2 : List Nat) {s : St} {g : Log}, (∀ q ∈ L1, q < i ∧ bit tab i q = false ∧ ∀ oq oi, ops[q]? = some oq → ops[i]? = some oi → Oper.apart ops oq oi = true) →
    runD P Γ ops tab base0 (L1 ++ i :: L2) s g K → stepD P Γ ops tab base0 i s g fun s1 g1 => runD P Γ ops tab base0 (L1 ++ L2) s1 g1 K
  | [], L2, s, g, _, h => h
  | q :: L1, L2, s, g, hq, h => by
    obtain ⟨h1, h2, h3⟩ := hq q (by simp)
    have h' : stepD P Γ ops tab base0 q s g fun s1 g1 => stepD P Γ ops tab base0 i s1 g1 fun s2 g2 => runD P Γ ops tab base0 (L1 ++ L2) s2 g2 K :=
      stepD_log h (fun x hx => hx) fun s1 g1 g1' hk hs => pull L1 L2 (fun q hq' => hq q (by simp [hq'])) (runD_log _ hk hs)
    exact swap h1 h2 h3 (fun s1 g1 g1' hk hs => runD_log _ hk hs) h'
end

theorem apartOk_spec {ops : Array Oper} {tab : List Nat} (h : apartOk ops tab = true) {q i : Nat} (hq : q < i) (hb : bit tab i q = false) (oq oi : Oper) (h1 : ops[q]? = some oq) (h2 : ops[i]? = some oi) : Oper.apart ops oq oi = true := by
  unfold apartOk at h
  rw [List.all_eq_true] at h
  have h3 := h i (by simpa using (Array.getElem?_eq_some_iff.1 h2).1)
  rw [List.all_eq_true] at h3
  have h4 := h3 q (by simpa using hq)
  rw [hb, h1, h2] at h4
  simpa using h4

theorem runD_sound {P : Program} {Γ : Env} (hΓ : EnvOk P Γ) {ops : Array Oper} {base0 : Nat} {w0 : World} {I : Nat → Prop} {K : St → Prop} {Q : Exit → Act → World → Prop} (hed : edgesOk ops = true) (hap : apartOk ops (ancTab ops) = true)
    (hQ : ∀ a w, (∃ μ s, Models w0 I μ s a w ∧ Dom μ (base0 + 4 * ops.size) ∧ K s) → Q .normal a w) :
    ∀ (fuel : Nat) (L : List Nat) (listed : Array Bool) (μ : Mu) (s : St) (g : Log) (a : Act) (w : World), L.length = fuel → L.Pairwise (· < ·) → (∀ j, j ∈ L ↔ j < ops.size ∧ listed.getD j true = false) →
      (∀ i q, listed.getD i false = true → bit (ancTab ops) i q = true → listed.getD q false = true) → listed.size = ops.size → Models w0 I μ s a w →
      (∀ n l, μ n = some l → n < base0 ∨ ∃ j, listed.getD j false = true ∧ n ∈ freshN (base0 + 4 * j)) → runD P Γ ops (ancTab ops) base0 L s g K → wpAny P .any ops Q fuel listed a w := by
  intro fuel
  induction fuel with
  | zero =>
    intro L listed μ s g a w hl _ hL _ hsz hm hd h
    have hnil : L = [] := List.eq_nil_of_length_eq_zero hl
    subst hnil
    have hr : Region.ready .any ops listed = [] := by
      cases hx : Region.ready .any ops listed with
      | nil => rfl
      | cons j js =>
        have hj : j ∈ Region.ready .any ops listed := by rw [hx]; simp
        obtain ⟨h0, o, ho, _⟩ := mem_ready.1 hj
        exact absurd ((hL j).2 ⟨(Array.getElem?_eq_some_iff.1 ho).1, h0⟩) (by simp)
    refine ⟨hr, hQ a w ⟨μ, s, hm, fun n l hl => ?_, h⟩⟩
    rcases hd n l hl with h1 | ⟨j, h1, h2⟩
    · omega
    · rw [mem_freshN] at h2
      have hj : j < ops.size := by
        rw [← hsz]
        rcases Nat.lt_or_ge j listed.size with h | h
        · exact h
        · simp [Array.getElem?_eq_none h] at h1
      omega
  | succ fuel ih =>
    intro L listed μ s g a w hl hp hL hcl hsz hm hd h
    refine ⟨fun hr => ?_, fun i hi => ?_⟩
    · -- the first that is left is ready
      cases L with
      | nil => simp at hl
      | cons i L =>
        exfalso
        have hin := (hL i).1 (by simp)
        obtain ⟨o, ho⟩ : ∃ o, ops[i]? = some o := ⟨_, Array.getElem?_eq_getElem hin.1⟩
        have hr' : i ∈ Region.ready .any ops listed := by
          refine mem_ready.2 ⟨hin.2, o, ho, fun e he hb => ?_⟩
          have hlt : e.on < i := by
            unfold edgesOk at hed
            rw [List.all_eq_true] at hed
            have h1 := hed i (by simpa using hin.1)
            rw [ho] at h1
            simp only [List.all_eq_true, decide_eq_true_eq] at h1
            exact h1 e.on (by
              unfold depsOf
              rw [List.mem_filterMap]
              exact ⟨e, by simpa using he, by rw [if_pos hb]⟩)
          have hne : e.on ∉ i :: L := fun hc => by
            rcases List.mem_cons.1 hc with hc | hc
            · omega
            · have := (List.pairwise_cons.1 hp).1 _ hc; omega
          have h2 := fun h => hne ((hL e.on).2 h)
          have hel : e.on < listed.size := by rw [hsz]; omega
          cases hx : listed.getD e.on false
          · exfalso
            refine h2 ⟨by omega, ?_⟩
            simp [hel] at hx ⊢
            exact hx
          · rfl
        rw [hr] at hr'
        cases hr'
    · obtain ⟨h0, o, ho, hall⟩ := mem_ready.1 hi
      have hil : i < ops.size := (Array.getElem?_eq_some_iff.1 ho).1
      have hiL : i ∈ L := (hL i).2 ⟨hil, h0⟩
      obtain ⟨L1, L2, rfl⟩ := List.append_of_mem hiL
      have hanc : ∀ q, bit (ancTab ops) i q = true → listed.getD q false = true := fun q hq => by
        obtain ⟨e, he, h2⟩ := anc_step ho hq
        have hel : listed.getD e false = true := by
          unfold depsOf at he
          rw [List.mem_filterMap] at he
          obtain ⟨ed, hed, h3⟩ := he
          split at h3
          · rename_i hb
            cases h3
            exact hall ed (by simpa using hed) hb
          · cases h3
        rcases h2 with rfl | h2
        · exact hel
        · exact hcl e q hel h2
      have hlisted : ∀ {q : Nat}, listed.getD q false = true → listed.getD q true = false → False := fun {q} h1 h2 => by
        rcases Nat.lt_or_ge q listed.size with h' | h'
        · simp [h'] at h1 h2
          rw [h1] at h2; cases h2
        · simp [Array.getElem?_eq_none h'] at h1
      have hq : ∀ q ∈ L1, q < i ∧ bit (ancTab ops) i q = false ∧ ∀ oq oi, ops[q]? = some oq → ops[i]? = some oi → Oper.apart ops oq oi = true := fun q hq => by
        have hlt : q < i := (List.pairwise_append.1 hp).2.2 q hq i (by simp)
        have hb : bit (ancTab ops) i q = false := by
          cases hx : bit (ancTab ops) i q
          · rfl
          · exact (hlisted (hanc q hx) ((hL q).1 (by simp [hq])).2).elim
        exact ⟨hlt, hb, fun oq oi => apartOk_spec hap hlt hb oq oi⟩
      have hpull := pull L1 L2 hq h
      have hf : ∀ n ∈ freshN (base0 + 4 * i), μ n = none := fun n hn => by
        cases hx : μ n with
        | none => rfl
        | some l =>
          rw [mem_freshN] at hn
          rcases hd n l hx with h1 | ⟨j, h1, h2⟩
          · omega
          · rw [mem_freshN] at h2
            have : j = i := by omega
            subst this
            exact (hlisted h1 h0).elim
      have hset : ∀ {q : Nat}, listed.getD q false = true → (listed.setIfInBounds i true).getD q false = true := fun {q} h => getD_set_true h
      have hsi : (listed.setIfInBounds i true).getD i false = true := by
        simp [hsz, hil]
      -- the step, as one of a state alone
      have hstep : stepS P Γ ops i (base0 + 4 * i) s fun s1 => ∃ g1, runD P Γ ops (ancTab ops) base0 (L1 ++ L2) s1 g1 K := by
        unfold stepS
        rw [ho]
        simp only [St.applyK_eq, fSp_eq]
        cases hw : wantedS ops s.slots o with
        | none => rw [stepD_no ho hw] at hpull; exact hpull.elim
        | some b =>
          cases b
          · rw [stepD_false ho hw] at hpull; exact ⟨_, hpull⟩
          · rw [stepD_true ho hw] at hpull; exact Out.wp_mono (fun r hr => ⟨_, hr⟩) hpull.2
      refine wpOp_mono (fun a' w' hh => ?_) (step_sound hΓ hm hf hstep)
      obtain ⟨μ', s', hm', hd', g1, hr⟩ := hh
      refine ih (L1 ++ L2) (listed.setIfInBounds i true) μ' s' g1 a' w' (by simp at hl ⊢; omega) ?_ ?_ ?_ (by simpa using hsz) hm' ?_ hr
      · rw [List.pairwise_append] at hp ⊢
        exact ⟨hp.1, (List.pairwise_cons.1 hp.2.1).2, fun x hx y hy => hp.2.2 x hx y (by simp [hy])⟩
      · intro j
        have hni : i ∉ L1 ++ L2 := by
          rw [List.pairwise_append] at hp
          intro hc
          rcases List.mem_append.1 hc with hc | hc
          · have := hp.2.2 i hc i (by simp); omega
          · have := (List.pairwise_cons.1 hp.2.1).1 i hc; omega
        have hmem : j ∈ L1 ++ L2 ↔ j ∈ L1 ++ i :: L2 ∧ j ≠ i := by
          simp only [List.mem_append, List.mem_cons] at hni ⊢
          constructor
          · intro hj
            refine ⟨?_, fun e => by subst e; exact hni hj⟩
            rcases hj with hj | hj
            · exact .inl hj
            · exact .inr (.inr hj)
          · rintro ⟨hj | hj | hj, hne⟩
            · exact .inl hj
            · exact absurd hj hne
            · exact .inr hj
        rw [hmem, hL j]
        constructor
        · rintro ⟨⟨h1, h2⟩, h3⟩
          exact ⟨h1, by rw [getD_set_ne true (Ne.symm h3)]; exact h2⟩
        · rintro ⟨h1, h2⟩
          by_cases hji : j = i
          · subst hji
            simp [hsz, hil] at h2
          · rw [getD_set_ne true (Ne.symm hji)] at h2
            exact ⟨⟨h1, h2⟩, hji⟩
      · intro x q hx hb
        by_cases hxi : x = i
        · subst hxi
          exact hset (hanc q hb)
        · rw [getD_set_ne false (Ne.symm hxi)] at hx
          exact hset (hcl x q hx hb)
      · intro n l hl'
        rcases hd' n l hl' with h1 | h1
        · rcases hd n l h1 with h2 | ⟨j, h2, h3⟩
          · exact .inl h2
          · exact .inr ⟨j, hset h2, h3⟩
        · exact .inr ⟨i, hsi, h1⟩
theorem regionD_sound {P : Program} {Γ : Env} (hΓ : EnvOk P Γ) (hmix : P.follows .mixedOrders = true) {ops : Array Oper} {id : Nat} {w0 : World} {I : Nat → Prop} {μ : Mu} {s : St} {a : Act} {w : World} {K : St → Prop} {Q : Exit → Act → World → Prop}
    (hm : Models w0 I μ s a w) (hd : Dom μ s.next) (hQ : ∀ a w, At w0 I K a w → Q .normal a w) (h : regionD P Γ ops s K) : (Code.region id ops true).wp P Q a w := by
  unfold regionD at h
  simp only [fN_eq, fNs_eq] at h
  split at h
  · rename_i hc
    rw [Bool.and_eq_true] at hc
    refine wp_region_any hmix ?_
    have hm' : Models w0 I μ s a { w with drawn := w.drawn + 1 } :=
      ⟨hm.size, hm.slots, hm.defers, ⟨fun n b hb => by
        obtain ⟨l, h1, h2⟩ := hm.hm.ok n b hb
        exact ⟨l, h1, Blk.ok_world h2 (Nat.le_refl _) fun _ _ => rfl⟩, hm.hm.apart⟩, hm.mine, ⟨hm.fr.os, hm.fr.tape, hm.fr.output, hm.fr.size, hm.fr.block⟩⟩
    refine runD_sound hΓ (base0 := s.next) (K := fun s' => K { s' with next := s.next + 4 * ops.size }) hc.1 hc.2 (fun a' w' ⟨μ', s', hm', hd', hk⟩ => hQ a' w' ⟨μ', _, hm'.next _, hd', hk⟩) ops.size (List.range ops.size) _ μ s [] a _ (by simp)
      List.pairwise_lt_range ?_ ?_ (by simp) hm' (fun n l hl => .inl (hd n l hl)) h
    · intro j
      simp only [List.mem_range]
      constructor
      · intro hj
        exact ⟨hj, by simp [hj]⟩
      · exact fun hj => hj.1
    · intro i q hi
      exfalso
      rcases Nat.lt_or_ge i ops.size with h | h
      · simp [h] at hi
      · simp [Array.getElem?_eq_none, h] at hi
  · exact h.elim
end Go.Proofs.Ytplpmnippkkkkaa.Sx
