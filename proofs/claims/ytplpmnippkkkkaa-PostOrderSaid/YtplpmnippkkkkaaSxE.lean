/- Addresses, cuts, parts, lengths. No Go text in sight. -/
import Derived.Test.YtplpmnippkkkkaaSxD
namespace Go.Proofs.Ytplpmnippkkkkaa.Sx
open Go
set_option linter.unusedVariables false
set_option linter.unusedSimpArgs false

/-- a field's place -/
def fieldOut (P : Program) (s : TypeId) (x : SV) (f : Nat) : Out SV :=
  match x, P.underlying s with
  | .s (.c (.ptr b i e j)), some (.struct fs) => match fs[f]? with
    | some fd => match P.info? fd.type with
      | some inf => if inf.size = 0 then .fail else .ret (one (.ptr b i e (j + fd.offset)))
      | none => .fail
    | none => .fail
  | _, _ => .fail
theorem field_ok {μ : Mu} {P : Program} {w : World} {K : SV → Prop} {s : TypeId} {x : SV} {u : Value} {f : Nat} (hx : x.ok μ u) (h : (fieldOut P s x f).wp K) :
    ∃ z sv, (Instr.fieldAt s u f).run P w = .ok z w ∧ K sv ∧ sv.ok μ z := by
  unfold fieldOut at h
  split at h
  · rename_i b i e j fs hu
    obtain ⟨l, hl, rfl⟩ := hx
    split at h
    · rename_i fd hf
      split at h
      · rename_i inf hi
        split at h
        · exact h.elim
        · rename_i hz
          refine ⟨_, _, ?_, h, ⟨l, hl, rfl⟩⟩
          simp [Instr.fieldAt, run_underlying hu, hf, Instr.sureAddr, fieldPlace, run_sizeOf' hi, hz, Addr.add_lit', Nat.add_assoc]
      · exact h.elim
    · exact h.elim
  · exact h.elim

/-- one of n places, by an index that is any -/
def splitN (n : Int) (f : Nat → Out SV) : Nat → Nat → Out SV
  | m, 0 => .fail
  | m, 1 => f m
  | m, k + 2 => .br (n = (m : Int)) (f m) (splitN n f (m + 1) (k + 1))
theorem splitN_ok {n : Int} {f : Nat → Out SV} {K : SV → Prop} : ∀ {k m : Nat}, (m : Int) ≤ n → n < (m : Int) + k → (splitN n f m k).wp K → ∃ x : Nat, n = (x : Int) ∧ (f x).wp K
  | 0, m, _, _, h => h.elim
  | 1, m, h1, h2, h => ⟨m, by omega, h⟩
  | k + 2, m, h1, h2, h => by
    by_cases hm : n = (m : Int)
    · exact ⟨m, hm, h.1 hm⟩
    · exact splitN_ok (by omega) (by omega) (h.2 hm)
/-- the place of an element -/
def indexOut (P : Program) (t : TypeId) (x ix : SV) : Out SV :=
  match P.underlying t, x, ix.int? with
  | some (.array len el), .s (.c (.ptr b i e j)), some (_, n, c) => match P.info? el with
    | some inf => need c (0 ≤ n ∧ n < len) (if c then .ret (one (.ptr b i e (j + n.toNat * inf.size))) else splitN n (fun m => .ret (one (.ptr b i e (j + m * inf.size)))) 0 len)
    | none => .fail
  | some (.slice el), .s (.c (.sli b i e j len cap q)), some (_, n, c) => match P.info? el with
    | some inf => if e = 0 then
        (need (c && q) (0 ≤ n ∧ n < len) (if c then .ret (one (.ptr b i 0 (j + n.toNat * inf.size))) else if q then splitN n (fun m => .ret (one (.ptr b i 0 (j + m * inf.size)))) 0 len else .fail))
      else if e = inf.size then need (c && q) (0 ≤ n ∧ n < len) (.ret (one (.ptr b (i + n.toNat) e j))) else .fail
    | none => .fail
  | some (.slice el), .s (.c (.own b len cap q)), some (_, n, c) => match P.info? el with
    | some inf => need (c && q) (0 ≤ n ∧ n < len) (.ret (one (.ptr b n.toNat inf.size 0)))
    | none => .fail
  | _, _, _ => .fail
theorem index_ok {μ : Mu} {P : Program} {w : World} {K : SV → Prop} {t : TypeId} {x ix : SV} {u v : Value} (hx : x.ok μ u) (hi : ix.ok μ v) (h : (indexOut P t x ix).wp K) :
    ∃ z sv, (Instr.indexAt t u v).run P w = .ok z w ∧ K sv ∧ sv.ok μ z := by
  unfold indexOut at h
  split at h
  · rename_i len el b i e j k n c hu hn
    obtain ⟨l, hl, rfl⟩ := hx
    have := SV.int_ok hn hi
    subst this
    split at h
    · rename_i inf hif
      obtain ⟨⟨h0, h1⟩, h⟩ := need_ok h
      have hrun : (Instr.indexAt t (.pointer (some ⟨l.b, l.off + (i * e + j), none⟩)) (.int k n)).run P w = .ok (.pointer (some ⟨l.b, l.off + (i * e + (j + n.toNat * inf.size)), none⟩)) w := by
        simp [Instr.indexAt, asIntOf, run_underlying hu, Instr.sureAddr, h0, h1, run_sizeOf' hif, Addr.add_lit', Nat.add_assoc]
      split at h
      · exact ⟨_, _, hrun, h, ⟨l, hl, rfl⟩⟩
      · obtain ⟨m, rfl, hm⟩ := splitN_ok (by omega) (by omega) h
        exact ⟨_, _, hrun, hm, ⟨l, hl, by simp⟩⟩
    · exact h.elim
  · rename_i el b i e j len cap q k n c hu hn
    obtain ⟨l, a, hl, rfl, ha, hlc, hcm⟩ := hx
    have := SV.int_ok hn hi
    subst this
    split at h
    · rename_i inf hif
      have gen : (0 ≤ n ∧ n < len) → (Instr.indexAt t (.slice a len cap) (.int k n)).run P w = .ok (.pointer (some ⟨l.b, l.off + (i * e + j) + n.toNat * inf.size, none⟩)) w := by
        rintro ⟨h0, h1⟩
        rw [ha (by omega)]
        simp [Instr.indexAt, asIntOf, run_underlying hu, h0, h1, run_sizeOf' hif, Addr.add_lit']
      split at h
      · rename_i he
        subst he
        obtain ⟨hb, h⟩ := need_ok h
        have hrun := gen hb
        split at h
        · exact ⟨_, _, hrun, h, ⟨l, hl, by simp [Nat.add_assoc]⟩⟩
        · split at h
          · obtain ⟨m, rfl, hm⟩ := splitN_ok (by omega) (by omega) h
            exact ⟨_, _, hrun, hm, ⟨l, hl, by simp [Nat.add_assoc]⟩⟩
          · exact h.elim
      · split at h
        · rename_i he
          obtain ⟨hb, h⟩ := need_ok h
          refine ⟨_, _, gen hb, h, ⟨l, hl, ?_⟩⟩
          rw [← he, Nat.add_mul]
          congr 3
          omega
        · exact h.elim
    · exact h.elim
  · rename_i el b len cap q k n c hu hn
    obtain ⟨l, a, hl, rfl, hd, ha, hlc, hcm⟩ := hx
    have := SV.int_ok hn hi
    subst this
    split at h
    · rename_i inf hif
      obtain ⟨⟨h0, h1⟩, h⟩ := need_ok h
      refine ⟨.pointer (some ⟨l.b, l.off + n.toNat * inf.size, none⟩), _, ?_, h, ⟨l, hl, by simp⟩⟩
      rw [hd, ha (by omega)]
      simp [Instr.indexAt, asIntOf, run_underlying hu, h0, h1, run_sizeOf' hif, Addr.add_lit']
    · exact h.elim
  · exact h.elim

/-- a bound of a cut -/
def bndO (x : Option SV) (d : Nat) (dq : Bool) (y : Nat) (yq : Bool) (k : Nat → Bool → Out SV) : Out SV :=
  match x with
  | none => k d dq
  | some v => match v.int? with
    | some (_, n, c) => need (c && yq) (0 ≤ n ∧ n ≤ (y : Int)) (k n.toNat c)
    | none => .fail
def optOk (μ : Mu) : Option SV → Option Value → Prop
  | none, none => True
  | some x, some v => x.ok μ v
  | _, _ => False
theorem bnd_ok {μ : Mu} {P : Program} {w : World} {K : SV → Prop} {x : Option SV} {v : Option Value} {d y : Nat} {dq yq : Bool} {k : Nat → Bool → Out SV} (hx : optOk μ x v) (hd : d ≤ y) (h : (bndO x d dq y yq k).wp K) :
    ∃ n q, n ≤ y ∧ (k n q).wp K ∧ ∀ code, (match v with | some v => Instr.sliceBound v y code | none => pure d : Sem Nat).run P w = .ok n w := by
  cases x with
  | none =>
    cases v with
    | none => exact ⟨d, dq, hd, h, fun _ => rfl⟩
    | some v => exact hx.elim
  | some x =>
    cases v with
    | none => exact hx.elim
    | some v =>
      simp only [bndO] at h
      split at h
      · rename_i k' n c hn
        have := SV.int_ok hn hx
        subst this
        obtain ⟨⟨h0, h1⟩, h⟩ := need_ok h
        exact ⟨n.toNat, c, by omega, h, fun code => by simp [Instr.sliceBound, asIntOf, h0, h1]⟩
      · exact h.elim
def zeroS (x : Option SV) : Bool :=
  match x with
  | some v => match v.int? with
    | some (_, n, c) => c && n == 0
    | none => false
  | none => false
def lowS (x : Option SV) : Bool :=
  match x with
  | none => true
  | some v => zeroS (some v)
def rowS (x : SV) : Bool :=
  match x with
  | .s (.c (.sli _ _ _ _ _ _ _)) => true
  | .s (.c (.own _ _ _ _)) => true
  | .s (.c .nos) => true
  | _ => false
theorem zeroS_ok {μ : Mu} {P : Program} {w : World} {x : Option SV} {v : Option Value} (h : zeroS x = true) (hx : optOk μ x v) : ∃ k, v = some (.int k 0) := by
  unfold zeroS at h
  split at h
  · rename_i y
    split at h
    · rename_i k n c hn
      simp at h
      obtain ⟨_, rfl⟩ := h
      cases v with
      | none => exact hx.elim
      | some v => exact ⟨k, by rw [SV.int_ok hn hx]⟩
    · cases h
  · cases h
theorem rowS_ok {μ : Mu} {x : SV} {u : Value} (h : rowS x = true) (hx : x.ok μ u) : ∃ a n c, u = .slice a n c := by
  unfold rowS at h
  split at h
  · obtain ⟨l, a, _, rfl, _⟩ := hx; exact ⟨_, _, _, rfl⟩
  · obtain ⟨l, a, _, rfl, he, _⟩ := hx; exact ⟨_, _, _, he⟩
  · obtain ⟨a, rfl⟩ := hx; exact ⟨_, _, _, rfl⟩
  · cases h
def sliceOut (P : Program) (t : TypeId) (x : SV) (lo hi mx : Option SV) : Out SV :=
  match mx with
  | some m => match P.underlying t with
    | some (.slice el) => match P.info? el with
      | some inf => if zeroS (some m) && (zeroS hi && (lowS lo && rowS x)) then .ret (one .nos) else .fail
      | none => .fail
    | _ => .fail
  | none =>
    match P.underlying t, x with
    | some (.array n el), .s (.c (.ptr b i e j)) => match P.info? el with
      | some inf => if n ≤ maxLen then (bndO hi n true n true fun h hq => bndO lo 0 true h hq fun l lq => if lq then .ret (one (.sli b i e (j + l * inf.size) (h - l) (n - l) hq)) else .fail) else .fail
      | none => .fail
    | some (.slice el), .s (.c (.sli b i e j len cap q)) => match P.info? el with
      | some inf => bndO hi len q cap q fun h hq => bndO lo 0 true h (hq && q) fun l lq =>
          if e = 0 then (if lq then .ret (one (.sli b i 0 (j + l * inf.size) (h - l) (cap - l) (hq && q))) else .fail)
          else if e = inf.size then .ret (one (.sli b (i + l) e j (h - l) (cap - l) (hq && lq && q))) else .fail
      | none => .fail
    | some (.slice el), .s (.c (.own b len cap q)) => match P.info? el with
      | some inf => bndO hi len q cap q fun h hq => bndO lo 0 true h (hq && q) fun l lq => .ret (one (.sli b l inf.size 0 (h - l) (cap - l) (hq && lq && q)))
      | none => .fail
    | some (.slice el), .s (.c .nos) => match P.info? el with
      | some inf => bndO hi 0 true 0 true fun h hq => bndO lo 0 true h hq fun l lq => .ret (one .nos)
      | none => .fail
    | _, _ => .fail
theorem slice_ok {μ : Mu} {P : Program} {w : World} {K : SV → Prop} {t : TypeId} {x : SV} {lo hi mx : Option SV} {u : Value} {vl vh vm : Option Value} (hx : x.ok μ u) (hlo : optOk μ lo vl) (hhi : optOk μ hi vh) (hmx : optOk μ mx vm)
    (h : (sliceOut P t x lo hi mx).wp K) :
    ∃ z sv, (Instr.sliceAt t u vl vh vm).run P w = .ok z w ∧ K sv ∧ sv.ok μ z := by
  unfold sliceOut at h
  cases mx with
  | some m =>
    simp only [] at h
    split at h
    · rename_i el hu
      split at h
      · rename_i inf hif
        split at h
        · rename_i hc
          simp only [Bool.and_eq_true] at hc
          obtain ⟨c1, c2, c3, c4⟩ := hc
          obtain ⟨k1, rfl⟩ := zeroS_ok (P := P) (w := w) c1 hmx
          obtain ⟨k2, rfl⟩ := zeroS_ok (P := P) (w := w) c2 hhi
          obtain ⟨a, n, c, rfl⟩ := rowS_ok c4 hx
          refine ⟨.slice a 0 0, _, ?_, h, ⟨a, rfl⟩⟩
          have hl : vl = none ∨ ∃ k3, vl = some (.int k3 0) := by
            cases lo with
            | none =>
              cases vl with
              | none => exact .inl rfl
              | some v => exact hlo.elim
            | some l => exact .inr (zeroS_ok (P := P) (w := w) (x := some l) c3 hlo)
          rcases hl with rfl | ⟨k3, rfl⟩ <;> simp [Instr.sliceAt, Instr.slice, run_underlying hu, Instr.sliceBounds, Instr.sliceBound, asIntOf, run_sizeOf' hif]
        · exact h.elim
      · exact h.elim
    · exact h.elim
  | none =>
  cases vm with
  | some m => exact hmx.elim
  | none =>
  simp only [] at h
  have bounds : ∀ (isS : Bool) (len cap : Nat) (hh l : Nat), (∀ code, (match vh with | some v => Instr.sliceBound v cap code | none => pure len : Sem Nat).run P w = .ok hh w) →
      (∀ code, (match vl with | some v => Instr.sliceBound v hh code | none => pure 0 : Sem Nat).run P w = .ok l w) → (Instr.sliceBounds isS len cap vl vh none).run P w = .ok (l, hh, cap) w := by
    intro isS len cap hh l h1 h2
    have h2' := h2 .sliceB
    unfold Instr.sliceBounds
    cases vh with
    | none =>
      have e : len = hh := by have := h1 .index; simp at this; exact this
      subst e
      cases vl with
      | none => simp at h2'; simp [h2']
      | some v => simp at h2'; simp [h2']
    | some z =>
      have h1' := fun c => h1 c
      simp at h1'
      cases vl with
      | none => simp at h2'; simp [h1', h2']
      | some v => simp at h2'; simp [h1', h2']
  split at h
  · rename_i n el b i e j hu
    obtain ⟨l, hl, rfl⟩ := hx
    split at h
    · rename_i inf hif
      split at h
      · rename_i hmax
        obtain ⟨hh, hq, hle, h', hr1⟩ := bnd_ok (P := P) (w := w) hhi (Nat.le_refl _) h
        obtain ⟨lo', lq, hle2, h'', hr2⟩ := bnd_ok (P := P) (w := w) hlo (Nat.zero_le _) h'
        split at h''
        · have hb := bounds false n n hh lo' hr1 hr2
          refine ⟨_, _, ?_, h'', ⟨l, some (if n = lo' then ⟨l.b, l.off + (i * e + j), none⟩ else ⟨l.b, l.off + (i * e + j) + lo' * inf.size, none⟩), hl, rfl, ?_, by omega, ?_⟩⟩
          · simp [Instr.sliceAt, run_underlying hu, Instr.sureAddr, hb, run_sizeOf' hif, Addr.add_lit']
          · intro hc
            rw [if_neg (by omega)]
            simp [Nat.add_assoc]
          · omega
        · exact h''.elim
      · exact h.elim
    · exact h.elim
  · rename_i el b i e j len cap q hu
    obtain ⟨l, a, hl, rfl, ha, hlc, hcm⟩ := hx
    split at h
    · rename_i inf hif
      obtain ⟨hh, hq, hle, h', hr1⟩ := bnd_ok (P := P) (w := w) hhi hlc h
      obtain ⟨lo', lq, hle2, h'', hr2⟩ := bnd_ok (P := P) (w := w) hlo (Nat.zero_le _) h'
      have hb := bounds true len cap hh lo' hr1 hr2
      have hrun : (Instr.sliceAt t (.slice a len cap) vl vh none).run P w = .ok (.slice (if cap = lo' then a else a.map (·.add (lo' * inf.size))) (hh - lo') (cap - lo')) w := by
        simp [Instr.sliceAt, Instr.slice, run_underlying hu, hb, run_sizeOf' hif]
      split at h''
      · rename_i he
        subst he
        split at h''
        · refine ⟨_, _, hrun, h'', ⟨l, _, hl, rfl, fun hc => ?_, by omega, by omega⟩⟩
          rw [if_neg (by omega), ha (by omega)]
          simp [Addr.add_lit', Nat.add_assoc]
        · exact h''.elim
      · split at h''
        · rename_i he
          refine ⟨_, _, hrun, h'', ⟨l, _, hl, rfl, fun hc => ?_, by omega, by omega⟩⟩
          rw [if_neg (by omega), ha (by omega), ← he]
          simp only [Option.map_some, Addr.add_lit', Nat.add_mul]
          congr 2
          omega
        · exact h''.elim
    · exact h.elim
  · rename_i el b len cap q hu
    obtain ⟨l, a, hl, rfl, hd, ha, hlc, hcm⟩ := hx
    split at h
    · rename_i inf hif
      obtain ⟨hh, hq, hle, h', hr1⟩ := bnd_ok (P := P) (w := w) hhi hlc h
      obtain ⟨lo', lq, hle2, h'', hr2⟩ := bnd_ok (P := P) (w := w) hlo (Nat.zero_le _) h'
      have hb := bounds true len cap hh lo' hr1 hr2
      refine ⟨.slice (if cap = lo' then a else a.map (·.add (lo' * inf.size))) (hh - lo') (cap - lo'), _, ?_, h'', ⟨l, _, hl, rfl, fun hc => ?_, by omega, by omega⟩⟩
      · rw [hd]
        simp [Instr.sliceAt, Instr.slice, run_underlying hu, hb, run_sizeOf' hif]
      · rw [if_neg (by omega), ha (by omega)]
        simp [Addr.add_lit']
    · exact h.elim
  · rename_i el hu
    obtain ⟨a, rfl⟩ := hx
    split at h
    · rename_i inf hif
      obtain ⟨hh, hq, hle, h', hr1⟩ := bnd_ok (P := P) (w := w) hhi (Nat.le_refl _) h
      obtain ⟨lo', lq, hle2, h'', hr2⟩ := bnd_ok (P := P) (w := w) hlo (Nat.zero_le _) h'
      have hb := bounds true 0 0 hh lo' hr1 hr2
      have e1 : hh = 0 := by omega
      have e2 : lo' = 0 := by omega
      subst e1; subst e2
      refine ⟨.slice a 0 0, _, ?_, h'', ⟨a, rfl⟩⟩
      simp [Instr.sliceAt, Instr.slice, run_underlying hu, hb, run_sizeOf' hif]
    · exact h.elim
  · exact h.elim

/-- a part of a struct's or an array's value -/
def partOut (P : Program) (t : TypeId) (cs : List SC) (off : Nat) : Out SV :=
  match P.underlying t, P.info? t with
  | some d, some inf => if agD d then .ret (.s (.a ((cs.drop off).take inf.size))) else
      match cs[off]? with
      | some c => .ret (one c)
      | none => .fail
  | _, _ => .fail
theorem part_ok {μ : Mu} {P : Program} {w : World} {K : SV → Prop} {t : TypeId} {cs : List SC} {vs : List Value} {off : Nat} (ha : All2 (SC.ok μ) cs vs) (h : (partOut P t cs off).wp K) :
    ∃ z sv, (part t vs.toArray off).run P w = .ok z w ∧ K sv ∧ sv.ok μ z := by
  unfold partOut at h
  split at h
  · rename_i d inf hu hi
    split at h
    · rename_i hag
      refine ⟨.agg (vs.toArray.extract off (off + inf.size)), _, ?_, h, ⟨(vs.drop off).take inf.size, ?_, (ha.drop off).take inf.size⟩⟩
      · simp [part, run_isAgg hu, hag, run_sizeOf' hi]
      · congr 1
        simp [List.extract_eq_take_drop]
    · rename_i hag
      split at h
      · rename_i c hc
        obtain ⟨v, hv, hok⟩ := ha.get off c hc
        exact ⟨v, _, by simp [part, run_isAgg hu, hag, hv], h, hok⟩
      · exact h.elim
  · exact h.elim
def fieldV (P : Program) (s : TypeId) (x : SV) (f : Nat) : Out SV :=
  match P.underlying s, x.agg? with
  | some (.struct fs), some cs => match fs[f]? with
    | some fd => partOut P fd.type cs fd.offset
    | none => .fail
  | _, _ => .fail
theorem fieldV_ok {μ : Mu} {P : Program} {w : World} {K : SV → Prop} {s : TypeId} {x : SV} {u : Value} {f : Nat} (hx : x.ok μ u) (h : (fieldV P s x f).wp K) :
    ∃ z sv, (Instr.field s u f).run P w = .ok z w ∧ K sv ∧ sv.ok μ z := by
  unfold fieldV at h
  split at h
  · rename_i fs cs hu hc
    obtain ⟨vs, rfl, ha⟩ := SV.agg_ok hc hx
    split at h
    · rename_i fd hf
      obtain ⟨z, sv, h1, h2, h3⟩ := part_ok (w := w) ha h
      exact ⟨z, sv, by simp [Instr.field, run_underlying hu, hf, asAgg, h1], h2, h3⟩
    · exact h.elim
  · exact h.elim
def indexV (P : Program) (t : TypeId) (x ix : SV) : Out SV :=
  match P.underlying t, x.agg?, ix.int? with
  | some (.array len el), some cs, some (_, n, c) => match P.info? el with
    | some inf => need c (0 ≤ n ∧ n < len) (if c then partOut P el cs (n.toNat * inf.size) else splitN n (fun m => partOut P el cs (m * inf.size)) 0 len)
    | none => .fail
  | _, _, _ => .fail
theorem indexV_ok {μ : Mu} {P : Program} {w : World} {K : SV → Prop} {t : TypeId} {x ix : SV} {u v : Value} (hx : x.ok μ u) (hi : ix.ok μ v) (h : (indexV P t x ix).wp K) :
    ∃ z sv, (Instr.index t u v).run P w = .ok z w ∧ K sv ∧ sv.ok μ z := by
  unfold indexV at h
  split at h
  · rename_i len el cs k n c hu hc hn
    obtain ⟨vs, rfl, ha⟩ := SV.agg_ok hc hx
    have := SV.int_ok hn hi
    subst this
    split at h
    · rename_i inf hif
      obtain ⟨⟨h0, h1⟩, h⟩ := need_ok h
      have hrun : ∀ z, (part el vs.toArray (n.toNat * inf.size)).run P w = .ok z w → (Instr.index t (.agg vs.toArray) (.int k n)).run P w = .ok z w := fun z hz => by
        simp [Instr.index, asIntOf, run_underlying hu, h0, h1, run_sizeOf' hif, hz]
      split at h
      · obtain ⟨z, sv, h1, h2, h3⟩ := part_ok (w := w) ha h
        exact ⟨z, sv, hrun z h1, h2, h3⟩
      · obtain ⟨m, rfl, hm⟩ := splitN_ok (by omega) (by omega) h
        obtain ⟨z, sv, h1, h2, h3⟩ := part_ok (w := w) ha hm
        exact ⟨z, sv, hrun z (by simpa using h1), h2, h3⟩
    · exact h.elim
  · exact h.elim
def extractOut (x : SV) (i : Nat) : Out SV :=
  match x with
  | .t xs => match xs[i]? with
    | some y => .ret (.s y)
    | none => .fail
  | _ => .fail
theorem extract_ok {μ : Mu} {P : Program} {w : World} {K : SV → Prop} {x : SV} {u : Value} {i : Nat} (hx : x.ok μ u) (h : (extractOut x i).wp K) :
    ∃ z sv, (Instr.extract u i).run P w = .ok z w ∧ K sv ∧ sv.ok μ z := by
  unfold extractOut at h
  split at h
  · rename_i xs
    obtain ⟨vs, rfl, ha⟩ := hx
    split at h
    · rename_i y hy
      obtain ⟨v, hv, hok⟩ := ha.get i y hy
      exact ⟨v, _, by simp [Instr.extract, hv], h, hok⟩
    · exact h.elim
  · exact h.elim
def mkN (q : Bool) (n : Nat) : SV := if q then one (.num .i64 n) else one (.int .i64 n)
theorem mkN_ok (μ : Mu) (q : Bool) (n : Nat) : (mkN q n).ok μ (.int .i64 n) := by cases q <;> rfl
def lenOut (P : Program) (t : TypeId) (x : SV) : Out SV :=
  match P.underlying t, x with
  | some (.slice _), .s (.c (.sli _ _ _ _ n _ q)) => .ret (mkN q n)
  | some (.slice _), .s (.c (.own _ n _ q)) => .ret (mkN q n)
  | some (.slice _), .s (.c .nos) => .ret (mkN true 0)
  | some .string, .s (.c (.str z)) => .ret (mkN false z.size)
  | some (.array n _), _ => .ret (mkN true n)
  | _, _ => .fail
theorem len_ok {μ : Mu} {P : Program} {w : World} {K : SV → Prop} {t ty : TypeId} {x : SV} {u : Value} (hx : x.ok μ u) (h : (lenOut P t x).wp K) :
    ∃ z sv, (Builtin.len_ #[t] ty #[u]).run P w = .ok z w ∧ K sv ∧ sv.ok μ z := by
  unfold lenOut at h
  split at h
  · rename_i hu
    obtain ⟨l, a, hl, rfl, _⟩ := hx
    exact ⟨_, _, by simp [Builtin.len_, run_underlying hu, goInt], h, mkN_ok μ _ _⟩
  · rename_i hu
    obtain ⟨l, a, hl, rfl, hd, _⟩ := hx
    exact ⟨_, _, by rw [hd]; simp [Builtin.len_, run_underlying hu, goInt], h, mkN_ok μ _ _⟩
  · rename_i hu
    obtain ⟨a, rfl⟩ := hx
    exact ⟨.int .i64 (0 : Nat), _, by simp [Builtin.len_, run_underlying hu, goInt], h, mkN_ok μ _ _⟩
  · rename_i z hu
    have : u = .string z := hx
    subst this
    exact ⟨_, _, by simp [Builtin.len_, run_underlying hu, goInt], h, mkN_ok μ _ _⟩
  · rename_i hu
    exact ⟨_, _, by simp [Builtin.len_, run_underlying hu, goInt], h, mkN_ok μ _ _⟩
  · exact h.elim
/-- min, max of integers -/
def minOut (mx : Bool) : SV → List SV → Out SV
  | x, [] => .ret x
  | x, y :: ys => match x.int?, y.int? with
    | some (k, a, c), some (_, b, c') => (mkI k (c && c') (if mx then max a b else min a b)).bind fun z => minOut mx z ys
    | _, _ => .fail
def AllV (μ : Mu) : List SV → List Value → Prop
  | [], [] => True
  | x :: xs, v :: vs => x.ok μ v ∧ AllV μ xs vs
  | _, _ => False
theorem min_ok {μ : Mu} {P : Program} {w : World} {K : SV → Prop} (mx : Bool) : ∀ {x : SV} {ys : List SV} {u : Value} {vs : List Value}, x.ok μ u → AllV μ ys vs → (minOut mx x ys).wp K →
    ∃ z sv, (vs.foldlM (if mx then Builtin.max2 else Builtin.min2) u).run P w = .ok z w ∧ K sv ∧ sv.ok μ z
  | x, [], u, [], hx, _, h => ⟨u, x, rfl, h, hx⟩
  | x, y :: ys, u, v :: vs, hx, hv, h => by
    simp only [minOut] at h
    split at h
    · rename_i k a c k' b c' ha hb
      have e1 := SV.int_ok ha hx
      have e2 := SV.int_ok hb hv.1
      subst e1; subst e2
      obtain ⟨sv, hs, hok⟩ := mkI_ok (μ := μ) (Out.wp_bind.1 h)
      obtain ⟨z, s2, h1, h2, h3⟩ := min_ok mx hok hv.2 hs
      refine ⟨z, s2, ?_, h2, h3⟩
      rw [List.foldlM_cons, Sem.run_bind]
      have hstep : ((if mx then Builtin.max2 else Builtin.min2) (.int k a) (.int k' b)).run P w = .ok (.int k (if mx then max a b else min a b)) w := by
        cases mx
        · simp only [Bool.false_eq_true, if_false, Builtin.min2, Sem.run_pure]
          congr 2
          split <;> omega
        · simp only [if_true, Builtin.max2, Sem.run_pure]
          congr 2
          split <;> omega
      rw [hstep]
      exact h1
    · exact h.elim
  | _, [], _, _ :: _, _, hv, _ => hv.elim
  | _, _ :: _, _, [], _, hv, _ => hv.elim
end Go.Proofs.Ytplpmnippkkkkaa.Sx
