/- Rows of numbers written out; bytes as a string. No Go text in sight. -/
import Derived.Test.YtplpmnippkkkkaaSxP
import Derived.Great.BuildSlice
import Derived.Laws.BytesString
import Derived.Laws.MakeOwn
namespace Go.Proofs.Ytplpmnippkkkkaa.Sx
open Go
set_option linter.unusedVariables false
set_option linter.unusedSimpArgs false

/-- parts in order, each a number -/
def partsI (k : IntKind) : Nat → List (Nat × SV) → Option (List Int)
  | _, [] => some []
  | i, (j, .s (.c c)) :: ps => if j == i then match intC k c, partsI k (i + 1) ps with
      | some x, some xs => some (x :: xs)
      | _, _ => none
    else none
  | _, _ => none
theorem partsI_ok {μ : Mu} {k : IntKind} : ∀ {ps : List (Nat × SV)} {i : Nat} {xs : List Int} {vs : List (Nat × Value)}, partsI k i ps = some xs → AllP μ ps vs → vs = ((valsI k xs).zipIdx i).map fun x => (x.2, x.1)
  | [], i, xs, [], h, _ => by cases h; rfl
  | (j, .s (.c c)) :: ps, i, xs, (j', v) :: vs, h, ha => by
    simp only [partsI] at h
    split at h
    · rename_i hj
      split at h
      · rename_i x ys h1 h2
        cases h
        obtain ⟨e, hc, hr⟩ := ha
        have hj' : j = i := by simpa using hj
        subst hj'
        have e' : j' = j := by first | exact e.symm | exact e
        subst e'
        rw [partsI_ok h2 hr, intC_ok h1 hc]
        rfl
      · cases h
    · cases h
  | (_, .s (.a _)) :: _, _, _, _, h, _ => by simp [partsI] at h
  | (_, .t _) :: _, _, _, _, h, _ => by simp [partsI] at h
  | (_, .u) :: _, _, _, _, h, _ => by simp [partsI] at h
  | [], _, _, _ :: _, _, ha => ha.elim
  | _ :: _, _, _, [], _, ha => ha.elim
def litI (xs : List Int) (len : Nat) : Bool := xs.length == len
def bsReq (P : Program) (base : Nat) (t : TypeId) (len : Nat) (parts : List (Nat × SV)) : Req :=
  match P.underlying t with
  | some (.slice el) => match P.info? el, P.underlying el with
    | some inf, some (.int k) => match partsI k 0 parts with
      | some xs => if (inf.size == 1 && one1 inf.zero) && (litI xs len && decide (len ≤ 1000)) then ⟨[], [], fun _ => .ret ⟨one (.own base len len true), [], [.oints k xs]⟩⟩ else Req.fail
      | none => Req.fail
    | _, _ => Req.fail
  | _ => Req.fail
theorem bs_ok {P : Program} {μ : Mu} {h : Nat → Option Blk} {w : World} {base : Nat} {t : TypeId} {len : Nat} {parts : List (Nat × SV)} {vs : Array (Nat × Value)} (hf : ∀ n ∈ freshN base, μ n = none) (ha : AllP μ parts vs.toList) :
    Snd P μ h w base (bsReq P base t len parts) (Instr.buildSlice t len vs) := by
  intro K hk
  unfold bsReq at hk ⊢
  split at hk
  · rename_i el hu
    split at hk
    · rename_i inf k hi hk0
      split at hk
      · rename_i xs hxs
        split at hk
        · rename_i hc
          have hc2 := hc
          simp only [Bool.and_eq_true, beq_iff_eq, decide_eq_true_eq, litI] at hc
          obtain ⟨⟨hs1, hz1⟩, hl, hle⟩ := hc
          rw [if_pos hc2]
          subst hl
          have hz : ∃ z, inf.zero = some z ∧ z.cells.size = 1 := by
            unfold one1 at hz1
            split at hz1
            · rename_i z hz; exact ⟨z, hz, by simpa using hz1⟩
            · cases hz1
          obtain ⟨z, hz, hzs⟩ := hz
          have hvs := partsI_ok hxs ha
          have hrun : (Instr.buildSlice t xs.length vs).run P w = .ok (.slice (some ⟨w.heap.size, 0, none⟩) xs.length xs.length) (w.alloc (.cells (valsI k xs).toArray el)) := by
            by_cases h0 : xs.length = 0
            · have : xs = [] := List.eq_nil_of_length_eq_zero h0
              subst this
              have hv0 : vs.toList = [] := hvs
              simp [Instr.buildSlice, run_underlying hu, Go.sizeOf, typeInfo, hi, hv0, Instr.fill, newRow, valsI]
              rw [show Array.range 0 = #[] from by decide]
              simp
            · refine run_buildSlice w t el xs.length vs _ inf z hu hi hz (by rw [hs1]; omega) (by rw [hs1]; omega) ?_
              rw [hvs, hs1]
              exact Great.fill_flat _ _ (fun v hv => by simp [valsI] at hv; obtain ⟨n, _, rfl⟩ := hv; rfl) (by simp [valsI_len])
          have hb : μ base = none := hf base (by simp [freshN])
          let l' : Loc := ⟨w.heap.size, 0, .slice (some ⟨w.heap.size, 0, none⟩) xs.length xs.length⟩
          let μ' : Mu := fun n => if n = base then some l' else μ n
          have hext : Ext μ μ' := fun n l hl => by
            by_cases hn : n = base
            · subst hn; rw [hb] at hl; cases hl
            · simp [μ', hn, hl]
          refine ⟨_, _, μ', _, hrun, hk, { ext := hext, dom := fun n l hl => ?_, val := ⟨l', _, by simp [μ'], rfl, rfl, fun _ => rfl, Nat.le_refl _, by simp only [maxLen]; omega⟩, os := rfl, tape := rfl, output := rfl, size := by simp, keep := fun x hx _ => (by first | exact heap_alloc_old w _ x hx | exact heap_alloc_old w _ hx), wrs := List.nodup_nil, wsl := rfl, nsl := by simp, olds := fun j n b' h => (by simp at h), news := fun j b hj => ?_, newsApart := fun j k b c l m x hne hj hk' => ?_ }⟩
          · by_cases hn : n = base
            · right; simp [freshN, hn]
            · left; simpa [μ', hn] using hl
          · match j, hj with
            | 0, hj =>
              simp at hj
              subst hj
              refine ⟨l', by simp [μ'], ⟨el, _, xs.length, valsI k xs, rfl, Nat.le_refl _, by simp only [maxLen]; omega, by simp [valsI_len], fun hc => ⟨rfl, _, heap_alloc_new w _, by simp [l', valsI_len], fun x hx => by simp [l']⟩, fun i hi' => ⟨rfl, fun j c hc => ?_⟩⟩, fun x hx => ?_⟩
              · match j, hc with
                | 0, hc =>
                  simp [intsF] at hc
                  subst hc
                  exact ⟨_, by simpa using valsI_get k xs i hi', by simp [SC.ok, List.getD_eq_getElem?_getD]⟩
                | j + 1, hc => simp [intsF] at hc
              · left
                have h1 : l'.b = x := hx.2
                simp [l'] at h1
                omega
            | j + 1, hj => simp at hj
          · match j, k, hj, hk' with
            | 0, 0, _, _ => exact absurd rfl hne
            | j + 1, _, hj, _ => simp at hj
            | 0, k + 1, _, hk' => simp at hk'
        · exact hk.elim
      · exact hk.elim
    · exact hk.elim
  · exact hk.elim

/-! ### bytes as a string -/
def strOf (L : List Int) : ByteArray := L.foldl (fun r n => r.push (UInt8.ofNat n.toNat)) ByteArray.empty
def strRow (P : Program) (s d : TypeId) (x : SV) : Bool :=
  match P.underlying s, P.underlying d with
  | some (.slice el), some .string => match P.underlying el with
    | some (.int .u8) => rowS x
    | _ => false
  | _, _ => false
def toStrReq (x : SV) : Req :=
  match dstN x with
  | [] => match srcL .u8 x none with
    | some (p, M) => ⟨[], [], fun _ => oAst p (.ret ⟨one (.str (strOf M)), [], []⟩)⟩
    | none => Req.fail
  | [b] => ⟨[b], [], fun bl => match srcL .u8 x (headO bl) with
    | some (p, M) => oAst p (.ret ⟨one (.str (strOf M)), [], []⟩)
    | none => .fail⟩
  | _ => Req.fail
theorem run_str {P : Program} {w : World} {s d : TypeId} {u : Value} {M : List Int} (el : TypeId) (hs : P.underlying s = some (.slice el)) (hd : P.underlying d = some .string) (he : P.underlying el = some (.int .u8)) (hr : ∃ a n c, u = .slice a n c) (h : Src P 1 s u M.length (valsI .u8 M) w) :
    (convert s d u).run P w = .ok (.string (strOf M)) w := by
  obtain ⟨a, n, c, rfl⟩ := hr
  rw [run_convert_bytes_string w s d el a n c hs he hd]
  have hn : n = M.length := by
    have := h.len w
    simpa [Builtin.lenOf] using this
  subst hn
  have hc := h.cells
  cases a with
  | none =>
    simp [Builtin.firstCells] at hc
    have : M = [] := by
      have h0 : (valsI .u8 M).length = 0 := by
        cases hv : valsI .u8 M with
        | nil => rfl
        | cons a l => rw [hv] at hc; simp at hc
      rw [valsI_len] at h0
      exact List.eq_nil_of_length_eq_zero h0
    subst this
    rfl
  | some a =>
    have hl : (loadCells a M.length).run P w = .ok (M.map (Value.int .u8)).toArray w := by
      simpa [Builtin.firstCells, valsI] using hc
    exact run_bytesToString w a M.length c M hl
theorem toStr_ok {P : Program} {μ : Mu} {h : Nat → Option Blk} {w : World} {base : Nat} {s d : TypeId} {x : SV} {u : Value} (hc : strRow P s d x = true) (hm : HeapM μ h w) (hx : x.ok μ u) :
    Snd P μ h w base (toStrReq x) (convert s d u) := by
  intro K hk
  unfold strRow at hc
  split at hc
  · rename_i el hs hd
    split at hc
    · rename_i he
      have hr := rowS_ok hc hx
      unfold toStrReq at hk ⊢
      split at hk
      · rename_i hn
        split at hk
        · rename_i p M hM
          obtain ⟨hp, hk⟩ := oAst_ok hk
          exact ⟨_, w, μ, _, run_str el hs hd he hr (src_ok hs hm hx (.inl rfl) hM hp), hk, Eff.pure rfl⟩
        · exact hk.elim
      · rename_i b hn
        simp only [Req.pre, List.append_nil] at hk
        split at hk
        · rename_i p M hM
          obtain ⟨hp, hk⟩ := oAst_ok hk
          exact ⟨_, w, μ, _, run_str el hs hd he hr (src_ok hs hm hx (.inr ⟨b, hn, rfl⟩) hM hp), hk, Eff.pure rfl⟩
        · exact hk.elim
      · exact hk.elim
    · cases hc
  · cases hc
/-! ### a row of noughts -/
def zeroI (k : IntKind) (z : Option Value) : Bool :=
  match z with
  | some (.int k' n) => k' == k && n == 0
  | _ => false
theorem zeroI_ok {k : IntKind} {z : Option Value} (h : zeroI k z = true) : z = some (.int k 0) := by
  unfold zeroI at h
  split at h
  · simp at h
    obtain ⟨rfl, rfl⟩ := h
    rfl
  · cases h
theorem Eff.row {P : Program} {μ : Mu} {h : Nat → Option Blk} {w : World} {base : Nat} {k : IntKind} {el : TypeId} {xs : List Int} (hf : ∀ n ∈ freshN base, μ n = none) (hle : xs.length ≤ maxLen) (q : Bool) :
    ∃ μ', Eff μ μ' h w base [] ⟨one (.own base xs.length xs.length q), [], [.oints k xs]⟩ (.slice (some ⟨w.heap.size, 0, none⟩) xs.length xs.length) (w.alloc (.cells (valsI k xs).toArray el)) := by
  have hb : μ base = none := hf base (by simp [freshN])
  let l' : Loc := ⟨w.heap.size, 0, .slice (some ⟨w.heap.size, 0, none⟩) xs.length xs.length⟩
  let μ' : Mu := fun n => if n = base then some l' else μ n
  have hext : Ext μ μ' := fun n l hl => by
    by_cases hn : n = base
    · subst hn; rw [hb] at hl; cases hl
    · simp [μ', hn, hl]
  refine ⟨μ', { ext := hext, dom := fun n l hl => ?_, val := ⟨l', _, by simp [μ'], rfl, rfl, fun _ => rfl, Nat.le_refl _, hle⟩, os := rfl, tape := rfl, output := rfl, size := by simp, keep := fun x hx _ => (by first | exact heap_alloc_old w _ x hx | exact heap_alloc_old w _ hx), wrs := List.nodup_nil, wsl := rfl, nsl := by simp, olds := fun j n b' h => (by simp at h), news := fun j b hj => ?_, newsApart := fun j k b c l m x hne hj hk' => ?_ }⟩
  · by_cases hn : n = base
    · right; simp [freshN, hn]
    · left; simpa [μ', hn] using hl
  · match j, hj with
    | 0, hj =>
      simp at hj
      subst hj
      refine ⟨l', by simp [μ'], ⟨el, _, xs.length, valsI k xs, rfl, Nat.le_refl _, hle, by simp [valsI_len], fun hc => ⟨rfl, _, heap_alloc_new w _, by simp [l', valsI_len], fun x hx => by simp [l']⟩, fun i hi' => ⟨rfl, fun j c hc => ?_⟩⟩, fun x hx => ?_⟩
      · match j, hc with
        | 0, hc =>
          simp [intsF] at hc
          subst hc
          exact ⟨_, by simpa using valsI_get k xs i hi', by simp [SC.ok, List.getD_eq_getElem?_getD]⟩
        | j + 1, hc => simp [intsF] at hc
      · left
        have h1 : l'.b = x := hx.2
        simp [l'] at h1
        omega
    | j + 1, hj => simp at hj
  · match j, k, hj, hk' with
    | 0, 0, _, _ => exact absurd rfl hne
    | j + 1, _, hj, _ => simp at hj
    | 0, k + 1, _, hk' => simp at hk'
def msReq (P : Program) (base : Nat) (t : TypeId) (x y : SV) : Req :=
  match P.underlying t with
  | some (.slice el) => match P.info? el, P.underlying el with
    | some inf, some (.int k) => match x.int?, y.int? with
      | some (_, n, _), some (_, m, _) => if (inf.size == 1 && decide (inf.bytes ≤ 64)) && zeroI k inf.zero then ⟨[], [], fun _ => .ast ((0 ≤ n ∧ n ≤ 1000) ∧ m = n) (.ret ⟨one (.own base n.toNat n.toNat true), [], [.oints k (List.replicate n.toNat 0)]⟩)⟩ else Req.fail
      | _, _ => Req.fail
    | _, _ => Req.fail
  | _ => Req.fail
theorem ms_ok {P : Program} {μ : Mu} {h : Nat → Option Blk} {w : World} {base : Nat} {t : TypeId} {x y : SV} {u v : Value} (hf : ∀ n ∈ freshN base, μ n = none) (hx : x.ok μ u) (hy : y.ok μ v) :
    Snd P μ h w base (msReq P base t x y) (Instr.makeSlice t u v) := by
  intro K hk
  unfold msReq at hk ⊢
  split at hk
  · rename_i el hu
    split at hk
    · rename_i inf k hi hk0
      split at hk
      · rename_i k1 n q1 k2 m q2 h1 h2
        obtain rfl := SV.int_ok h1 hx
        obtain rfl := SV.int_ok h2 hy
        split at hk
        · rename_i hc
          have hc2 := hc
          simp only [Bool.and_eq_true, beq_iff_eq, decide_eq_true_eq] at hc
          obtain ⟨⟨hs1, hby⟩, hz⟩ := hc
          have hz' := zeroI_ok hz
          rw [if_pos hc2]
          obtain ⟨⟨⟨⟨h0, hle⟩, rfl⟩⟩, hk⟩ := hk
          have hmul : (inf.bytes : Int) * m ≤ 281474976710656 := by
            have : (inf.bytes : Int) * m ≤ 64 * 1000 := Int.mul_le_mul (by omega) hle h0 (by omega)
            omega
          have hr := run_make (P := P) w t el inf _ hu hi hz' k1 k2 m m h0 (Int.le_refl _) hmul (by omega)
          have hcells : madeCells (Value.int k 0).cells (m.toNat * inf.size) = (valsI k (List.replicate m.toNat 0)).toArray := by
            apply Array.ext
            · simp [madeCells, valsI, hs1]
            · intro i hi1 hi2
              simp [madeCells, valsI, Value.cells, Nat.mod_one]
          rw [hcells] at hr
          have hl : (List.replicate m.toNat (0 : Int)).length = m.toNat := by simp
          obtain ⟨μ', he⟩ := Eff.row (P := P) (h := h) (w := w) (k := k) (el := el) (xs := List.replicate m.toNat 0) hf (by rw [hl]; simp only [maxLen]; omega) true
          rw [hl] at he
          exact ⟨_, _, μ', _, hr, hk, he⟩
        · exact hk.elim
      · exact hk.elim
    · exact hk.elim
  · exact hk.elim
end Go.Proofs.Ytplpmnippkkkkaa.Sx
