/- RefsKnown, RefsSays, RefsPlays, RefsFit: proved. No condition. -/
import Derived.Test.YtpbcnhkdknmgjaaHead
import Derived.Test.YtpbcnhkdknmgjaaSxRf5
namespace Go.Proofs.Ytpbcnhkdknmgjaa
open Go.ChangeShapes Go.WideShapes Go.ChangeAt Go.RowKit
set_option linter.unusedVariables false
set_option linter.unusedSimpArgs false

namespace Args
theorem open_row {H : Type} {enc : TypeId × Value → H} {P : Program} {w : World} {r : Reach} {b0 : Nat} {t e : TypeId} {k : IntKind} {v : Value} {d : DataW H} {p : List MemPlace} (ht : P.underlying t = some (.slice e)) (he : P.underlying e = some (.int k))
    (hC : P.cellsOf e = 1) (hv : Value.okWide P w r b0 t v) (h : DataW.Trod enc P w 0 (fun _ => true) true t v d p) :
    ∃ (L : List Int) (c : Nat) (a : Option Addr), v = .slice a L.length c ∧ L.length ≤ c ∧ c ≤ maxLen ∧ (0 < c → ∃ b off, a = some ⟨b, off, none⟩ ∧ ∀ i, i < L.length → w.cell? ⟨b, off + i, none⟩ = some (.int k (L.getD i 0))) ∧
      (∀ x ∈ L, (Lit.int k x).wf = true) ∧ (L = [] ∨ ∃ elems spare, d = .slice elems spare ∧ elems.length = L.length) := by
  rcases slice_addr ht hv with rfl | ⟨b, off, len, cap, rfl⟩
  · exact ⟨[], 0, none, rfl, Nat.le_refl _, Nat.zero_le _, fun h => (by omega), fun x hx => (by cases hx), .inl rfl⟩
  obtain ⟨fuel, hf⟩ := h
  rcases Go.Deep.open_slice1 ht hC hf with ⟨hcs, _⟩ | ⟨a, len', cap', m, n, V, D, Pl, hcs, _, hl, hm, hmm, hx, hi⟩
  · simp [Value.cells] at hcs
  · simp [Value.cells] at hcs
    obtain ⟨ha, rfl, rfl⟩ := hcs
    obtain ⟨X, hX⟩ := Go.Deep.choose_lt (n := len) (p := fun i x => w.cell? ⟨b, off + i, none⟩ = some (.int k x) ∧ (Lit.int k x).wf = true) (fun i hil => by
      obtain ⟨h1, h2⟩ := hi i (by simp at hmm; omega)
      obtain ⟨x, hx, _, hw⟩ := DataW.trod_int he h2
      simp at hx
      rw [hx, ← ha, add_plain] at h1
      exact ⟨x, h1, hw⟩)
    have hlen : ((List.range len).map X).length = len := by simp
    refine ⟨(List.range len).map X, cap, some ⟨b, off, none⟩, by rw [hlen], by rw [hlen]; exact hl, hm, fun _ => ⟨b, off, rfl, fun i hi' => ?_⟩, fun x hx => ?_, .inr ?_⟩
    · rw [hlen] at hi'
      rw [(hX i hi').1]
      simp [List.getD_eq_getElem?_getD, hi']
    · obtain ⟨i, hi', rfl⟩ := List.mem_map.1 hx
      exact (hX i (by simpa using hi')).2
    · simp only [Prod.mk.injEq] at hx
      exact ⟨_, _, hx.1, by simp⟩
end Args
set_option maxRecDepth 100000 in
theorem knownR_calls (w : World) : Calls Try.prog 3 #[] w fun x w' => x = .returned (.bool true) ∧ Below w.heap.size w w' :=
  Sx.Con1.law Sx.envV_ok Sx.mixed Try.func3 rfl Sx.okC (L := []) (R := []) Sx.known_vc (vals := []) (w := w) (μ := Sx.noMu) trivial (Sx.noHeap _ w) (fun n l h => (by cases h)) (fun n b l x h _ => (by cases h)) (fun rs h => h)
set_option maxRecDepth 100000 in
theorem saysR_calls (v : Int) (L M : List Int) (c d : Nat) (a e : Option Addr) (w : World) (hl : L.length ≤ c) (hm : c ≤ maxLen) (h : Sx.RowAt .u16 L c a w) (hl2 : M.length ≤ d) (hm2 : d ≤ maxLen) (h2 : Sx.RowAt .i64 M d e w) :
    Calls Try.prog 4 #[.slice a L.length c, .int .u16 v, .slice e M.length d] w fun x w' => x = .returned (.bool true) ∧ Below w.heap.size w w' := by
  obtain ⟨μ, hM, hd, hs, hs2⟩ := Sx.two_heap hl hm h hl2 hm2 h2
  exact Sx.Con1.law Sx.envV_ok Sx.mixed Try.func4 rfl Sx.saysC (L := [.I v]) (R := [⟨L, c⟩, ⟨M, d⟩]) (Sx.says_vc v L c M d) (vals := [.slice a L.length c, .int .u16 v, .slice e M.length d]) (w := w) (μ := μ) ⟨hs, rfl, hs2, trivial⟩ hM hd Sx.two_excl (fun rs h => h)
set_option maxRecDepth 100000 in
theorem playsR_calls (L : List Int) (c : Nat) (a : Option Addr) (w : World) (hl : L.length ≤ c) (hm : c ≤ maxLen) (h : Sx.RowAt .u16 L c a w) :
    Calls Try.prog 5 #[.slice a L.length c] w fun x w' => x = .returned (.bool true) ∧ Below w.heap.size w w' := by
  obtain ⟨μ, hM, hd, hs⟩ := Sx.row_heap hl hm h
  exact Sx.Con1.law Sx.envV_ok Sx.mixed Try.func5 rfl Sx.playsC (L := []) (R := [⟨L, c⟩]) (Sx.plays_vc L c) (vals := [.slice a L.length c]) (w := w) (μ := μ) ⟨hs, trivial⟩ hM hd Sx.row_excl (fun rs h => h)
set_option maxRecDepth 100000 in
theorem fitR_calls (v m : Int) (L M : List Int) (c d : Nat) (a e : Option Addr) (w : World) (m0 : 0 ≤ m) (hM' : ∀ x ∈ M, 0 ≤ x ∧ x ≤ 65535) (hl : L.length ≤ c) (hm : c ≤ maxLen) (h : Sx.RowAt .u16 L c a w) (hl2 : M.length ≤ d) (hm2 : d ≤ maxLen) (h2 : Sx.RowAt .u16 M d e w) :
    Calls Try.prog 6 #[.slice a L.length c, .int .u16 v, .slice e M.length d, .int .u16 m] w fun x w' => x = .returned (.bool true) ∧ Below w.heap.size w w' := by
  obtain ⟨μ, hM, hd, hs, hs2⟩ := Sx.two_heap hl hm h hl2 hm2 h2
  exact Sx.Con1.law Sx.envV_ok Sx.mixed Try.func6 rfl Sx.fitLC (L := [.I v, .I m]) (R := [⟨L, c⟩, ⟨M, d⟩]) (Sx.fitL_vc v m L c M d m0 hM') (vals := [.slice a L.length c, .int .u16 v, .slice e M.length d, .int .u16 m]) (w := w) (μ := μ) ⟨hs, rfl, hs2, rfl, trivial⟩ hM hd Sx.two_excl (fun rs h => h)

set_option maxRecDepth 100000 in
theorem refsKnown_lifted (os : Os) (started : os.Started) (H : Type) (enc : TypeId × Value → H) :
    ReturnsInHanded {} Try.checked os 3 .any (Rows.refsKnownSpec.pre6 enc Try.prog Try.f3 Rows.refsKnownRow.domain false) (Rows.refsKnownSpec.post enc Try.prog Try.f3 false true false false) := by
  refine returnsInHanded_of_change (C := Try.checked) Try.own started (by kernel_rfl) Try.func3
    (ChangeSpec.witness6 (enc := enc) (C := Try.checked) false ⟨#[], #[], []⟩ 8 (by kernel_rfl) (by kernel_rfl) (by kernel_rfl) (by kernel_rfl)) ?_
  intro W base args ds gs before hval0 hW _ _
  have hval : ∀ (j : Nat) t v, Try.f3.params[j]? = some t → args[j]? = some v → Value.okWide Try.prog W .any base t v := hval0
  clear hval0
  obtain ⟨p, q, hA0, hV, _, hfz, _⟩ := id hW
  have hA : DataW.TrodAll enc Try.prog W 0 (fun _ => true) true Try.f3.params.toList args.toList ds p := hA0
  rw [Try.params3] at hA hval
  obtain ⟨rfl, rfl, rfl⟩ := trodAll_none hA
  obtain ⟨rfl, rfl⟩ := trodVars_none hV
  clear hA hA0
  refine (knownR_calls W).mono fun e W' ⟨he, hw⟩ => ?_
  subst he
  exact ⟨_, rfl, Frame.law_post hW rfl Try.laidOut (by kernel_rfl) rfl Try.underlying4 rfl rfl rfl hw⟩

theorem refsKnown_holds : Rows.RefsKnownSaid :=
  OpenClaim.holds_of_wide 3 Try.f3 rfl rfl rfl rfl rfl rfl rfl ⟨rfl, rfl, rfl, rfl, rfl⟩ rfl rfl rfl rfl rfl (by kernel_rfl) Try.func3 (by kernel_rfl)
    (of_decide_eq_true (by kernel_rfl)) (by unfold Func.isWrapper; first | (rw [if_pos (by decide +kernel)]; kernel_rfl) | (rw [if_neg (by decide +kernel)]; exact ⟨rfl, rfl⟩))
    (fun os started H enc _ => refsKnown_lifted os started H enc)

set_option maxRecDepth 100000 in
theorem refsSays_lifted (os : Os) (started : os.Started) (H : Type) (enc : TypeId × Value → H) :
    ReturnsInHanded {} Try.checked os 4 .any (Rows.refsSaysSpec.pre6 enc Try.prog Try.f4 Rows.refsSaysRow.domain false) (Rows.refsSaysSpec.post enc Try.prog Try.f4 false true false false) := by
  refine returnsInHanded_of_change (C := Try.checked) Try.own started (by kernel_rfl) Try.func4
    (ChangeSpec.witness6 (enc := enc) (C := Try.checked) false ⟨#[], #[Value.slice none 0 0, Value.int .u16 0, Value.slice none 0 0], []⟩ 8 (by kernel_rfl) (by kernel_rfl) (by kernel_rfl) (by kernel_rfl)) ?_
  intro W base args ds gs before hval0 hW _ _
  have hval : ∀ (j : Nat) t v, Try.f4.params[j]? = some t → args[j]? = some v → Value.okWide Try.prog W .any base t v := hval0
  clear hval0
  obtain ⟨p, q, hA0, hV, _, hfz, _⟩ := id hW
  have hA : DataW.TrodAll enc Try.prog W 0 (fun _ => true) true Try.f4.params.toList args.toList ds p := hA0
  rw [Try.params4] at hA hval
  obtain ⟨v0, vs0, d0, ds0, p0, q0, hargs, rfl, rfl, h0, r0⟩ := trodAll_cons hA
  obtain ⟨v1, vs1, d1, ds1, p1, q1, rfl, rfl, rfl, h1, r1⟩ := trodAll_cons r0
  obtain ⟨v2, vs2, d2, ds2, p2, q2, rfl, rfl, rfl, h2, r2⟩ := trodAll_cons r1
  obtain ⟨rfl, rfl, rfl⟩ := trodAll_nil r2
  obtain rfl : args = #[v0, v1, v2] := by cases args; simp_all
  obtain ⟨rfl, rfl⟩ := trodVars_none hV
  obtain ⟨L0, c0, ad0, rfl, hl0, hm0, hr0, hw0, hd0⟩ := Args.open_row Try.underlying23 Try.underlying25 (by kernel_rfl) (hval 0 23 v0 rfl rfl) h0
  obtain ⟨a1, rfl, rfl, rfl, w1⟩ := open_int Try.underlying25 (hval 1 25 v1 rfl rfl) h1
  obtain ⟨L2, c2, ad2, rfl, hl2, hm2, hr2, hw2, hd2⟩ := Args.open_row Try.underlying27 Try.underlying3 (by kernel_rfl) (hval 2 27 v2 rfl rfl) h2
  clear hA hA0
  refine (saysR_calls a1 L0 L2 c0 c2 ad0 ad2 W hl0 hm0 hr0 hl2 hm2 hr2).mono fun e W' ⟨he, hw⟩ => ?_
  subst he
  exact ⟨_, rfl, Frame.law_post hW rfl Try.laidOut (by kernel_rfl) rfl Try.underlying4 rfl rfl rfl hw⟩

theorem refsSays_holds : Rows.RefsSaysSaid :=
  OpenClaim.holds_of_wide 4 Try.f4 rfl rfl rfl rfl rfl rfl rfl ⟨rfl, rfl, rfl, rfl, rfl⟩ rfl rfl rfl rfl rfl (by kernel_rfl) Try.func4 (by kernel_rfl)
    (of_decide_eq_true (by kernel_rfl)) (by unfold Func.isWrapper; first | (rw [if_pos (by decide +kernel)]; kernel_rfl) | (rw [if_neg (by decide +kernel)]; exact ⟨rfl, rfl⟩))
    (fun os started H enc _ => refsSays_lifted os started H enc)

set_option maxRecDepth 100000 in
theorem refsPlays_lifted (os : Os) (started : os.Started) (H : Type) (enc : TypeId × Value → H) :
    ReturnsInHanded {} Try.checked os 5 .any (Rows.refsPlaysSpec.pre6 enc Try.prog Try.f5 Rows.refsPlaysRow.domain false) (Rows.refsPlaysSpec.post enc Try.prog Try.f5 false true false false) := by
  refine returnsInHanded_of_change (C := Try.checked) Try.own started (by kernel_rfl) Try.func5
    (ChangeSpec.witness6 (enc := enc) (C := Try.checked) false ⟨#[], #[Value.slice none 0 0], []⟩ 8 (by kernel_rfl) (by kernel_rfl) (by kernel_rfl) (by kernel_rfl)) ?_
  intro W base args ds gs before hval0 hW _ _
  have hval : ∀ (j : Nat) t v, Try.f5.params[j]? = some t → args[j]? = some v → Value.okWide Try.prog W .any base t v := hval0
  clear hval0
  obtain ⟨p, q, hA0, hV, _, hfz, _⟩ := id hW
  have hA : DataW.TrodAll enc Try.prog W 0 (fun _ => true) true Try.f5.params.toList args.toList ds p := hA0
  rw [Try.params5] at hA hval
  obtain ⟨v0, vs0, d0, ds0, p0, q0, hargs, rfl, rfl, h0, r0⟩ := trodAll_cons hA
  obtain ⟨rfl, rfl, rfl⟩ := trodAll_nil r0
  obtain rfl : args = #[v0] := by cases args; simp_all
  obtain ⟨rfl, rfl⟩ := trodVars_none hV
  obtain ⟨L0, c0, ad0, rfl, hl0, hm0, hr0, hw0, hd0⟩ := Args.open_row Try.underlying23 Try.underlying25 (by kernel_rfl) (hval 0 23 v0 rfl rfl) h0
  clear hA hA0
  refine (playsR_calls L0 c0 ad0 W hl0 hm0 hr0).mono fun e W' ⟨he, hw⟩ => ?_
  subst he
  exact ⟨_, rfl, Frame.law_post hW rfl Try.laidOut (by kernel_rfl) rfl Try.underlying4 rfl rfl rfl hw⟩

theorem refsPlays_holds : Rows.RefsPlaysSaid :=
  OpenClaim.holds_of_wide 5 Try.f5 rfl rfl rfl rfl rfl rfl rfl ⟨rfl, rfl, rfl, rfl, rfl⟩ rfl rfl rfl rfl rfl (by kernel_rfl) Try.func5 (by kernel_rfl)
    (of_decide_eq_true (by kernel_rfl)) (by unfold Func.isWrapper; first | (rw [if_pos (by decide +kernel)]; kernel_rfl) | (rw [if_neg (by decide +kernel)]; exact ⟨rfl, rfl⟩))
    (fun os started H enc _ => refsPlays_lifted os started H enc)

set_option maxRecDepth 100000 in
theorem refsFit_lifted (os : Os) (started : os.Started) (H : Type) (enc : TypeId × Value → H) :
    ReturnsInHanded {} Try.checked os 6 .any (Rows.refsFitSpec.pre6 enc Try.prog Try.f6 Rows.refsFitRow.domain false) (Rows.refsFitSpec.post enc Try.prog Try.f6 false true false false) := by
  refine returnsInHanded_of_change (C := Try.checked) Try.own started (by kernel_rfl) Try.func6
    (ChangeSpec.witness6 (enc := enc) (C := Try.checked) false ⟨#[], #[Value.slice none 0 0, Value.int .u16 0, Value.slice none 0 0, Value.int .u16 0], []⟩ 8 (by kernel_rfl) (by kernel_rfl) (by kernel_rfl) (by kernel_rfl)) ?_
  intro W base args ds gs before hval0 hW _ _
  have hval : ∀ (j : Nat) t v, Try.f6.params[j]? = some t → args[j]? = some v → Value.okWide Try.prog W .any base t v := hval0
  clear hval0
  obtain ⟨p, q, hA0, hV, _, hfz, _⟩ := id hW
  have hA : DataW.TrodAll enc Try.prog W 0 (fun _ => true) true Try.f6.params.toList args.toList ds p := hA0
  rw [Try.params6] at hA hval
  obtain ⟨v0, vs0, d0, ds0, p0, q0, hargs, rfl, rfl, h0, r0⟩ := trodAll_cons hA
  obtain ⟨v1, vs1, d1, ds1, p1, q1, rfl, rfl, rfl, h1, r1⟩ := trodAll_cons r0
  obtain ⟨v2, vs2, d2, ds2, p2, q2, rfl, rfl, rfl, h2, r2⟩ := trodAll_cons r1
  obtain ⟨v3, vs3, d3, ds3, p3, q3, rfl, rfl, rfl, h3, r3⟩ := trodAll_cons r2
  obtain ⟨rfl, rfl, rfl⟩ := trodAll_nil r3
  obtain rfl : args = #[v0, v1, v2, v3] := by cases args; simp_all
  obtain ⟨rfl, rfl⟩ := trodVars_none hV
  obtain ⟨L0, c0, ad0, rfl, hl0, hm0, hr0, hw0, hd0⟩ := Args.open_row Try.underlying23 Try.underlying25 (by kernel_rfl) (hval 0 23 v0 rfl rfl) h0
  obtain ⟨a1, rfl, rfl, rfl, w1⟩ := open_int Try.underlying25 (hval 1 25 v1 rfl rfl) h1
  obtain ⟨L2, c2, ad2, rfl, hl2, hm2, hr2, hw2, hd2⟩ := Args.open_row Try.underlying23 Try.underlying25 (by kernel_rfl) (hval 2 23 v2 rfl rfl) h2
  obtain ⟨a3, rfl, rfl, rfl, w3⟩ := open_int Try.underlying25 (hval 3 25 v3 rfl rfl) h3
  clear hA hA0
  refine (fitR_calls a1 a3 L0 L2 c0 c2 ad0 ad2 W (bounds_u16 w3).1 (fun x hx => bounds_u16 (hw2 x hx)) hl0 hm0 hr0 hl2 hm2 hr2).mono fun e W' ⟨he, hw⟩ => ?_
  subst he
  exact ⟨_, rfl, Frame.law_post hW rfl Try.laidOut (by kernel_rfl) rfl Try.underlying4 rfl rfl rfl hw⟩

theorem refsFit_holds : Rows.RefsFitSaid :=
  OpenClaim.holds_of_wide 6 Try.f6 rfl rfl rfl rfl rfl rfl rfl ⟨rfl, rfl, rfl, rfl, rfl⟩ rfl rfl rfl rfl rfl (by kernel_rfl) Try.func6 (by kernel_rfl)
    (of_decide_eq_true (by kernel_rfl)) (by unfold Func.isWrapper; first | (rw [if_pos (by decide +kernel)]; kernel_rfl) | (rw [if_neg (by decide +kernel)]; exact ⟨rfl, rfl⟩))
    (fun os started H enc _ => refsFit_lifted os started H enc)

end Go.Proofs.Ytpbcnhkdknmgjaa
