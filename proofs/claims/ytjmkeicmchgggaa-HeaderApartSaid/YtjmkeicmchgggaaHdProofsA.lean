/- HeaderKnown, HeaderSays, HeaderApart, HeaderBack: proved. No condition. -/
import Derived.Test.YtjmkeicmchgggaaHead
import Derived.SizedLaws
import Derived.Test.YtjmkeicmchgggaaSxHd7
namespace Go.Proofs.Ytjmkeicmchgggaa
open Go.ChangeShapes Go.WideShapes Go.ChangeAt Go.RowKit
set_option linter.unusedVariables false
set_option linter.unusedSimpArgs false

namespace Args
theorem open_row {H : Type} {enc : TypeId × Value → H} {P : Program} {w : World} {r : Reach} {b0 : Nat} {t e : TypeId} {k : IntKind} {v : Value} {d : DataW H} {p : List MemPlace} (ht : P.underlying t = some (.slice e)) (he : P.underlying e = some (.int k))
    (hC : P.cellsOf e = 1) (hv : Value.okWide P w r b0 t v) (h : DataW.Trod enc P w 0 (fun _ => true) true t v d p) :
    ∃ (L : List Int) (c : Nat) (a : Option Addr), v = .slice a L.length c ∧ L.length ≤ c ∧ c ≤ maxLen ∧ (0 < c → ∃ b off, a = some ⟨b, off, none⟩ ∧ ∀ i, i < L.length → w.cell? ⟨b, off + i, none⟩ = some (.int k (L.getD i 0))) ∧
      (∀ x ∈ L, (Lit.int k x).wf = true) ∧ (L = [] ∨ ∃ elems spare, d = .slice elems spare ∧ elems.length = L.length) := by
  rcases slice_addr ht hv with rfl | ⟨b, off, len, cap, rfl⟩
  · exact ⟨[], 0, none, rfl, Nat.le_refl _, Nat.zero_le _, fun h => (by omega), fun x hx => (by cases hx), .inl rfl⟩
  obtain ⟨fuel, hf⟩ := h
  rcases Go.Deep.open_slice1 ht hC hf with ⟨hcs, _⟩ | ⟨a, len', cap', m, n, V, D, Pl, hcs, _, hl, hm, hmm, hx, hi⟩
  · simp [Value.cells] at hcs
  · simp [Value.cells] at hcs
    obtain ⟨ha, rfl, rfl⟩ := hcs
    obtain ⟨X, hX⟩ := Go.Deep.choose_lt (n := len) (p := fun i x => w.cell? ⟨b, off + i, none⟩ = some (.int k x) ∧ (Lit.int k x).wf = true) (fun i hil => by
      obtain ⟨h1, h2⟩ := hi i (by simp at hmm; omega)
      obtain ⟨x, hx, _, hw⟩ := DataW.trod_int he h2
      simp at hx
      rw [hx, ← ha, add_plain] at h1
      exact ⟨x, h1, hw⟩)
    have hlen : ((List.range len).map X).length = len := by simp
    refine ⟨(List.range len).map X, cap, some ⟨b, off, none⟩, by rw [hlen], by rw [hlen]; exact hl, hm, fun _ => ⟨b, off, rfl, fun i hi' => ?_⟩, fun x hx => ?_, .inr ?_⟩
    · rw [hlen] at hi'
      rw [(hX i hi').1]
      simp [List.getD_eq_getElem?_getD, hi']
    · obtain ⟨i, hi', rfl⟩ := List.mem_map.1 hx
      exact (hX i (by simpa using hi')).2
    · simp only [Prod.mk.injEq] at hx
      exact ⟨_, _, hx.1, by simp⟩
end Args
theorem byt_wf {L : List Int} (h : ∀ x ∈ L, (Lit.int .u8 x).wf = true) : Byt L := fun x hx => by have := bounds_u8 (h x hx); omega

set_option maxRecDepth 100000 in
theorem knownH_calls (w : World) : Calls Try.prog 3 #[] w fun x w' => x = .returned (.bool true) ∧ Below w.heap.size w w' :=
  Sx.Con1.law Sx.envH3_ok Sx.mixed Try.func3 rfl Sx.okC (L := []) (R := []) Sx.knownH_vc (vals := []) (w := w) (μ := Sx.noMu) trivial (Sx.noHeap _ w) (fun n l h => (by cases h)) (fun n b l x h _ => (by cases h)) (fun rs h => h)
set_option maxRecDepth 100000 in
theorem saysH_calls (x y : Int) (L : List Int) (c : Nat) (a : Option Addr) (w : World) (x0 : 0 ≤ x) (x1 : x < 18446744073709551616) (y0 : 0 ≤ y) (y1 : y < 18446744073709551616) (hL : Byt L) (hl : L.length ≤ c) (hm : c ≤ maxLen) (h : 0 < c → ∃ b off, a = some ⟨b, off, none⟩ ∧ ∀ i, i < L.length → w.cell? ⟨b, off + i, none⟩ = some (.int .u8 (L.getD i 0))) :
    Calls Try.prog 4 #[.int .u64 x, .int .u64 y, .slice a L.length c] w fun x w' => x = .returned (.bool true) ∧ Below w.heap.size w w' := by
  obtain ⟨μ, hM, hd, hs⟩ := Sx.row_heap hl hm h
  exact Sx.Con1.law Sx.envH3_ok Sx.mixed Try.func4 rfl Sx.saysC (L := [.I x, .I y]) (R := [⟨L, c⟩]) (Sx.saysH_vc x y L c x0 x1 y0 y1 hL) (vals := [.int .u64 x, .int .u64 y, .slice a L.length c]) (w := w) (μ := μ) ⟨rfl, rfl, hs, trivial⟩ hM hd Sx.row_excl (fun rs h => h)
set_option maxRecDepth 100000 in
theorem backH_calls (x y z : Int) (L : List Int) (c : Nat) (a : Option Addr) (w : World) (x0 : 0 ≤ x) (x1 : x < 18446744073709551616) (y0 : 0 ≤ y) (y1 : y < 18446744073709551616) (z0 : 0 ≤ z) (z1 : z < 256) (hL : Byt L) (hb : L.length ≤ 140737488351232) (hl : L.length ≤ c) (hm : c ≤ maxLen) (h : 0 < c → ∃ b off, a = some ⟨b, off, none⟩ ∧ ∀ i, i < L.length → w.cell? ⟨b, off + i, none⟩ = some (.int .u8 (L.getD i 0))) :
    Calls Try.prog 5 #[.int .u64 x, .int .u64 y, .slice a L.length c, .int .u8 z] w fun x w' => x = .returned (.bool true) ∧ Below w.heap.size w w' := by
  obtain ⟨μ, hM, hd, hs⟩ := Sx.row_heap hl hm h
  exact Sx.Con1.law Sx.envH3_ok Sx.mixed Try.func5 rfl Sx.backC (L := [.I x, .I y, .I z]) (R := [⟨L, c⟩]) (Sx.backH_vc x y z L c x0 x1 y0 y1 z0 z1 hL hb) (vals := [.int .u64 x, .int .u64 y, .slice a L.length c, .int .u8 z]) (w := w) (μ := μ) ⟨rfl, rfl, hs, rfl, trivial⟩ hM hd Sx.row_excl (fun rs h => h)
set_option maxRecDepth 100000 in
theorem apartH_calls (x y x2 y2 : Int) (L : List Int) (c : Nat) (a : Option Addr) (w : World) (x0 : 0 ≤ x) (x1 : x < 18446744073709551616) (y0 : 0 ≤ y) (y1 : y < 18446744073709551616) (u0 : 0 ≤ x2) (u1 : x2 < 18446744073709551616) (v0 : 0 ≤ y2) (v1 : y2 < 18446744073709551616) (hL : Byt L) (hl : L.length ≤ c) (hm : c ≤ maxLen) (h : 0 < c → ∃ b off, a = some ⟨b, off, none⟩ ∧ ∀ i, i < L.length → w.cell? ⟨b, off + i, none⟩ = some (.int .u8 (L.getD i 0))) :
    Calls Try.prog 6 #[.int .u64 x, .int .u64 y, .int .u64 x2, .int .u64 y2, .slice a L.length c] w fun x w' => x = .returned (.bool true) ∧ Below w.heap.size w w' := by
  obtain ⟨μ, hM, hd, hs⟩ := Sx.row_heap hl hm h
  exact Sx.Con1.law Sx.envH3_ok Sx.mixed Try.func6 rfl Sx.apartC (L := [.I x, .I y, .I x2, .I y2]) (R := [⟨L, c⟩]) (Sx.apartH_vc x y x2 y2 L c x0 x1 y0 y1 u0 u1 v0 v1 hL hl) (vals := [.int .u64 x, .int .u64 y, .int .u64 x2, .int .u64 y2, .slice a L.length c]) (w := w) (μ := μ) ⟨rfl, rfl, rfl, rfl, hs, trivial⟩ hM hd Sx.row_excl (fun rs h => h)
theorem lt64 {n : Int} (h : (Lit.int .u64 n).wf = true) : 0 ≤ n ∧ n < 18446744073709551616 := by have := bounds_u64 h; omega
theorem lt8 {n : Int} (h : (Lit.int .u8 n).wf = true) : 0 ≤ n ∧ n < 256 := by have := bounds_u8 h; omega

set_option maxRecDepth 100000 in
theorem headerKnown_lifted (os : Os) (started : os.Started) (H : Type) (enc : TypeId × Value → H) :
    ReturnsInHanded {} Try.checked os 3 .any (Rows.headerKnownSpec.pre6 enc Try.prog Try.f3 Rows.headerKnownRow.domain false) (Rows.headerKnownSpec.post enc Try.prog Try.f3 false true false false) := by
  refine returnsInHanded_of_change (C := Try.checked) Try.own started (by kernel_rfl) Try.func3
    (ChangeSpec.witness6 (enc := enc) (C := Try.checked) false ⟨#[], #[], []⟩ 8 (by kernel_rfl) (by kernel_rfl) (by kernel_rfl) (by kernel_rfl)) ?_
  intro W base args ds gs before hval0 hW _ _
  have hval : ∀ (j : Nat) t v, Try.f3.params[j]? = some t → args[j]? = some v → Value.okWide Try.prog W .any base t v := hval0
  clear hval0
  obtain ⟨p, q, hA0, hV, _, hfz, _⟩ := id hW
  have hA : DataW.TrodAll enc Try.prog W 0 (fun _ => true) true Try.f3.params.toList args.toList ds p := hA0
  rw [Try.params3] at hA hval
  obtain ⟨rfl, rfl, rfl⟩ := trodAll_none hA
  obtain ⟨rfl, rfl⟩ := trodVars_none hV
  clear hA hA0
  refine (knownH_calls W).mono fun e W' ⟨he, hw⟩ => ?_
  subst he
  exact ⟨_, rfl, Frame.law_post hW rfl Try.laidOut (by kernel_rfl) rfl Try.underlying4 rfl rfl rfl hw⟩

theorem headerKnown_holds : Rows.HeaderKnownSaid :=
  OpenClaim.holds_of_wide 3 Try.f3 rfl rfl rfl rfl rfl rfl rfl ⟨rfl, rfl, rfl, rfl, rfl⟩ rfl rfl rfl rfl rfl (by kernel_rfl) Try.func3 (by kernel_rfl)
    (of_decide_eq_true (by kernel_rfl)) (by unfold Func.isWrapper; first | (rw [if_pos (by decide +kernel)]; kernel_rfl) | (rw [if_neg (by decide +kernel)]; exact ⟨rfl, rfl⟩))
    (fun os started H enc _ => headerKnown_lifted os started H enc)

set_option maxRecDepth 100000 in
theorem headerSays_lifted (os : Os) (started : os.Started) (H : Type) (enc : TypeId × Value → H) :
    ReturnsInHanded {} Try.checked os 4 .any (Rows.headerSaysSpec.pre6 enc Try.prog Try.f4 Rows.headerSaysRow.domain false) (Rows.headerSaysSpec.post enc Try.prog Try.f4 false true false false) := by
  refine returnsInHanded_of_change (C := Try.checked) Try.own started (by kernel_rfl) Try.func4
    (ChangeSpec.witness6 (enc := enc) (C := Try.checked) false ⟨#[], #[Value.int .u64 0, Value.int .u64 0, Value.slice none 0 0], []⟩ 8 (by kernel_rfl) (by kernel_rfl) (by kernel_rfl) (by kernel_rfl)) ?_
  intro W base args ds gs before hval0 hW _ _
  have hval : ∀ (j : Nat) t v, Try.f4.params[j]? = some t → args[j]? = some v → Value.okWide Try.prog W .any base t v := hval0
  clear hval0
  obtain ⟨p, q, hA0, hV, _, hfz, _⟩ := id hW
  have hA : DataW.TrodAll enc Try.prog W 0 (fun _ => true) true Try.f4.params.toList args.toList ds p := hA0
  rw [Try.params4] at hA hval
  obtain ⟨v0, vs0, d0, ds0, p0, q0, hargs, rfl, rfl, h0, r0⟩ := trodAll_cons hA
  obtain ⟨v1, vs1, d1, ds1, p1, q1, rfl, rfl, rfl, h1, r1⟩ := trodAll_cons r0
  obtain ⟨v2, vs2, d2, ds2, p2, q2, rfl, rfl, rfl, h2, r2⟩ := trodAll_cons r1
  obtain ⟨rfl, rfl, rfl⟩ := trodAll_nil r2
  obtain rfl : args = #[v0, v1, v2] := by cases args; simp_all
  obtain ⟨rfl, rfl⟩ := trodVars_none hV
  obtain ⟨a0, rfl, rfl, rfl, w0⟩ := open_int Try.underlying23 (hval 0 23 v0 rfl rfl) h0
  obtain ⟨a1, rfl, rfl, rfl, w1⟩ := open_int Try.underlying23 (hval 1 23 v1 rfl rfl) h1
  obtain ⟨L2, c2, ad2, rfl, hl2, hm2, hr2, hw2, hd2⟩ := Args.open_row Try.underlying27 Try.underlying5 (by kernel_rfl) (hval 2 27 v2 rfl rfl) h2
  clear hA hA0
  refine (saysH_calls a0 a1 L2 c2 ad2 W (lt64 w0).1 (lt64 w0).2 (lt64 w1).1 (lt64 w1).2 (byt_wf hw2) hl2 hm2 hr2).mono fun e W' ⟨he, hw⟩ => ?_
  subst he
  exact ⟨_, rfl, Frame.law_post hW rfl Try.laidOut (by kernel_rfl) rfl Try.underlying4 rfl rfl rfl hw⟩

theorem headerSays_holds : Rows.HeaderSaysSaid :=
  OpenClaim.holds_of_wide 4 Try.f4 rfl rfl rfl rfl rfl rfl rfl ⟨rfl, rfl, rfl, rfl, rfl⟩ rfl rfl rfl rfl rfl (by kernel_rfl) Try.func4 (by kernel_rfl)
    (of_decide_eq_true (by kernel_rfl)) (by unfold Func.isWrapper; first | (rw [if_pos (by decide +kernel)]; kernel_rfl) | (rw [if_neg (by decide +kernel)]; exact ⟨rfl, rfl⟩))
    (fun os started H enc _ => headerSays_lifted os started H enc)

set_option maxRecDepth 100000 in
theorem headerApart_lifted (os : Os) (started : os.Started) (H : Type) (enc : TypeId × Value → H) :
    ReturnsInHanded {} Try.checked os 6 .any (Rows.headerApartSpec.pre6 enc Try.prog Try.f6 Rows.headerApartRow.domain false) (Rows.headerApartSpec.post enc Try.prog Try.f6 false true false false) := by
  refine returnsInHanded_of_change (C := Try.checked) Try.own started (by kernel_rfl) Try.func6
    (ChangeSpec.witness6 (enc := enc) (C := Try.checked) false ⟨#[], #[Value.int .u64 0, Value.int .u64 0, Value.int .u64 0, Value.int .u64 0, Value.slice none 0 0], []⟩ 8 (by kernel_rfl) (by kernel_rfl) (by kernel_rfl) (by kernel_rfl)) ?_
  intro W base args ds gs before hval0 hW _ _
  have hval : ∀ (j : Nat) t v, Try.f6.params[j]? = some t → args[j]? = some v → Value.okWide Try.prog W .any base t v := hval0
  clear hval0
  obtain ⟨p, q, hA0, hV, _, hfz, _⟩ := id hW
  have hA : DataW.TrodAll enc Try.prog W 0 (fun _ => true) true Try.f6.params.toList args.toList ds p := hA0
  rw [Try.params6] at hA hval
  obtain ⟨v0, vs0, d0, ds0, p0, q0, hargs, rfl, rfl, h0, r0⟩ := trodAll_cons hA
  obtain ⟨v1, vs1, d1, ds1, p1, q1, rfl, rfl, rfl, h1, r1⟩ := trodAll_cons r0
  obtain ⟨v2, vs2, d2, ds2, p2, q2, rfl, rfl, rfl, h2, r2⟩ := trodAll_cons r1
  obtain ⟨v3, vs3, d3, ds3, p3, q3, rfl, rfl, rfl, h3, r3⟩ := trodAll_cons r2
  obtain ⟨v4, vs4, d4, ds4, p4, q4, rfl, rfl, rfl, h4, r4⟩ := trodAll_cons r3
  obtain ⟨rfl, rfl, rfl⟩ := trodAll_nil r4
  obtain rfl : args = #[v0, v1, v2, v3, v4] := by cases args; simp_all
  obtain ⟨rfl, rfl⟩ := trodVars_none hV
  obtain ⟨a0, rfl, rfl, rfl, w0⟩ := open_int Try.underlying23 (hval 0 23 v0 rfl rfl) h0
  obtain ⟨a1, rfl, rfl, rfl, w1⟩ := open_int Try.underlying23 (hval 1 23 v1 rfl rfl) h1
  obtain ⟨a2, rfl, rfl, rfl, w2⟩ := open_int Try.underlying23 (hval 2 23 v2 rfl rfl) h2
  obtain ⟨a3, rfl, rfl, rfl, w3⟩ := open_int Try.underlying23 (hval 3 23 v3 rfl rfl) h3
  obtain ⟨L4, c4, ad4, rfl, hl4, hm4, hr4, hw4, hd4⟩ := Args.open_row Try.underlying27 Try.underlying5 (by kernel_rfl) (hval 4 27 v4 rfl rfl) h4
  clear hA hA0
  refine (apartH_calls a0 a1 a2 a3 L4 c4 ad4 W (lt64 w0).1 (lt64 w0).2 (lt64 w1).1 (lt64 w1).2 (lt64 w2).1 (lt64 w2).2 (lt64 w3).1 (lt64 w3).2 (byt_wf hw4) hl4 hm4 hr4).mono fun e W' ⟨he, hw⟩ => ?_
  subst he
  exact ⟨_, rfl, Frame.law_post hW rfl Try.laidOut (by kernel_rfl) rfl Try.underlying4 rfl rfl rfl hw⟩

theorem headerApart_holds : Rows.HeaderApartSaid :=
  OpenClaim.holds_of_wide 6 Try.f6 rfl rfl rfl rfl rfl rfl rfl ⟨rfl, rfl, rfl, rfl, rfl⟩ rfl rfl rfl rfl rfl (by kernel_rfl) Try.func6 (by kernel_rfl)
    (of_decide_eq_true (by kernel_rfl)) (by unfold Func.isWrapper; first | (rw [if_pos (by decide +kernel)]; kernel_rfl) | (rw [if_neg (by decide +kernel)]; exact ⟨rfl, rfl⟩))
    (fun os started H enc _ => headerApart_lifted os started H enc)

set_option maxRecDepth 100000 in
theorem headerBack_lifted (os : Os) (started : os.Started) (H : Type) (enc : TypeId × Value → H) :
    ReturnsInHanded {} Try.checked os 5 .any (Rows.headerBackSpec.pre6 enc Try.prog Try.f5 Rows.headerBackRow.domain false) (Rows.headerBackSpec.post enc Try.prog Try.f5 false true false false) := by
  refine returnsInHanded_of_change_sized (C := Try.checked) Try.own started (by kernel_rfl) Try.func5
    (ChangeSpec.witness6 (enc := enc) (C := Try.checked) false ⟨#[], #[Value.int .u64 0, Value.int .u64 0, Value.slice none 0 0, Value.int .u8 0], []⟩ 8 (by kernel_rfl) (by kernel_rfl) (by kernel_rfl) (by kernel_rfl)) ?_
  intro W base args ds gs before hval0 hW _ hsz0 _
  have hval : ∀ (j : Nat) t v, Try.f5.params[j]? = some t → args[j]? = some v → Value.okWide Try.prog W .any base t v := hval0
  clear hval0
  have hsz : (DataW.weightsEach Try.prog (Try.f5.params.toList ++ Rows.headerBackSpec.plain.varTypes Try.prog) (ds ++ gs)).all (· ≤ reachBytes) = true := hsz0
  clear hsz0
  obtain ⟨p, q, hA0, hV, _, hfz, _⟩ := id hW
  have hA : DataW.TrodAll enc Try.prog W 0 (fun _ => true) true Try.f5.params.toList args.toList ds p := hA0
  rw [Try.params5] at hA hval hsz
  obtain ⟨v0, vs0, d0, ds0, p0, q0, hargs, rfl, rfl, h0, r0⟩ := trodAll_cons hA
  obtain ⟨v1, vs1, d1, ds1, p1, q1, rfl, rfl, rfl, h1, r1⟩ := trodAll_cons r0
  obtain ⟨v2, vs2, d2, ds2, p2, q2, rfl, rfl, rfl, h2, r2⟩ := trodAll_cons r1
  obtain ⟨v3, vs3, d3, ds3, p3, q3, rfl, rfl, rfl, h3, r3⟩ := trodAll_cons r2
  obtain ⟨rfl, rfl, rfl⟩ := trodAll_nil r3
  obtain rfl : args = #[v0, v1, v2, v3] := by cases args; simp_all
  obtain ⟨rfl, rfl⟩ := trodVars_none hV
  obtain ⟨a0, rfl, rfl, rfl, w0⟩ := open_int Try.underlying23 (hval 0 23 v0 rfl rfl) h0
  obtain ⟨a1, rfl, rfl, rfl, w1⟩ := open_int Try.underlying23 (hval 1 23 v1 rfl rfl) h1
  obtain ⟨L2, c2, ad2, rfl, hl2, hm2, hr2, hw2, hd2⟩ := Args.open_row Try.underlying27 Try.underlying5 (by kernel_rfl) (hval 2 27 v2 rfl rfl) h2
  obtain ⟨a3, rfl, rfl, rfl, w3⟩ := open_int Try.underlying5 (hval 3 5 v3 rfl rfl) h3
  have hsz2 : L2.length ≤ 140737488351232 := by
    rcases hd2 with rfl | ⟨elems, spare, rfl, he⟩
    · simp
    · have := sized_slice hsz (j := 2) (t := 27) (e := 5) rfl rfl Try.underlying27
      have hb : Try.prog.bytesOf 5 = 1 := by kernel_rfl
      rw [hb] at this
      simp only [reachBytes] at this
      omega
  clear hA hA0
  refine (backH_calls a0 a1 a3 L2 c2 ad2 W (lt64 w0).1 (lt64 w0).2 (lt64 w1).1 (lt64 w1).2 (lt8 w3).1 (lt8 w3).2 (byt_wf hw2) hsz2 hl2 hm2 hr2).mono fun e W' ⟨he, hw⟩ => ?_
  subst he
  exact ⟨_, rfl, Frame.law_post hW rfl Try.laidOut (by kernel_rfl) rfl Try.underlying4 rfl rfl rfl hw⟩

theorem headerBack_holds : Rows.HeaderBackSaid :=
  OpenClaim.holds_of_wide 5 Try.f5 rfl rfl rfl rfl rfl rfl rfl ⟨rfl, rfl, rfl, rfl, rfl⟩ rfl rfl rfl rfl rfl (by kernel_rfl) Try.func5 (by kernel_rfl)
    (of_decide_eq_true (by kernel_rfl)) (by unfold Func.isWrapper; first | (rw [if_pos (by decide +kernel)]; kernel_rfl) | (rw [if_neg (by decide +kernel)]; exact ⟨rfl, rfl⟩))
    (fun os started H enc _ => headerBack_lifted os started H enc)

end Go.Proofs.Ytjmkeicmchgggaa
