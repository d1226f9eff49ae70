/- PostKnown, PostApart, CountsPlays: proved. No condition. -/
import Derived.Test.YtplpmnippkkkkaaHead
import Derived.SizedLaws
import Derived.Test.YtplpmnippkkkkaaPo7
namespace Go.Proofs.Ytplpmnippkkkkaa
open Go.ChangeShapes Go.WideShapes Go.ChangeAt Go.RowKit
set_option linter.unusedVariables false
set_option linter.unusedSimpArgs false

namespace Args
theorem open_row {H : Type} {enc : TypeId × Value → H} {P : Program} {w : World} {r : Reach} {b0 : Nat} {t e : TypeId} {k : IntKind} {v : Value} {d : DataW H} {p : List MemPlace} (ht : P.underlying t = some (.slice e)) (he : P.underlying e = some (.int k))
    (hC : P.cellsOf e = 1) (hv : Value.okWide P w r b0 t v) (h : DataW.Trod enc P w 0 (fun _ => true) true t v d p) :
    ∃ (L : List Int) (c : Nat) (a : Option Addr), v = .slice a L.length c ∧ L.length ≤ c ∧ c ≤ maxLen ∧ (0 < c → ∃ b off, a = some ⟨b, off, none⟩ ∧ ∀ i, i < L.length → w.cell? ⟨b, off + i, none⟩ = some (.int k (L.getD i 0))) := by
  rcases open_ints1 ht he hC hv h with rfl | ⟨b, off, len, cap, X, rfl, hl, hm, hX⟩
  · exact ⟨[], 0, none, rfl, Nat.le_refl _, Nat.zero_le _, fun h => (by omega)⟩
  have hlen : ((List.range len).map X).length = len := by simp
  refine ⟨(List.range len).map X, cap, some ⟨b, off, none⟩, by rw [hlen], by rw [hlen]; exact hl, hm, fun _ => ⟨b, off, rfl, fun i hi' => ?_⟩⟩
  rw [hlen] at hi'
  rw [(hX i hi').1]
  simp [List.getD_eq_getElem?_getD, hi']
theorem open_moves {H : Type} {enc : TypeId × Value → H} {P : Program} {w : World} {r : Reach} {b0 : Nat} {t e : TypeId} {fs : Array Field} {f0 f1 : Field} {v : Value} {d : DataW H} {p : List MemPlace} (ht : P.underlying t = some (.slice e)) (he : P.underlying e = some (.struct fs))
    (hone : Go.Deep.oneCellFields P fs = true) (hC : P.cellsOf e = fs.size) (hs : fs.size = 2) (hf0 : fs[0]? = some f0) (hf1 : fs[1]? = some f1) (ht0 : P.underlying f0.type = some (.int .i64)) (ht1 : P.underlying f1.type = some .string) (hv : Value.okWide P w r b0 t v) (h : DataW.Trod enc P w 0 (fun _ => true) true t v d p) :
    ∃ (n c : Nat) (a : Option Addr) (O : Nat → Int) (S : Nat → ByteArray), v = .slice a n c ∧ n ≤ c ∧ c ≤ maxLen ∧ ∃ b off, (0 < c → a = some ⟨b, off, none⟩) ∧ ∀ i, i < n → w.cell? ⟨b, off + i * 2, none⟩ = some (.int .i64 (O i)) ∧ w.cell? ⟨b, off + (i * 2 + 1), none⟩ = some (.string (S i)) := by
  rcases open_structs ht he hone hC hv h with rfl | ⟨b, off, len, cap, rfl, hl, hm, hX⟩
  · exact ⟨0, 0, none, fun _ => 0, fun _ => .empty, rfl, Nat.le_refl _, Nat.zero_le _, 0, 0, fun h => (by omega), fun i hi => (by omega)⟩
  rw [hs] at hX
  obtain ⟨O, hO⟩ := Go.Deep.choose_lt (n := len) (p := fun i x => w.cell? ⟨b, off + i * 2, none⟩ = some (.int .i64 x)) (fun i hil => by
    obtain ⟨c, y, n, h1, h2⟩ := hX i hil 0 f0 hf0
    obtain ⟨x, hx, _, _⟩ := DataW.trod_int ht0 h2
    simp at hx
    rw [hx] at h1
    exact ⟨x, h1⟩)
  obtain ⟨S, hS⟩ := Go.Deep.choose_lt (n := len) (p := fun i (x : ByteArray) => w.cell? ⟨b, off + (i * 2 + 1), none⟩ = some (.string x)) (fun i hil => by
    obtain ⟨c, y, n, h1, h2⟩ := hX i hil 1 f1 hf1
    obtain ⟨x, hx, _, _⟩ := DataW.trod_string ht1 h2
    simp at hx
    rw [hx] at h1
    exact ⟨x, h1⟩)
  exact ⟨len, cap, _, O, S, rfl, hl, hm, b, off, fun _ => rfl, fun i hi => ⟨hO i hi, hS i hi⟩⟩
end Args

set_option maxRecDepth 100000 in
theorem known_calls (w : World) : Calls Try.prog 5 #[] w fun x w' => x = .returned (.bool true) ∧ Below w.heap.size w w' :=
  Sx.lawVc_calls Sx.envK5_ok Sx.mixed Try.func5 rfl Sx.known_vc (vals := []) (w := w) (μ := Sx.noMu) trivial (Sx.noHeap _ w) (fun n l h => (by cases h)) (fun n b l x h => (by cases h))
set_option maxRecDepth 100000 in
theorem counts_calls (k : Int) (L : List Int) (c : Nat) (a : Option Addr) (w : World) (hk : -9223372036854775808 ≤ k ∧ k ≤ 9223372036854775807) (hl : L.length ≤ c) (hm : c ≤ maxLen) (h : 0 < c → ∃ b off, a = some ⟨b, off, none⟩ ∧ ∀ i, i < L.length → w.cell? ⟨b, off + i, none⟩ = some (.int .i64 (L.getD i 0))) :
    Calls Try.prog 3 #[.int .i64 k, .slice a L.length c] w fun x w' => x = .returned (.bool true) ∧ Below w.heap.size w w' := by
  obtain ⟨b, off, ha, hc⟩ := Sx.addr_any h (fun e b off i hi => by omega)
  let μ : Sx.Mu := fun n => if n = 0 then some ⟨b, off, undef⟩ else none
  have hx : ∀ n bk l x, Sx.upd (fun _ => none) 0 (some (Sx.Blk.ints .i64 L)) n = some bk → ¬bk.excl w l x := fun n bk l x hb hh => by
    unfold Sx.upd at hb
    split at hb
    · cases hb; exact hh
    · cases hb
  refine Sx.lawVc_calls Sx.envA5_ok Sx.mixed Try.func3 rfl (Sx.counts_vc k L c hk) (vals := [.int .i64 k, .slice a L.length c]) (w := w) (μ := μ) ⟨rfl, ⟨⟨b, off, undef⟩, a, by simp [μ], rfl, fun h => by simpa using ha h, hl, hm⟩, trivial⟩
    (Sx.heap_views hx fun n bk hb => ?_) (fun n l hl => ?_) hx
  · unfold Sx.upd at hb
    split at hb
    · cases hb
      rename_i e
      exact ⟨⟨b, off, undef⟩, by simp [μ, e], Sx.row_ok (c := c) hc⟩
    · cases hb
  · simp only [μ] at hl
    split at hl
    · omega
    · cases hl
set_option maxRecDepth 100000 in
theorem apart_calls (O O2 : Nat → Int) (S S2 : Nat → ByteArray) (n m c d : Nat) (a a2 : Option Addr) (w : World) (hl : n ≤ c) (hm : c ≤ maxLen) (hl2 : m ≤ d) (hm2 : d ≤ maxLen)
    (h : ∃ b off, (0 < c → a = some ⟨b, off, none⟩) ∧ ∀ i, i < n → w.cell? ⟨b, off + i * 2, none⟩ = some (.int .i64 (O i)) ∧ w.cell? ⟨b, off + (i * 2 + 1), none⟩ = some (.string (S i)))
    (h2 : ∃ b off, (0 < d → a2 = some ⟨b, off, none⟩) ∧ ∀ i, i < m → w.cell? ⟨b, off + i * 2, none⟩ = some (.int .i64 (O2 i)) ∧ w.cell? ⟨b, off + (i * 2 + 1), none⟩ = some (.string (S2 i))) :
    Calls Try.prog 7 #[.slice a n c, .slice a2 m d] w fun x w' => x = .returned (.bool true) ∧ Below w.heap.size w w' := by
  obtain ⟨b, off, ha, hc⟩ := h
  obtain ⟨b2, off2, ha2, hc2⟩ := h2
  let μ : Sx.Mu := fun n => if n = 0 then some ⟨b, off, undef⟩ else if n = 1 then some ⟨b2, off2, undef⟩ else none
  have hx : ∀ n' bk l x, Sx.two (.view 2 n (Sx.viewI O S)) (.view 2 m (Sx.viewI O2 S2)) n' = some bk → ¬bk.excl w l x := fun n bk l x hb hh => by
    unfold Sx.two at hb
    split at hb
    · cases hb; exact hh
    · split at hb
      · cases hb; exact hh
      · cases hb
  refine Sx.lawVc_calls Sx.envA5_ok Sx.mixed Try.func7 rfl (Sx.apart_vc O O2 S S2 n m c d) (vals := [.slice a n c, .slice a2 m d]) (w := w) (μ := μ) ⟨⟨⟨b, off, undef⟩, a, by simp [μ], rfl, fun h => by simpa using ha h, hl, hm⟩, ⟨⟨b2, off2, undef⟩, a2, by simp [μ], rfl, fun h => by simpa using ha2 h, hl2, hm2⟩, trivial⟩
    (Sx.heap_views hx fun n bk hb => ?_) (fun n l hl => ?_) hx
  · unfold Sx.two at hb
    split at hb
    · cases hb
      rename_i e
      exact ⟨⟨b, off, undef⟩, by simp [μ, e], Sx.view_ok hc⟩
    · split at hb
      · cases hb
        rename_i e1 e
        exact ⟨⟨b2, off2, undef⟩, by simp [μ, e], Sx.view_ok hc2⟩
      · cases hb
  · simp only [μ] at hl
    split at hl
    · omega
    · split at hl
      · omega
      · cases hl

set_option maxRecDepth 100000 in
theorem postKnown_lifted (os : Os) (started : os.Started) (H : Type) (enc : TypeId × Value → H) :
    ReturnsInHanded {} Try.checked os 5 .any (Rows.postKnownSpec.pre6 enc Try.prog Try.f5 Rows.postKnownRow.domain false) (Rows.postKnownSpec.post enc Try.prog Try.f5 false true false false) := by
  refine returnsInHanded_of_change (C := Try.checked) Try.own started (by kernel_rfl) Try.func5
    (ChangeSpec.witness6 (enc := enc) (C := Try.checked) false ⟨#[], #[], []⟩ 8 (by kernel_rfl) (by kernel_rfl) (by kernel_rfl) (by kernel_rfl)) ?_
  intro W base args ds gs before hval0 hW _ _
  have hval : ∀ (j : Nat) t v, Try.f5.params[j]? = some t → args[j]? = some v → Value.okWide Try.prog W .any base t v := hval0
  clear hval0
  obtain ⟨p, q, hA0, hV, _, hfz, _⟩ := id hW
  have hA : DataW.TrodAll enc Try.prog W 0 (fun _ => true) true Try.f5.params.toList args.toList ds p := hA0
  rw [Try.params5] at hA hval
  obtain ⟨rfl, rfl, rfl⟩ := trodAll_none hA
  obtain ⟨rfl, rfl⟩ := trodVars_none hV
  clear hA hA0
  refine (known_calls W).mono fun e W' ⟨he, hw⟩ => ?_
  subst he
  exact ⟨_, rfl, Frame.law_post hW rfl Try.laidOut (by kernel_rfl) rfl Try.underlying4 rfl rfl rfl hw⟩

theorem postKnown_holds : Rows.PostKnownSaid :=
  OpenClaim.holds_of_wide 5 Try.f5 rfl rfl rfl rfl rfl rfl rfl ⟨rfl, rfl, rfl, rfl, rfl⟩ rfl rfl rfl rfl rfl (by kernel_rfl) Try.func5 (by kernel_rfl)
    (of_decide_eq_true (by kernel_rfl)) (by unfold Func.isWrapper; first | (rw [if_pos (by decide +kernel)]; kernel_rfl) | (rw [if_neg (by decide +kernel)]; exact ⟨rfl, rfl⟩))
    (fun os started H enc _ => postKnown_lifted os started H enc)

set_option maxRecDepth 100000 in
theorem postApart_lifted (os : Os) (started : os.Started) (H : Type) (enc : TypeId × Value → H) :
    ReturnsInHanded {} Try.checked os 7 .any (Rows.postApartSpec.pre6 enc Try.prog Try.f7 Rows.postApartRow.domain false) (Rows.postApartSpec.post enc Try.prog Try.f7 false true false false) := by
  refine returnsInHanded_of_change (C := Try.checked) Try.own started (by kernel_rfl) Try.func7
    (ChangeSpec.witness6 (enc := enc) (C := Try.checked) false ⟨#[], #[Value.slice none 0 0, Value.slice none 0 0], []⟩ 8 (by kernel_rfl) (by kernel_rfl) (by kernel_rfl) (by kernel_rfl)) ?_
  intro W base args ds gs before hval0 hW _ _
  have hval : ∀ (j : Nat) t v, Try.f7.params[j]? = some t → args[j]? = some v → Value.okWide Try.prog W .any base t v := hval0
  clear hval0
  obtain ⟨p, q, hA0, hV, _, hfz, _⟩ := id hW
  have hA : DataW.TrodAll enc Try.prog W 0 (fun _ => true) true Try.f7.params.toList args.toList ds p := hA0
  rw [Try.params7] at hA hval
  obtain ⟨v0, vs0, d0, ds0, p0, q0, hargs, rfl, rfl, h0, r0⟩ := trodAll_cons hA
  obtain ⟨v1, vs1, d1, ds1, p1, q1, rfl, rfl, rfl, h1, r1⟩ := trodAll_cons r0
  obtain ⟨rfl, rfl, rfl⟩ := trodAll_nil r1
  obtain rfl : args = #[v0, v1] := by cases args; simp_all
  obtain ⟨rfl, rfl⟩ := trodVars_none hV
  obtain ⟨n0, c0, ad0, O0, S0, rfl, hl0, hm0, hr0⟩ := Args.open_moves Try.underlying48 Try.underlying51 (by kernel_rfl) (by kernel_rfl) rfl rfl rfl Try.underlying3 Try.underlying9 (hval 0 48 v0 rfl rfl) h0
  obtain ⟨n1, c1, ad1, O1, S1, rfl, hl1, hm1, hr1⟩ := Args.open_moves Try.underlying48 Try.underlying51 (by kernel_rfl) (by kernel_rfl) rfl rfl rfl Try.underlying3 Try.underlying9 (hval 1 48 v1 rfl rfl) h1
  clear hA hA0
  refine (apart_calls O0 O1 S0 S1 n0 n1 c0 c1 ad0 ad1 W hl0 hm0 hl1 hm1 hr0 hr1).mono fun e W' ⟨he, hw⟩ => ?_
  subst he
  exact ⟨_, rfl, Frame.law_post hW rfl Try.laidOut (by kernel_rfl) rfl Try.underlying4 rfl rfl rfl hw⟩

theorem postApart_holds : Rows.PostApartSaid :=
  OpenClaim.holds_of_wide 7 Try.f7 rfl rfl rfl rfl rfl rfl rfl ⟨rfl, rfl, rfl, rfl, rfl⟩ rfl rfl rfl rfl rfl (by kernel_rfl) Try.func7 (by kernel_rfl)
    (of_decide_eq_true (by kernel_rfl)) (by unfold Func.isWrapper; first | (rw [if_pos (by decide +kernel)]; kernel_rfl) | (rw [if_neg (by decide +kernel)]; exact ⟨rfl, rfl⟩))
    (fun os started H enc _ => postApart_lifted os started H enc)

set_option maxRecDepth 100000 in
theorem countsPlays_lifted (os : Os) (started : os.Started) (H : Type) (enc : TypeId × Value → H) :
    ReturnsInHanded {} Try.checked os 3 .any (Rows.countsPlaysSpec.pre6 enc Try.prog Try.f3 Rows.countsPlaysRow.domain false) (Rows.countsPlaysSpec.post enc Try.prog Try.f3 false true false false) := by
  refine returnsInHanded_of_change (C := Try.checked) Try.own started (by kernel_rfl) Try.func3
    (ChangeSpec.witness6 (enc := enc) (C := Try.checked) false ⟨#[], #[Value.int .i64 0, Value.slice none 0 0], []⟩ 8 (by kernel_rfl) (by kernel_rfl) (by kernel_rfl) (by kernel_rfl)) ?_
  intro W base args ds gs before hval0 hW _ _
  have hval : ∀ (j : Nat) t v, Try.f3.params[j]? = some t → args[j]? = some v → Value.okWide Try.prog W .any base t v := hval0
  clear hval0
  obtain ⟨p, q, hA0, hV, _, hfz, _⟩ := id hW
  have hA : DataW.TrodAll enc Try.prog W 0 (fun _ => true) true Try.f3.params.toList args.toList ds p := hA0
  rw [Try.params3] at hA hval
  obtain ⟨v0, vs0, d0, ds0, p0, q0, hargs, rfl, rfl, h0, r0⟩ := trodAll_cons hA
  obtain ⟨v1, vs1, d1, ds1, p1, q1, rfl, rfl, rfl, h1, r1⟩ := trodAll_cons r0
  obtain ⟨rfl, rfl, rfl⟩ := trodAll_nil r1
  obtain rfl : args = #[v0, v1] := by cases args; simp_all
  obtain ⟨rfl, rfl⟩ := trodVars_none hV
  obtain ⟨a0, rfl, rfl, rfl, w0⟩ := open_int Try.underlying3 (hval 0 3 v0 rfl rfl) h0
  obtain ⟨L1, c1, ad1, rfl, hl1, hm1, hr1⟩ := Args.open_row Try.underlying22 Try.underlying3 (by kernel_rfl) (hval 1 22 v1 rfl rfl) h1
  clear hA hA0
  refine (counts_calls a0 L1 c1 ad1 W (bounds_i64 w0) hl1 hm1 hr1).mono fun e W' ⟨he, hw⟩ => ?_
  subst he
  exact ⟨_, rfl, Frame.law_post hW rfl Try.laidOut (by kernel_rfl) rfl Try.underlying4 rfl rfl rfl hw⟩

theorem countsPlays_holds : Rows.CountsPlaysSaid :=
  OpenClaim.holds_of_wide 3 Try.f3 rfl rfl rfl rfl rfl rfl rfl ⟨rfl, rfl, rfl, rfl, rfl⟩ rfl rfl rfl rfl rfl (by kernel_rfl) Try.func3 (by kernel_rfl)
    (of_decide_eq_true (by kernel_rfl)) (by unfold Func.isWrapper; first | (rw [if_pos (by decide +kernel)]; kernel_rfl) | (rw [if_neg (by decide +kernel)]; exact ⟨rfl, rfl⟩))
    (fun os started H enc _ => countsPlays_lifted os started H enc)

end Go.Proofs.Ytplpmnippkkkkaa
