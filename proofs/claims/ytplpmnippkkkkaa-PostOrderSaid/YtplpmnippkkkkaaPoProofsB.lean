/- PostPlays, PostOrder: proved. No condition. -/
import Derived.Test.YtplpmnippkkkkaaPoProofsA
import Derived.Test.YtplpmnippkkkkaaPo9
namespace Go.Proofs.Ytplpmnippkkkkaa
open Go.ChangeShapes Go.WideShapes Go.ChangeAt Go.RowKit
set_option linter.unusedVariables false
set_option linter.unusedSimpArgs false

namespace Args
theorem open_bytes {H : Type} {enc : TypeId × Value → H} {P : Program} {w : World} {r : Reach} {b0 : Nat} {t e q : TypeId} {v : Value} {d : DataW H} {p : List MemPlace} (ht : P.underlying t = some (.slice e)) (he : P.underlying e = some (.slice q)) (hq : P.underlying q = some (.int .u8))
    (ce : P.cellsOf e = 1) (cq : P.cellsOf q = 1) (hv : Value.okWide P w r b0 t v) (h : DataW.Trod enc P w 0 (fun _ => true) true t v d p) :
    ∃ (ao : Option Addr) (len cap : Nat) (A : Nat → Option Addr) (L C : Nat → Nat) (Z : Nat → List Int), v = .slice ao len cap ∧ len ≤ cap ∧ cap ≤ maxLen ∧ Came w ao len A L C Z := by
  rcases slice_addr ht hv with rfl | ⟨b, off, len, cap, rfl⟩
  · exact ⟨none, 0, 0, fun _ => none, fun _ => 0, fun _ => 0, fun _ => [], rfl, Nat.le_refl _, Nat.zero_le _, ⟨fun h => (by omega), fun i hi => (by omega)⟩⟩
  obtain ⟨fuel, hf⟩ := h
  rcases Go.Deep.open_int_rows ht he hq ce cq hf with ⟨hcs, _⟩ | ⟨a, len', cap', A, L, C, Z, hcs, _, hl, hm, _, hi⟩
  · simp [Value.cells] at hcs
  · simp [Value.cells] at hcs
    obtain ⟨ha, rfl, rfl⟩ := hcs
    refine ⟨_, len, cap, A, L, C, fun i => (Z i).take (L i), rfl, hl, hm, ⟨fun _ => ⟨b, off, rfl, fun i hil => ?_⟩, fun i hil => ?_⟩⟩
    · have := (hi i (by omega)).1
      rw [← ha, add_plain] at this
      exact this
    · obtain ⟨_, h1, h2, h3, _, h4, h5⟩ := hi i (by omega)
      refine ⟨by simp; omega, fun e => by have := h4 e; omega, fun a' e c hc => ?_⟩
      rw [(h5 a' e).2 c (by omega)]
      simp only [List.getD_eq_getElem?_getD, List.getElem?_take_of_lt hc]
end Args
theorem order_any (m : Int) (ao : Option Addr) (len cap : Nat) (A : Nat → Option Addr) (L C : Nat → Nat) (Z : Nat → List Int) (w : World) (m0 : 0 ≤ m ∧ m ≤ 255) (hl : len ≤ cap) (hm : cap ≤ maxLen) (hx : Came w ao len A L C Z) :
    Calls Try.prog 4 #[.int .u8 m, .slice ao len cap] w fun e w' => e = .returned (.bool true) ∧ Below w.heap.size w w' := by
  have hm' : len ≤ 9223372036854775807 := by simp only [maxLen] at hm; omega
  rcases (by omega : m = 0 ∨ m = 1 ∨ 2 ≤ m) with rfl | rfl | h
  · exact order_zero ao len cap A L C Z w hm' hx
  · exact order_one ao len cap A L C Z w hm' hx
  · obtain ⟨M, rfl⟩ : ∃ M : Nat, m = M := ⟨m.toNat, by omega⟩
    exact order_pos M ao len cap A L C Z w (by omega) (by omega) hm' hx
theorem plays_any (m : Int) (al : Option Addr) (len cap : Nat) (O : Nat → Int) (S : Nat → ByteArray) (w : World) (m0 : -9223372036854775808 ≤ m ∧ m ≤ 9223372036854775807) (hl : len ≤ cap) (hm : cap ≤ maxLen) (hx : ∃ b off, (0 < cap → al = some ⟨b, off, none⟩) ∧ ∀ i, i < len → w.cell? ⟨b, off + i * 2, none⟩ = some (.int .i64 (O i)) ∧ w.cell? ⟨b, off + (i * 2 + 1), none⟩ = some (.string (S i))) :
    Calls Try.prog 6 #[.int .i64 m, .slice al len cap] w fun e w' => e = .returned (.bool true) ∧ Below w.heap.size w w' := by
  have hm' : len ≤ 9223372036854775807 := by simp only [maxLen] at hm; omega
  have hM : Moves w al len O S := ⟨fun h0 => by
    obtain ⟨b, off, h1, h2⟩ := hx
    exact ⟨b, off, h1 (by omega), fun i hi => h2 i hi⟩⟩
  rcases (by omega : m ≤ 1 ∨ (1 < m ∧ m ≤ 1000) ∨ 1000 < m) with h | ⟨h, h'⟩ | h
  · exact plays_low m al len cap O S w m0.1 h hm' hM
  · exact plays_mid m al len cap O S w h h' hm' hM
  · exact plays_top m al len cap O S w h m0.2 hm' hM

set_option maxRecDepth 100000 in
theorem postPlays_lifted (os : Os) (started : os.Started) (H : Type) (enc : TypeId × Value → H) :
    ReturnsInHanded {} Try.checked os 6 .any (Rows.postPlaysSpec.pre6 enc Try.prog Try.f6 Rows.postPlaysRow.domain false) (Rows.postPlaysSpec.post enc Try.prog Try.f6 false true false false) := by
  refine returnsInHanded_of_change (C := Try.checked) Try.own started (by kernel_rfl) Try.func6
    (ChangeSpec.witness6 (enc := enc) (C := Try.checked) false ⟨#[], #[Value.int .i64 0, Value.slice none 0 0], []⟩ 8 (by kernel_rfl) (by kernel_rfl) (by kernel_rfl) (by kernel_rfl)) ?_
  intro W base args ds gs before hval0 hW _ _
  have hval : ∀ (j : Nat) t v, Try.f6.params[j]? = some t → args[j]? = some v → Value.okWide Try.prog W .any base t v := hval0
  clear hval0
  obtain ⟨p, q, hA0, hV, _, hfz, _⟩ := id hW
  have hA : DataW.TrodAll enc Try.prog W 0 (fun _ => true) true Try.f6.params.toList args.toList ds p := hA0
  rw [Try.params6] at hA hval
  obtain ⟨v0, vs0, d0, ds0, p0, q0, hargs, rfl, rfl, h0, r0⟩ := trodAll_cons hA
  obtain ⟨v1, vs1, d1, ds1, p1, q1, rfl, rfl, rfl, h1, r1⟩ := trodAll_cons r0
  obtain ⟨rfl, rfl, rfl⟩ := trodAll_nil r1
  obtain rfl : args = #[v0, v1] := by cases args; simp_all
  obtain ⟨rfl, rfl⟩ := trodVars_none hV
  obtain ⟨a0, rfl, rfl, rfl, w0⟩ := open_int Try.underlying3 (hval 0 3 v0 rfl rfl) h0
  obtain ⟨n1, c1, ad1, O1, S1, rfl, hl1, hm1, hr1⟩ := Args.open_moves Try.underlying48 Try.underlying51 (by kernel_rfl) (by kernel_rfl) rfl rfl rfl Try.underlying3 Try.underlying9 (hval 1 48 v1 rfl rfl) h1
  clear hA hA0
  refine (plays_any a0 ad1 n1 c1 O1 S1 W (bounds_i64 w0) hl1 hm1 hr1).mono fun e W' ⟨he, hw⟩ => ?_
  subst he
  exact ⟨_, rfl, Frame.law_post hW rfl Try.laidOut (by kernel_rfl) rfl Try.underlying4 rfl rfl rfl hw⟩

theorem postPlays_holds : Rows.PostPlaysSaid :=
  OpenClaim.holds_of_wide 6 Try.f6 rfl rfl rfl rfl rfl rfl rfl ⟨rfl, rfl, rfl, rfl, rfl⟩ rfl rfl rfl rfl rfl (by kernel_rfl) Try.func6 (by kernel_rfl)
    (of_decide_eq_true (by kernel_rfl)) (by unfold Func.isWrapper; first | (rw [if_pos (by decide +kernel)]; kernel_rfl) | (rw [if_neg (by decide +kernel)]; exact ⟨rfl, rfl⟩))
    (fun os started H enc _ => postPlays_lifted os started H enc)

set_option maxRecDepth 100000 in
theorem postOrder_lifted (os : Os) (started : os.Started) (H : Type) (enc : TypeId × Value → H) :
    ReturnsInHanded {} Try.checked os 4 .any (Rows.postOrderSpec.pre6 enc Try.prog Try.f4 Rows.postOrderRow.domain false) (Rows.postOrderSpec.post enc Try.prog Try.f4 false true false false) := by
  refine returnsInHanded_of_change (C := Try.checked) Try.own started (by kernel_rfl) Try.func4
    (ChangeSpec.witness6 (enc := enc) (C := Try.checked) false ⟨#[], #[Value.int .u8 0, Value.slice none 0 0], []⟩ 8 (by kernel_rfl) (by kernel_rfl) (by kernel_rfl) (by kernel_rfl)) ?_
  intro W base args ds gs before hval0 hW _ _
  have hval : ∀ (j : Nat) t v, Try.f4.params[j]? = some t → args[j]? = some v → Value.okWide Try.prog W .any base t v := hval0
  clear hval0
  obtain ⟨p, q, hA0, hV, _, hfz, _⟩ := id hW
  have hA : DataW.TrodAll enc Try.prog W 0 (fun _ => true) true Try.f4.params.toList args.toList ds p := hA0
  rw [Try.params4] at hA hval
  obtain ⟨v0, vs0, d0, ds0, p0, q0, hargs, rfl, rfl, h0, r0⟩ := trodAll_cons hA
  obtain ⟨v1, vs1, d1, ds1, p1, q1, rfl, rfl, rfl, h1, r1⟩ := trodAll_cons r0
  obtain ⟨rfl, rfl, rfl⟩ := trodAll_nil r1
  obtain rfl : args = #[v0, v1] := by cases args; simp_all
  obtain ⟨rfl, rfl⟩ := trodVars_none hV
  obtain ⟨a0, rfl, rfl, rfl, w0⟩ := open_int Try.underlying5 (hval 0 5 v0 rfl rfl) h0
  obtain ⟨ao1, n1, c1, A1, L1, C1, Z1, rfl, hl1, hm1, hx1⟩ := Args.open_bytes Try.underlying30 Try.underlying33 Try.underlying5 (by kernel_rfl) (by kernel_rfl) (hval 1 30 v1 rfl rfl) h1
  clear hA hA0
  refine (order_any a0 ao1 n1 c1 A1 L1 C1 Z1 W (bounds_u8 w0) hl1 hm1 hx1).mono fun e W' ⟨he, hw⟩ => ?_
  subst he
  exact ⟨_, rfl, Frame.law_post hW rfl Try.laidOut (by kernel_rfl) rfl Try.underlying4 rfl rfl rfl hw⟩

theorem postOrder_holds : Rows.PostOrderSaid :=
  OpenClaim.holds_of_wide 4 Try.f4 rfl rfl rfl rfl rfl rfl rfl ⟨rfl, rfl, rfl, rfl, rfl⟩ rfl rfl rfl rfl rfl (by kernel_rfl) Try.func4 (by kernel_rfl)
    (of_decide_eq_true (by kernel_rfl)) (by unfold Func.isWrapper; first | (rw [if_pos (by decide +kernel)]; kernel_rfl) | (rw [if_neg (by decide +kernel)]; exact ⟨rfl, rfl⟩))
    (fun os started H enc _ => postOrder_lifted os started H enc)

end Go.Proofs.Ytplpmnippkkkkaa
