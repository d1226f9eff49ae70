/- TurnBegins, proved. No condition. -/
import Derived.Test.YtecpbhefpicmaaaHead
import Derived.Test.YtecpbhefpicmaaaWalks7
namespace Go.Proofs.Ytecpbhefpicmaaa
open Go.ChangeShapes Go.WideShapes Go.ChangeAt Go.RowKit
set_option linter.unusedVariables false
set_option linter.unusedSimpArgs false

set_option maxRecDepth 100000 in
set_option maxHeartbeats 1000000 in
theorem begins_nil (ao : Option Addr) (cap : Nat) (ts fr ticks : Int) (w : World) (t0 : 0 ≤ ts) (t1 : ts ≤ 4294967295) (f0 : 0 ≤ fr) (f1 : fr ≤ 65535) (k0 : 0 ≤ ticks) (k1 : ticks ≤ 65535) :
    Calls Try.prog 6 #[.slice ao 0 cap, .int .u32 ts, .int .u16 fr, .int .u16 ticks] w fun x w' => x = .returned (.bool true) ∧ Below w.heap.size w w' := by
  have e1 : bT false 0 0 ts (7 + ticks) = 0 := rfl
  have e2 : bF false 0 fr = 0 := rfl
  have e3 : oT ts 0 = ts := by unfold oT; omega
  have e4 : oF fr 0 = fr := by unfold oF; rw [wu16]; omega
  go_enter Try.func6, Try.ntmps6
  go_wp2_with (go_at_call 7; refine (awake_any _).mono ?_; rintro e w1 ⟨rfl, hb1⟩)
  refine wp_loop_rounds 1 ?_
  rw [rounds_succ]
  have tok2 : True := trivial
  have tok3 : True := trivial
  go_wp2_with (first | (go_at_call 9; clear tok2; refine (begin_any _ _ _ _ _ _ _ _ _ _ _ (by omega) (by omega) (by omega) (by omega) (by omega) (by omega) (by omega) (by omega) (by omega) (by omega) (by omega) (by omega) (by omega) (by omega)).mono ?_; rintro e w2 ⟨rfl, hb2⟩; have hz_w2 : w1.heap.size + 1 ≤ w2.heap.size := (by have h_ := hb2.size; first | omega | (simp at h_; omega)); obtain ⟨hc1, hf1⟩ := bk hb2 (w1.heap.size) (by first | omega | (simp; done) | (simp; omega)); have hs1 : w1.heap.size < w2.heap.size := (by omega)) | (go_at_call 8; clear tok3; refine (out_any _ _ _ _ _ _ _ _ _ _ _ (by omega) (by omega) (by omega) (by omega) (by omega) (by omega) (by omega) (by omega) (by omega) (by omega) (by omega) (by omega) (by omega) (by omega)).mono ?_; rintro e w3 ⟨rfl, hb3⟩; have hz_w3 : w2.heap.size + 1 ≤ w3.heap.size := (by have h_ := hb3.size; first | omega | (simp at h_; omega)); obtain ⟨hc2, hf2⟩ := bk hb3 (w1.heap.size) (by first | omega | (simp; done) | (simp; omega)); have hs2 : w1.heap.size < w3.heap.size := (by omega); obtain ⟨hc3, hf3⟩ := bk hb3 (w2.heap.size) (by first | omega | (simp; done) | (simp; omega)); have hs3 : w2.heap.size < w3.heap.size := (by omega)))
  go_ret
  exact ⟨by first | rfl | simp, (by repeat (first | with_reducible exact Below.refl _ _ | (with_reducible refine Below.setCell ?_ (by first | omega | (simp; done) | (simp; omega)) _) | with_reducible refine bal ?_ _ | with_reducible refine Below.drew ?_ | with_reducible refine bdn ?_ _ | with_reducible refine via ?_ (by with_reducible assumption)))⟩

theorem begins_any' {H : Type} {enc : TypeId × Value → H} {d : DataW H} {p : List MemPlace} {b0 : Nat} (W : World) (v0 : Value) (ts fr ticks : Int) (t0 : 0 ≤ ts) (t1 : ts ≤ 4294967295) (f0 : 0 ≤ fr) (f1 : fr ≤ 65535) (k0 : 0 ≤ ticks) (k1 : ticks ≤ 65535) (hv : Value.okWide Try.prog W .any b0 39 v0) (h : DataW.Trod enc Try.prog W 0 (fun _ => true) true 39 v0 d p) :
    Calls Try.prog 6 #[v0, .int .u32 ts, .int .u16 fr, .int .u16 ticks] W fun x w' => x = .returned (.bool true) ∧ Below W.heap.size W w' := by
  rcases Args.open_ints1 Try.underlying39 Try.underlying5 (by kernel_rfl) hv h with rfl | ⟨b, off, len, cap, X, rfl, hl, hm, hx⟩
  · exact begins_nil none 0 ts fr ticks W t0 t1 f0 f1 k0 k1
  · cases len with
    | zero => exact begins_nil _ cap ts fr ticks W t0 t1 f0 f1 k0 k1
    | succ n => exact begins_law b off (n + 1) cap X ts fr ticks W (by unfold maxLen at hm; omega) (by omega) t0 t1 f0 f1 k0 k1 (fun i hi => ⟨(hx i hi).1, bounds_u8 (hx i hi).2⟩) (World.block_lt_of_cell? W _ (hx 0 (by omega)).1)

set_option maxRecDepth 100000 in
theorem turnBegins_lifted (os : Os) (started : os.Started) (H : Type) (enc : TypeId × Value → H) :
    ReturnsInHanded {} Try.checked os 6 .any (Rows.turnBeginsSpec.pre6 enc Try.prog Try.f6 Rows.turnBeginsRow.domain false) (Rows.turnBeginsSpec.post enc Try.prog Try.f6 false true false false) := by
  refine returnsInHanded_of_change (C := Try.checked) Try.own started (by kernel_rfl) Try.func6
    (ChangeSpec.witness6 (enc := enc) (C := Try.checked) false ⟨#[], #[Value.slice none 0 0, Value.int .u32 0, Value.int .u16 0, Value.int .u16 0], []⟩ 8 (by kernel_rfl) (by kernel_rfl) (by kernel_rfl) (by kernel_rfl)) ?_
  intro W base args ds gs before hval0 hW _ _
  have hval : ∀ (j : Nat) t v, Try.f6.params[j]? = some t → args[j]? = some v → Value.okWide Try.prog W .any base t v := hval0
  clear hval0
  obtain ⟨p, q, hA0, hV, _, hfz, _⟩ := id hW
  have hA : DataW.TrodAll enc Try.prog W 0 (fun _ => true) true Try.f6.params.toList args.toList ds p := hA0
  rw [Try.params6] at hA hval
  obtain ⟨v0, vs0, d0, ds0, p0, q0, hargs, rfl, rfl, h0, r0⟩ := trodAll_cons hA
  obtain ⟨v1, vs1, d1, ds1, p1, q1, rfl, rfl, rfl, h1, r1⟩ := trodAll_cons r0
  obtain ⟨v2, vs2, d2, ds2, p2, q2, rfl, rfl, rfl, h2, r2⟩ := trodAll_cons r1
  obtain ⟨v3, vs3, d3, ds3, p3, q3, rfl, rfl, rfl, h3, r3⟩ := trodAll_cons r2
  obtain ⟨rfl, rfl, rfl⟩ := trodAll_nil r3
  obtain rfl : args = #[v0, v1, v2, v3] := by cases args; simp_all
  obtain ⟨rfl, rfl⟩ := trodVars_none hV
  obtain ⟨a1, rfl, rfl, rfl, w1⟩ := open_int Try.underlying24 (hval 1 24 v1 rfl rfl) h1
  obtain ⟨a2, rfl, rfl, rfl, w2⟩ := open_int Try.underlying23 (hval 2 23 v2 rfl rfl) h2
  obtain ⟨a3, rfl, rfl, rfl, w3⟩ := open_int Try.underlying23 (hval 3 23 v3 rfl rfl) h3
  clear hA hA0
  refine (begins_any' W v0 a1 a2 a3 (bounds_u32 w1).1 (bounds_u32 w1).2 (bounds_u16 w2).1 (bounds_u16 w2).2 (bounds_u16 w3).1 (bounds_u16 w3).2 (hval 0 39 v0 rfl rfl) h0).mono fun e W' ⟨he, hw⟩ => ?_
  subst he
  exact ⟨_, rfl, Frame.law_post hW rfl Try.laidOut (by kernel_rfl) rfl Try.underlying4 rfl rfl rfl hw⟩

theorem turnBegins_holds : Rows.TurnBeginsSaid :=
  OpenClaim.holds_of_wide 6 Try.f6 rfl rfl rfl rfl rfl rfl rfl ⟨rfl, rfl, rfl, rfl, rfl⟩ rfl rfl rfl rfl rfl (by kernel_rfl) Try.func6 (by kernel_rfl)
    (of_decide_eq_true (by kernel_rfl)) (by unfold Func.isWrapper; first | (rw [if_pos (by decide +kernel)]; kernel_rfl) | (rw [if_neg (by decide +kernel)]; exact ⟨rfl, rfl⟩))
    (fun os started H enc _ => turnBegins_lifted os started H enc)

end Go.Proofs.Ytecpbhefpicmaaa
