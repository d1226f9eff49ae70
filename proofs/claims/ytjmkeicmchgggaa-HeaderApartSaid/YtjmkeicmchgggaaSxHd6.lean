/- Headers: unlike ones have unlike bytes, reckoned. No condition. -/
import Derived.Test.YtjmkeicmchgggaaSxHd5
namespace Go.Proofs.Ytjmkeicmchgggaa.Sx
open Go Go.RowKit
set_option linter.unusedVariables false
set_option linter.unusedSimpArgs false

set_option maxRecDepth 100000 in
theorem apartH_vc (x y x2 y2 : Int) (L : List Int) (c : Nat) (x0 : 0 ≤ x) (x1 : x < 18446744073709551616) (y0 : 0 ≤ y) (y1 : y < 18446744073709551616) (u0 : 0 ≤ x2) (u1 : x2 < 18446744073709551616) (v0 : 0 ≤ y2) (v1 : y2 < 18446744073709551616) (hL : Byt L) (hc : L.length ≤ c) : apartC.vc Try.prog (envL envH3) noCtl Try.f6 [.I x, .I y, .I x2, .I y2] [⟨L, c⟩] := of_eq (b := (false = true → false = true ∧ True) ∧ (false = false → Lf (((0 : Int) ≤ x ∧ x < (18446744073709551616 : Int)) ∧ (0 : Int) ≤ y ∧ y < (18446744073709551616 : Int)) ∧ ∀ (x_1 : Nat), (bytesF x y).length ≤ x_1 → Lf (((0 : Int) ≤ x2 ∧ x2 < (18446744073709551616 : Int)) ∧ (0 : Int) ≤ y2 ∧ y2 < (18446744073709551616 : Int)) ∧ ∀ (x_2 : Nat), (bytesF x2 y2).length ≤ x_2 → (x = x2 → (y = y2 → ∀ (x_3 : Int), x_3 = min (↑(bytesF x y).length : Int) (↑(bytesF x2 y2).length : Int) → Lf ((0 : Int) ≤ x_3 ∧ x_3 ≤ (↑x_1 : Int)) ∧ Lf ((0 : Int) ≤ x_3 ∧ x_3 ≤ (↑x_2 : Int)) ∧ Lf ((0 : Nat) + (x_3.toNat - (0 : Nat)) ≤ (bytesF x y).length) ∧ Lf ((0 : Nat) + (x_3.toNat - (0 : Nat)) ≤ (bytesF x2 y2).length) ∧ Lf (Byt (List.take (x_3.toNat - (0 : Nat)) (List.drop (0 : Nat) (bytesF x y))) ∧ Byt (List.take (x_3.toNat - (0 : Nat)) (List.drop (0 : Nat) (bytesF x2 y2)))) ∧ ∀ (x_4 : Bool), x_4 = decide (List.take (x_3.toNat - (0 : Nat)) (List.drop (0 : Nat) (bytesF x y)) = List.take (x_3.toNat - (0 : Nat)) (List.drop (0 : Nat) (bytesF x2 y2))) → (x_4 = true → Lf (Byt (bytesF x y) ∧ Byt (bytesF x2 y2)) ∧ ∀ (x_5 : Bool), x_5 = decide (bytesF x y = bytesF x2 y2) → (x_5 = true → Lf ((0 : Nat) + L.length ≤ L.length) ∧ Lf (Byt (List.take L.length (List.drop (0 : Nat) L))) ∧ ∀ (x : Int × Int × Int × Int), x = parseF (List.take L.length (List.drop (0 : Nat) L)) → (x.snd.snd.snd = (0 : Int) → (x.snd.snd.fst ≤ (↑L.length : Int) → Lf (((0 : Int) ≤ x.1 ∧ x.1 < (18446744073709551616 : Int)) ∧ (0 : Int) ≤ x.snd.1 ∧ x.snd.1 < (18446744073709551616 : Int)) ∧ ∀ (x_6 : Nat), (bytesF x.1 x.snd.1).length ≤ x_6 → Lf ((0 : Int) ≤ x.snd.snd.fst ∧ x.snd.snd.fst ≤ (↑c : Int)) ∧ Lf ((0 : Nat) + (x.snd.snd.fst.toNat - (0 : Nat)) ≤ L.length) ∧ Lf (Byt (bytesF x.1 x.snd.1) ∧ Byt (List.take (x.snd.snd.fst.toNat - (0 : Nat)) (List.drop (0 : Nat) L))) ∧ ∀ (x_7 : Bool), x_7 = decide (bytesF x.1 x.snd.1 = List.take (x.snd.snd.fst.toNat - (0 : Nat)) (List.drop (0 : Nat) L)) → x_7 = true ∧ True) ∧ (¬x.snd.snd.fst ≤ (↑L.length : Int) → false = true ∧ True)) ∧ (¬x.snd.snd.snd = (0 : Int) → true = true ∧ True)) ∧ (¬x_5 = true → false = true ∧ True)) ∧ (¬x_4 = true → false = true ∧ True)) ∧ (¬y = y2 → ∀ (x_3 : Int), x_3 = min (↑(bytesF x y).length : Int) (↑(bytesF x2 y2).length : Int) → Lf ((0 : Int) ≤ x_3 ∧ x_3 ≤ (↑x_1 : Int)) ∧ Lf ((0 : Int) ≤ x_3 ∧ x_3 ≤ (↑x_2 : Int)) ∧ Lf ((0 : Nat) + (x_3.toNat - (0 : Nat)) ≤ (bytesF x y).length) ∧ Lf ((0 : Nat) + (x_3.toNat - (0 : Nat)) ≤ (bytesF x2 y2).length) ∧ Lf (Byt (List.take (x_3.toNat - (0 : Nat)) (List.drop (0 : Nat) (bytesF x y))) ∧ Byt (List.take (x_3.toNat - (0 : Nat)) (List.drop (0 : Nat) (bytesF x2 y2)))) ∧ ∀ (x_4 : Bool), x_4 = decide (List.take (x_3.toNat - (0 : Nat)) (List.drop (0 : Nat) (bytesF x y)) = List.take (x_3.toNat - (0 : Nat)) (List.drop (0 : Nat) (bytesF x2 y2))) → (x_4 = false → Lf (Byt (bytesF x y) ∧ Byt (bytesF x2 y2)) ∧ ∀ (x_5 : Bool), x_5 = decide (bytesF x y = bytesF x2 y2) → (x_5 = false → Lf ((0 : Nat) + L.length ≤ L.length) ∧ Lf (Byt (List.take L.length (List.drop (0 : Nat) L))) ∧ ∀ (x : Int × Int × Int × Int), x = parseF (List.take L.length (List.drop (0 : Nat) L)) → (x.snd.snd.snd = (0 : Int) → (x.snd.snd.fst ≤ (↑L.length : Int) → Lf (((0 : Int) ≤ x.1 ∧ x.1 < (18446744073709551616 : Int)) ∧ (0 : Int) ≤ x.snd.1 ∧ x.snd.1 < (18446744073709551616 : Int)) ∧ ∀ (x_6 : Nat), (bytesF x.1 x.snd.1).length ≤ x_6 → Lf ((0 : Int) ≤ x.snd.snd.fst ∧ x.snd.snd.fst ≤ (↑c : Int)) ∧ Lf ((0 : Nat) + (x.snd.snd.fst.toNat - (0 : Nat)) ≤ L.length) ∧ Lf (Byt (bytesF x.1 x.snd.1) ∧ Byt (List.take (x.snd.snd.fst.toNat - (0 : Nat)) (List.drop (0 : Nat) L))) ∧ ∀ (x_7 : Bool), x_7 = decide (bytesF x.1 x.snd.1 = List.take (x.snd.snd.fst.toNat - (0 : Nat)) (List.drop (0 : Nat) L)) → x_7 = true ∧ True) ∧ (¬x.snd.snd.fst ≤ (↑L.length : Int) → false = true ∧ True)) ∧ (¬x.snd.snd.snd = (0 : Int) → true = true ∧ True)) ∧ (¬x_5 = false → false = true ∧ True)) ∧ (¬x_4 = false → false = true ∧ True))) ∧ (¬x = x2 → ∀ (x_3 : Int), x_3 = min (↑(bytesF x y).length : Int) (↑(bytesF x2 y2).length : Int) → Lf ((0 : Int) ≤ x_3 ∧ x_3 ≤ (↑x_1 : Int)) ∧ Lf ((0 : Int) ≤ x_3 ∧ x_3 ≤ (↑x_2 : Int)) ∧ Lf ((0 : Nat) + (x_3.toNat - (0 : Nat)) ≤ (bytesF x y).length) ∧ Lf ((0 : Nat) + (x_3.toNat - (0 : Nat)) ≤ (bytesF x2 y2).length) ∧ Lf (Byt (List.take (x_3.toNat - (0 : Nat)) (List.drop (0 : Nat) (bytesF x y))) ∧ Byt (List.take (x_3.toNat - (0 : Nat)) (List.drop (0 : Nat) (bytesF x2 y2)))) ∧ ∀ (x_4 : Bool), x_4 = decide (List.take (x_3.toNat - (0 : Nat)) (List.drop (0 : Nat) (bytesF x y)) = List.take (x_3.toNat - (0 : Nat)) (List.drop (0 : Nat) (bytesF x2 y2))) → (x_4 = false → Lf (Byt (bytesF x y) ∧ Byt (bytesF x2 y2)) ∧ ∀ (x_5 : Bool), x_5 = decide (bytesF x y = bytesF x2 y2) → (x_5 = false → Lf ((0 : Nat) + L.length ≤ L.length) ∧ Lf (Byt (List.take L.length (List.drop (0 : Nat) L))) ∧ ∀ (x : Int × Int × Int × Int), x = parseF (List.take L.length (List.drop (0 : Nat) L)) → (x.snd.snd.snd = (0 : Int) → (x.snd.snd.fst ≤ (↑L.length : Int) → Lf (((0 : Int) ≤ x.1 ∧ x.1 < (18446744073709551616 : Int)) ∧ (0 : Int) ≤ x.snd.1 ∧ x.snd.1 < (18446744073709551616 : Int)) ∧ ∀ (x_6 : Nat), (bytesF x.1 x.snd.1).length ≤ x_6 → Lf ((0 : Int) ≤ x.snd.snd.fst ∧ x.snd.snd.fst ≤ (↑c : Int)) ∧ Lf ((0 : Nat) + (x.snd.snd.fst.toNat - (0 : Nat)) ≤ L.length) ∧ Lf (Byt (bytesF x.1 x.snd.1) ∧ Byt (List.take (x.snd.snd.fst.toNat - (0 : Nat)) (List.drop (0 : Nat) L))) ∧ ∀ (x_7 : Bool), x_7 = decide (bytesF x.1 x.snd.1 = List.take (x.snd.snd.fst.toNat - (0 : Nat)) (List.drop (0 : Nat) L)) → x_7 = true ∧ True) ∧ (¬x.snd.snd.fst ≤ (↑L.length : Int) → false = true ∧ True)) ∧ (¬x.snd.snd.snd = (0 : Int) → true = true ∧ True)) ∧ (¬x_5 = false → false = true ∧ True)) ∧ (¬x_4 = false → false = true ∧ True)))) (by kernel_rfl) (by
  simp only [List.drop_zero, List.take_length, Nat.sub_zero, Nat.zero_add]
  refine ⟨fun h => (by cases h), fun _ => ⟨⟨⟨x0, x1⟩, y0, y1⟩, fun c1 h1 => ⟨⟨⟨u0, u1⟩, v0, v1⟩, fun c2 h2 => ⟨fun ex => ⟨fun ey => ?_, fun ey => ?_⟩, fun ex => ?_⟩⟩⟩⟩
  · subst ex; subst ey
    intro m hm
    refine ⟨⟨by omega⟩, ⟨by omega⟩, ⟨by omega⟩, ⟨by omega⟩, ⟨byt_take (bytes_byt x0 y0) _, byt_take (bytes_byt x0 y0) _⟩, fun b4 h4 => ⟨fun _ => ⟨⟨bytes_byt x0 y0, bytes_byt x0 y0⟩, fun b5 h5 => ⟨fun _ => ⟨⟨Nat.le_refl _⟩, ⟨hL⟩, fun p hp => ⟨fun hz => ⟨fun hle => ?_, fun n => ?_⟩, fun _ => ⟨trivial, trivial⟩⟩⟩, fun n => absurd (by rw [h5]; exact decide_eq_true rfl) n⟩⟩, fun n => absurd (by rw [h4]; exact decide_eq_true rfl) n⟩⟩
    · rw [hp] at hz
      obtain ⟨⟨a0, a1⟩, ⟨b0, b1⟩, ⟨m0, m1⟩, hbb⟩ := parse_same hL hz
      rw [← hp] at a0 a1 b0 b1 m0 m1 hbb
      refine ⟨⟨⟨a0, a1⟩, b0, b1⟩, fun c6 _ => ⟨⟨m0, by omega⟩, ⟨by omega⟩, ⟨bytes_byt a0 b0, byt_take hL _⟩, fun b7 h7 => ⟨?_, trivial⟩⟩⟩
      rw [h7]
      exact decide_eq_true hbb
    · rw [hp] at hz
      have := (parse_same hL hz).2.2.1.2
      rw [← hp] at this
      exact absurd this n
  · have ne : ¬(x = x2 ∧ y = y2) := fun h => ey h.2
    intro m hm
    have hmm : m.toNat = min (bytesF x y).length (bytesF x2 y2).length := by omega
    have n4 : ¬(bytesF x y).take m.toNat = (bytesF x2 y2).take m.toNat := fun h => ne (bytes_inj x0 x1 y0 y1 u0 u1 v0 v1 hmm h)
    have n5 : ¬bytesF x y = bytesF x2 y2 := fun h => ne (bytes_inj x0 x1 y0 y1 u0 u1 v0 v1 rfl (by rw [h]))
    refine ⟨⟨by omega⟩, ⟨by omega⟩, ⟨by omega⟩, ⟨by omega⟩, ⟨byt_take (bytes_byt x0 y0) _, byt_take (bytes_byt u0 v0) _⟩, fun b4 h4 => ⟨fun _ => ⟨⟨bytes_byt x0 y0, bytes_byt u0 v0⟩, fun b5 h5 => ⟨fun _ => ⟨⟨Nat.le_refl _⟩, ⟨hL⟩, fun p hp => ⟨fun hz => ⟨fun hle => ?_, fun n => ?_⟩, fun _ => ⟨trivial, trivial⟩⟩⟩, fun n => absurd (by rw [h5]; exact decide_eq_false n5) n⟩⟩, fun n => absurd (by rw [h4]; exact decide_eq_false n4) n⟩⟩
    · rw [hp] at hz
      obtain ⟨⟨a0, a1⟩, ⟨b0, b1⟩, ⟨m0, m1⟩, hbb⟩ := parse_same hL hz
      rw [← hp] at a0 a1 b0 b1 m0 m1 hbb
      refine ⟨⟨⟨a0, a1⟩, b0, b1⟩, fun c6 _ => ⟨⟨m0, by omega⟩, ⟨by omega⟩, ⟨bytes_byt a0 b0, byt_take hL _⟩, fun b7 h7 => ⟨?_, trivial⟩⟩⟩
      rw [h7]
      exact decide_eq_true hbb
    · rw [hp] at hz
      have := (parse_same hL hz).2.2.1.2
      rw [← hp] at this
      exact absurd this n
  · have ne : ¬(x = x2 ∧ y = y2) := fun h => ex h.1
    intro m hm
    have hmm : m.toNat = min (bytesF x y).length (bytesF x2 y2).length := by omega
    have n4 : ¬(bytesF x y).take m.toNat = (bytesF x2 y2).take m.toNat := fun h => ne (bytes_inj x0 x1 y0 y1 u0 u1 v0 v1 hmm h)
    have n5 : ¬bytesF x y = bytesF x2 y2 := fun h => ne (bytes_inj x0 x1 y0 y1 u0 u1 v0 v1 rfl (by rw [h]))
    refine ⟨⟨by omega⟩, ⟨by omega⟩, ⟨by omega⟩, ⟨by omega⟩, ⟨byt_take (bytes_byt x0 y0) _, byt_take (bytes_byt u0 v0) _⟩, fun b4 h4 => ⟨fun _ => ⟨⟨bytes_byt x0 y0, bytes_byt u0 v0⟩, fun b5 h5 => ⟨fun _ => ⟨⟨Nat.le_refl _⟩, ⟨hL⟩, fun p hp => ⟨fun hz => ⟨fun hle => ?_, fun n => ?_⟩, fun _ => ⟨trivial, trivial⟩⟩⟩, fun n => absurd (by rw [h5]; exact decide_eq_false n5) n⟩⟩, fun n => absurd (by rw [h4]; exact decide_eq_false n4) n⟩⟩
    · rw [hp] at hz
      obtain ⟨⟨a0, a1⟩, ⟨b0, b1⟩, ⟨m0, m1⟩, hbb⟩ := parse_same hL hz
      rw [← hp] at a0 a1 b0 b1 m0 m1 hbb
      refine ⟨⟨⟨a0, a1⟩, b0, b1⟩, fun c6 _ => ⟨⟨m0, by omega⟩, ⟨by omega⟩, ⟨bytes_byt a0 b0, byt_take hL _⟩, fun b7 h7 => ⟨?_, trivial⟩⟩⟩
      rw [h7]
      exact decide_eq_true hbb
    · rw [hp] at hz
      have := (parse_same hL hz).2.2.1.2
      rw [← hp] at this
      exact absurd this n)
end Go.Proofs.Ytjmkeicmchgggaa.Sx
