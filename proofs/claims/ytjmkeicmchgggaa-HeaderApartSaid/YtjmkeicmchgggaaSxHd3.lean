/- Headers: numbers read of bytes, as contracts. No condition. -/
import Derived.Test.YtjmkeicmchgggaaSxHd2
namespace Go.Proofs.Ytjmkeicmchgggaa.Sx
open Go Go.RowKit
set_option linter.unusedVariables false
set_option linter.unusedSimpArgs false

theorem beN_ge : ∀ (l : List Int) (n : Int), Byt l → 0 ≤ n → n ≤ beN n l
  | [], n, _, _ => Int.le_refl _
  | c :: l, n, h, h0 => by
    have hc := h c (by simp)
    have := beN_ge l (n * 256 + c) (fun x hx => h x (by simp [hx])) (by omega)
    simp only [beN]
    omega
theorem beN_big {L : List Int} (h : Byt L) (h1 : 1 < L.length) (h0 : ¬L.getD 0 0 = 0) : 8 ≤ beN 0 L := by
  match L, h1 with
  | a :: b :: l, _ =>
    have ha := h a (by simp)
    have hb := h b (by simp)
    have := beN_ge l ((0 * 256 + a) * 256 + b) (fun x hx => h x (by simp [hx])) (by omega)
    simp only [beN]
    simp at h0
    omega
theorem sz_bd {x : Int} (h0 : 0 ≤ x) (h1 : x < 16) : 0 ≤ sizeF x ∧ sizeF x ≤ 8 := by unfold sizeF; split <;> omega
set_option maxRecDepth 100000 in
set_option maxHeartbeats 8000000 in
theorem num_vc (x : Int) (L : List Int) (c : Nat) (h0 : 0 ≤ x) (h1 : x < 16) (hL : Byt L) (hlen : (L.length : Int) = sizeF x) : numC.vc Try.prog (envL []) numCtl Try.f14 [.I x] [⟨L, c⟩] := of_eq (b := ∀ (x_1 : Int), x_1 = bits BinOp.and IntKind.u8 x (8 : Int) → (x_1 = (0 : Int) → ∀ (x_2 : Int), x_2 = IntKind.u64.wrap x → ∀ (y : Int × Bool), y = numF x L → x_2 = y.fst ∧ true = y.snd ∧ True) ∧ (¬x_1 = (0 : Int) → (((x = x ∧ (((0 : Nat) = (0 : Nat) ∧ (0 : Nat) = (0 : Nat)) ∧ L.length = L.length ∧ c = c) ∧ (0 : Int) = (0 : Int) ∧ (((0 : Nat) = (0 : Nat) ∧ (0 : Nat) = (0 : Nat)) ∧ L.length = L.length ∧ c = c) ∧ (↑L.length : Int) = (↑L.length : Int) ∧ (0 : Int) = (0 : Int) ∧ True) ∧ L = L ∧ True) ∧ Lf ((0 : Int) ≤ (0 : Int) ∧ (0 : Int) ≤ (↑L.length : Int) ∧ (0 : Int) = beN (0 : Int) (List.take (Int.toNat (0 : Int)) L) ∧ (0 : Int) ≤ (0 : Int) ∧ (0 : Int) < (256 : Int) ^ Int.toNat (0 : Int))) ∧ ∀ (x_2 : Int × Int), (0 : Int) ≤ x_2.fst ∧ x_2.fst ≤ (↑L.length : Int) ∧ x_2.snd = beN (0 : Int) (List.take x_2.fst.toNat L) ∧ (0 : Int) ≤ x_2.snd ∧ x_2.snd < (256 : Int) ^ x_2.fst.toNat → (x_2.fst < (↑L.length : Int) → Lf ((0 : Int) ≤ x_2.fst ∧ x_2.fst < (↑L.length : Int)) ∧ Lf ((0 : Nat) + x_2.fst.toNat < L.length) ∧ ∀ (x_3 : Int), x_3 = IntKind.u64.wrap (x_2.snd * (256 : Int)) → ∀ (x_4 : Int), x_4 = IntKind.u64.wrap (L.getD ((0 : Nat) + x_2.fst.toNat) (0 : Int)) → ∀ (x_5 : Int), x_5 = bits BinOp.or IntKind.u64 x_3 x_4 → ∀ (x_6 : Int), x_6 = IntKind.i64.wrap (x_2.fst + (1 : Int)) → (((x = x ∧ (((0 : Nat) = (0 : Nat) ∧ (0 : Nat) = (0 : Nat)) ∧ L.length = L.length ∧ c = c) ∧ x_5 = x_5 ∧ (((0 : Nat) = (0 : Nat) ∧ (0 : Nat) = (0 : Nat)) ∧ L.length = L.length ∧ c = c) ∧ (↑L.length : Int) = (↑L.length : Int) ∧ x_6 = x_6 ∧ True) ∧ L = L ∧ True) ∧ Lf ((0 : Int) ≤ x_6 ∧ x_6 ≤ (↑L.length : Int) ∧ x_5 = beN (0 : Int) (List.take x_6.toNat L) ∧ (0 : Int) ≤ x_5 ∧ x_5 < (256 : Int) ^ x_6.toNat)) ∧ Lf (((↑L.length : Int) - x_6).toNat < ((↑L.length : Int) - x_2.fst).toNat)) ∧ (¬x_2.fst < (↑L.length : Int) → Lf ((0 : Int) ≤ (0 : Int) ∧ (0 : Int) < (↑L.length : Int)) ∧ Lf ((0 : Nat) < L.length) ∧ (L.getD (0 : Nat) (0 : Int) = (0 : Int) → ∀ (y : Int × Bool), y = numF x L → x_2.snd = y.fst ∧ false = y.snd ∧ True) ∧ (¬L.getD (0 : Nat) (0 : Int) = (0 : Int) → ((8 : Int) ≤ x_2.snd → ∀ (y : Int × Bool), y = numF x L → x_2.snd = y.fst ∧ true = y.snd ∧ True) ∧ (¬(8 : Int) ≤ x_2.snd → ∀ (y : Int × Bool), y = numF x L → x_2.snd = y.fst ∧ false = y.snd ∧ True))))) (by kernel_rfl) (by
  intro a ha
  obtain ⟨k, rfl⟩ := fin_of (n := 16) h0 h1
  rw [(and_16 k).1] at ha
  subst ha
  have p8 : ∀ k : Fin 8, (256 : Int) ^ (k.val : Int).toNat * 256 ≤ 18446744073709551616 := by decide +kernel
  by_cases hk : (k.val : Int) < 8
  · simp only [hk, if_true]
    refine ⟨fun _ => ?_, fun h => absurd trivial h⟩
    intro b hb y hy
    subst hb; subst hy
    simp only [numF, hk, if_true, IntKind.wrap_u64]
    exact ⟨by omega, trivial, trivial⟩
  · simp only [hk, if_false]
    refine ⟨fun h => absurd h (by decide), fun _ => ⟨⟨by simp, ⟨by simp [beN]⟩⟩, ?_⟩⟩
    rintro ⟨i, n⟩ ⟨i0, i1, hn, n0, n1⟩
    dsimp only at *
    have hl : 1 ≤ L.length ∧ L.length ≤ 8 := by simp only [sizeF, hk, if_false] at hlen; omega
    refine ⟨fun hi => ⟨⟨⟨i0, hi⟩⟩, ⟨by omega⟩, ?_⟩, fun hi => ⟨⟨by omega⟩, ⟨by omega⟩, ?_⟩⟩
    · intro a ha b hb d hd e he
      have hg := byt_getD hL (0 + i.toNat)
      have hp : (256 : Int) ^ i.toNat * 256 ≤ 18446744073709551616 := by
        obtain ⟨j, rfl⟩ := fin_of (n := 8) i0 (by omega)
        exact p8 j
      have hn2 : n * 256 < 18446744073709551616 := by omega
      have hs : (i + 1).toNat = i.toNat + 1 := by omega
      have hd2 : d = n * 256 + L.getD (0 + i.toNat) 0 := by
        subst hd; subst hb; subst ha
        have e1 : IntKind.u64.wrap (n * 256) = n * 256 := by simp only [IntKind.wrap_u64]; omega
        have e2 : IntKind.u64.wrap (L.getD (0 + i.toNat) 0) = L.getD (0 + i.toNat) 0 := by simp only [IntKind.wrap_u64]; omega
        rw [e1, e2]
        exact u64_or n0 hn2 hg.1 hg.2
      have he2 : e = i + 1 := by subst he; simp only [IntKind.wrap_i64]; omega
      subst hd2; subst he2
      refine ⟨⟨by simp, ⟨by omega, by omega, ?_, by omega, ?_⟩⟩, ⟨by omega⟩⟩
      · rw [hs, take_snoc (by omega), beN_snoc, ← hn, Nat.zero_add]
      · rw [hs, Int.pow_succ]; omega
    · have hi2 : i.toNat = L.length := by omega
      rw [hi2, List.take_length] at hn
      subst hn
      refine ⟨fun hz => ?_, fun hz => ⟨fun h8 => ?_, fun h8 => ?_⟩⟩
      · intro y hy; subst hy
        simp only [numF, hk, if_false, hz, decide_true, Bool.not_true, Bool.false_and]
        exact ⟨trivial, trivial, trivial⟩
      · intro y hy; subst hy
        simp only [numF, hk, if_false, hz, decide_false, Bool.not_false, Bool.true_and, h8, decide_true]
        exact ⟨trivial, trivial, trivial⟩
      · intro y hy; subst hy
        simp only [numF, hk, if_false, hz, decide_false, Bool.not_false, Bool.true_and, h8]
        exact ⟨trivial, trivial, trivial⟩)
set_option maxRecDepth 100000 in
set_option maxHeartbeats 8000000 in
theorem val_vc (x : Int) (L : List Int) (c : Nat) (h0 : 0 ≤ x) (h1 : x < 16) (hL : Byt L) (hlen : (L.length : Int) = sizeF x) : numC.vc Try.prog (envL []) valCtl Try.f17 [.I x] [⟨L, c⟩] := of_eq (b := (x < (8 : Int) → ∀ (x_1 : Int), x_1 = IntKind.u64.wrap x → ∀ (y : Int × Bool), y = numF x L → x_1 = y.fst ∧ true = y.snd ∧ True) ∧ (¬x < (8 : Int) → (((x = x ∧ (((0 : Nat) = (0 : Nat) ∧ (0 : Nat) = (0 : Nat)) ∧ L.length = L.length ∧ c = c) ∧ (0 : Int) = (0 : Int) ∧ (0 : Int) = (0 : Int) ∧ True) ∧ L = L ∧ True) ∧ Lf ((0 : Int) ≤ (0 : Int) ∧ (0 : Int) ≤ (↑L.length : Int) ∧ (0 : Int) = beN (0 : Int) (List.take (Int.toNat (0 : Int)) L) ∧ (0 : Int) ≤ (0 : Int) ∧ (0 : Int) < (256 : Int) ^ Int.toNat (0 : Int))) ∧ ∀ (x_1 : Int × Int), (0 : Int) ≤ x_1.fst ∧ x_1.fst ≤ (↑L.length : Int) ∧ x_1.snd = beN (0 : Int) (List.take x_1.fst.toNat L) ∧ (0 : Int) ≤ x_1.snd ∧ x_1.snd < (256 : Int) ^ x_1.fst.toNat → (x_1.fst < (↑L.length : Int) → ∀ (x_2 : Int), x_2 = IntKind.u64.wrap (x_1.snd * (256 : Int)) → Lf ((0 : Int) ≤ x_1.fst ∧ x_1.fst < (↑L.length : Int)) ∧ Lf ((0 : Nat) + x_1.fst.toNat < L.length) ∧ ∀ (x_3 : Int), x_3 = IntKind.u64.wrap (L.getD ((0 : Nat) + x_1.fst.toNat) (0 : Int)) → ∀ (x_4 : Int), x_4 = bits BinOp.or IntKind.u64 x_2 x_3 → ∀ (x_5 : Int), x_5 = IntKind.i64.wrap (x_1.fst + (1 : Int)) → (((x = x ∧ (((0 : Nat) = (0 : Nat) ∧ (0 : Nat) = (0 : Nat)) ∧ L.length = L.length ∧ c = c) ∧ x_4 = x_4 ∧ x_5 = x_5 ∧ True) ∧ L = L ∧ True) ∧ Lf ((0 : Int) ≤ x_5 ∧ x_5 ≤ (↑L.length : Int) ∧ x_4 = beN (0 : Int) (List.take x_5.toNat L) ∧ (0 : Int) ≤ x_4 ∧ x_4 < (256 : Int) ^ x_5.toNat)) ∧ Lf (((↑L.length : Int) - x_5).toNat < ((↑L.length : Int) - x_1.fst).toNat)) ∧ (¬x_1.fst < (↑L.length : Int) → Lf ((0 : Int) ≤ (0 : Int) ∧ (0 : Int) < (↑L.length : Int)) ∧ Lf ((0 : Nat) < L.length) ∧ (L.getD (0 : Nat) (0 : Int) = (0 : Int) → ∀ (y : Int × Bool), y = numF x L → x_1.snd = y.fst ∧ false = y.snd ∧ True) ∧ (¬L.getD (0 : Nat) (0 : Int) = (0 : Int) → ((1 : Int) < (↑L.length : Int) → ∀ (y : Int × Bool), y = numF x L → x_1.snd = y.fst ∧ true = y.snd ∧ True) ∧ (¬(1 : Int) < (↑L.length : Int) → ((7 : Int) < x_1.snd → ∀ (y : Int × Bool), y = numF x L → x_1.snd = y.fst ∧ true = y.snd ∧ True) ∧ (¬(7 : Int) < x_1.snd → ∀ (y : Int × Bool), y = numF x L → x_1.snd = y.fst ∧ false = y.snd ∧ True)))))) (by kernel_rfl) (by
  have p8 : ∀ k : Fin 8, (256 : Int) ^ (k.val : Int).toNat * 256 ≤ 18446744073709551616 := by decide +kernel
  refine ⟨fun hk => ?_, fun hk => ⟨⟨by simp, ⟨by simp [beN]⟩⟩, ?_⟩⟩
  · intro b hb y hy
    subst hb; subst hy
    simp only [numF, hk, if_true, IntKind.wrap_u64]
    exact ⟨by omega, trivial, trivial⟩
  · rintro ⟨i, n⟩ ⟨i0, i1, hn, n0, n1⟩
    dsimp only at *
    have hl : 1 ≤ L.length ∧ L.length ≤ 8 := by simp only [sizeF, hk, if_false] at hlen; omega
    refine ⟨fun hi => ?_, fun hi => ⟨⟨by omega⟩, ⟨by omega⟩, ?_⟩⟩
    · intro a ha
      refine ⟨⟨⟨i0, hi⟩⟩, ⟨by omega⟩, ?_⟩
      intro b hb d hd e he
      have hg := byt_getD hL (0 + i.toNat)
      have hp : (256 : Int) ^ i.toNat * 256 ≤ 18446744073709551616 := by
        obtain ⟨j, rfl⟩ := fin_of (n := 8) i0 (by omega)
        exact p8 j
      have hn2 : n * 256 < 18446744073709551616 := by omega
      have hs : (i + 1).toNat = i.toNat + 1 := by omega
      have hd2 : d = n * 256 + L.getD (0 + i.toNat) 0 := by
        subst hd; subst hb; subst ha
        have e1 : IntKind.u64.wrap (n * 256) = n * 256 := by simp only [IntKind.wrap_u64]; omega
        have e2 : IntKind.u64.wrap (L.getD (0 + i.toNat) 0) = L.getD (0 + i.toNat) 0 := by simp only [IntKind.wrap_u64]; omega
        rw [e1, e2]
        exact u64_or n0 hn2 hg.1 hg.2
      have he2 : e = i + 1 := by subst he; simp only [IntKind.wrap_i64]; omega
      subst hd2; subst he2
      refine ⟨⟨by simp, ⟨by omega, by omega, ?_, by omega, ?_⟩⟩, ⟨by omega⟩⟩
      · rw [hs, take_snoc (by omega), beN_snoc, ← hn, Nat.zero_add]
      · rw [hs, Int.pow_succ]; omega
    · have hi2 : i.toNat = L.length := by omega
      rw [hi2, List.take_length] at hn
      subst hn
      refine ⟨fun hz => ?_, fun hz => ⟨fun h8 => ?_, fun h8 => ⟨fun h7 => ?_, fun h7 => ?_⟩⟩⟩
      · intro y hy; subst hy
        simp only [numF, hk, if_false, hz, decide_true, Bool.not_true, Bool.false_and]
        exact ⟨trivial, trivial, trivial⟩
      · have := beN_big hL (by omega) hz
        intro y hy; subst hy
        simp only [numF, hk, if_false, hz, decide_false, Bool.not_false, Bool.true_and, this, decide_true]
        exact ⟨trivial, trivial, trivial⟩
      · have : 8 ≤ beN 0 L := by omega
        intro y hy; subst hy
        simp only [numF, hk, if_false, hz, decide_false, Bool.not_false, Bool.true_and, this, decide_true]
        exact ⟨trivial, trivial, trivial⟩
      · have : ¬8 ≤ beN 0 L := by omega
        intro y hy; subst hy
        simp only [numF, hk, if_false, hz, decide_false, Bool.not_false, Bool.true_and, this]
        exact ⟨trivial, trivial, trivial⟩)
theorem b_out {x y a b : Int} {p q : Int × List Int} (hp : p = fieldF x) (hq : q = fieldF y) (hx : 0 ≤ x) (hy : 0 ≤ y) (ha : a = IntKind.u8.wrap (p.1 * 16)) (hb : b = bits .or .u8 a q.1) : [b] ++ p.2 ++ q.2 = bytesF x y ∧ (p.2.length ≤ 8 ∧ q.2.length ≤ 8) := by
  obtain ⟨p0, p1, p2, _⟩ := field_bd hx
  obtain ⟨q0, q1, q2, _⟩ := field_bd hy
  subst hp; subst hq
  refine ⟨?_, p2, q2⟩
  obtain ⟨k, hk⟩ := fin_of (n := 16) p0 p1
  obtain ⟨j, hj⟩ := fin_of (n := 16) q0 q1
  have e1 : IntKind.u8.wrap ((fieldF x).1 * 16) = (fieldF x).1 * 16 := by simp only [IntKind.wrap_u8]; omega
  have e2 : b = (fieldF x).1 * 16 + (fieldF y).1 := by rw [hb, ha, e1, hk, hj]; exact or_16 k j
  rw [e2]
  simp [bytesF]
set_option maxRecDepth 100000 in
set_option maxHeartbeats 8000000 in
theorem bytes_vc (x y : Int) (x0 : 0 ≤ x) (x1 : x < 18446744073709551616) (y0 : 0 ≤ y) (y1 : y < 18446744073709551616) : bytesC.vc Try.prog (envL envH1) noCtl Try.f9 [.I x, .I y] [] := of_eq (b := Lf ((0 : Int) ≤ x ∧ x < (18446744073709551616 : Int)) ∧ ∀ (x_1 : Int × List Int), x_1 = fieldF x → ∀ (x_2 : Nat), x_1.snd.length ≤ x_2 → Lf ((0 : Int) ≤ y ∧ y < (18446744073709551616 : Int)) ∧ ∀ (x_3 : Int × List Int), x_3 = fieldF y → ∀ (x_4 : Nat), x_3.snd.length ≤ x_4 → ∀ (x_5 : Int), x_5 = IntKind.u8.wrap (x_1.fst * (16 : Int)) → ∀ (x_6 : Int), x_6 = bits BinOp.or IntKind.u8 x_5 x_3.fst → Lf (([x_6] ++ x_1.snd).length * (1 : Nat) ≤ (140737488355328 : Nat)) ∧ ∀ (x_7 : Nat), ([x_6] ++ x_1.snd).length ≤ x_7 → Lf (([x_6] ++ x_1.snd ++ x_3.snd).length * (1 : Nat) ≤ (140737488355328 : Nat)) ∧ ∀ (x_8 : Nat), ([x_6] ++ x_1.snd ++ x_3.snd).length ≤ x_8 → [x_6] ++ x_1.snd ++ x_3.snd = bytesF x y ∧ True) (by kernel_rfl) (by
  refine ⟨⟨x0, x1⟩, fun p hp c1 h1 => ⟨⟨y0, y1⟩, fun q hq c2 h2 a ha b hb => ?_⟩⟩
  obtain ⟨g1, g2, g3⟩ := b_out hp hq x0 y0 ha hb
  refine ⟨⟨by simp; omega⟩, fun c3 h3 => ⟨⟨by simp; omega⟩, fun c4 h4 => ⟨g1, trivial⟩⟩⟩)
set_option maxRecDepth 100000 in
set_option maxHeartbeats 8000000 in
theorem header_vc (x y : Int) (x0 : 0 ≤ x) (x1 : x < 18446744073709551616) (y0 : 0 ≤ y) (y1 : y < 18446744073709551616) : bytesC.vc Try.prog (envL envH1) noCtl Try.f12 [.I x, .I y] [] := of_eq (b := Lf ((0 : Int) ≤ x ∧ x < (18446744073709551616 : Int)) ∧ ∀ (x_1 : Int × List Int), x_1 = fieldF x → ∀ (x_2 : Nat), x_1.snd.length ≤ x_2 → Lf ((0 : Int) ≤ y ∧ y < (18446744073709551616 : Int)) ∧ ∀ (x_3 : Int × List Int), x_3 = fieldF y → ∀ (x_4 : Nat), x_3.snd.length ≤ x_4 → ∀ (x_5 : Int), x_5 = IntKind.u8.wrap (x_1.fst * (16 : Int)) → ∀ (x_6 : Int), x_6 = bits BinOp.or IntKind.u8 x_5 x_3.fst → Lf (([x_6] ++ x_1.snd).length * (1 : Nat) ≤ (140737488355328 : Nat)) ∧ ∀ (x_7 : Nat), ([x_6] ++ x_1.snd).length ≤ x_7 → Lf (([x_6] ++ x_1.snd ++ x_3.snd).length * (1 : Nat) ≤ (140737488355328 : Nat)) ∧ ∀ (x_8 : Nat), ([x_6] ++ x_1.snd ++ x_3.snd).length ≤ x_8 → [x_6] ++ x_1.snd ++ x_3.snd = bytesF x y ∧ True) (by kernel_rfl) (by
  refine ⟨⟨x0, x1⟩, fun p hp c1 h1 => ⟨⟨y0, y1⟩, fun q hq c2 h2 a ha b hb => ?_⟩⟩
  obtain ⟨g1, g2, g3⟩ := b_out hp hq x0 y0 ha hb
  refine ⟨⟨by simp; omega⟩, fun c3 h3 => ⟨⟨by simp; omega⟩, fun c4 h4 => ⟨g1, trivial⟩⟩⟩)
end Go.Proofs.Ytjmkeicmchgggaa.Sx
