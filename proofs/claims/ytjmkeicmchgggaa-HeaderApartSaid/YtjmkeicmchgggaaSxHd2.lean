/- Headers: bytes of numbers, numbers of bytes, as contracts. No condition. -/
import Derived.Test.YtjmkeicmchgggaaSxHd1
namespace Go.Proofs.Ytjmkeicmchgggaa.Sx
open Go Go.RowKit
set_option linter.unusedVariables false
set_option linter.unusedSimpArgs false

theorem two_pow8 (i : Int) (h0 : 0 ≤ i) (h1 : i ≤ 7) : (2 : Int) ^ min (8 * i).toNat 64 = 256 ^ i.toNat := by
  obtain ⟨k, rfl⟩ := fin_of (n := 8) h0 (by omega)
  have : ∀ k : Fin 8, (2 : Int) ^ min (8 * (k.val : Int)).toNat 64 = 256 ^ (k.val : Int).toNat := by decide +kernel
  exact this k
set_option maxRecDepth 100000 in
set_option maxHeartbeats 8000000 in
theorem u_vc (v n : Int) (L : List Int) (c : Nat) (v0 : 0 ≤ v) (v1 : v < 18446744073709551616) (n0 : 0 ≤ n) (n8 : n ≤ 8) (hl : L.length ≤ 100) : uC.vc Try.prog (envL []) uCtl Try.f19 [.I v, .I n] [⟨L, c⟩] := of_eq (b := Lf ((0 : Nat) + L.length ≤ L.length) ∧ Lf (([] ++ List.take L.length (List.drop (0 : Nat) L)).length * (1 : Nat) ≤ (140737488355328 : Nat)) ∧ ∀ (x : Nat), ([] ++ List.take L.length (List.drop (0 : Nat) L)).length ≤ x → ∀ (x_1 : Int), x_1 = IntKind.i64.wrap (n - (1 : Int)) → (((v = v ∧ (([] ++ List.take L.length (List.drop (0 : Nat) L)).length = ([] ++ List.take L.length (List.drop (0 : Nat) L)).length ∧ x = x) ∧ x_1 = x_1 ∧ True) ∧ [] ++ List.take L.length (List.drop (0 : Nat) L) = [] ++ List.take L.length (List.drop (0 : Nat) L) ∧ True) ∧ Lf ((-1 : Int) ≤ x_1 ∧ x_1 ≤ (7 : Int) ∧ [] ++ List.take L.length (List.drop (0 : Nat) L) ++ uB v (x_1 + (1 : Int)).toNat = [] ++ List.take L.length (List.drop (0 : Nat) L) ++ uB v (x_1 + (1 : Int)).toNat ∧ ↑([] ++ List.take L.length (List.drop (0 : Nat) L)).length + x_1 ≤ (107 : Int))) ∧ ∀ (x : Int × List Int × Nat), (-1 : Int) ≤ x.fst ∧ x.fst ≤ (7 : Int) ∧ x.snd.fst ++ uB v (x.fst + (1 : Int)).toNat = [] ++ List.take L.length (List.drop (0 : Nat) L) ++ uB v (x_1 + (1 : Int)).toNat ∧ ↑x.snd.fst.length + x.fst ≤ (107 : Int) → ((0 : Int) ≤ x.fst → ∀ (x_2 : Int), x_2 = IntKind.i64.wrap ((8 : Int) * x.fst) → ∀ (x_3 : Int), x_3 = IntKind.u64.wrap x_2 → Lf ((0 : Int) ≤ x_3) ∧ ∀ (x_4 : Int), x_4 = v / (2 : Int) ^ min x_3.toNat (64 : Nat) → ∀ (x_5 : Int), x_5 = IntKind.u8.wrap x_4 → Lf ((x.snd.fst ++ [x_5]).length * (1 : Nat) ≤ (140737488355328 : Nat)) ∧ ∀ (x_6 : Nat), (x.snd.fst ++ [x_5]).length ≤ x_6 → ∀ (x_7 : Int), x_7 = IntKind.i64.wrap (x.fst - (1 : Int)) → (((v = v ∧ ((x.snd.fst ++ [x_5]).length = (x.snd.fst ++ [x_5]).length ∧ x_6 = x_6) ∧ x_7 = x_7 ∧ True) ∧ x.snd.fst ++ [x_5] = x.snd.fst ++ [x_5] ∧ True) ∧ Lf ((-1 : Int) ≤ x_7 ∧ x_7 ≤ (7 : Int) ∧ x.snd.fst ++ [x_5] ++ uB v (x_7 + (1 : Int)).toNat = [] ++ List.take L.length (List.drop (0 : Nat) L) ++ uB v (x_1 + (1 : Int)).toNat ∧ ↑(x.snd.fst ++ [x_5]).length + x_7 ≤ (107 : Int))) ∧ Lf ((x_7 + (1 : Int)).toNat < (x.fst + (1 : Int)).toNat)) ∧ (¬(0 : Int) ≤ x.fst → x.snd.fst = L ++ uB v n.toNat ∧ True)) (by kernel_rfl) (by
  simp only [List.drop_zero, List.take_length, List.nil_append]
  refine ⟨⟨by omega⟩, ⟨by omega⟩, fun c' hc' i hi => ⟨⟨by simp, ⟨?_⟩⟩, ?_⟩⟩
  · have : i = n - 1 := by subst hi; simp only [IntKind.wrap_i64]; omega
    subst this
    exact ⟨by omega, by omega, trivial, by omega⟩
  · have hin : i = n - 1 := by subst hi; simp only [IntKind.wrap_i64]; omega
    clear hi
    subst hin
    rintro ⟨j, M, cc⟩ ⟨j0, j1, hM, hlen⟩
    dsimp only at *
    have en : (n - 1 + 1 : Int) = n := by omega
    rw [en] at hM
    rw [en]
    refine ⟨fun hj => ?_, fun hj => ⟨?_, trivial⟩⟩
    · intro a ha b hb
      have hb' : b = 8 * j := by subst hb; subst ha; simp only [IntKind.wrap_i64, IntKind.wrap_u64]; omega
      clear ha hb
      subst hb'
      refine ⟨⟨by omega⟩, ?_⟩
      rw [two_pow8 j hj j1]
      intro d hd e he
      refine ⟨⟨by simp; omega⟩, fun c2 hc2 j' hj' => ⟨⟨by simp, ⟨?_⟩⟩, ⟨?_⟩⟩⟩
      · have hj2 : j' = j - 1 := by subst hj'; simp only [IntKind.wrap_i64]; omega
        subst hj2
        refine ⟨by omega, by omega, ?_, by simp; omega⟩
        rw [← hM]
        have e1 : (j - 1 + 1).toNat = j.toNat := by omega
        have e2 : (j + 1).toNat = j.toNat + 1 := by omega
        rw [e1, e2]
        have e3 : e = v / 256 ^ j.toNat % 256 := by subst he; subst hd; simp only [IntKind.wrap_u8]
        rw [e3]
        simp [uB]
      · have hj2 : j' = j - 1 := by subst hj'; simp only [IntKind.wrap_i64]; omega
        omega
    · have e1 : (j + 1).toNat = 0 := by omega
      rw [e1] at hM
      simpa [uB] using hM)
theorem g_low {k : Nat} {x a p : Int} (ha : a = x / p) (h : ¬a = 0) (hx : 0 ≤ x) (hp : p = 256 ^ k) : lowR k x := by
  subst ha
  have hp0 : 0 < p := by subst hp; exact Int.pow_pos (by decide)
  right
  rw [← hp]
  have h0 : 0 ≤ x / p := Int.ediv_nonneg hx (by omega)
  have h1 : 1 * p ≤ x := (Int.le_ediv_iff_mul_le hp0).1 (by omega)
  omega
theorem g_out {k : Nat} {x a p : Int} {y : Int × List Int} (hl : lowR k x ∧ True) (hy : y = fieldF x) (ha : a = x / p) (h : a = 0) (h8 : ¬x < 8) (hp : p = 256 ^ (k + 1)) (hk : k ≤ 7) : (8 + (k : Int) = y.1) ∧ [] ++ uB x (k + 1) = y.2 := by
  have hlow : lowF (k + 1) x := by
    rcases hl.1 with rfl | h'
    · right; simp; omega
    · right; simpa using h'
  have hf := fld_nB (x := x) (k := k + 1) (by omega) (by omega) (by rw [← hp, ← ha]; omega) hlow h8
  rw [hf] at hy
  subst hy
  exact ⟨by simp; omega, by simp⟩
theorem g_last {x : Int} {y : Int × List Int} (hl : lowR 7 x ∧ True) (hy : y = fieldF x) (hx : x < 18446744073709551616) (h8 : ¬x < 8) : 15 = y.1 ∧ [] ++ uB x 8 = y.2 := by
  have hlow : lowF 8 x := by
    rcases hl.1 with h | h'
    · cases h
    · right; exact h'
  have hf := fld_nB (x := x) (k := 8) (by omega) (by omega) (by omega) hlow h8
  rw [hf] at hy
  subst hy
  exact ⟨by simp, by simp⟩
attribute [local irreducible] uB fieldF lowF lowR
theorem lowR_0 (x : Int) : lowR 0 x := by unfold lowR; exact .inl rfl
set_option maxRecDepth 100000 in
set_option maxHeartbeats 8000000 in
theorem fieldR_vc (x : Int) (h0 : 0 ≤ x) (hx64 : x < 18446744073709551616) : fieldC.vc Try.prog (envL envH1) fieldRCtl Try.f18 [.I x] [] := of_eq (b := (x < (8 : Int) → ∀ (x_1 : Int), x_1 = IntKind.u8.wrap x → ∀ (y : Int × List Int), y = fieldF x → x_1 = y.fst ∧ [] = y.snd ∧ True) ∧ (¬x < (8 : Int) → (((x = x ∧ (1 : Int) = (1 : Int) ∧ True) ∧ True) ∧ Lf (lowR (0 : Nat) x ∧ True)) ∧ (∀ (x_1 : Unit), lowR (0 : Nat) x ∧ True → ∀ (x_2 : Int), x_2 = x / (256 : Int) → (x_2 = (0 : Int) → Lf (((0 : Int) ≤ x ∧ x < (18446744073709551616 : Int)) ∧ ((0 : Int) ≤ (1 : Int) ∧ (1 : Int) ≤ (8 : Int)) ∧ ([] : List Int).length ≤ (100 : Nat)) ∧ ∀ (x_3 : Nat), ([] ++ uB x (Int.toNat (1 : Int))).length ≤ x_3 → ∀ (y : Int × List Int), y = fieldF x → (8 : Int) = y.fst ∧ [] ++ uB x (Int.toNat (1 : Int)) = y.snd ∧ True) ∧ (¬x_2 = (0 : Int) → ((x = x ∧ (2 : Int) = (2 : Int) ∧ True) ∧ True) ∧ Lf (lowR (1 : Nat) x ∧ True))) ∧ (∀ (x_1 : Unit), lowR (1 : Nat) x ∧ True → ∀ (x_2 : Int), x_2 = x / (65536 : Int) → (x_2 = (0 : Int) → Lf (((0 : Int) ≤ x ∧ x < (18446744073709551616 : Int)) ∧ ((0 : Int) ≤ (2 : Int) ∧ (2 : Int) ≤ (8 : Int)) ∧ ([] : List Int).length ≤ (100 : Nat)) ∧ ∀ (x_3 : Nat), ([] ++ uB x (Int.toNat (2 : Int))).length ≤ x_3 → ∀ (y : Int × List Int), y = fieldF x → (9 : Int) = y.fst ∧ [] ++ uB x (Int.toNat (2 : Int)) = y.snd ∧ True) ∧ (¬x_2 = (0 : Int) → ((x = x ∧ (3 : Int) = (3 : Int) ∧ True) ∧ True) ∧ Lf (lowR (2 : Nat) x ∧ True))) ∧ (∀ (x_1 : Unit), lowR (2 : Nat) x ∧ True → ∀ (x_2 : Int), x_2 = x / (16777216 : Int) → (x_2 = (0 : Int) → Lf (((0 : Int) ≤ x ∧ x < (18446744073709551616 : Int)) ∧ ((0 : Int) ≤ (3 : Int) ∧ (3 : Int) ≤ (8 : Int)) ∧ ([] : List Int).length ≤ (100 : Nat)) ∧ ∀ (x_3 : Nat), ([] ++ uB x (Int.toNat (3 : Int))).length ≤ x_3 → ∀ (y : Int × List Int), y = fieldF x → (10 : Int) = y.fst ∧ [] ++ uB x (Int.toNat (3 : Int)) = y.snd ∧ True) ∧ (¬x_2 = (0 : Int) → ((x = x ∧ (4 : Int) = (4 : Int) ∧ True) ∧ True) ∧ Lf (lowR (3 : Nat) x ∧ True))) ∧ (∀ (x_1 : Unit), lowR (3 : Nat) x ∧ True → ∀ (x_2 : Int), x_2 = x / (4294967296 : Int) → (x_2 = (0 : Int) → Lf (((0 : Int) ≤ x ∧ x < (18446744073709551616 : Int)) ∧ ((0 : Int) ≤ (4 : Int) ∧ (4 : Int) ≤ (8 : Int)) ∧ ([] : List Int).length ≤ (100 : Nat)) ∧ ∀ (x_3 : Nat), ([] ++ uB x (Int.toNat (4 : Int))).length ≤ x_3 → ∀ (y : Int × List Int), y = fieldF x → (11 : Int) = y.fst ∧ [] ++ uB x (Int.toNat (4 : Int)) = y.snd ∧ True) ∧ (¬x_2 = (0 : Int) → ((x = x ∧ (5 : Int) = (5 : Int) ∧ True) ∧ True) ∧ Lf (lowR (4 : Nat) x ∧ True))) ∧ (∀ (x_1 : Unit), lowR (4 : Nat) x ∧ True → ∀ (x_2 : Int), x_2 = x / (1099511627776 : Int) → (x_2 = (0 : Int) → Lf (((0 : Int) ≤ x ∧ x < (18446744073709551616 : Int)) ∧ ((0 : Int) ≤ (5 : Int) ∧ (5 : Int) ≤ (8 : Int)) ∧ ([] : List Int).length ≤ (100 : Nat)) ∧ ∀ (x_3 : Nat), ([] ++ uB x (Int.toNat (5 : Int))).length ≤ x_3 → ∀ (y : Int × List Int), y = fieldF x → (12 : Int) = y.fst ∧ [] ++ uB x (Int.toNat (5 : Int)) = y.snd ∧ True) ∧ (¬x_2 = (0 : Int) → ((x = x ∧ (6 : Int) = (6 : Int) ∧ True) ∧ True) ∧ Lf (lowR (5 : Nat) x ∧ True))) ∧ (∀ (x_1 : Unit), lowR (5 : Nat) x ∧ True → ∀ (x_2 : Int), x_2 = x / (281474976710656 : Int) → (x_2 = (0 : Int) → Lf (((0 : Int) ≤ x ∧ x < (18446744073709551616 : Int)) ∧ ((0 : Int) ≤ (6 : Int) ∧ (6 : Int) ≤ (8 : Int)) ∧ ([] : List Int).length ≤ (100 : Nat)) ∧ ∀ (x_3 : Nat), ([] ++ uB x (Int.toNat (6 : Int))).length ≤ x_3 → ∀ (y : Int × List Int), y = fieldF x → (13 : Int) = y.fst ∧ [] ++ uB x (Int.toNat (6 : Int)) = y.snd ∧ True) ∧ (¬x_2 = (0 : Int) → ((x = x ∧ (7 : Int) = (7 : Int) ∧ True) ∧ True) ∧ Lf (lowR (6 : Nat) x ∧ True))) ∧ (∀ (x_1 : Unit), lowR (6 : Nat) x ∧ True → ∀ (x_2 : Int), x_2 = x / (72057594037927936 : Int) → (x_2 = (0 : Int) → Lf (((0 : Int) ≤ x ∧ x < (18446744073709551616 : Int)) ∧ ((0 : Int) ≤ (7 : Int) ∧ (7 : Int) ≤ (8 : Int)) ∧ ([] : List Int).length ≤ (100 : Nat)) ∧ ∀ (x_3 : Nat), ([] ++ uB x (Int.toNat (7 : Int))).length ≤ x_3 → ∀ (y : Int × List Int), y = fieldF x → (14 : Int) = y.fst ∧ [] ++ uB x (Int.toNat (7 : Int)) = y.snd ∧ True) ∧ (¬x_2 = (0 : Int) → ((x = x ∧ (8 : Int) = (8 : Int) ∧ True) ∧ True) ∧ Lf (lowR (7 : Nat) x ∧ True))) ∧ ∀ (x_1 : Unit), lowR (7 : Nat) x ∧ True → Lf (((0 : Int) ≤ x ∧ x < (18446744073709551616 : Int)) ∧ ((0 : Int) ≤ (8 : Int) ∧ (8 : Int) ≤ (8 : Int)) ∧ ([] : List Int).length ≤ (100 : Nat)) ∧ ∀ (x_2 : Nat), ([] ++ uB x (Int.toNat (8 : Int))).length ≤ x_2 → ∀ (y : Int × List Int), y = fieldF x → (15 : Int) = y.fst ∧ [] ++ uB x (Int.toNat (8 : Int)) = y.snd ∧ True)) (by kernel_rfl) (by
  apply And.intro
  · intro h a ha y hy
    subst hy; subst ha
    rw [f_small h]
    simp only [IntKind.wrap_u8]
    refine ⟨?_, trivial, trivial⟩
    omega
  intro h8
  simp only [show Int.toNat 1 = 1 from rfl, show Int.toNat 2 = 2 from rfl, show Int.toNat 3 = 3 from rfl, show Int.toNat 4 = 4 from rfl, show Int.toNat 5 = 5 from rfl, show Int.toNat 6 = 6 from rfl, show Int.toNat 7 = 7 from rfl, show Int.toNat 8 = 8 from rfl]
  repeat' (first | apply And.intro | apply Lf.mk | intro _)
  all_goals first
    | rfl
    | trivial
    | exact lowR_0 _
    | (exfalso; omega)
    | omega
    | (simp; done)
    | exact g_low (by assumption) (by assumption) (by assumption) (by decide)
    | exact (g_out (by assumption) (by assumption) (by assumption) (by assumption) (by assumption) (by decide) (by decide)).1
    | exact (g_out (by assumption) (by assumption) (by assumption) (by assumption) (by assumption) (by decide) (by decide)).2
    | exact (g_last (by assumption) (by assumption) (by assumption) (by assumption)).1
    | exact (g_last (by assumption) (by assumption) (by assumption) (by assumption)).2
    | done)
end Go.Proofs.Ytjmkeicmchgggaa.Sx
