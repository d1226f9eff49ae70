/- Headers, plainly: what is written is read, and what is read was written so. No program in sight. -/
import Derived.Test.YtjmkeicmchgggaaHd1
namespace Go.Proofs.Ytjmkeicmchgggaa
open Go Go.RowKit
set_option linter.unusedVariables false
set_option linter.unusedSimpArgs false
theorem pow_pos256 (n : Nat) : (0 : Int) < 256 ^ n := Int.pow_pos (by decide)
theorem emod_step (v p : Int) (hp : 0 < p) : v % (p * 256) = v / p % 256 * p + v % p := by
  have h1 := Int.mul_ediv_add_emod v p
  have h2 := Int.mul_ediv_add_emod (v / p) 256
  have h3 := Int.emod_nonneg v (show p ≠ 0 by omega)
  have h4 := Int.emod_lt_of_pos v hp
  have h5 : 0 ≤ v / p % 256 := by omega
  have h6 : v / p % 256 < 256 := by omega
  have e : v = (v / p % 256 * p + v % p) + p * 256 * (v / p / 256) := by
    have : v = p * (256 * (v / p / 256) + v / p % 256) + v % p := by rw [h2, h1]
    rw [Int.mul_add] at this
    rw [show p * 256 * (v / p / 256) = p * (256 * (v / p / 256)) from Int.mul_assoc _ _ _, show v / p % 256 * p = p * (v / p % 256) from Int.mul_comm _ _]
    omega
  have hb : 0 ≤ v / p % 256 * p := Int.mul_nonneg h5 (by omega)
  have hc : v / p % 256 * p ≤ 255 * p := Int.mul_le_mul_of_nonneg_right (by omega) (by omega)
  rw [e, Int.add_mul_emod_self_left]
  have g : (v / p % 256 * p + v % p) % (p * 256) = v / p % 256 * p + v % p := Int.emod_eq_of_lt (by omega) (by omega)
  rw [g]
  rw [← e]
theorem beN_uB (v : Int) : ∀ (n : Nat) (m : Int), beN m (uB v n) = m * 256 ^ n + v % 256 ^ n
  | 0, m => by simp [uB, beN]
  | n + 1, m => by
    have := emod_step v (256 ^ n) (pow_pos256 n)
    simp only [uB, beN]
    rw [beN_uB v n, Int.pow_succ, this, Int.add_mul, show m * (256 ^ n * 256) = m * 256 * 256 ^ n by rw [Int.mul_assoc, Int.mul_comm 256 (256 ^ n)]]
    omega
theorem beN_lin : ∀ (T : List Int) (m : Int), beN m T = m * 256 ^ T.length + beN 0 T
  | [], m => by simp [beN]
  | c :: T, m => by
    simp only [beN, List.length_cons]
    rw [beN_lin T (m * 256 + c), beN_lin T (0 * 256 + c), Int.pow_succ, Int.add_mul, show m * (256 ^ T.length * 256) = m * 256 * 256 ^ T.length by rw [Int.mul_assoc, Int.mul_comm 256 (256 ^ T.length)]]
    simp
    omega
theorem beN_bd : ∀ (T : List Int), Byt T → 0 ≤ beN 0 T ∧ beN 0 T < 256 ^ T.length
  | [], _ => by simp [beN]
  | c :: T, h => by
    have hc := h c (by simp)
    have ih := beN_bd T fun x hx => h x (by simp [hx])
    simp only [beN, List.length_cons]
    rw [beN_lin T (0 * 256 + c), Int.pow_succ]
    have hp := pow_pos256 T.length
    have h1 : (0 * 256 + c) * 256 ^ T.length ≤ 255 * 256 ^ T.length := Int.mul_le_mul_of_nonneg_right (by omega) (by omega)
    have h2 : 0 ≤ (0 * 256 + c) * 256 ^ T.length := Int.mul_nonneg (by omega) (by omega)
    omega
theorem uB_beN : ∀ (T : List Int) (m : Int), Byt T → uB (beN m T) T.length = T
  | [], m, _ => rfl
  | c :: T, m, h => by
    have hc := h c (by simp)
    have hT : Byt T := fun x hx => h x (by simp [hx])
    have ih := uB_beN T (m * 256 + c) hT
    have hb := beN_bd T hT
    have hp := pow_pos256 T.length
    simp only [beN, List.length_cons, uB]
    rw [ih]
    congr 1
    rw [beN_lin T (m * 256 + c), Int.add_comm, Int.add_mul_ediv_right _ _ (by omega), Int.ediv_eq_zero_of_lt hb.1 hb.2]
    omega
theorem nB_pow {x : Int} (h8 : 8 ≤ x) (hx : x < 18446744073709551616) : 256 ^ (nB x - 1) ≤ x ∧ x < 256 ^ nB x := by
  unfold nB
  repeat' split
  all_goals (simp; omega)
theorem field_size {x : Int} : sizeF (fieldF x).1 = ((fieldF x).2.length : Int) := by
  have := nB_bd x
  unfold fieldF
  split
  · rename_i h; simp [sizeF, h]
  · have : ¬ (7 + (nB x : Int)) < 8 := by omega
    simp only [sizeF, this, if_false, uB_len]
    omega
theorem field_num {x : Int} (h0 : 0 ≤ x) (h1 : x < 18446744073709551616) : numF (fieldF x).1 (fieldF x).2 = (x, true) := by
  have hn := nB_bd x
  unfold fieldF
  split
  · rename_i h; simp [numF, h]
  · rename_i h
    have hb := nB_pow (by omega) h1
    have h7 : ¬ (7 + (nB x : Int)) < 8 := by omega
    have e : beN 0 (uB x (nB x)) = x := by
      rw [beN_uB, Int.emod_eq_of_lt h0 hb.2]; simp
    obtain ⟨k, hk⟩ : ∃ k, nB x = k + 1 := ⟨nB x - 1, by omega⟩
    have hd : (uB x (nB x)).getD 0 0 ≠ 0 := by
      rw [hk] at hb ⊢
      simp only [uB, List.getD_cons_zero]
      have hp := pow_pos256 k
      simp only [Nat.add_sub_cancel] at hb
      have g1 : 1 ≤ x / 256 ^ k := (Int.le_ediv_iff_mul_le hp).2 (by omega)
      have g2 : x / 256 ^ k < 256 := (Int.ediv_lt_iff_lt_mul hp).2 (by rw [Int.pow_succ] at hb; rw [Int.mul_comm]; exact hb.2)
      omega
    have h8 : 8 ≤ x := by omega
    simp only [numF, h7, if_false, e, hd, h8, decide_true, decide_false, Bool.not_false, Bool.and_self]
theorem bytes_byt {kid ctr : Int} (h0 : 0 ≤ kid) (h1 : 0 ≤ ctr) : Byt (bytesF kid ctr) := by
  obtain ⟨p0, p1, p2, p3⟩ := field_bd h0
  obtain ⟨q0, q1, q2, q3⟩ := field_bd h1
  exact byt_cons (by omega) (by omega) (byt_append p3 q3)
theorem bytes_len {kid ctr : Int} (h0 : 0 ≤ kid) (h1 : 0 ≤ ctr) : (bytesF kid ctr).length = 1 + (fieldF kid).2.length + (fieldF ctr).2.length ∧ (bytesF kid ctr).length ≤ 17 := by
  obtain ⟨p0, p1, p2, p3⟩ := field_bd h0
  obtain ⟨q0, q1, q2, q3⟩ := field_bd h1
  constructor
  · simp [bytesF]; omega
  · simp [bytesF]; omega
theorem parse_back {kid ctr : Int} (k0 : 0 ≤ kid) (k1 : kid < 18446744073709551616) (c0 : 0 ≤ ctr) (c1 : ctr < 18446744073709551616) (more : List Int) :
    parseF (bytesF kid ctr ++ more) = (kid, ctr, ((bytesF kid ctr).length : Int), 0) := by
  obtain ⟨p0, p1, p2, p3⟩ := field_bd k0
  obtain ⟨q0, q1, q2, q3⟩ := field_bd c0
  have hl := (bytes_len k0 c0).1
  have hd : (bytesF kid ctr ++ more).getD 0 0 = (fieldF kid).1 * 16 + (fieldF ctr).1 := by simp [bytesF]
  have e1 : (bytesF kid ctr ++ more).getD 0 0 / 16 = (fieldF kid).1 := by rw [hd]; omega
  have e2 : (bytesF kid ctr ++ more).getD 0 0 % 16 = (fieldF ctr).1 := by rw [hd]; omega
  have t1 : (((bytesF kid ctr ++ more).drop 1).take (sizeF (fieldF kid).1).toNat) = (fieldF kid).2 := by
    rw [field_size]
    simp [bytesF]
  have t2 : (((bytesF kid ctr ++ more).drop (1 + (sizeF (fieldF kid).1).toNat)).take (sizeF (fieldF ctr).1).toNat) = (fieldF ctr).2 := by
    rw [field_size, field_size]
    have : 1 + ((fieldF kid).2.length : Int).toNat = (fieldF kid).2.length + 1 := by omega
    rw [this]
    simp [bytesF]
  have hlen : (bytesF kid ctr ++ more).length = 1 + (fieldF kid).2.length + (fieldF ctr).2.length + more.length := by rw [List.length_append, hl]
  unfold parseF
  rw [e1, e2, t1, t2, field_num k0 k1, field_num c0 c1, if_neg (by omega), if_neg (by rw [field_size, field_size, hlen]; omega)]
  simp only [Bool.and_self, if_true, field_size, hl]
  congr 3
theorem parse_cut {kid ctr : Int} (k0 : 0 ≤ kid) (c0 : 0 ≤ ctr) {n : Nat} (hn : n < (bytesF kid ctr).length) : (parseF ((bytesF kid ctr).take n)).2.2.2 = 3 := by
  obtain ⟨p0, p1, p2, p3⟩ := field_bd k0
  obtain ⟨q0, q1, q2, q3⟩ := field_bd c0
  have hl := (bytes_len k0 c0).1
  have hlen : ((bytesF kid ctr).take n).length = n := by rw [List.length_take]; omega
  unfold parseF
  by_cases h0 : n = 0
  · rw [if_pos (by omega)]
  · have hd : ((bytesF kid ctr).take n).getD 0 0 = (fieldF kid).1 * 16 + (fieldF ctr).1 := by
      obtain ⟨m, rfl⟩ : ∃ m, n = m + 1 := ⟨n - 1, by omega⟩
      simp [bytesF]
    have e1 : ((bytesF kid ctr).take n).getD 0 0 / 16 = (fieldF kid).1 := by rw [hd]; omega
    have e2 : ((bytesF kid ctr).take n).getD 0 0 % 16 = (fieldF ctr).1 := by rw [hd]; omega
    rw [if_neg (by omega), e1, e2, if_pos (by rw [field_size, field_size, hlen]; omega)]
theorem num_inv {x : Int} {T : List Int} (h0 : 0 ≤ x) (h1 : x < 16) (hT : Byt T) (hl : (T.length : Int) = sizeF x) (h : (numF x T).2 = true) :
    (0 ≤ (numF x T).1 ∧ (numF x T).1 < 18446744073709551616) ∧ fieldF (numF x T).1 = (x, T) := by
  unfold numF at h ⊢
  by_cases hx : x < 8
  · simp only [hx, if_true] at h ⊢
    have : T = [] := List.eq_nil_of_length_eq_zero (by simp only [sizeF, hx, if_true] at hl; omega)
    subst this
    exact ⟨⟨h0, by omega⟩, by simp [fieldF, hx]⟩
  · simp only [hx, if_false, Bool.and_eq_true, Bool.not_eq_true', decide_eq_false_iff_not, decide_eq_true_eq] at h ⊢
    obtain ⟨hd, h8⟩ := h
    have hlen : (T.length : Int) = x - 7 := by simpa [sizeF, hx] using hl
    have hb := beN_bd T hT
    have hmax : (256 : Int) ^ T.length ≤ 18446744073709551616 := by
      have : ∀ k : Fin 9, (256 : Int) ^ k.val ≤ 18446744073709551616 := by decide +kernel
      exact this ⟨T.length, by omega⟩
    refine ⟨⟨hb.1, by omega⟩, ?_⟩
    have hlow : lowF T.length (beN 0 T) := by
      right
      match T, hd, hT, hlen with
      | [], _, _, hlen => simp at hlen; omega
      | c :: T, hd, hT, hlen =>
        have hc := hT c (by simp)
        have ih := beN_bd T fun x hx => hT x (by simp [hx])
        simp only [beN, List.length_cons, Nat.add_sub_cancel]
        rw [beN_lin T (0 * 256 + c)]
        have hp := pow_pos256 T.length
        simp at hd
        have : 1 * 256 ^ T.length ≤ (0 * 256 + c) * 256 ^ T.length := Int.mul_le_mul_of_nonneg_right (by omega) (by omega)
        omega
    have hf := fld_nB (x := beN 0 T) (k := T.length) (by omega) (by omega) (by rw [Int.ediv_eq_zero_of_lt hb.1 hb.2]; omega) hlow (by omega)
    rw [hf, uB_beN T 0 hT]
    congr 1
    omega
theorem parse_same {b : List Int} (hb : Byt b) (h : (parseF b).2.2.2 = 0) :
    (0 ≤ (parseF b).1 ∧ (parseF b).1 < 18446744073709551616) ∧ (0 ≤ (parseF b).2.1 ∧ (parseF b).2.1 < 18446744073709551616) ∧ (0 ≤ (parseF b).2.2.1 ∧ (parseF b).2.2.1 ≤ (b.length : Int)) ∧ bytesF (parseF b).1 (parseF b).2.1 = b.take (parseF b).2.2.1.toNat := by
  have g := byt_getD hb 0
  unfold parseF at h ⊢
  by_cases h0 : b.length = 0
  · rw [if_pos h0] at h; cases h
  rw [if_neg h0] at h ⊢
  by_cases h1 : (b.length : Int) < 1 + sizeF (b.getD 0 0 / 16) + sizeF (b.getD 0 0 % 16)
  · rw [if_pos h1] at h; cases h
  rw [if_neg h1] at h ⊢
  have s1 : 0 ≤ sizeF (b.getD 0 0 / 16) := by unfold sizeF; split <;> omega
  have s2 : 0 ≤ sizeF (b.getD 0 0 % 16) := by unfold sizeF; split <;> omega
  have l1 : ((((b.drop 1).take (sizeF (b.getD 0 0 / 16)).toNat)).length : Int) = sizeF (b.getD 0 0 / 16) := by rw [List.length_take, List.length_drop]; omega
  have l2 : ((((b.drop (1 + (sizeF (b.getD 0 0 / 16)).toNat)).take (sizeF (b.getD 0 0 % 16)).toNat)).length : Int) = sizeF (b.getD 0 0 % 16) := by rw [List.length_take, List.length_drop]; omega
  split at h
  · rename_i h2
    rw [if_pos h2]
    obtain ⟨n1, n2⟩ := (Bool.and_eq_true _ _ ▸ h2 : _ = true ∧ _ = true)
    obtain ⟨a1, a2⟩ := num_inv (by omega) (by omega) (byt_take (byt_drop hb _) _) l1 n1
    obtain ⟨c1, c2⟩ := num_inv (by omega) (by omega) (byt_take (byt_drop hb _) _) l2 n2
    refine ⟨a1, c1, ⟨by dsimp only; omega, by dsimp only; omega⟩, ?_⟩
    dsimp only
    unfold bytesF
    rw [a2, c2]
    have e0 : b.getD 0 0 / 16 * 16 + b.getD 0 0 % 16 = b.getD 0 0 := by omega
    dsimp only
    rw [e0]
    have ht : (1 + sizeF (b.getD 0 0 / 16) + sizeF (b.getD 0 0 % 16)).toNat = 1 + ((sizeF (b.getD 0 0 / 16)).toNat + (sizeF (b.getD 0 0 % 16)).toNat) := by omega
    rw [ht]
    generalize (sizeF (b.getD 0 0 / 16)).toNat = m
    generalize (sizeF (b.getD 0 0 % 16)).toNat = n
    match b, h0 with
    | x :: l, _ =>
      simp only [List.getD_cons_zero, List.drop_succ_cons, List.drop_zero, Nat.add_comm 1, List.take_succ_cons]
      congr 1
      rw [List.take_add]
  · cases h
theorem bytes_inj {a b c d : Int} (a0 : 0 ≤ a) (a1 : a < 18446744073709551616) (b0 : 0 ≤ b) (b1 : b < 18446744073709551616) (c0 : 0 ≤ c) (c1 : c < 18446744073709551616) (d0 : 0 ≤ d) (d1 : d < 18446744073709551616) {n : Nat}
    (hn : n = min (bytesF a b).length (bytesF c d).length) (h : (bytesF a b).take n = (bytesF c d).take n) : a = c ∧ b = d := by
  rcases Nat.le_total (bytesF a b).length (bytesF c d).length with hl | hl
  · have e : n = (bytesF a b).length := by omega
    rw [e, List.take_length] at h
    have p1 := parse_back a0 a1 b0 b1 ((bytesF c d).drop (bytesF a b).length)
    have p2 := parse_back c0 c1 d0 d1 []
    have e2 : bytesF a b ++ (bytesF c d).drop (bytesF a b).length = bytesF c d := by
      conv => lhs; arg 1; rw [h]
      exact List.take_append_drop _ _
    rw [e2] at p1
    rw [List.append_nil, p1] at p2
    simp only [Prod.mk.injEq] at p2
    exact ⟨p2.1, p2.2.1⟩
  · have e : n = (bytesF c d).length := by omega
    rw [e, List.take_length] at h
    have p1 := parse_back c0 c1 d0 d1 ((bytesF a b).drop (bytesF c d).length)
    have p2 := parse_back a0 a1 b0 b1 []
    have e2 : bytesF c d ++ (bytesF a b).drop (bytesF c d).length = bytesF a b := by
      conv => lhs; arg 1; rw [← h]
      exact List.take_append_drop _ _
    rw [e2] at p1
    rw [List.append_nil, p1] at p2
    simp only [Prod.mk.injEq] at p2
    exact ⟨p2.1.symm, p2.2.1.symm⟩
end Go.Proofs.Ytjmkeicmchgggaa
