/- Plain facts on the bits of a need and a have, as natural numbers. -/
import Derived.Test.YtcaipfdnadlkdaaRk6
namespace Go.Proofs.Ytcaipfdnadlkdaa
open Go.RowKit

theorem i64_or_nat (a b : Nat) (ha : a < 9223372036854775808) (hb : b < 9223372036854775808) : bits .or .i64 (a : Int) (b : Int) = ((a ||| b : Nat) : Int) := by
  have hx : a ||| b < 2 ^ 63 := Nat.or_lt_two_pow (by omega) (by omega)
  show IntKind.i64.wrap ((BitVec.ofInt 64 (a : Int) ||| BitVec.ofInt 64 (b : Int)).toNat : Int) = _
  rw [BitVec.toNat_or, ofInt_i64 a ha, ofInt_i64 b hb, IntKind.wrap_i64]
  omega

theorem two_pow_lt (k : Nat) (hk : k < 8) : 2 ^ k < 256 := by
  have : (2 : Nat) ^ k ≤ 2 ^ 7 := Nat.pow_le_pow_right (by omega) (by omega)
  omega

theorem bitZ_nat (x k : Nat) (hx : x < 9223372036854775808) : bitZ (x : Int) (k : Int) = !x.testBit k := by
  unfold bitZ
  have e : ((x : Int) / 2 ^ (k : Int).toNat) = ((x / 2 ^ k : Nat) : Int) := by
    rw [Int.toNat_natCast]
    push_cast
    rfl
  have hd : x / 2 ^ k < 9223372036854775808 := Nat.lt_of_le_of_lt (Nat.div_le_self _ _) hx
  have h1 := i64_and_nat (x / 2 ^ k) 1 hd (by omega)
  rw [e]
  have h1' : bits .and .i64 ((x / 2 ^ k : Nat) : Int) 1 = ((x / 2 ^ k &&& 1 : Nat) : Int) := h1
  rw [h1', Nat.and_one_is_mod, Nat.testBit_eq_decide_div_mod_eq]
  rcases Nat.mod_two_eq_zero_or_one (x / 2 ^ k) with h | h <;> simp [h]
theorem bitO_nat (x k : Nat) (hx : x < 9223372036854775808) : bitO (x : Int) (k : Int) = x.testBit k := by
  have h := bitZ_nat x k hx
  unfold bitZ at h
  unfold bitO
  have e : ((x : Int) / 2 ^ (k : Int).toNat) = ((x / 2 ^ k : Nat) : Int) := by
    rw [Int.toNat_natCast]
    push_cast
    rfl
  have hd : x / 2 ^ k < 9223372036854775808 := Nat.lt_of_le_of_lt (Nat.div_le_self _ _) hx
  have h1 := i64_and_nat (x / 2 ^ k) 1 hd (by omega)
  have h1' : bits .and .i64 ((x / 2 ^ k : Nat) : Int) 1 = ((x / 2 ^ k &&& 1 : Nat) : Int) := h1
  rw [e, h1', Nat.and_one_is_mod, Nat.testBit_eq_decide_div_mod_eq]
  rcases Nat.mod_two_eq_zero_or_one (x / 2 ^ k) with h | h <;> simp [h]

/-- 'x & (1 << k)' is nothing just where the bit isn't there -/
theorem and_pow (x k : Nat) (hx : x < 256) (hk : k < 8) : (bits .and .i64 (x : Int) (2 ^ (k : Int).toNat) == 0) = !x.testBit k := by
  have hp := two_pow_lt k hk
  have e : (2 : Int) ^ (k : Int).toNat = ((2 ^ k : Nat) : Int) := by
    rw [Int.toNat_natCast]
    push_cast
    rfl
  rw [e, i64_and_nat x (2 ^ k) (by omega) (by omega)]
  cases h : x.testBit k
  · have h0 : x &&& 2 ^ k = 0 := by
      apply Nat.eq_of_testBit_eq
      intro i
      simp only [Nat.testBit_and, Nat.testBit_two_pow, Nat.zero_testBit]
      by_cases hi : k = i
      · subst hi
        simp [h]
      · simp [hi]
    rw [h0]
    rfl
  · have h0 : x &&& 2 ^ k ≠ 0 := by
      intro hz
      have := congrArg (fun y => y.testBit k) hz
      simp [Nat.testBit_and, h] at this
    simp
    exact h0
theorem or_pow (x k : Nat) (hx : x < 256) (hk : k < 8) : bits .or .i64 (x : Int) (2 ^ (k : Int).toNat) = ((x ||| 2 ^ k : Nat) : Int) ∧ x ||| 2 ^ k < 256 := by
  have hp := two_pow_lt k hk
  have e : (2 : Int) ^ (k : Int).toNat = ((2 ^ k : Nat) : Int) := by
    rw [Int.toNat_natCast]
    push_cast
    rfl
  refine ⟨by rw [e, i64_or_nat x (2 ^ k) (by omega) (by omega)], ?_⟩
  exact Nat.or_lt_two_pow (n := 8) hx hp
/-- one more that is needed is had: nothing else -/
theorem sub_or (h n k : Nat) (hs : h &&& n = h) (hb : n.testBit k = true) : (h ||| 2 ^ k) &&& n = h ||| 2 ^ k := by
  apply Nat.eq_of_testBit_eq
  intro i
  have h1 := congrArg (fun x => x.testBit i) hs
  simp only [Nat.testBit_and] at h1
  simp only [Nat.testBit_and, Nat.testBit_or, Nat.testBit_two_pow]
  by_cases hi : k = i
  · subst hi
    simp [hb]
  · simp [hi]
    simpa using h1
theorem good_open (n h : Nat) (n0 : 1 ≤ n) (n1 : n ≤ 255) (hs : h &&& n = h) (hne : h ≠ n) : goodS ⟨4, true, 5, n, h, 7⟩ = true := by
  have hle : h ≤ n := by rw [← hs]; exact Nat.and_le_right
  have e := andNot_and (h : Int) (n : Int) (by omega) (by omega) (by omega) (by omega)
  have e2 : bits .and .i64 (h : Int) (n : Int) = (h : Int) := by rw [i64_and_nat h n (by omega) (by omega), hs]
  simp only [goodS, if_true]
  rw [e, e2]
  simp
  omega
end Go.Proofs.Ytcaipfdnadlkdaa
