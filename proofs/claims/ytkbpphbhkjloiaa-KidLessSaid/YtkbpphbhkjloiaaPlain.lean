/- Plain laws on bits of numbers, no Go text in sight. -/
import Derived.Laws.BitsAllLaws
import Derived.Laws.BitsLemmas
namespace Go.Proofs.Ytkbpphbhkjloiaa.Plain

theorem or_disj (a b : Int) (k : Nat) (m : Int) (hm : m = (2 ^ k : Nat)) (ha : 0 ≤ a) (hb : 0 ≤ b) (hbk : b < m) (hs : a * m < 18446744073709551616) (hk : b < 18446744073709551616) :
    bits .or .u64 (a * m) b = a * m + b := by
  have h1 : 0 ≤ a * m := Int.mul_nonneg ha (by omega)
  rw [u64_or _ _ h1 hs hb hk]
  obtain ⟨x, rfl⟩ := Int.eq_ofNat_of_zero_le ha
  obtain ⟨y, rfl⟩ := Int.eq_ofNat_of_zero_le hb
  subst hm
  have e : ((x : Int) * ((2 ^ k : Nat) : Int)).toNat = 2 ^ k * x := by rw [← Int.natCast_mul, Int.toNat_natCast, Nat.mul_comm]
  have hy : y < 2 ^ k := by exact_mod_cast hbk
  rw [e, Int.toNat_natCast, ← Nat.two_pow_add_eq_or_of_lt hy]
  push_cast
  rw [Int.mul_comm]

theorem and_mask (a : Int) (k : Nat) (m : Int) (hm : m = (2 ^ k : Nat)) (ha : 0 ≤ a) (hs : a < 18446744073709551616) (hm2 : m - 1 < 18446744073709551616) : bits .and .u64 a (m - 1) = a % m := by
  have hp : 0 < 2 ^ k := Nat.two_pow_pos k
  rw [u64_and _ _ ha hs (by omega) hm2]
  obtain ⟨x, rfl⟩ := Int.eq_ofNat_of_zero_le ha
  subst hm
  have e : (((2 ^ k : Nat) : Int) - 1).toNat = 2 ^ k - 1 := by omega
  rw [e, Int.toNat_natCast, Nat.and_two_pow_sub_one_eq_mod]
  push_cast
  rfl

theorem and7 (a : Int) (ha : 0 ≤ a) (hs : a < 18446744073709551616) : bits .and .u64 a 7 = a % 8 := and_mask a 3 8 rfl ha hs (by omega)
theorem and31 (a : Int) (ha : 0 ≤ a) (hs : a < 18446744073709551616) : bits .and .u64 a 31 = a % 32 := and_mask a 5 32 rfl ha hs (by omega)

theorem name_or (e s i : Int) (h1 : 0 ≤ e) (h2 : e ≤ 65535) (h3 : 0 ≤ s) (h4 : s ≤ 31) (h5 : 0 ≤ i) (h6 : i ≤ 7) :
    bits .or .u64 (bits .or .u64 (e * 256) (s * 8)) i = 256 * e + 8 * s + i := by
  rw [or_disj e (s * 8) 8 256 rfl h1 (by omega) (by omega) (by omega) (by omega)]
  have h : e * 256 + s * 8 = (e * 32 + s) * 8 := by omega
  rw [h, or_disj (e * 32 + s) i 3 8 rfl (by omega) h5 (by omega) (by omega) (by omega)]
  omega
end Go.Proofs.Ytkbpphbhkjloiaa.Plain
