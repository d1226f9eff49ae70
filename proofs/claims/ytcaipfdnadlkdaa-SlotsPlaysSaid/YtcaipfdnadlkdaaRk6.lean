/- Bits of a need and a have: the program's test and the reference's are one. The walks over the reference's small functions. -/
import Derived.Test.YtcaipfdnadlkdaaRk5
namespace Go.Proofs.Ytcaipfdnadlkdaa
open Go.RowKit
set_option linter.unusedSimpArgs false
set_option linter.unusedVariables false

theorem ofInt_i64 (a : Nat) (ha : a < 9223372036854775808) : (BitVec.ofInt 64 (a : Int)).toNat = a := by
  rw [BitVec.ofInt_natCast, BitVec.toNat_ofNat]; exact Nat.mod_eq_of_lt (by omega)
theorem i64_and_nat (a b : Nat) (ha : a < 9223372036854775808) (hb : b < 9223372036854775808) : bits .and .i64 (a : Int) (b : Int) = ((a &&& b : Nat) : Int) := by
  have hx : a &&& b < 2 ^ 63 := Nat.and_lt_two_pow _ (by omega)
  show IntKind.i64.wrap ((BitVec.ofInt 64 (a : Int) &&& BitVec.ofInt 64 (b : Int)).toNat : Int) = _
  rw [BitVec.toNat_and, ofInt_i64 a ha, ofInt_i64 b hb, IntKind.wrap_i64]
  omega
/-- nothing is had that is not needed: by '&^', or by '&' -/
theorem andNot_and (h n : Int) (h0 : -9223372036854775808 ≤ h) (h1 : h ≤ 9223372036854775807) (n0 : 1 ≤ n) (n1 : n ≤ 255) :
    (bits .andNot .i64 h n == 0) = (decide (0 ≤ h ∧ h ≤ 255) && (bits .and .i64 h n == h)) := by
  obtain ⟨m, rfl⟩ := Int.eq_ofNat_of_zero_le (show 0 ≤ n by omega)
  have hm : (BitVec.ofInt 64 (m : Int)).toNat = m := ofInt_i64 m (by omega)
  have ht : (BitVec.ofInt 64 h).toInt = h := by
    rw [BitVec.toInt_ofInt]
    simp [Int.bmod]
    omega
  have hand : bits .andNot .i64 h (m : Int) = IntKind.i64.wrap ((BitVec.ofInt 64 h &&& ~~~ BitVec.ofInt 64 (m : Int)).toNat : Int) := rfl
  rw [Bool.eq_iff_iff]
  constructor
  · intro e
    have e1 : bits .andNot .i64 h (m : Int) = 0 := by simpa using e
    have hlt := (BitVec.ofInt 64 h &&& ~~~ BitVec.ofInt 64 (m : Int)).isLt
    have e2 : (BitVec.ofInt 64 h &&& ~~~ BitVec.ofInt 64 (m : Int)).toNat = 0 := by
      rw [hand, IntKind.wrap_i64] at e1
      omega
    have e3 : BitVec.ofInt 64 h &&& ~~~ BitVec.ofInt 64 (m : Int) = 0#64 := BitVec.eq_of_toNat_eq (by simpa using e2)
    have e4 : BitVec.ofInt 64 h = BitVec.ofInt 64 h &&& BitVec.ofInt 64 (m : Int) := by
      apply BitVec.eq_of_getLsbD_eq
      intro i hi
      have := congrArg (fun x => x.getLsbD i) e3
      simp [hi] at this ⊢
      exact this
    have e5 : (BitVec.ofInt 64 h).toNat ≤ m := by
      rw [e4, BitVec.toNat_and, hm]
      exact Nat.and_le_right
    have e6 : h = ((BitVec.ofInt 64 h).toNat : Int) := by
      rw [BitVec.toInt_eq_toNat_cond] at ht
      split at ht <;> omega
    generalize hx : (BitVec.ofInt 64 h).toNat = x at e5 e6
    have e7 : x &&& m = x := by
      have := congrArg BitVec.toNat e4
      rw [BitVec.toNat_and, hm, hx] at this
      exact this.symm
    subst e6
    simp only [Bool.and_eq_true, decide_eq_true_eq, beq_iff_eq]
    refine ⟨by omega, ?_⟩
    rw [i64_and_nat x m (by omega) (by omega), e7]
  · intro e
    simp only [Bool.and_eq_true, decide_eq_true_eq, beq_iff_eq] at e
    obtain ⟨⟨a, b⟩, c⟩ := e
    obtain ⟨x, rfl⟩ := Int.eq_ofNat_of_zero_le a
    rw [i64_and_nat x m (by omega) (by omega)] at c
    have c' : x &&& m = x := by exact_mod_cast c
    have hx : (BitVec.ofInt 64 (x : Int)).toNat = x := ofInt_i64 x (by omega)
    have e4 : BitVec.ofInt 64 (x : Int) = BitVec.ofInt 64 (x : Int) &&& BitVec.ofInt 64 (m : Int) := BitVec.eq_of_toNat_eq (by rw [BitVec.toNat_and, hx, hm, c'])
    have e3 : BitVec.ofInt 64 (x : Int) &&& ~~~ BitVec.ofInt 64 (m : Int) = 0#64 := by
      rw [e4]
      apply BitVec.eq_of_getLsbD_eq
      intro i hi
      simp [hi]
    rw [hand, e3]
    decide

theorem in_any (n lo hi : Int) (w : World) : Calls Try.prog 58 #[.int .i64 n, .int .i64 lo, .int .i64 hi] w fun x w' => x = .returned (.bool (decide (lo ≤ n ∧ n ≤ hi))) ∧ w = w' := by
  by_cases c1 : lo ≤ n
  · have e : decide (lo ≤ n ∧ n ≤ hi) = decide (n ≤ hi) := by simp [c1]
    rw [e]
    clear e
    go_enter Try.func58, Try.ntmps58
    go_wp2
    go_ret
    exact ⟨rfl, rfl⟩
  · have e : decide (lo ≤ n ∧ n ≤ hi) = false := by simp; omega
    rw [e]
    clear e
    go_enter Try.func58, Try.ntmps58
    go_wp2
    go_ret
    exact ⟨rfl, rfl⟩
theorem rcoming_any (ep : Int) (op : Bool) (nx nd hv bn : Int) (w : World) : Calls Try.prog 26 #[.agg #[.int .i64 ep, .bool op, .int .i64 nx, .int .i64 nd, .int .i64 hv, .int .i64 bn]] w fun x w' => x = .returned (.int .i64 (comS ⟨ep, op, nx, nd, hv, bn⟩)) ∧ Below w.heap.size w w' := by
  cases op
  · go_enter Try.func26, Try.ntmps26
    go_wp2
    go_ret
    exact ⟨rfl, (by repeat (first | with_reducible exact Below.refl _ _ | (with_reducible refine Below.setCell ?_ (by first | omega | (simp; done) | (simp; omega)) _) | with_reducible refine bal ?_ _ | with_reducible refine Below.drew ?_ | with_reducible refine bdn ?_ _ | with_reducible refine via ?_ (by with_reducible assumption)))⟩
  · go_enter Try.func26, Try.ntmps26
    go_wp2
    go_ret
    exact ⟨rfl, (by repeat (first | with_reducible exact Below.refl _ _ | (with_reducible refine Below.setCell ?_ (by first | omega | (simp; done) | (simp; omega)) _) | with_reducible refine bal ?_ _ | with_reducible refine Below.drew ?_ | with_reducible refine bdn ?_ _ | with_reducible refine via ?_ (by with_reducible assumption)))⟩
end Go.Proofs.Ytcaipfdnadlkdaa
