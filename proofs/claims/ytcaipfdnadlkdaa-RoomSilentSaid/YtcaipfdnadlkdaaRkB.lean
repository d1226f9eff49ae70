/- Bits of a need and a have: the program's test and the reference's are one. The walks over the reference's small functions. The walks over the reference's GoodState, Raise. The walks over the reference's Raise, JoinKeys. The walks over the reference's Ack, Late. What the document tells of epochs; the program's answers against the reference's. -/
import Derived.Test.YtcaipfdnadlkdaaRkA
import Derived.KernelRfl
namespace Go.Proofs.Ytcaipfdnadlkdaa
open Go.RowKit
set_option linter.unusedSimpArgs false
set_option linter.unusedVariables false

theorem ofInt_i64 (a : Nat) (ha : a < 9223372036854775808) : (BitVec.ofInt 64 (a : Int)).toNat = a := by
  rw [BitVec.ofInt_natCast, BitVec.toNat_ofNat]; exact Nat.mod_eq_of_lt (by omega)
theorem i64_and_nat (a b : Nat) (ha : a < 9223372036854775808) (hb : b < 9223372036854775808) : bits .and .i64 (a : Int) (b : Int) = ((a &&& b : Nat) : Int) := by
  have hx : a &&& b < 2 ^ 63 := Nat.and_lt_two_pow _ (by omega)
  show IntKind.i64.wrap ((BitVec.ofInt 64 (a : Int) &&& BitVec.ofInt 64 (b : Int)).toNat : Int) = _
  rw [BitVec.toNat_and, ofInt_i64 a ha, ofInt_i64 b hb, IntKind.wrap_i64]
  omega
/-- nothing is had that is not needed: by '&^', or by '&' -/
theorem andNot_and (h n : Int) (h0 : -9223372036854775808 ≤ h) (h1 : h ≤ 9223372036854775807) (n0 : 1 ≤ n) (n1 : n ≤ 255) :
    (bits .andNot .i64 h n == 0) = (decide (0 ≤ h ∧ h ≤ 255) && (bits .and .i64 h n == h)) := by
  obtain ⟨m, rfl⟩ := Int.eq_ofNat_of_zero_le (show 0 ≤ n by omega)
  have hm : (BitVec.ofInt 64 (m : Int)).toNat = m := ofInt_i64 m (by omega)
  have ht : (BitVec.ofInt 64 h).toInt = h := by
    rw [BitVec.toInt_ofInt]
    simp [Int.bmod]
    omega
  have hand : bits .andNot .i64 h (m : Int) = IntKind.i64.wrap ((BitVec.ofInt 64 h &&& ~~~ BitVec.ofInt 64 (m : Int)).toNat : Int) := rfl
  rw [Bool.eq_iff_iff]
  constructor
  · intro e
    have e1 : bits .andNot .i64 h (m : Int) = 0 := by simpa using e
    have hlt := (BitVec.ofInt 64 h &&& ~~~ BitVec.ofInt 64 (m : Int)).isLt
    have e2 : (BitVec.ofInt 64 h &&& ~~~ BitVec.ofInt 64 (m : Int)).toNat = 0 := by
      rw [hand, IntKind.wrap_i64] at e1
      omega
    have e3 : BitVec.ofInt 64 h &&& ~~~ BitVec.ofInt 64 (m : Int) = 0#64 := BitVec.eq_of_toNat_eq (by simpa using e2)
    have e4 : BitVec.ofInt 64 h = BitVec.ofInt 64 h &&& BitVec.ofInt 64 (m : Int) := by
      apply BitVec.eq_of_getLsbD_eq
      intro i hi
      have := congrArg (fun x => x.getLsbD i) e3
      simp [hi] at this ⊢
      exact this
    have e5 : (BitVec.ofInt 64 h).toNat ≤ m := by
      rw [e4, BitVec.toNat_and, hm]
      exact Nat.and_le_right
    have e6 : h = ((BitVec.ofInt 64 h).toNat : Int) := by
      rw [BitVec.toInt_eq_toNat_cond] at ht
      split at ht <;> omega
    generalize hx : (BitVec.ofInt 64 h).toNat = x at e5 e6
    have e7 : x &&& m = x := by
      have := congrArg BitVec.toNat e4
      rw [BitVec.toNat_and, hm, hx] at this
      exact this.symm
    subst e6
    simp only [Bool.and_eq_true, decide_eq_true_eq, beq_iff_eq]
    refine ⟨by omega, ?_⟩
    rw [i64_and_nat x m (by omega) (by omega), e7]
  · intro e
    simp only [Bool.and_eq_true, decide_eq_true_eq, beq_iff_eq] at e
    obtain ⟨⟨a, b⟩, c⟩ := e
    obtain ⟨x, rfl⟩ := Int.eq_ofNat_of_zero_le a
    rw [i64_and_nat x m (by omega) (by omega)] at c
    have c' : x &&& m = x := by exact_mod_cast c
    have hx : (BitVec.ofInt 64 (x : Int)).toNat = x := ofInt_i64 x (by omega)
    have e4 : BitVec.ofInt 64 (x : Int) = BitVec.ofInt 64 (x : Int) &&& BitVec.ofInt 64 (m : Int) := BitVec.eq_of_toNat_eq (by rw [BitVec.toNat_and, hx, hm, c'])
    have e3 : BitVec.ofInt 64 (x : Int) &&& ~~~ BitVec.ofInt 64 (m : Int) = 0#64 := by
      rw [e4]
      apply BitVec.eq_of_getLsbD_eq
      intro i hi
      simp [hi]
    rw [hand, e3]
    decide

theorem in_any (n lo hi : Int) (w : World) : Calls Try.prog 58 #[.int .i64 n, .int .i64 lo, .int .i64 hi] w fun x w' => x = .returned (.bool (decide (lo ≤ n ∧ n ≤ hi))) ∧ w = w' := by
  by_cases c1 : lo ≤ n
  · have e : decide (lo ≤ n ∧ n ≤ hi) = decide (n ≤ hi) := by simp [c1]
    rw [e]
    clear e
    go_enter Try.func58, Try.ntmps58
    go_wp2
    go_ret
    exact ⟨rfl, rfl⟩
  · have e : decide (lo ≤ n ∧ n ≤ hi) = false := by simp; omega
    rw [e]
    clear e
    go_enter Try.func58, Try.ntmps58
    go_wp2
    go_ret
    exact ⟨rfl, rfl⟩
theorem rcoming_any (ep : Int) (op : Bool) (nx nd hv bn : Int) (w : World) : Calls Try.prog 26 #[.agg #[.int .i64 ep, .bool op, .int .i64 nx, .int .i64 nd, .int .i64 hv, .int .i64 bn]] w fun x w' => x = .returned (.int .i64 (comS ⟨ep, op, nx, nd, hv, bn⟩)) ∧ Below w.heap.size w w' := by
  cases op
  · go_enter Try.func26, Try.ntmps26
    go_wp2
    go_ret
    exact ⟨rfl, (by repeat (first | with_reducible exact Below.refl _ _ | (with_reducible refine Below.setCell ?_ (by first | omega | (simp; done) | (simp; omega)) _) | with_reducible refine bal ?_ _ | with_reducible refine Below.drew ?_ | with_reducible refine bdn ?_ _ | with_reducible refine via ?_ (by with_reducible assumption)))⟩
  · go_enter Try.func26, Try.ntmps26
    go_wp2
    go_ret
    exact ⟨rfl, (by repeat (first | with_reducible exact Below.refl _ _ | (with_reducible refine Below.setCell ?_ (by first | omega | (simp; done) | (simp; omega)) _) | with_reducible refine bal ?_ _ | with_reducible refine Below.drew ?_ | with_reducible refine bdn ?_ _ | with_reducible refine via ?_ (by with_reducible assumption)))⟩
end Go.Proofs.Ytcaipfdnadlkdaa

namespace Go.Proofs.Ytcaipfdnadlkdaa
open Go.RowKit
set_option linter.unusedSimpArgs false
set_option linter.unusedVariables false

theorem good_alt (ep nx nd hv bn : Int) (b0 : -9223372036854775808 ≤ hv) (b1 : hv ≤ 9223372036854775807) : goodS ⟨ep, true, nx, nd, hv, bn⟩ = (decide (0 ≤ ep ∧ ep ≤ 65535) && (decide (ep < nx ∧ nx ≤ 65535 ∧ 1 ≤ nd ∧ nd ≤ 255) && ((decide (0 ≤ hv ∧ hv ≤ 255) && (bits .and .i64 hv nd == hv)) && hv != nd))) := by
  by_cases c : 1 ≤ nd ∧ nd ≤ 255
  · simp only [goodS, if_true]
    rw [andNot_and hv nd b0 b1 c.1 c.2]
  · have e : decide (ep < nx ∧ nx ≤ 65535 ∧ 1 ≤ nd ∧ nd ≤ 255) = false := by simp; omega
    simp only [goodS, if_true, e, Bool.false_and]

theorem in_yes (n lo hi : Int) (w : World) (h : lo ≤ n ∧ n ≤ hi) : Calls Try.prog 58 #[.int .i64 n, .int .i64 lo, .int .i64 hi] w fun x w' => x = .returned (.bool true) ∧ w = w' := by
  have e : decide (lo ≤ n ∧ n ≤ hi) = true := by simpa using h
  rw [← e]
  exact in_any n lo hi w
theorem in_not (n lo hi : Int) (w : World) (h : decide (lo ≤ n ∧ n ≤ hi) = false) : Calls Try.prog 58 #[.int .i64 n, .int .i64 lo, .int .i64 hi] w fun x w' => x = .returned (.bool false) ∧ w = w' := by
  rw [← h]
  exact in_any n lo hi w

set_option maxHeartbeats 2000000 in
theorem rgood_any (ep : Int) (op : Bool) (nx nd hv bn : Int) (w : World) (b0 : -9223372036854775808 ≤ hv) (b1 : hv ≤ 9223372036854775807) : Calls Try.prog 25 #[.agg #[.int .i64 ep, .bool op, .int .i64 nx, .int .i64 nd, .int .i64 hv, .int .i64 bn]] w fun x w' => x = .returned (.bool (goodS ⟨ep, op, nx, nd, hv, bn⟩)) ∧ Below w.heap.size w w' := by
  cases hd : decide (0 ≤ ep ∧ ep ≤ 65535)
  · have e : goodS ⟨ep, op, nx, nd, hv, bn⟩ = false := by simp only [goodS, hd, Bool.false_and]
    rw [e]
    clear e
    go_enter Try.func25, Try.ntmps25
    go_wp2_with (go_at_call 58; refine (in_not _ _ _ _ hd).mono ?_; rintro e w' ⟨rfl, rfl⟩)
    go_ret
    exact ⟨rfl, (by repeat (first | with_reducible exact Below.refl _ _ | (with_reducible refine Below.setCell ?_ (by first | omega | (simp; done) | (simp; omega)) _) | with_reducible refine bal ?_ _ | with_reducible refine Below.drew ?_ | with_reducible refine bdn ?_ _ | with_reducible refine via ?_ (by with_reducible assumption)))⟩
  cases op
  · have e : goodS ⟨ep, false, nx, nd, hv, bn⟩ = (nx == 0 && nd == 0 && hv == 0 && bn == 0) := by simp [goodS, hd]
    rw [e]
    clear e
    have hd' : 0 ≤ ep ∧ ep ≤ 65535 := by simpa using hd
    go_enter Try.func25, Try.ntmps25
    go_wp2_with (go_at_call 58; refine (in_yes _ _ _ _ hd').mono ?_; rintro e w' ⟨rfl, rfl⟩)
    all_goals go_ret
    all_goals refine ⟨?_, (by repeat (first | with_reducible exact Below.refl _ _ | (with_reducible refine Below.setCell ?_ (by first | omega | (simp; done) | (simp; omega)) _) | with_reducible refine bal ?_ _ | with_reducible refine Below.drew ?_ | with_reducible refine bdn ?_ _ | with_reducible refine via ?_ (by with_reducible assumption)))⟩
    all_goals simp [*]
  · have hal := good_alt ep nx nd hv bn b0 b1
    rw [hd, Bool.true_and] at hal
    have HAL := Lib.hid hal
    clear hal
    have hd' : 0 ≤ ep ∧ ep ≤ 65535 := by simpa using hd
    go_enter Try.func25, Try.ntmps25
    go_wp2_with (first | (go_at_call 58; refine (in_any _ _ _ _).mono ?_; rintro e w' ⟨rfl, rfl⟩))
    all_goals go_ret
    all_goals refine ⟨?_, (by repeat (first | with_reducible exact Below.refl _ _ | (with_reducible refine Below.setCell ?_ (by first | omega | (simp; done) | (simp; omega)) _) | with_reducible refine bal ?_ _ | with_reducible refine Below.drew ?_ | with_reducible refine bdn ?_ _ | with_reducible refine via ?_ (by with_reducible assumption)))⟩
    all_goals rw [HAL.out]
    all_goals simp [*]
    all_goals omega
end Go.Proofs.Ytcaipfdnadlkdaa

namespace Go.Proofs.Ytcaipfdnadlkdaa
open Go.RowKit
set_option linter.unusedSimpArgs false
set_option linter.unusedVariables false

theorem in_val (n lo hi : Int) (w : World) (b : Bool) (h : decide (lo ≤ n ∧ n ≤ hi) = b) : Calls Try.prog 58 #[.int .i64 n, .int .i64 lo, .int .i64 hi] w fun x w' => x = .returned (.bool b) ∧ w = w' := by
  rw [← h]
  exact in_any n lo hi w
set_option maxHeartbeats 2000000 in
theorem rraise_any (ep : Int) (op : Bool) (nx nd hv bn : Int) (need now : Int) (w : World) (b0 : -9223372036854775808 ≤ hv) (b1 : hv ≤ 9223372036854775807) : Calls Try.prog 22 #[.agg #[.int .i64 ep, .bool op, .int .i64 nx, .int .i64 nd, .int .i64 hv, .int .i64 bn], .int .i64 need, .int .i64 now] w fun x w' => x = .returned (.tuple #[.agg #[.int .i64 ((raiseF ⟨ep, op, nx, nd, hv, bn⟩ need now).1).ep, .bool ((raiseF ⟨ep, op, nx, nd, hv, bn⟩ need now).1).op, .int .i64 ((raiseF ⟨ep, op, nx, nd, hv, bn⟩ need now).1).nx, .int .i64 ((raiseF ⟨ep, op, nx, nd, hv, bn⟩ need now).1).nd, .int .i64 ((raiseF ⟨ep, op, nx, nd, hv, bn⟩ need now).1).hv, .int .i64 ((raiseF ⟨ep, op, nx, nd, hv, bn⟩ need now).1).bn], .int .i64 (raiseF ⟨ep, op, nx, nd, hv, bn⟩ need now).2]) ∧ Below w.heap.size w w' := by
  cases hg : goodS ⟨ep, op, nx, nd, hv, bn⟩
  · have e : raiseF ⟨ep, op, nx, nd, hv, bn⟩ need now = (⟨ep, op, nx, nd, hv, bn⟩, 1) := by simp [raiseF, hg]
    rw [e]
    dsimp only
    clear e
    go_enter Try.func22, Try.ntmps22
    go_wp2_with (first | (go_at_call 25; refine (rgood_any _ _ _ _ _ _ _ b0 b1).mono ?_; rintro e w2 ⟨rfl, hb2⟩; have hz_w2 : w.heap.size + 2 ≤ w2.heap.size := (by have h_ := hb2.size; first | omega | (simp at h_; omega)); obtain ⟨hc1, hf1⟩ := bk hb2 (w.heap.size) (by first | omega | (simp; done) | (simp; omega)); have hs1 : w.heap.size < w2.heap.size := (by omega); obtain ⟨hc2, hf2⟩ := bk hb2 (w.heap.size + 1) (by first | omega | (simp; done) | (simp; omega)); have hs2 : w.heap.size + 1 < w2.heap.size := (by omega)))
    exact bodyPost_ret (v := .tuple #[.agg #[.int .i64 ep, .bool op, .int .i64 nx, .int .i64 nd, .int .i64 hv, .int .i64 bn], .int .i64 1]) (by simp [results, Try.results22, go_sem, hc1, hc2]) rfl ⟨rfl, (by repeat (first | with_reducible exact Below.refl _ _ | (with_reducible refine Below.setCell ?_ (by first | omega | (simp; done) | (simp; omega)) _) | with_reducible refine bal ?_ _ | with_reducible refine Below.drew ?_ | with_reducible refine bdn ?_ _ | with_reducible refine via ?_ (by with_reducible assumption)))⟩
  have hcb := com_bd ⟨ep, op, nx, nd, hv, bn⟩ hg
  by_cases h1 : need < 0 ∨ 255 < need
  · have e : raiseF ⟨ep, op, nx, nd, hv, bn⟩ need now = (⟨ep, op, nx, nd, hv, bn⟩, 1) := by (have hn : needB need = false := by (simp [needB]; omega)); simp [raiseF, hn]
    rw [e]
    dsimp only
    clear e
    have hin : decide (0 ≤ need ∧ need ≤ 255) = false := by (simp; omega)
    have HIN := Lib.hid hin
    clear hin
    go_enter Try.func22, Try.ntmps22
    go_wp2_with (first | (go_at_call 25; refine (rgood_any _ _ _ _ _ _ _ b0 b1).mono ?_; rintro e w2 ⟨rfl, hb2⟩; have hz_w2 : w.heap.size + 2 ≤ w2.heap.size := (by have h_ := hb2.size; first | omega | (simp at h_; omega)); obtain ⟨hc1, hf1⟩ := bk hb2 (w.heap.size) (by first | omega | (simp; done) | (simp; omega)); have hs1 : w.heap.size < w2.heap.size := (by omega); obtain ⟨hc2, hf2⟩ := bk hb2 (w.heap.size + 1) (by first | omega | (simp; done) | (simp; omega)); have hs2 : w.heap.size + 1 < w2.heap.size := (by omega)) | (go_at_call 26; refine (rcoming_any _ _ _ _ _ _ _).mono ?_; rintro e w1 ⟨rfl, hb1⟩; have hz_w1 : w.heap.size + 2 ≤ w1.heap.size := (by have h_ := hb1.size; first | omega | (simp at h_; omega)); obtain ⟨hc3, hf3⟩ := bk hb1 (w.heap.size) (by first | omega | (simp; done) | (simp; omega)); have hs3 : w.heap.size < w1.heap.size := (by omega); obtain ⟨hc4, hf4⟩ := bk hb1 (w.heap.size + 1) (by first | omega | (simp; done) | (simp; omega)); have hs4 : w.heap.size + 1 < w1.heap.size := (by omega)) | (go_at_call 58; refine (in_val _ _ _ _ _ HIN.out).mono ?_; rintro e w' ⟨rfl, rfl⟩))
    exact bodyPost_ret (v := .tuple #[.agg #[.int .i64 ep, .bool op, .int .i64 nx, .int .i64 nd, .int .i64 hv, .int .i64 bn], .int .i64 1]) (by simp [results, Try.results22, go_sem, hc1, hc2]) rfl ⟨rfl, (by repeat (first | with_reducible exact Below.refl _ _ | (with_reducible refine Below.setCell ?_ (by first | omega | (simp; done) | (simp; omega)) _) | with_reducible refine bal ?_ _ | with_reducible refine Below.drew ?_ | with_reducible refine bdn ?_ _ | with_reducible refine via ?_ (by with_reducible assumption)))⟩
  by_cases hc : 65535 < comS ⟨ep, op, nx, nd, hv, bn⟩ + 1
  · have e : raiseF ⟨ep, op, nx, nd, hv, bn⟩ need now = (⟨ep, op, nx, nd, hv, bn⟩, 11) := by (have hn : needB need = true := by (simp [needB]; omega)); simp only [raiseF, hg, hn, Bool.and_self, if_true]; rw [if_pos hc]
    rw [e]
    dsimp only
    clear e
    have hin : decide (0 ≤ need ∧ need ≤ 255) = true := by (simp; omega)
    have HIN := Lib.hid hin
    clear hin
    have hcc : (comS ⟨ep, op, nx, nd, hv, bn⟩ == 65535) = true := by (simp; omega)
    go_enter Try.func22, Try.ntmps22
    go_wp2_with (first | (go_at_call 25; refine (rgood_any _ _ _ _ _ _ _ b0 b1).mono ?_; rintro e w2 ⟨rfl, hb2⟩; have hz_w2 : w.heap.size + 2 ≤ w2.heap.size := (by have h_ := hb2.size; first | omega | (simp at h_; omega)); obtain ⟨hc1, hf1⟩ := bk hb2 (w.heap.size) (by first | omega | (simp; done) | (simp; omega)); have hs1 : w.heap.size < w2.heap.size := (by omega); obtain ⟨hc2, hf2⟩ := bk hb2 (w.heap.size + 1) (by first | omega | (simp; done) | (simp; omega)); have hs2 : w.heap.size + 1 < w2.heap.size := (by omega)) | (go_at_call 26; refine (rcoming_any _ _ _ _ _ _ _).mono ?_; rintro e w1 ⟨rfl, hb1⟩; have hz_w1 : w.heap.size + 2 ≤ w1.heap.size := (by have h_ := hb1.size; first | omega | (simp at h_; omega)); obtain ⟨hc3, hf3⟩ := bk hb1 (w.heap.size) (by first | omega | (simp; done) | (simp; omega)); have hs3 : w.heap.size < w1.heap.size := (by omega); obtain ⟨hc4, hf4⟩ := bk hb1 (w.heap.size + 1) (by first | omega | (simp; done) | (simp; omega)); have hs4 : w.heap.size + 1 < w1.heap.size := (by omega)) | (go_at_call 58; refine (in_val _ _ _ _ _ HIN.out).mono ?_; rintro e w' ⟨rfl, rfl⟩))
    exact bodyPost_ret (v := .tuple #[.agg #[.int .i64 ep, .bool op, .int .i64 nx, .int .i64 nd, .int .i64 hv, .int .i64 bn], .int .i64 11]) (by simp [results, Try.results22, go_sem, hc1, hc2, hc3, hc4]) rfl ⟨rfl, (by repeat (first | with_reducible exact Below.refl _ _ | (with_reducible refine Below.setCell ?_ (by first | omega | (simp; done) | (simp; omega)) _) | with_reducible refine bal ?_ _ | with_reducible refine Below.drew ?_ | with_reducible refine bdn ?_ _ | with_reducible refine via ?_ (by with_reducible assumption)))⟩
  by_cases h3 : need = 0
  · subst h3
    have e : raiseF ⟨ep, op, nx, nd, hv, bn⟩ 0 now = (⟨comS ⟨ep, op, nx, nd, hv, bn⟩ + 1, false, 0, 0, 0, 0⟩, 0) := by (have hn : needB 0 = true := by decide); simp only [raiseF, hg, hn, Bool.and_self, if_true]; rw [if_neg hc]
    rw [e]
    dsimp only
    clear e
    have HIN : Hid (decide ((0 : Int) ≤ 0 ∧ (0 : Int) ≤ 255) = true) := Lib.hid (by decide)
    have hcc : (comS ⟨ep, op, nx, nd, hv, bn⟩ == 65535) = false := by (simp; omega)
    go_enter Try.func22, Try.ntmps22
    go_wp2_with (first | (go_at_call 25; refine (rgood_any _ _ _ _ _ _ _ b0 b1).mono ?_; rintro e w2 ⟨rfl, hb2⟩; have hz_w2 : w.heap.size + 2 ≤ w2.heap.size := (by have h_ := hb2.size; first | omega | (simp at h_; omega)); obtain ⟨hc1, hf1⟩ := bk hb2 (w.heap.size) (by first | omega | (simp; done) | (simp; omega)); have hs1 : w.heap.size < w2.heap.size := (by omega); obtain ⟨hc2, hf2⟩ := bk hb2 (w.heap.size + 1) (by first | omega | (simp; done) | (simp; omega)); have hs2 : w.heap.size + 1 < w2.heap.size := (by omega)) | (go_at_call 26; refine (rcoming_any _ _ _ _ _ _ _).mono ?_; rintro e w1 ⟨rfl, hb1⟩; have hz_w1 : w.heap.size + 2 ≤ w1.heap.size := (by have h_ := hb1.size; first | omega | (simp at h_; omega)); obtain ⟨hc3, hf3⟩ := bk hb1 (w.heap.size) (by first | omega | (simp; done) | (simp; omega)); have hs3 : w.heap.size < w1.heap.size := (by omega); obtain ⟨hc4, hf4⟩ := bk hb1 (w.heap.size + 1) (by first | omega | (simp; done) | (simp; omega)); have hs4 : w.heap.size + 1 < w1.heap.size := (by omega)) | (go_at_call 58; refine (in_val _ _ _ _ _ HIN.out).mono ?_; rintro e w' ⟨rfl, rfl⟩))
    exact bodyPost_ret (v := .tuple #[.agg #[.int .i64 (comS ⟨ep, op, nx, nd, hv, bn⟩ + 1), .bool false, .int .i64 0, .int .i64 0, .int .i64 0, .int .i64 0], .int .i64 0]) (by simp [results, Try.results22, go_sem, hc1, hc2, hc3, hc4]) rfl ⟨rfl, (by repeat (first | with_reducible exact Below.refl _ _ | (with_reducible refine Below.setCell ?_ (by first | omega | (simp; done) | (simp; omega)) _) | with_reducible refine bal ?_ _ | with_reducible refine Below.drew ?_ | with_reducible refine bdn ?_ _ | with_reducible refine via ?_ (by with_reducible assumption)))⟩
  · have e : raiseF ⟨ep, op, nx, nd, hv, bn⟩ need now = (⟨ep, true, comS ⟨ep, op, nx, nd, hv, bn⟩ + 1, need, 0, now⟩, 0) := by (have hn : needB need = true := by (simp [needB]; omega)); simp only [raiseF, hg, hn, Bool.and_self, if_true]; rw [if_neg hc, if_neg h3]
    rw [e]
    dsimp only
    clear e
    have hin : decide (0 ≤ need ∧ need ≤ 255) = true := by (simp; omega)
    have HIN := Lib.hid hin
    clear hin
    have hcc : (comS ⟨ep, op, nx, nd, hv, bn⟩ == 65535) = false := by (simp; omega)
    go_enter Try.func22, Try.ntmps22
    go_wp2_with (first | (go_at_call 25; refine (rgood_any _ _ _ _ _ _ _ b0 b1).mono ?_; rintro e w2 ⟨rfl, hb2⟩; have hz_w2 : w.heap.size + 2 ≤ w2.heap.size := (by have h_ := hb2.size; first | omega | (simp at h_; omega)); obtain ⟨hc1, hf1⟩ := bk hb2 (w.heap.size) (by first | omega | (simp; done) | (simp; omega)); have hs1 : w.heap.size < w2.heap.size := (by omega); obtain ⟨hc2, hf2⟩ := bk hb2 (w.heap.size + 1) (by first | omega | (simp; done) | (simp; omega)); have hs2 : w.heap.size + 1 < w2.heap.size := (by omega)) | (go_at_call 26; refine (rcoming_any _ _ _ _ _ _ _).mono ?_; rintro e w1 ⟨rfl, hb1⟩; have hz_w1 : w.heap.size + 2 ≤ w1.heap.size := (by have h_ := hb1.size; first | omega | (simp at h_; omega)); obtain ⟨hc3, hf3⟩ := bk hb1 (w.heap.size) (by first | omega | (simp; done) | (simp; omega)); have hs3 : w.heap.size < w1.heap.size := (by omega); obtain ⟨hc4, hf4⟩ := bk hb1 (w.heap.size + 1) (by first | omega | (simp; done) | (simp; omega)); have hs4 : w.heap.size + 1 < w1.heap.size := (by omega)) | (go_at_call 58; refine (in_val _ _ _ _ _ HIN.out).mono ?_; rintro e w' ⟨rfl, rfl⟩))
    exact bodyPost_ret (v := .tuple #[.agg #[.int .i64 ep, .bool true, .int .i64 (comS ⟨ep, op, nx, nd, hv, bn⟩ + 1), .int .i64 need, .int .i64 0, .int .i64 now], .int .i64 0]) (by simp [results, Try.results22, go_sem, hc1, hc2, hc3, hc4]) rfl ⟨rfl, (by repeat (first | with_reducible exact Below.refl _ _ | (with_reducible refine Below.setCell ?_ (by first | omega | (simp; done) | (simp; omega)) _) | with_reducible refine bal ?_ _ | with_reducible refine Below.drew ?_ | with_reducible refine bdn ?_ _ | with_reducible refine via ?_ (by with_reducible assumption)))⟩

set_option maxHeartbeats 2000000 in
theorem rjoin_any (ep : Int) (op : Bool) (nx nd hv bn : Int) (i : Int) (w : World) (b0 : -9223372036854775808 ≤ hv) (b1 : hv ≤ 9223372036854775807) : Calls Try.prog 23 #[.agg #[.int .i64 ep, .bool op, .int .i64 nx, .int .i64 nd, .int .i64 hv, .int .i64 bn], .int .i64 i] w fun x w' => x = .returned (.tuple #[.agg #[.int .i64 ((joinF ⟨ep, op, nx, nd, hv, bn⟩ i).1).ep, .bool ((joinF ⟨ep, op, nx, nd, hv, bn⟩ i).1).op, .int .i64 ((joinF ⟨ep, op, nx, nd, hv, bn⟩ i).1).nx, .int .i64 ((joinF ⟨ep, op, nx, nd, hv, bn⟩ i).1).nd, .int .i64 ((joinF ⟨ep, op, nx, nd, hv, bn⟩ i).1).hv, .int .i64 ((joinF ⟨ep, op, nx, nd, hv, bn⟩ i).1).bn], .int .i64 (joinF ⟨ep, op, nx, nd, hv, bn⟩ i).2]) ∧ Below w.heap.size w w' := by
  cases hg : goodS ⟨ep, op, nx, nd, hv, bn⟩
  · have e : joinF ⟨ep, op, nx, nd, hv, bn⟩ i = (⟨ep, op, nx, nd, hv, bn⟩, 1) := by simp [joinF, hg]
    rw [e]
    dsimp only
    clear e
    go_enter Try.func23, Try.ntmps23
    go_wp2_with (first | (go_at_call 25; refine (rgood_any _ _ _ _ _ _ _ b0 b1).mono ?_; rintro e w2 ⟨rfl, hb2⟩; have hz_w2 : w.heap.size + 2 ≤ w2.heap.size := (by have h_ := hb2.size; first | omega | (simp at h_; omega)); obtain ⟨hc1, hf1⟩ := bk hb2 (w.heap.size) (by first | omega | (simp; done) | (simp; omega)); have hs1 : w.heap.size < w2.heap.size := (by omega); obtain ⟨hc2, hf2⟩ := bk hb2 (w.heap.size + 1) (by first | omega | (simp; done) | (simp; omega)); have hs2 : w.heap.size + 1 < w2.heap.size := (by omega)))
    exact bodyPost_ret (v := .tuple #[.agg #[.int .i64 ep, .bool op, .int .i64 nx, .int .i64 nd, .int .i64 hv, .int .i64 bn], .int .i64 1]) (by simp [results, Try.results23, go_sem, hc1, hc2]) rfl ⟨rfl, (by repeat (first | with_reducible exact Below.refl _ _ | (with_reducible refine Below.setCell ?_ (by first | omega | (simp; done) | (simp; omega)) _) | with_reducible refine bal ?_ _ | with_reducible refine Below.drew ?_ | with_reducible refine bdn ?_ _ | with_reducible refine via ?_ (by with_reducible assumption)))⟩
  cases hs : slB i
  · have e : joinF ⟨ep, op, nx, nd, hv, bn⟩ i = (⟨ep, op, nx, nd, hv, bn⟩, 1) := by simp [joinF, hs]
    rw [e]
    dsimp only
    clear e
    simp [slB] at hs
    have hin : decide (0 ≤ i ∧ i ≤ 7) = false := by (simp; omega)
    have HIN := Lib.hid hin
    clear hin
    clear hs
    go_enter Try.func23, Try.ntmps23
    go_wp2_with (first | (go_at_call 25; refine (rgood_any _ _ _ _ _ _ _ b0 b1).mono ?_; rintro e w2 ⟨rfl, hb2⟩; have hz_w2 : w.heap.size + 2 ≤ w2.heap.size := (by have h_ := hb2.size; first | omega | (simp at h_; omega)); obtain ⟨hc1, hf1⟩ := bk hb2 (w.heap.size) (by first | omega | (simp; done) | (simp; omega)); have hs1 : w.heap.size < w2.heap.size := (by omega); obtain ⟨hc2, hf2⟩ := bk hb2 (w.heap.size + 1) (by first | omega | (simp; done) | (simp; omega)); have hs2 : w.heap.size + 1 < w2.heap.size := (by omega)) | (go_at_call 58; refine (in_val _ _ _ _ _ HIN.out).mono ?_; rintro e w' ⟨rfl, rfl⟩))
    exact bodyPost_ret (v := .tuple #[.agg #[.int .i64 ep, .bool op, .int .i64 nx, .int .i64 nd, .int .i64 hv, .int .i64 bn], .int .i64 1]) (by simp [results, Try.results23, go_sem, hc1, hc2]) rfl ⟨rfl, (by repeat (first | with_reducible exact Below.refl _ _ | (with_reducible refine Below.setCell ?_ (by first | omega | (simp; done) | (simp; omega)) _) | with_reducible refine bal ?_ _ | with_reducible refine Below.drew ?_ | with_reducible refine bdn ?_ _ | with_reducible refine via ?_ (by with_reducible assumption)))⟩
  have hs' : 0 ≤ i ∧ i < 8 := by simpa [slB] using hs
  obtain ⟨i0, i1⟩ := hs'
  have hp := pow_small i i0 i1
  cases op
  · have e : joinF ⟨ep, false, nx, nd, hv, bn⟩ i = (⟨ep, false, nx, nd, hv, bn⟩, 0) := by simp [joinF, hg, hs]
    rw [e]
    dsimp only
    clear e
    have hin : decide (0 ≤ i ∧ i ≤ 7) = true := by (simp; omega)
    have HIN := Lib.hid hin
    clear hin
    have hu : IntKind.u64.wrap i = i := by (rw [IntKind.wrap_u64]; omega)
    go_enter Try.func23, Try.ntmps23
    go_wp2_with (first | (go_at_call 25; refine (rgood_any _ _ _ _ _ _ _ b0 b1).mono ?_; rintro e w2 ⟨rfl, hb2⟩; have hz_w2 : w.heap.size + 2 ≤ w2.heap.size := (by have h_ := hb2.size; first | omega | (simp at h_; omega)); obtain ⟨hc1, hf1⟩ := bk hb2 (w.heap.size) (by first | omega | (simp; done) | (simp; omega)); have hs1 : w.heap.size < w2.heap.size := (by omega); obtain ⟨hc2, hf2⟩ := bk hb2 (w.heap.size + 1) (by first | omega | (simp; done) | (simp; omega)); have hs2 : w.heap.size + 1 < w2.heap.size := (by omega)) | (go_at_call 58; refine (in_val _ _ _ _ _ HIN.out).mono ?_; rintro e w' ⟨rfl, rfl⟩))
    exact bodyPost_ret (v := .tuple #[.agg #[.int .i64 ep, .bool false, .int .i64 nx, .int .i64 nd, .int .i64 hv, .int .i64 bn], .int .i64 0]) (by simp [results, Try.results23, go_sem, hc1, hc2]) rfl ⟨rfl, (by repeat (first | with_reducible exact Below.refl _ _ | (with_reducible refine Below.setCell ?_ (by first | omega | (simp; done) | (simp; omega)) _) | with_reducible refine bal ?_ _ | with_reducible refine Below.drew ?_ | with_reducible refine bdn ?_ _ | with_reducible refine via ?_ (by with_reducible assumption)))⟩
  cases hb : bitO nd i
  · have hb' : (bits .and .i64 (nd / 2 ^ i.toNat) 1 == 1) = false := hb
    have e : joinF ⟨ep, true, nx, nd, hv, bn⟩ i = (⟨ep, true, nx, bits .or .i64 nd (2 ^ i.toNat), hv, bn⟩, 0) := by simp [joinF, hg, hs, hb]
    rw [e]
    dsimp only
    clear e
    have hin : decide (0 ≤ i ∧ i ≤ 7) = true := by (simp; omega)
    have HIN := Lib.hid hin
    clear hin
    have hu : IntKind.u64.wrap i = i := by (rw [IntKind.wrap_u64]; omega)
    go_enter Try.func23, Try.ntmps23
    go_wp2_with (first | (go_at_call 25; refine (rgood_any _ _ _ _ _ _ _ b0 b1).mono ?_; rintro e w2 ⟨rfl, hb2⟩; have hz_w2 : w.heap.size + 2 ≤ w2.heap.size := (by have h_ := hb2.size; first | omega | (simp at h_; omega)); obtain ⟨hc1, hf1⟩ := bk hb2 (w.heap.size) (by first | omega | (simp; done) | (simp; omega)); have hs1 : w.heap.size < w2.heap.size := (by omega); obtain ⟨hc2, hf2⟩ := bk hb2 (w.heap.size + 1) (by first | omega | (simp; done) | (simp; omega)); have hs2 : w.heap.size + 1 < w2.heap.size := (by omega)) | (go_at_call 58; refine (in_val _ _ _ _ _ HIN.out).mono ?_; rintro e w' ⟨rfl, rfl⟩))
    exact bodyPost_ret (v := .tuple #[.agg #[.int .i64 ep, .bool true, .int .i64 nx, .int .i64 (bits .or .i64 nd (2 ^ i.toNat)), .int .i64 hv, .int .i64 bn], .int .i64 0]) (by simp [results, Try.results23, go_sem, hc1, hc2]) rfl ⟨rfl, (by repeat (first | with_reducible exact Below.refl _ _ | (with_reducible refine Below.setCell ?_ (by first | omega | (simp; done) | (simp; omega)) _) | with_reducible refine bal ?_ _ | with_reducible refine Below.drew ?_ | with_reducible refine bdn ?_ _ | with_reducible refine via ?_ (by with_reducible assumption)))⟩
  · have hb' : (bits .and .i64 (nd / 2 ^ i.toNat) 1 == 1) = true := hb
    have e : joinF ⟨ep, true, nx, nd, hv, bn⟩ i = (⟨ep, true, nx, nd, hv, bn⟩, 7) := by simp [joinF, hg, hs, hb]
    rw [e]
    dsimp only
    clear e
    have hin : decide (0 ≤ i ∧ i ≤ 7) = true := by (simp; omega)
    have HIN := Lib.hid hin
    clear hin
    have hu : IntKind.u64.wrap i = i := by (rw [IntKind.wrap_u64]; omega)
    go_enter Try.func23, Try.ntmps23
    go_wp2_with (first | (go_at_call 25; refine (rgood_any _ _ _ _ _ _ _ b0 b1).mono ?_; rintro e w2 ⟨rfl, hb2⟩; have hz_w2 : w.heap.size + 2 ≤ w2.heap.size := (by have h_ := hb2.size; first | omega | (simp at h_; omega)); obtain ⟨hc1, hf1⟩ := bk hb2 (w.heap.size) (by first | omega | (simp; done) | (simp; omega)); have hs1 : w.heap.size < w2.heap.size := (by omega); obtain ⟨hc2, hf2⟩ := bk hb2 (w.heap.size + 1) (by first | omega | (simp; done) | (simp; omega)); have hs2 : w.heap.size + 1 < w2.heap.size := (by omega)) | (go_at_call 58; refine (in_val _ _ _ _ _ HIN.out).mono ?_; rintro e w' ⟨rfl, rfl⟩))
    exact bodyPost_ret (v := .tuple #[.agg #[.int .i64 ep, .bool true, .int .i64 nx, .int .i64 nd, .int .i64 hv, .int .i64 bn], .int .i64 7]) (by simp [results, Try.results23, go_sem, hc1, hc2]) rfl ⟨rfl, (by repeat (first | with_reducible exact Below.refl _ _ | (with_reducible refine Below.setCell ?_ (by first | omega | (simp; done) | (simp; omega)) _) | with_reducible refine bal ?_ _ | with_reducible refine Below.drew ?_ | with_reducible refine bdn ?_ _ | with_reducible refine via ?_ (by with_reducible assumption)))⟩

end Go.Proofs.Ytcaipfdnadlkdaa

namespace Go.Proofs.Ytcaipfdnadlkdaa
open Go.RowKit
set_option linter.unusedSimpArgs false
set_option linter.unusedVariables false

set_option maxHeartbeats 4000000 in
theorem rack_any (ep : Int) (op : Bool) (nx nd hv bn : Int) (i e : Int) (w : World) (b0 : -9223372036854775808 ≤ hv) (b1 : hv ≤ 9223372036854775807) : Calls Try.prog 24 #[.agg #[.int .i64 ep, .bool op, .int .i64 nx, .int .i64 nd, .int .i64 hv, .int .i64 bn], .int .i64 i, .int .i64 e] w fun x w' => x = .returned (.tuple #[.agg #[.int .i64 ((ackF ⟨ep, op, nx, nd, hv, bn⟩ i e).1).ep, .bool ((ackF ⟨ep, op, nx, nd, hv, bn⟩ i e).1).op, .int .i64 ((ackF ⟨ep, op, nx, nd, hv, bn⟩ i e).1).nx, .int .i64 ((ackF ⟨ep, op, nx, nd, hv, bn⟩ i e).1).nd, .int .i64 ((ackF ⟨ep, op, nx, nd, hv, bn⟩ i e).1).hv, .int .i64 ((ackF ⟨ep, op, nx, nd, hv, bn⟩ i e).1).bn], .bool (ackF ⟨ep, op, nx, nd, hv, bn⟩ i e).2.1, .int .i64 (ackF ⟨ep, op, nx, nd, hv, bn⟩ i e).2.2]) ∧ Below w.heap.size w w' := by
  cases hg : goodS ⟨ep, op, nx, nd, hv, bn⟩
  · have e : ackF ⟨ep, op, nx, nd, hv, bn⟩ i e = (⟨ep, op, nx, nd, hv, bn⟩, false, 1) := by simp [ackF, hg]
    rw [e]
    try dsimp only
    clear e
    go_enter Try.func24, Try.ntmps24
    go_wp2_with (first | (go_at_call 25; refine (rgood_any _ _ _ _ _ _ _ b0 b1).mono ?_; rintro e w2 ⟨rfl, hb2⟩; have hz_w2 : w.heap.size + 2 ≤ w2.heap.size := (by have h_ := hb2.size; first | omega | (simp at h_; omega)); obtain ⟨hc1, hf1⟩ := bk hb2 (w.heap.size) (by first | omega | (simp; done) | (simp; omega)); have hs1 : w.heap.size < w2.heap.size := (by omega); obtain ⟨hc2, hf2⟩ := bk hb2 (w.heap.size + 1) (by first | omega | (simp; done) | (simp; omega)); have hs2 : w.heap.size + 1 < w2.heap.size := (by omega)))
    exact bodyPost_ret (v := .tuple #[.agg #[.int .i64 ep, .bool op, .int .i64 nx, .int .i64 nd, .int .i64 hv, .int .i64 bn], .bool false, .int .i64 1]) (by simp [results, Try.results24, go_sem, hc1, hc2]) rfl ⟨rfl, (by repeat (first | with_reducible exact Below.refl _ _ | (with_reducible refine Below.setCell ?_ (by first | omega | (simp; done) | (simp; omega)) _) | with_reducible refine bal ?_ _ | with_reducible refine Below.drew ?_ | with_reducible refine bdn ?_ _ | with_reducible refine via ?_ (by with_reducible assumption)))⟩
  cases hs : slB i
  · have e : ackF ⟨ep, op, nx, nd, hv, bn⟩ i e = (⟨ep, op, nx, nd, hv, bn⟩, false, 1) := by simp [ackF, hs]
    rw [e]
    try dsimp only
    clear e
    simp [slB] at hs
    have hin : decide (0 ≤ i ∧ i ≤ 7) = false := by (simp; omega)
    have HIN := Lib.hid hin
    clear hin
    clear hs
    go_enter Try.func24, Try.ntmps24
    go_wp2_with (first | (go_at_call 25; refine (rgood_any _ _ _ _ _ _ _ b0 b1).mono ?_; rintro e w2 ⟨rfl, hb2⟩; have hz_w2 : w.heap.size + 2 ≤ w2.heap.size := (by have h_ := hb2.size; first | omega | (simp at h_; omega)); obtain ⟨hc1, hf1⟩ := bk hb2 (w.heap.size) (by first | omega | (simp; done) | (simp; omega)); have hs1 : w.heap.size < w2.heap.size := (by omega); obtain ⟨hc2, hf2⟩ := bk hb2 (w.heap.size + 1) (by first | omega | (simp; done) | (simp; omega)); have hs2 : w.heap.size + 1 < w2.heap.size := (by omega)) | (go_at_call 58; refine (in_val _ _ _ _ _ HIN.out).mono ?_; rintro e w' ⟨rfl, rfl⟩))
    exact bodyPost_ret (v := .tuple #[.agg #[.int .i64 ep, .bool op, .int .i64 nx, .int .i64 nd, .int .i64 hv, .int .i64 bn], .bool false, .int .i64 1]) (by simp [results, Try.results24, go_sem, hc1, hc2]) rfl ⟨rfl, (by repeat (first | with_reducible exact Below.refl _ _ | (with_reducible refine Below.setCell ?_ (by first | omega | (simp; done) | (simp; omega)) _) | with_reducible refine bal ?_ _ | with_reducible refine Below.drew ?_ | with_reducible refine bdn ?_ _ | with_reducible refine via ?_ (by with_reducible assumption)))⟩
  have hs' : 0 ≤ i ∧ i < 8 := by simpa [slB] using hs
  obtain ⟨i0, i1⟩ := hs'
  have hp := pow_small i i0 i1
  cases op
  · have e : ackF ⟨ep, false, nx, nd, hv, bn⟩ i e = (⟨ep, false, nx, nd, hv, bn⟩, false, 12) := by simp [ackF, hg, hs]
    rw [e]
    try dsimp only
    clear e
    have hin : decide (0 ≤ i ∧ i ≤ 7) = true := by (simp; omega)
    have HIN := Lib.hid hin
    clear hin
    have hu : IntKind.u64.wrap i = i := by (rw [IntKind.wrap_u64]; omega)
    go_enter Try.func24, Try.ntmps24
    go_wp2_with (first | (go_at_call 25; refine (rgood_any _ _ _ _ _ _ _ b0 b1).mono ?_; rintro e w2 ⟨rfl, hb2⟩; have hz_w2 : w.heap.size + 2 ≤ w2.heap.size := (by have h_ := hb2.size; first | omega | (simp at h_; omega)); obtain ⟨hc1, hf1⟩ := bk hb2 (w.heap.size) (by first | omega | (simp; done) | (simp; omega)); have hs1 : w.heap.size < w2.heap.size := (by omega); obtain ⟨hc2, hf2⟩ := bk hb2 (w.heap.size + 1) (by first | omega | (simp; done) | (simp; omega)); have hs2 : w.heap.size + 1 < w2.heap.size := (by omega)) | (go_at_call 58; refine (in_val _ _ _ _ _ HIN.out).mono ?_; rintro e w' ⟨rfl, rfl⟩))
    exact bodyPost_ret (v := .tuple #[.agg #[.int .i64 ep, .bool false, .int .i64 nx, .int .i64 nd, .int .i64 hv, .int .i64 bn], .bool false, .int .i64 12]) (by simp [results, Try.results24, go_sem, hc1, hc2]) rfl ⟨rfl, (by repeat (first | with_reducible exact Below.refl _ _ | (with_reducible refine Below.setCell ?_ (by first | omega | (simp; done) | (simp; omega)) _) | with_reducible refine bal ?_ _ | with_reducible refine Below.drew ?_ | with_reducible refine bdn ?_ _ | with_reducible refine via ?_ (by with_reducible assumption)))⟩
  cases hx : nx != e
  case true =>
    have e : ackF ⟨ep, true, nx, nd, hv, bn⟩ i e = (⟨ep, true, nx, nd, hv, bn⟩, false, 12) := by (have hxx : (nx == e) = false := by simpa [bne] using hx); simp only [ackF, hg, hs, hxx, Bool.and_self, Bool.and_false, if_true, Bool.false_eq_true, if_false]
    rw [e]
    try dsimp only
    clear e
    have hin : decide (0 ≤ i ∧ i ≤ 7) = true := by (simp; omega)
    have HIN := Lib.hid hin
    clear hin
    have hu : IntKind.u64.wrap i = i := by (rw [IntKind.wrap_u64]; omega)
    go_enter Try.func24, Try.ntmps24
    go_wp2_with (first | (go_at_call 25; refine (rgood_any _ _ _ _ _ _ _ b0 b1).mono ?_; rintro e w2 ⟨rfl, hb2⟩; have hz_w2 : w.heap.size + 2 ≤ w2.heap.size := (by have h_ := hb2.size; first | omega | (simp at h_; omega)); obtain ⟨hc1, hf1⟩ := bk hb2 (w.heap.size) (by first | omega | (simp; done) | (simp; omega)); have hs1 : w.heap.size < w2.heap.size := (by omega); obtain ⟨hc2, hf2⟩ := bk hb2 (w.heap.size + 1) (by first | omega | (simp; done) | (simp; omega)); have hs2 : w.heap.size + 1 < w2.heap.size := (by omega)) | (go_at_call 58; refine (in_val _ _ _ _ _ HIN.out).mono ?_; rintro e w' ⟨rfl, rfl⟩))
    exact bodyPost_ret (v := .tuple #[.agg #[.int .i64 ep, .bool true, .int .i64 nx, .int .i64 nd, .int .i64 hv, .int .i64 bn], .bool false, .int .i64 12]) (by simp [results, Try.results24, go_sem, hc1, hc2]) rfl ⟨rfl, (by repeat (first | with_reducible exact Below.refl _ _ | (with_reducible refine Below.setCell ?_ (by first | omega | (simp; done) | (simp; omega)) _) | with_reducible refine bal ?_ _ | with_reducible refine Below.drew ?_ | with_reducible refine bdn ?_ _ | with_reducible refine via ?_ (by with_reducible assumption)))⟩
  cases hb : bitZ nd i
  case true =>
    have hb' : (bits .and .i64 (nd / 2 ^ i.toNat) 1 == 0) = true := hb
    have e : ackF ⟨ep, true, nx, nd, hv, bn⟩ i e = (⟨ep, true, nx, nd, hv, bn⟩, false, 6) := by (have hxx : (nx == e) = true := by simpa [bne] using hx); simp only [ackF, hg, hs, hxx, Bool.and_self, if_true, hb]
    rw [e]
    try dsimp only
    clear e
    have hin : decide (0 ≤ i ∧ i ≤ 7) = true := by (simp; omega)
    have HIN := Lib.hid hin
    clear hin
    have hu : IntKind.u64.wrap i = i := by (rw [IntKind.wrap_u64]; omega)
    go_enter Try.func24, Try.ntmps24
    go_wp2_with (first | (go_at_call 25; refine (rgood_any _ _ _ _ _ _ _ b0 b1).mono ?_; rintro e w2 ⟨rfl, hb2⟩; have hz_w2 : w.heap.size + 2 ≤ w2.heap.size := (by have h_ := hb2.size; first | omega | (simp at h_; omega)); obtain ⟨hc1, hf1⟩ := bk hb2 (w.heap.size) (by first | omega | (simp; done) | (simp; omega)); have hs1 : w.heap.size < w2.heap.size := (by omega); obtain ⟨hc2, hf2⟩ := bk hb2 (w.heap.size + 1) (by first | omega | (simp; done) | (simp; omega)); have hs2 : w.heap.size + 1 < w2.heap.size := (by omega)) | (go_at_call 58; refine (in_val _ _ _ _ _ HIN.out).mono ?_; rintro e w' ⟨rfl, rfl⟩))
    exact bodyPost_ret (v := .tuple #[.agg #[.int .i64 ep, .bool true, .int .i64 nx, .int .i64 nd, .int .i64 hv, .int .i64 bn], .bool false, .int .i64 6]) (by simp [results, Try.results24, go_sem, hc1, hc2]) rfl ⟨rfl, (by repeat (first | with_reducible exact Below.refl _ _ | (with_reducible refine Below.setCell ?_ (by first | omega | (simp; done) | (simp; omega)) _) | with_reducible refine bal ?_ _ | with_reducible refine Below.drew ?_ | with_reducible refine bdn ?_ _ | with_reducible refine via ?_ (by with_reducible assumption)))⟩
  have hb' : (bits .and .i64 (nd / 2 ^ i.toNat) 1 == 0) = false := hb
  cases hd : bitO hv i
  case true =>
    have hd' : (bits .and .i64 (hv / 2 ^ i.toNat) 1 == 1) = true := hd
    have e : ackF ⟨ep, true, nx, nd, hv, bn⟩ i e = (⟨ep, true, nx, nd, hv, bn⟩, false, 7) := by (have hxx : (nx == e) = true := by simpa [bne] using hx); simp only [ackF, hg, hs, hxx, Bool.and_self, if_true, hb, hd, Bool.false_eq_true, if_false]
    rw [e]
    try dsimp only
    clear e
    have hin : decide (0 ≤ i ∧ i ≤ 7) = true := by (simp; omega)
    have HIN := Lib.hid hin
    clear hin
    have hu : IntKind.u64.wrap i = i := by (rw [IntKind.wrap_u64]; omega)
    go_enter Try.func24, Try.ntmps24
    go_wp2_with (first | (go_at_call 25; refine (rgood_any _ _ _ _ _ _ _ b0 b1).mono ?_; rintro e w2 ⟨rfl, hb2⟩; have hz_w2 : w.heap.size + 2 ≤ w2.heap.size := (by have h_ := hb2.size; first | omega | (simp at h_; omega)); obtain ⟨hc1, hf1⟩ := bk hb2 (w.heap.size) (by first | omega | (simp; done) | (simp; omega)); have hs1 : w.heap.size < w2.heap.size := (by omega); obtain ⟨hc2, hf2⟩ := bk hb2 (w.heap.size + 1) (by first | omega | (simp; done) | (simp; omega)); have hs2 : w.heap.size + 1 < w2.heap.size := (by omega)) | (go_at_call 58; refine (in_val _ _ _ _ _ HIN.out).mono ?_; rintro e w' ⟨rfl, rfl⟩))
    exact bodyPost_ret (v := .tuple #[.agg #[.int .i64 ep, .bool true, .int .i64 nx, .int .i64 nd, .int .i64 hv, .int .i64 bn], .bool false, .int .i64 7]) (by simp [results, Try.results24, go_sem, hc1, hc2]) rfl ⟨rfl, (by repeat (first | with_reducible exact Below.refl _ _ | (with_reducible refine Below.setCell ?_ (by first | omega | (simp; done) | (simp; omega)) _) | with_reducible refine bal ?_ _ | with_reducible refine Below.drew ?_ | with_reducible refine bdn ?_ _ | with_reducible refine via ?_ (by with_reducible assumption)))⟩
  have hd' : (bits .and .i64 (hv / 2 ^ i.toNat) 1 == 1) = false := hd
  cases hq : bits .or .i64 hv (2 ^ i.toNat) == nd
  · have e : ackF ⟨ep, true, nx, nd, hv, bn⟩ i e = (⟨ep, true, nx, nd, bits .or .i64 hv (2 ^ i.toNat), bn⟩, false, 0) := by (have hxx : (nx == e) = true := by simpa [bne] using hx); simp only [ackF, hg, hs, hxx, Bool.and_self, if_true, hb, hd, hq, Bool.false_eq_true, if_false]
    rw [e]
    try dsimp only
    clear e
    have hin : decide (0 ≤ i ∧ i ≤ 7) = true := by (simp; omega)
    have HIN := Lib.hid hin
    clear hin
    have hu : IntKind.u64.wrap i = i := by (rw [IntKind.wrap_u64]; omega)
    go_enter Try.func24, Try.ntmps24
    go_wp2_with (first | (go_at_call 25; refine (rgood_any _ _ _ _ _ _ _ b0 b1).mono ?_; rintro e w2 ⟨rfl, hb2⟩; have hz_w2 : w.heap.size + 2 ≤ w2.heap.size := (by have h_ := hb2.size; first | omega | (simp at h_; omega)); obtain ⟨hc1, hf1⟩ := bk hb2 (w.heap.size) (by first | omega | (simp; done) | (simp; omega)); have hs1 : w.heap.size < w2.heap.size := (by omega); obtain ⟨hc2, hf2⟩ := bk hb2 (w.heap.size + 1) (by first | omega | (simp; done) | (simp; omega)); have hs2 : w.heap.size + 1 < w2.heap.size := (by omega)) | (go_at_call 58; refine (in_val _ _ _ _ _ HIN.out).mono ?_; rintro e w' ⟨rfl, rfl⟩))
    exact bodyPost_ret (v := .tuple #[.agg #[.int .i64 ep, .bool true, .int .i64 nx, .int .i64 nd, .int .i64 (bits .or .i64 hv (2 ^ i.toNat)), .int .i64 bn], .bool false, .int .i64 0]) (by simp [results, Try.results24, go_sem, hc1, hc2]) rfl ⟨rfl, (by repeat (first | with_reducible exact Below.refl _ _ | (with_reducible refine Below.setCell ?_ (by first | omega | (simp; done) | (simp; omega)) _) | with_reducible refine bal ?_ _ | with_reducible refine Below.drew ?_ | with_reducible refine bdn ?_ _ | with_reducible refine via ?_ (by with_reducible assumption)))⟩
  · have e : ackF ⟨ep, true, nx, nd, hv, bn⟩ i e = (⟨nx, false, 0, 0, 0, 0⟩, true, 0) := by (have hxx : (nx == e) = true := by simpa [bne] using hx); simp only [ackF, hg, hs, hxx, Bool.and_self, if_true, hb, hd, hq, Bool.false_eq_true, if_false]
    rw [e]
    try dsimp only
    clear e
    have hin : decide (0 ≤ i ∧ i ≤ 7) = true := by (simp; omega)
    have HIN := Lib.hid hin
    clear hin
    have hu : IntKind.u64.wrap i = i := by (rw [IntKind.wrap_u64]; omega)
    go_enter Try.func24, Try.ntmps24
    go_wp2_with (first | (go_at_call 25; refine (rgood_any _ _ _ _ _ _ _ b0 b1).mono ?_; rintro e w2 ⟨rfl, hb2⟩; have hz_w2 : w.heap.size + 2 ≤ w2.heap.size := (by have h_ := hb2.size; first | omega | (simp at h_; omega)); obtain ⟨hc1, hf1⟩ := bk hb2 (w.heap.size) (by first | omega | (simp; done) | (simp; omega)); have hs1 : w.heap.size < w2.heap.size := (by omega); obtain ⟨hc2, hf2⟩ := bk hb2 (w.heap.size + 1) (by first | omega | (simp; done) | (simp; omega)); have hs2 : w.heap.size + 1 < w2.heap.size := (by omega)) | (go_at_call 58; refine (in_val _ _ _ _ _ HIN.out).mono ?_; rintro e w' ⟨rfl, rfl⟩))
    exact bodyPost_ret (v := .tuple #[.agg #[.int .i64 nx, .bool false, .int .i64 0, .int .i64 0, .int .i64 0, .int .i64 0], .bool true, .int .i64 0]) (by simp [results, Try.results24, go_sem, hc1, hc2]) rfl ⟨rfl, (by repeat (first | with_reducible exact Below.refl _ _ | (with_reducible refine Below.setCell ?_ (by first | omega | (simp; done) | (simp; omega)) _) | with_reducible refine bal ?_ _ | with_reducible refine Below.drew ?_ | with_reducible refine bdn ?_ _ | with_reducible refine via ?_ (by with_reducible assumption)))⟩

theorem above_any (a b n : Int) (w : World) : Calls Try.prog 59 #[.int .i64 a, .int .i64 b, .int .u64 n] w fun x w' => x = .returned (.bool (decide (b ≤ a) && decide (n ≤ IntKind.u64.wrap (IntKind.u64.wrap a - IntKind.u64.wrap b)))) ∧ w = w' := by
  by_cases c1 : b ≤ a
  · have e : decide (b ≤ a) = true := by simpa using c1
    rw [e, Bool.true_and]
    clear e
    go_enter Try.func59, Try.ntmps59
    go_wp2
    go_ret
    exact ⟨rfl, rfl⟩
  · have e : decide (b ≤ a) = false := by simpa using c1
    rw [e, Bool.false_and]
    clear e
    go_enter Try.func59, Try.ntmps59
    go_wp2
    go_ret
    exact ⟨rfl, rfl⟩

theorem above_val (a b n : Int) (w : World) (r : Bool) (h : (decide (b ≤ a) && decide (n ≤ IntKind.u64.wrap (IntKind.u64.wrap a - IntKind.u64.wrap b))) = r) : Calls Try.prog 59 #[.int .i64 a, .int .i64 b, .int .u64 n] w fun x w' => x = .returned (.bool r) ∧ w = w' := by
  rw [← h]
  exact above_any a b n w

set_option maxHeartbeats 2000000 in
theorem rlate_any (ep : Int) (op : Bool) (nx nd hv bn : Int) (now : Int) (w : World) (b0 : -9223372036854775808 ≤ hv) (b1 : hv ≤ 9223372036854775807) : Calls Try.prog 27 #[.agg #[.int .i64 ep, .bool op, .int .i64 nx, .int .i64 nd, .int .i64 hv, .int .i64 bn], .int .i64 now] w fun x w' => x = .returned (.int .i64 (lateF ⟨ep, op, nx, nd, hv, bn⟩ now)) ∧ Below w.heap.size w w' := by
  cases hg : goodS ⟨ep, op, nx, nd, hv, bn⟩
  · have e : lateF ⟨ep, op, nx, nd, hv, bn⟩ now = 0 := by simp [lateF, hg]
    rw [e]
    try dsimp only
    clear e
    go_enter Try.func27, Try.ntmps27
    go_wp2_with (first | (go_at_call 25; refine (rgood_any _ _ _ _ _ _ _ b0 b1).mono ?_; rintro e w2 ⟨rfl, hb2⟩; have hz_w2 : w.heap.size + 1 ≤ w2.heap.size := (by have h_ := hb2.size; first | omega | (simp at h_; omega)); obtain ⟨hc1, hf1⟩ := bk hb2 (w.heap.size) (by first | omega | (simp; done) | (simp; omega)); have hs1 : w.heap.size < w2.heap.size := (by omega)))
    go_ret
    exact ⟨rfl, (by repeat (first | with_reducible exact Below.refl _ _ | (with_reducible refine Below.setCell ?_ (by first | omega | (simp; done) | (simp; omega)) _) | with_reducible refine bal ?_ _ | with_reducible refine Below.drew ?_ | with_reducible refine bdn ?_ _ | with_reducible refine via ?_ (by with_reducible assumption)))⟩
  cases op
  · have e : lateF ⟨ep, false, nx, nd, hv, bn⟩ now = 0 := by simp [lateF]
    rw [e]
    try dsimp only
    clear e
    go_enter Try.func27, Try.ntmps27
    go_wp2_with (first | (go_at_call 25; refine (rgood_any _ _ _ _ _ _ _ b0 b1).mono ?_; rintro e w2 ⟨rfl, hb2⟩; have hz_w2 : w.heap.size + 1 ≤ w2.heap.size := (by have h_ := hb2.size; first | omega | (simp at h_; omega)); obtain ⟨hc1, hf1⟩ := bk hb2 (w.heap.size) (by first | omega | (simp; done) | (simp; omega)); have hs1 : w.heap.size < w2.heap.size := (by omega)))
    go_ret
    exact ⟨rfl, (by repeat (first | with_reducible exact Below.refl _ _ | (with_reducible refine Below.setCell ?_ (by first | omega | (simp; done) | (simp; omega)) _) | with_reducible refine bal ?_ _ | with_reducible refine Below.drew ?_ | with_reducible refine bdn ?_ _ | with_reducible refine via ?_ (by with_reducible assumption)))⟩
  cases hl : longB bn now
  · have e : lateF ⟨ep, true, nx, nd, hv, bn⟩ now = 0 := by simp [lateF, hl]
    rw [e]
    try dsimp only
    clear e
    have HAB : Hid ((decide (bn ≤ now) && decide (200 ≤ IntKind.u64.wrap (IntKind.u64.wrap now - IntKind.u64.wrap bn))) = false) := Lib.hid hl
    clear hl
    go_enter Try.func27, Try.ntmps27
    go_wp2_with (first | (go_at_call 25; refine (rgood_any _ _ _ _ _ _ _ b0 b1).mono ?_; rintro e w2 ⟨rfl, hb2⟩; have hz_w2 : w.heap.size + 1 ≤ w2.heap.size := (by have h_ := hb2.size; first | omega | (simp at h_; omega)); obtain ⟨hc1, hf1⟩ := bk hb2 (w.heap.size) (by first | omega | (simp; done) | (simp; omega)); have hs1 : w.heap.size < w2.heap.size := (by omega)) | (go_at_call 59; refine (above_val _ _ _ _ _ HAB.out).mono ?_; rintro e w' ⟨rfl, rfl⟩))
    go_ret
    exact ⟨rfl, (by repeat (first | with_reducible exact Below.refl _ _ | (with_reducible refine Below.setCell ?_ (by first | omega | (simp; done) | (simp; omega)) _) | with_reducible refine bal ?_ _ | with_reducible refine Below.drew ?_ | with_reducible refine bdn ?_ _ | with_reducible refine via ?_ (by with_reducible assumption)))⟩
  · have e : lateF ⟨ep, true, nx, nd, hv, bn⟩ now = bits .andNot .i64 nd hv := by simp [lateF, hl, hg]
    rw [e]
    try dsimp only
    clear e
    have HAB : Hid ((decide (bn ≤ now) && decide (200 ≤ IntKind.u64.wrap (IntKind.u64.wrap now - IntKind.u64.wrap bn))) = true) := Lib.hid hl
    clear hl
    go_enter Try.func27, Try.ntmps27
    go_wp2_with (first | (go_at_call 25; refine (rgood_any _ _ _ _ _ _ _ b0 b1).mono ?_; rintro e w2 ⟨rfl, hb2⟩; have hz_w2 : w.heap.size + 1 ≤ w2.heap.size := (by have h_ := hb2.size; first | omega | (simp at h_; omega)); obtain ⟨hc1, hf1⟩ := bk hb2 (w.heap.size) (by first | omega | (simp; done) | (simp; omega)); have hs1 : w.heap.size < w2.heap.size := (by omega)) | (go_at_call 59; refine (above_val _ _ _ _ _ HAB.out).mono ?_; rintro e w' ⟨rfl, rfl⟩))
    go_ret
    exact ⟨rfl, (by repeat (first | with_reducible exact Below.refl _ _ | (with_reducible refine Below.setCell ?_ (by first | omega | (simp; done) | (simp; omega)) _) | with_reducible refine bal ?_ _ | with_reducible refine Below.drew ?_ | with_reducible refine bdn ?_ _ | with_reducible refine via ?_ (by with_reducible assumption)))⟩

end Go.Proofs.Ytcaipfdnadlkdaa

namespace Go.Proofs.Ytcaipfdnadlkdaa
open Go.RowKit
set_option linter.unusedSimpArgs false
set_option linter.unusedVariables false

theorem St.eta (s : St) : (⟨s.ep, s.op, s.nx, s.nd, s.hv, s.bn⟩ : St) = s := rfl
set_option maxHeartbeats 2000000 in
theorem awake_any (w : World) : Calls Try.prog 15 #[] w fun x w' => x = .returned (.bool true) ∧ Below w.heap.size w w' := by
  have f0 : raiseF ⟨0, false, 0, 0, 0, 0⟩ 3 0 = (⟨0, true, 1, 3, 0, 0⟩, 0) := by kernel_rfl
  have f1 : ackF ⟨0, true, 1, 3, 0, 0⟩ 0 1 = (⟨0, true, 1, 3, 1, 0⟩, false, 0) := by kernel_rfl
  have f2 : ackF ⟨0, true, 1, 3, 1, 0⟩ 1 1 = (⟨1, false, 0, 0, 0, 0⟩, true, 0) := by kernel_rfl
  have f3 : goodS ⟨0, true, 1, 3, 0, 0⟩ = true := by kernel_rfl
  have tok1 : True := trivial
  have tok2 : True := trivial
  have tok3 : True := trivial
  have tok4 : True := trivial
  go_enter Try.func15, Try.ntmps15
  go_wp2_with (first | (go_at_call 16; clear tok1; refine (raise_any _ _ _ _ _ _ _ _ _ ).mono ?_; rintro e w1 ⟨rfl, hb1⟩; have hz_w1 : w.heap.size ≤ w1.heap.size := (by have h_ := hb1.size; first | omega | (simp at h_; omega))) | (go_at_call 17; clear tok2; refine (ack_any _ _ _ _ _ _ _ _ _ ).mono ?_; rintro e w2 ⟨rfl, hb2⟩; have hz_w2 : w1.heap.size + 1 ≤ w2.heap.size := (by have h_ := hb2.size; first | omega | (simp at h_; omega)); obtain ⟨hc1, hf1⟩ := bk hb2 (w1.heap.size) (by first | omega | (simp; done) | (simp; omega)); have hs1 : w1.heap.size < w2.heap.size := (by omega)) | (go_at_call 17; clear tok3; refine (ack_any _ _ _ _ _ _ _ _ _ ).mono ?_; rintro e w3 ⟨rfl, hb3⟩; have hz_w3 : w2.heap.size + 1 ≤ w3.heap.size := (by have h_ := hb3.size; first | omega | (simp at h_; omega)); obtain ⟨hc2, hf2⟩ := bk hb3 (w1.heap.size) (by first | omega | (simp; done) | (simp; omega)); have hs2 : w1.heap.size < w3.heap.size := (by omega); obtain ⟨hc3, hf3⟩ := bk hb3 (w2.heap.size) (by first | omega | (simp; done) | (simp; omega)); have hs3 : w2.heap.size < w3.heap.size := (by omega)) | (go_at_call 20; clear tok4; refine (good_any _ _ _ _ _ _ _ ).mono ?_; rintro e w4 ⟨rfl, hb4⟩; have hz_w4 : w3.heap.size + 1 ≤ w4.heap.size := (by have h_ := hb4.size; first | omega | (simp at h_; omega)); obtain ⟨hc4, hf4⟩ := bk hb4 (w1.heap.size) (by first | omega | (simp; done) | (simp; omega)); have hs4 : w1.heap.size < w4.heap.size := (by omega); obtain ⟨hc5, hf5⟩ := bk hb4 (w2.heap.size) (by first | omega | (simp; done) | (simp; omega)); have hs5 : w2.heap.size < w4.heap.size := (by omega); obtain ⟨hc6, hf6⟩ := bk hb4 (w3.heap.size) (by first | omega | (simp; done) | (simp; omega)); have hs6 : w3.heap.size < w4.heap.size := (by omega)))
  go_ret
  exact ⟨rfl, (by repeat (first | with_reducible exact Below.refl _ _ | (with_reducible refine Below.setCell ?_ (by first | omega | (simp; done) | (simp; omega)) _) | with_reducible refine bal ?_ _ | with_reducible refine Below.drew ?_ | with_reducible refine bdn ?_ _ | with_reducible refine via ?_ (by with_reducible assumption)))⟩

end Go.Proofs.Ytcaipfdnadlkdaa
