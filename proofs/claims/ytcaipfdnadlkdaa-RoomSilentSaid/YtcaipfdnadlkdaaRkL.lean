/- Plain facts on the bits of a need and a have, as natural numbers. What a call does to an epoch's state, plainly: good states stay good, epochs never fall, an error changes nothing. No Go text in sight. What an Ack does to an epoch's state, plainly; and what every call of RekeyPlays does. No Go text in sight. -/
import Derived.Test.YtcaipfdnadlkdaaRkB
import Derived.Test.YtcaipfdnadlkdaaRkA
namespace Go.Proofs.Ytcaipfdnadlkdaa
open Go.RowKit

theorem i64_or_nat (a b : Nat) (ha : a < 9223372036854775808) (hb : b < 9223372036854775808) : bits .or .i64 (a : Int) (b : Int) = ((a ||| b : Nat) : Int) := by
  have hx : a ||| b < 2 ^ 63 := Nat.or_lt_two_pow (by omega) (by omega)
  show IntKind.i64.wrap ((BitVec.ofInt 64 (a : Int) ||| BitVec.ofInt 64 (b : Int)).toNat : Int) = _
  rw [BitVec.toNat_or, ofInt_i64 a ha, ofInt_i64 b hb, IntKind.wrap_i64]
  omega

theorem two_pow_lt (k : Nat) (hk : k < 8) : 2 ^ k < 256 := by
  have : (2 : Nat) ^ k ≤ 2 ^ 7 := Nat.pow_le_pow_right (by omega) (by omega)
  omega

theorem bitZ_nat (x k : Nat) (hx : x < 9223372036854775808) : bitZ (x : Int) (k : Int) = !x.testBit k := by
  unfold bitZ
  have e : ((x : Int) / 2 ^ (k : Int).toNat) = ((x / 2 ^ k : Nat) : Int) := by
    rw [Int.toNat_natCast]
    push_cast
    rfl
  have hd : x / 2 ^ k < 9223372036854775808 := Nat.lt_of_le_of_lt (Nat.div_le_self _ _) hx
  have h1 := i64_and_nat (x / 2 ^ k) 1 hd (by omega)
  rw [e]
  have h1' : bits .and .i64 ((x / 2 ^ k : Nat) : Int) 1 = ((x / 2 ^ k &&& 1 : Nat) : Int) := h1
  rw [h1', Nat.and_one_is_mod, Nat.testBit_eq_decide_div_mod_eq]
  rcases Nat.mod_two_eq_zero_or_one (x / 2 ^ k) with h | h <;> simp [h]
theorem bitO_nat (x k : Nat) (hx : x < 9223372036854775808) : bitO (x : Int) (k : Int) = x.testBit k := by
  have h := bitZ_nat x k hx
  unfold bitZ at h
  unfold bitO
  have e : ((x : Int) / 2 ^ (k : Int).toNat) = ((x / 2 ^ k : Nat) : Int) := by
    rw [Int.toNat_natCast]
    push_cast
    rfl
  have hd : x / 2 ^ k < 9223372036854775808 := Nat.lt_of_le_of_lt (Nat.div_le_self _ _) hx
  have h1 := i64_and_nat (x / 2 ^ k) 1 hd (by omega)
  have h1' : bits .and .i64 ((x / 2 ^ k : Nat) : Int) 1 = ((x / 2 ^ k &&& 1 : Nat) : Int) := h1
  rw [e, h1', Nat.and_one_is_mod, Nat.testBit_eq_decide_div_mod_eq]
  rcases Nat.mod_two_eq_zero_or_one (x / 2 ^ k) with h | h <;> simp [h]

/-- 'x & (1 << k)' is nothing just where the bit isn't there -/
theorem and_pow (x k : Nat) (hx : x < 256) (hk : k < 8) : (bits .and .i64 (x : Int) (2 ^ (k : Int).toNat) == 0) = !x.testBit k := by
  have hp := two_pow_lt k hk
  have e : (2 : Int) ^ (k : Int).toNat = ((2 ^ k : Nat) : Int) := by
    rw [Int.toNat_natCast]
    push_cast
    rfl
  rw [e, i64_and_nat x (2 ^ k) (by omega) (by omega)]
  cases h : x.testBit k
  · have h0 : x &&& 2 ^ k = 0 := by
      apply Nat.eq_of_testBit_eq
      intro i
      simp only [Nat.testBit_and, Nat.testBit_two_pow, Nat.zero_testBit]
      by_cases hi : k = i
      · subst hi
        simp [h]
      · simp [hi]
    rw [h0]
    rfl
  · have h0 : x &&& 2 ^ k ≠ 0 := by
      intro hz
      have := congrArg (fun y => y.testBit k) hz
      simp [Nat.testBit_and, h] at this
    simp
    exact h0
theorem or_pow (x k : Nat) (hx : x < 256) (hk : k < 8) : bits .or .i64 (x : Int) (2 ^ (k : Int).toNat) = ((x ||| 2 ^ k : Nat) : Int) ∧ x ||| 2 ^ k < 256 := by
  have hp := two_pow_lt k hk
  have e : (2 : Int) ^ (k : Int).toNat = ((2 ^ k : Nat) : Int) := by
    rw [Int.toNat_natCast]
    push_cast
    rfl
  refine ⟨by rw [e, i64_or_nat x (2 ^ k) (by omega) (by omega)], ?_⟩
  exact Nat.or_lt_two_pow (n := 8) hx hp
/-- one more that is needed is had: nothing else -/
theorem sub_or (h n k : Nat) (hs : h &&& n = h) (hb : n.testBit k = true) : (h ||| 2 ^ k) &&& n = h ||| 2 ^ k := by
  apply Nat.eq_of_testBit_eq
  intro i
  have h1 := congrArg (fun x => x.testBit i) hs
  simp only [Nat.testBit_and] at h1
  simp only [Nat.testBit_and, Nat.testBit_or, Nat.testBit_two_pow]
  by_cases hi : k = i
  · subst hi
    simp [hb]
  · simp [hi]
    simpa using h1
theorem good_open (n h : Nat) (n0 : 1 ≤ n) (n1 : n ≤ 255) (hs : h &&& n = h) (hne : h ≠ n) : goodS ⟨4, true, 5, n, h, 7⟩ = true := by
  have hle : h ≤ n := by rw [← hs]; exact Nat.and_le_right
  have e := andNot_and (h : Int) (n : Int) (by omega) (by omega) (by omega) (by omega)
  have e2 : bits .and .i64 (h : Int) (n : Int) = (h : Int) := by rw [i64_and_nat h n (by omega) (by omega), hs]
  simp only [goodS, if_true]
  rw [e, e2]
  simp
  omega
end Go.Proofs.Ytcaipfdnadlkdaa

namespace Go.Proofs.Ytcaipfdnadlkdaa
open Go.RowKit

/-- what is asked of a step from s to s' with error e -/
structure Step (s s' : St) (e : Int) : Prop where
  good : goodS s' = true
  ep : s.ep ≤ s'.ep
  com : comS s ≤ comS s'
  com1 : comS s' ≤ comS s + 1
  err : e ≠ 0 → s' = s
theorem Step.refl {s : St} {e : Int} (h : goodS s = true) : Step s s e := ⟨h, Int.le_refl _, Int.le_refl _, by omega, fun _ => rfl⟩

theorem good_open_iff (s : St) (ho : s.op = true) : goodS s = true ↔ (0 ≤ s.ep ∧ s.ep ≤ 65535) ∧ (s.ep < s.nx ∧ s.nx ≤ 65535 ∧ 1 ≤ s.nd ∧ s.nd ≤ 255) ∧ bits .andNot .i64 s.hv s.nd = 0 ∧ s.hv ≠ s.nd := by
  simp [goodS, ho]
theorem good_shut_iff (s : St) (ho : s.op = false) : goodS s = true ↔ (0 ≤ s.ep ∧ s.ep ≤ 65535) ∧ s.nx = 0 ∧ s.nd = 0 ∧ s.hv = 0 ∧ s.bn = 0 := by
  simp [goodS, ho]
  omega

theorem andNot_zero (n : Nat) : bits .andNot .i64 0 (n : Int) = 0 := by
  have h : bits .andNot .i64 (0 : Int) (n : Int) = IntKind.i64.wrap ((BitVec.ofInt 64 0 &&& ~~~ BitVec.ofInt 64 (n : Int)).toNat : Int) := rfl
  rw [h]
  have e : BitVec.ofInt 64 0 &&& ~~~ BitVec.ofInt 64 (n : Int) = 0#64 := by
    apply BitVec.eq_of_getLsbD_eq
    intro i hi
    simp
  rw [e]
  decide

theorem raise_step (s : St) (n now : Int) (hg : goodS s = true) : Step s (raiseF s n now).1 (raiseF s n now).2 ∧ ((raiseF s n now).1.ep = s.ep ∨ (raiseF s n now).1.ep = comS s + 1) := by
  have hc : 0 ≤ comS s ∧ comS s ≤ 65535 := com_bd s hg
  have hes : s.ep ≤ comS s := by
    unfold comS
    cases ho : s.op
    · simp
    · have := (good_open_iff s ho).1 hg
      simp
      omega
  unfold raiseF
  rw [hg, Bool.true_and]
  cases hn : needB n
  · exact ⟨Step.refl hg, .inl rfl⟩
  · have hn' : 0 ≤ n ∧ n ≤ 255 := by simpa [needB] using hn
    rw [if_pos rfl]
    split
    · exact ⟨Step.refl hg, .inl rfl⟩
    · rename_i h1
      split
      · refine ⟨⟨?_, ?_, ?_, ?_, ?_⟩, .inr rfl⟩
        · rw [good_shut_iff _ rfl]
          exact ⟨by dsimp only; omega, rfl, rfl, rfl, rfl⟩
        · dsimp only; omega
        · show comS s ≤ comS s + 1; omega
        · show comS s + 1 ≤ comS s + 1; omega
        · intro h; exact absurd rfl h
      · rename_i h2
        obtain ⟨m, rfl⟩ := Int.eq_ofNat_of_zero_le hn'.1
        refine ⟨⟨?_, ?_, ?_, ?_, ?_⟩, .inl rfl⟩
        · rw [good_open_iff _ rfl]
          refine ⟨?_, ?_, ?_, ?_⟩
          · have := hg
            unfold goodS at this
            simp at this
            exact ⟨by dsimp only; omega, by dsimp only; omega⟩
          · dsimp only; omega
          · exact andNot_zero m
          · dsimp only; omega
        · exact Int.le_refl _
        · show comS s ≤ comS s + 1; omega
        · show comS s + 1 ≤ comS s + 1; omega
        · intro h; exact absurd rfl h

/-- a good open state as natural numbers -/
theorem open_nat (s : St) (ho : s.op = true) (hg : goodS s = true) (b0 : -9223372036854775808 ≤ s.hv) (b1 : s.hv ≤ 9223372036854775807) :
    ∃ n h : Nat, s.nd = n ∧ s.hv = h ∧ 1 ≤ n ∧ n ≤ 255 ∧ h ≤ 255 ∧ h &&& n = h ∧ h ≠ n := by
  obtain ⟨_, ⟨_, _, h3, h4⟩, h5, h6⟩ := (good_open_iff s ho).1 hg
  have e := andNot_and s.hv s.nd b0 b1 h3 h4
  have e1 : (bits .andNot .i64 s.hv s.nd == 0) = true := by simpa using h5
  rw [e1] at e
  have e2 := e.symm
  simp only [Bool.and_eq_true, decide_eq_true_eq, beq_iff_eq] at e2
  obtain ⟨⟨a, b⟩, c⟩ := e2
  obtain ⟨n, hn⟩ := Int.eq_ofNat_of_zero_le (show 0 ≤ s.nd by omega)
  obtain ⟨h, hh⟩ := Int.eq_ofNat_of_zero_le a
  rw [hn, hh, i64_and_nat h n (by omega) (by omega)] at c
  refine ⟨n, h, hn, hh, by omega, by omega, by omega, by exact_mod_cast c, ?_⟩
  intro hc
  exact h6 (by rw [hn, hh, hc])

theorem nat_open (ep nx bn : Int) (n h : Nat) (e0 : 0 ≤ ep) (e1 : ep ≤ 65535) (x0 : ep < nx) (x1 : nx ≤ 65535) (n0 : 1 ≤ n) (n1 : n ≤ 255) (hs : h &&& n = h) (hne : h ≠ n) : goodS ⟨ep, true, nx, n, h, bn⟩ = true := by
  have hle : h ≤ n := by rw [← hs]; exact Nat.and_le_right
  have e := andNot_and (h : Int) (n : Int) (by omega) (by omega) (by omega) (by omega)
  have e2 : bits .and .i64 (h : Int) (n : Int) = (h : Int) := by rw [i64_and_nat h n (by omega) (by omega), hs]
  simp only [goodS, if_true]
  rw [e, e2]
  simp
  omega

theorem sub_more (h n k : Nat) (hs : h &&& n = h) : h &&& (n ||| 2 ^ k) = h := by
  apply Nat.eq_of_testBit_eq
  intro i
  have h1 := congrArg (fun x => x.testBit i) hs
  simp only [Nat.testBit_and] at h1
  simp only [Nat.testBit_and, Nat.testBit_or]
  cases hb : h.testBit i
  · simp
  · rw [hb] at h1
    simp at h1
    simp [h1]

theorem join_step (s : St) (i : Int) (hg : goodS s = true) (b0 : -9223372036854775808 ≤ s.hv) (b1 : s.hv ≤ 9223372036854775807) : Step s (joinF s i).1 (joinF s i).2 ∧ (joinF s i).1.ep = s.ep ∧ (joinF s i).1.op = s.op ∧ (joinF s i).1.hv = s.hv := by
  unfold joinF
  rw [hg, Bool.true_and]
  cases hi : slB i
  · exact ⟨Step.refl hg, rfl, rfl, rfl⟩
  rw [if_pos rfl]
  have hi' : 0 ≤ i ∧ i < 8 := by simpa [slB] using hi
  cases ho : s.op
  · exact ⟨Step.refl hg, rfl, ho, rfl⟩
  rw [if_pos rfl]
  cases hb : bitO s.nd i
  · obtain ⟨n, h, hn, hh, n0, n1, h1, hs, hne⟩ := open_nat s ho hg b0 b1
    obtain ⟨k, rfl⟩ := Int.eq_ofNat_of_zero_le hi'.1
    have hk : k < 8 := by omega
    obtain ⟨⟨e0, e1⟩, ⟨x0, x1, _, _⟩, _, _⟩ := (good_open_iff s ho).1 hg
    obtain ⟨o1, o2⟩ := or_pow n k (by omega) hk
    have ht : n.testBit k = false := by rw [← bitO_nat n k (by omega), ← hn, hb]
    rw [if_neg (by simp)]
    refine ⟨⟨?_, Int.le_refl _, ?_, ?_, fun h => absurd rfl h⟩, rfl, rfl, rfl⟩
    · rw [hn, hh, o1]
      refine nat_open s.ep s.nx s.bn (n ||| 2 ^ k) h e0 e1 x0 x1 ?_ (by omega) (sub_more h n k hs) ?_
      · exact Nat.le_trans n0 Nat.left_le_or
      · intro hc
        have h2 := congrArg (fun x => x.testBit k) hs
        simp only [Nat.testBit_and, ht, Bool.and_false] at h2
        have h3 := congrArg (fun x => x.testBit k) hc
        simp only [Nat.testBit_or, Nat.testBit_two_pow_self, Bool.or_true] at h3
        rw [h3] at h2
        cases h2
    · show comS s ≤ comS _
      simp [comS, ho]
    · show comS _ ≤ comS s + 1
      simp [comS, ho]
      omega
  · exact ⟨Step.refl hg, rfl, ho, rfl⟩
end Go.Proofs.Ytcaipfdnadlkdaa

namespace Go.Proofs.Ytcaipfdnadlkdaa
open Go.RowKit

theorem ack_step (s : St) (i e : Int) (hg : goodS s = true) (b0 : 0 ≤ s.hv) (b1 : s.hv ≤ 255) :
    Step s (ackF s i e).1 (ackF s i e).2.2 ∧ ((ackF s i e).1.ep = s.ep ∨ (ackF s i e).1.ep = comS s) ∧ (ackF s i e).2.1 = (s.op && !(ackF s i e).1.op) ∧ 0 ≤ (ackF s i e).1.hv ∧ (ackF s i e).1.hv ≤ 255 := by
  have hself : (s.op && !s.op) = false := by cases s.op <;> rfl
  unfold ackF
  rw [hg, Bool.true_and]
  cases hi : slB i
  · exact ⟨Step.refl hg, .inl rfl, hself.symm, b0, b1⟩
  rw [if_pos rfl]
  have hi' : 0 ≤ i ∧ i < 8 := by simpa [slB] using hi
  by_cases hc : (s.op && s.nx == e) = true
  case neg =>
    rw [if_neg hc]
    exact ⟨Step.refl hg, .inl rfl, hself.symm, b0, b1⟩
  rw [if_pos hc]
  have ho : s.op = true := by
    cases h : s.op
    · rw [h] at hc; simp at hc
    · rfl
  cases hz : bitZ s.nd i
  case true => exact ⟨Step.refl hg, .inl rfl, hself.symm, b0, b1⟩
  cases hb : bitO s.hv i
  case true => exact ⟨Step.refl hg, .inl rfl, hself.symm, b0, b1⟩
  rw [if_neg (by simp), if_neg (by simp)]
  obtain ⟨n, h, hn, hh, n0, n1, h1, hs, hne⟩ := open_nat s ho hg (by omega) (by omega)
  obtain ⟨k, rfl⟩ := Int.eq_ofNat_of_zero_le hi'.1
  have hk : k < 8 := by omega
  obtain ⟨⟨e0, e1⟩, ⟨x0, x1, _, _⟩, _, _⟩ := (good_open_iff s ho).1 hg
  obtain ⟨o1, o2⟩ := or_pow h k (by omega) hk
  have hcs : comS s = s.nx := by simp [comS, ho]
  have ht : n.testBit k = true := by
    have := bitZ_nat n k (by omega)
    rw [← hn, hz] at this
    cases hx : n.testBit k
    · rw [hx] at this; simp at this
    · rfl
  rw [hn, hh, o1]
  have hsub := sub_or h n k hs ht
  by_cases hq : h ||| 2 ^ k = n
  · rw [if_pos (by rw [hq]; simp)]
    refine ⟨⟨?_, ?_, ?_, ?_, fun h => absurd rfl h⟩, .inr hcs.symm, by simp [ho], by dsimp only; omega, by dsimp only; omega⟩
    · rw [good_shut_iff _ rfl]
      exact ⟨by dsimp only; omega, rfl, rfl, rfl, rfl⟩
    · dsimp only; omega
    · show comS s ≤ s.nx; omega
    · show s.nx ≤ comS s + 1; omega
  · rw [if_neg (by simp only [beq_iff_eq]; omega)]
    refine ⟨⟨?_, Int.le_refl _, ?_, ?_, fun h => absurd rfl h⟩, .inl rfl, by simp [ho], by dsimp only; omega, by dsimp only; omega⟩
    · rw [ho]
      exact nat_open s.ep s.nx s.bn n (h ||| 2 ^ k) e0 e1 x0 x1 n0 n1 hsub hq
    · show comS s ≤ comS _
      simp [comS, ho]
    · show comS _ ≤ comS s + 1
      simp [comS, ho]
      omega

/-- what the law asks of one call: o is the call's kind -/
structure Play (s s' : St) (o e : Int) (there : Bool) : Prop where
  step : Step s s' e
  h0 : 0 ≤ s'.hv
  h1 : s'.hv ≤ 255
  th : there = (s.op && (!s'.op && (o != 0 && o != 1)))
  ep : s'.ep = s.ep ∨ s'.ep = comS s ∨ o = 0

theorem raise_hv (s : St) (n now : Int) (b0 : 0 ≤ s.hv) (b1 : s.hv ≤ 255) : 0 ≤ (raiseF s n now).1.hv ∧ (raiseF s n now).1.hv ≤ 255 := by
  unfold raiseF
  split
  · split
    · exact ⟨b0, b1⟩
    · split
      · exact ⟨by dsimp only; omega, by dsimp only; omega⟩
      · exact ⟨by dsimp only; omega, by dsimp only; omega⟩
  · exact ⟨b0, b1⟩
theorem raise_play (s : St) (n now : Int) (hg : goodS s = true) (b0 : 0 ≤ s.hv) (b1 : s.hv ≤ 255) : Play s (raiseF s n now).1 0 (raiseF s n now).2 false := by
  obtain ⟨h1, h2⟩ := raise_step s n now hg
  obtain ⟨h3, h4⟩ := raise_hv s n now b0 b1
  exact ⟨h1, h3, h4, by simp, .inr (.inr rfl)⟩
theorem join_play (s : St) (i : Int) (hg : goodS s = true) (b0 : 0 ≤ s.hv) (b1 : s.hv ≤ 255) : Play s (joinF s i).1 1 (joinF s i).2 false := by
  obtain ⟨h1, h2, h3, h4⟩ := join_step s i hg (by omega) (by omega)
  exact ⟨h1, by omega, by omega, by simp, .inl h2⟩
theorem ack_play (s : St) (i e o : Int) (hg : goodS s = true) (b0 : 0 ≤ s.hv) (b1 : s.hv ≤ 255) (h0 : o ≠ 0) (h1 : o ≠ 1) : Play s (ackF s i e).1 o (ackF s i e).2.2 (ackF s i e).2.1 := by
  obtain ⟨a1, a2, a3, a4, a5⟩ := ack_step s i e hg b0 b1
  refine ⟨a1, a4, a5, ?_, ?_⟩
  · have e0 : (o != 0) = true := by simpa using h0
    have e1 : (o != 1) = true := by simpa using h1
    rw [a3, e0, e1]
    simp
  · rcases a2 with h | h
    · exact .inl h
    · exact .inr (.inl h)
end Go.Proofs.Ytcaipfdnadlkdaa
