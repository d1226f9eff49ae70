/- What a call does to an epoch's state, plainly: good states stay good, epochs never fall, an error changes nothing. No Go text in sight. -/
import Derived.Test.YtcaipfdnadlkdaaRkBits
import Derived.Test.YtcaipfdnadlkdaaRk3
namespace Go.Proofs.Ytcaipfdnadlkdaa
open Go.RowKit

/-- what is asked of a step from s to s' with error e -/
structure Step (s s' : St) (e : Int) : Prop where
  good : goodS s' = true
  ep : s.ep ≤ s'.ep
  com : comS s ≤ comS s'
  com1 : comS s' ≤ comS s + 1
  err : e ≠ 0 → s' = s
theorem Step.refl {s : St} {e : Int} (h : goodS s = true) : Step s s e := ⟨h, Int.le_refl _, Int.le_refl _, by omega, fun _ => rfl⟩

theorem good_open_iff (s : St) (ho : s.op = true) : goodS s = true ↔ (0 ≤ s.ep ∧ s.ep ≤ 65535) ∧ (s.ep < s.nx ∧ s.nx ≤ 65535 ∧ 1 ≤ s.nd ∧ s.nd ≤ 255) ∧ bits .andNot .i64 s.hv s.nd = 0 ∧ s.hv ≠ s.nd := by
  simp [goodS, ho]
theorem good_shut_iff (s : St) (ho : s.op = false) : goodS s = true ↔ (0 ≤ s.ep ∧ s.ep ≤ 65535) ∧ s.nx = 0 ∧ s.nd = 0 ∧ s.hv = 0 ∧ s.bn = 0 := by
  simp [goodS, ho]
  omega

theorem andNot_zero (n : Nat) : bits .andNot .i64 0 (n : Int) = 0 := by
  have h : bits .andNot .i64 (0 : Int) (n : Int) = IntKind.i64.wrap ((BitVec.ofInt 64 0 &&& ~~~ BitVec.ofInt 64 (n : Int)).toNat : Int) := rfl
  rw [h]
  have e : BitVec.ofInt 64 0 &&& ~~~ BitVec.ofInt 64 (n : Int) = 0#64 := by
    apply BitVec.eq_of_getLsbD_eq
    intro i hi
    simp
  rw [e]
  decide

theorem raise_step (s : St) (n now : Int) (hg : goodS s = true) : Step s (raiseF s n now).1 (raiseF s n now).2 ∧ ((raiseF s n now).1.ep = s.ep ∨ (raiseF s n now).1.ep = comS s + 1) := by
  have hc : 0 ≤ comS s ∧ comS s ≤ 65535 := com_bd s hg
  have hes : s.ep ≤ comS s := by
    unfold comS
    cases ho : s.op
    · simp
    · have := (good_open_iff s ho).1 hg
      simp
      omega
  unfold raiseF
  rw [hg, Bool.true_and]
  cases hn : needB n
  · exact ⟨Step.refl hg, .inl rfl⟩
  · have hn' : 0 ≤ n ∧ n ≤ 255 := by simpa [needB] using hn
    rw [if_pos rfl]
    split
    · exact ⟨Step.refl hg, .inl rfl⟩
    · rename_i h1
      split
      · refine ⟨⟨?_, ?_, ?_, ?_, ?_⟩, .inr rfl⟩
        · rw [good_shut_iff _ rfl]
          exact ⟨by dsimp only; omega, rfl, rfl, rfl, rfl⟩
        · dsimp only; omega
        · show comS s ≤ comS s + 1; omega
        · show comS s + 1 ≤ comS s + 1; omega
        · intro h; exact absurd rfl h
      · rename_i h2
        obtain ⟨m, rfl⟩ := Int.eq_ofNat_of_zero_le hn'.1
        refine ⟨⟨?_, ?_, ?_, ?_, ?_⟩, .inl rfl⟩
        · rw [good_open_iff _ rfl]
          refine ⟨?_, ?_, ?_, ?_⟩
          · have := hg
            unfold goodS at this
            simp at this
            exact ⟨by dsimp only; omega, by dsimp only; omega⟩
          · dsimp only; omega
          · exact andNot_zero m
          · dsimp only; omega
        · exact Int.le_refl _
        · show comS s ≤ comS s + 1; omega
        · show comS s + 1 ≤ comS s + 1; omega
        · intro h; exact absurd rfl h

/-- a good open state as natural numbers -/
theorem open_nat (s : St) (ho : s.op = true) (hg : goodS s = true) (b0 : -9223372036854775808 ≤ s.hv) (b1 : s.hv ≤ 9223372036854775807) :
    ∃ n h : Nat, s.nd = n ∧ s.hv = h ∧ 1 ≤ n ∧ n ≤ 255 ∧ h ≤ 255 ∧ h &&& n = h ∧ h ≠ n := by
  obtain ⟨_, ⟨_, _, h3, h4⟩, h5, h6⟩ := (good_open_iff s ho).1 hg
  have e := andNot_and s.hv s.nd b0 b1 h3 h4
  have e1 : (bits .andNot .i64 s.hv s.nd == 0) = true := by simpa using h5
  rw [e1] at e
  have e2 := e.symm
  simp only [Bool.and_eq_true, decide_eq_true_eq, beq_iff_eq] at e2
  obtain ⟨⟨a, b⟩, c⟩ := e2
  obtain ⟨n, hn⟩ := Int.eq_ofNat_of_zero_le (show 0 ≤ s.nd by omega)
  obtain ⟨h, hh⟩ := Int.eq_ofNat_of_zero_le a
  rw [hn, hh, i64_and_nat h n (by omega) (by omega)] at c
  refine ⟨n, h, hn, hh, by omega, by omega, by omega, by exact_mod_cast c, ?_⟩
  intro hc
  exact h6 (by rw [hn, hh, hc])

theorem nat_open (ep nx bn : Int) (n h : Nat) (e0 : 0 ≤ ep) (e1 : ep ≤ 65535) (x0 : ep < nx) (x1 : nx ≤ 65535) (n0 : 1 ≤ n) (n1 : n ≤ 255) (hs : h &&& n = h) (hne : h ≠ n) : goodS ⟨ep, true, nx, n, h, bn⟩ = true := by
  have hle : h ≤ n := by rw [← hs]; exact Nat.and_le_right
  have e := andNot_and (h : Int) (n : Int) (by omega) (by omega) (by omega) (by omega)
  have e2 : bits .and .i64 (h : Int) (n : Int) = (h : Int) := by rw [i64_and_nat h n (by omega) (by omega), hs]
  simp only [goodS, if_true]
  rw [e, e2]
  simp
  omega

theorem sub_more (h n k : Nat) (hs : h &&& n = h) : h &&& (n ||| 2 ^ k) = h := by
  apply Nat.eq_of_testBit_eq
  intro i
  have h1 := congrArg (fun x => x.testBit i) hs
  simp only [Nat.testBit_and] at h1
  simp only [Nat.testBit_and, Nat.testBit_or]
  cases hb : h.testBit i
  · simp
  · rw [hb] at h1
    simp at h1
    simp [h1]

theorem join_step (s : St) (i : Int) (hg : goodS s = true) (b0 : -9223372036854775808 ≤ s.hv) (b1 : s.hv ≤ 9223372036854775807) : Step s (joinF s i).1 (joinF s i).2 ∧ (joinF s i).1.ep = s.ep ∧ (joinF s i).1.op = s.op ∧ (joinF s i).1.hv = s.hv := by
  unfold joinF
  rw [hg, Bool.true_and]
  cases hi : slB i
  · exact ⟨Step.refl hg, rfl, rfl, rfl⟩
  rw [if_pos rfl]
  have hi' : 0 ≤ i ∧ i < 8 := by simpa [slB] using hi
  cases ho : s.op
  · exact ⟨Step.refl hg, rfl, ho, rfl⟩
  rw [if_pos rfl]
  cases hb : bitO s.nd i
  · obtain ⟨n, h, hn, hh, n0, n1, h1, hs, hne⟩ := open_nat s ho hg b0 b1
    obtain ⟨k, rfl⟩ := Int.eq_ofNat_of_zero_le hi'.1
    have hk : k < 8 := by omega
    obtain ⟨⟨e0, e1⟩, ⟨x0, x1, _, _⟩, _, _⟩ := (good_open_iff s ho).1 hg
    obtain ⟨o1, o2⟩ := or_pow n k (by omega) hk
    have ht : n.testBit k = false := by rw [← bitO_nat n k (by omega), ← hn, hb]
    rw [if_neg (by simp)]
    refine ⟨⟨?_, Int.le_refl _, ?_, ?_, fun h => absurd rfl h⟩, rfl, rfl, rfl⟩
    · rw [hn, hh, o1]
      refine nat_open s.ep s.nx s.bn (n ||| 2 ^ k) h e0 e1 x0 x1 ?_ (by omega) (sub_more h n k hs) ?_
      · exact Nat.le_trans n0 Nat.left_le_or
      · intro hc
        have h2 := congrArg (fun x => x.testBit k) hs
        simp only [Nat.testBit_and, ht, Bool.and_false] at h2
        have h3 := congrArg (fun x => x.testBit k) hc
        simp only [Nat.testBit_or, Nat.testBit_two_pow_self, Bool.or_true] at h3
        rw [h3] at h2
        cases h2
    · show comS s ≤ comS _
      simp [comS, ho]
    · show comS _ ≤ comS s + 1
      simp [comS, ho]
      omega
  · exact ⟨Step.refl hg, rfl, ho, rfl⟩
end Go.Proofs.Ytcaipfdnadlkdaa
