/- What an Ack does to an epoch's state, plainly; and what every call of RekeyPlays does. No Go text in sight. -/
import Derived.Test.YtcaipfdnadlkdaaRkLaw
namespace Go.Proofs.Ytcaipfdnadlkdaa
open Go.RowKit

theorem ack_step (s : St) (i e : Int) (hg : goodS s = true) (b0 : 0 ≤ s.hv) (b1 : s.hv ≤ 255) :
    Step s (ackF s i e).1 (ackF s i e).2.2 ∧ ((ackF s i e).1.ep = s.ep ∨ (ackF s i e).1.ep = comS s) ∧ (ackF s i e).2.1 = (s.op && !(ackF s i e).1.op) ∧ 0 ≤ (ackF s i e).1.hv ∧ (ackF s i e).1.hv ≤ 255 := by
  have hself : (s.op && !s.op) = false := by cases s.op <;> rfl
  unfold ackF
  rw [hg, Bool.true_and]
  cases hi : slB i
  · exact ⟨Step.refl hg, .inl rfl, hself.symm, b0, b1⟩
  rw [if_pos rfl]
  have hi' : 0 ≤ i ∧ i < 8 := by simpa [slB] using hi
  by_cases hc : (s.op && s.nx == e) = true
  case neg =>
    rw [if_neg hc]
    exact ⟨Step.refl hg, .inl rfl, hself.symm, b0, b1⟩
  rw [if_pos hc]
  have ho : s.op = true := by
    cases h : s.op
    · rw [h] at hc; simp at hc
    · rfl
  cases hz : bitZ s.nd i
  case true => exact ⟨Step.refl hg, .inl rfl, hself.symm, b0, b1⟩
  cases hb : bitO s.hv i
  case true => exact ⟨Step.refl hg, .inl rfl, hself.symm, b0, b1⟩
  rw [if_neg (by simp), if_neg (by simp)]
  obtain ⟨n, h, hn, hh, n0, n1, h1, hs, hne⟩ := open_nat s ho hg (by omega) (by omega)
  obtain ⟨k, rfl⟩ := Int.eq_ofNat_of_zero_le hi'.1
  have hk : k < 8 := by omega
  obtain ⟨⟨e0, e1⟩, ⟨x0, x1, _, _⟩, _, _⟩ := (good_open_iff s ho).1 hg
  obtain ⟨o1, o2⟩ := or_pow h k (by omega) hk
  have hcs : comS s = s.nx := by simp [comS, ho]
  have ht : n.testBit k = true := by
    have := bitZ_nat n k (by omega)
    rw [← hn, hz] at this
    cases hx : n.testBit k
    · rw [hx] at this; simp at this
    · rfl
  rw [hn, hh, o1]
  have hsub := sub_or h n k hs ht
  by_cases hq : h ||| 2 ^ k = n
  · rw [if_pos (by rw [hq]; simp)]
    refine ⟨⟨?_, ?_, ?_, ?_, fun h => absurd rfl h⟩, .inr hcs.symm, by simp [ho], by dsimp only; omega, by dsimp only; omega⟩
    · rw [good_shut_iff _ rfl]
      exact ⟨by dsimp only; omega, rfl, rfl, rfl, rfl⟩
    · dsimp only; omega
    · show comS s ≤ s.nx; omega
    · show s.nx ≤ comS s + 1; omega
  · rw [if_neg (by simp only [beq_iff_eq]; omega)]
    refine ⟨⟨?_, Int.le_refl _, ?_, ?_, fun h => absurd rfl h⟩, .inl rfl, by simp [ho], by dsimp only; omega, by dsimp only; omega⟩
    · rw [ho]
      exact nat_open s.ep s.nx s.bn n (h ||| 2 ^ k) e0 e1 x0 x1 n0 n1 hsub hq
    · show comS s ≤ comS _
      simp [comS, ho]
    · show comS _ ≤ comS s + 1
      simp [comS, ho]
      omega

/-- what the law asks of one call: o is the call's kind -/
structure Play (s s' : St) (o e : Int) (there : Bool) : Prop where
  step : Step s s' e
  h0 : 0 ≤ s'.hv
  h1 : s'.hv ≤ 255
  th : there = (s.op && (!s'.op && (o != 0 && o != 1)))
  ep : s'.ep = s.ep ∨ s'.ep = comS s ∨ o = 0

theorem raise_hv (s : St) (n now : Int) (b0 : 0 ≤ s.hv) (b1 : s.hv ≤ 255) : 0 ≤ (raiseF s n now).1.hv ∧ (raiseF s n now).1.hv ≤ 255 := by
  unfold raiseF
  split
  · split
    · exact ⟨b0, b1⟩
    · split
      · exact ⟨by dsimp only; omega, by dsimp only; omega⟩
      · exact ⟨by dsimp only; omega, by dsimp only; omega⟩
  · exact ⟨b0, b1⟩
theorem raise_play (s : St) (n now : Int) (hg : goodS s = true) (b0 : 0 ≤ s.hv) (b1 : s.hv ≤ 255) : Play s (raiseF s n now).1 0 (raiseF s n now).2 false := by
  obtain ⟨h1, h2⟩ := raise_step s n now hg
  obtain ⟨h3, h4⟩ := raise_hv s n now b0 b1
  exact ⟨h1, h3, h4, by simp, .inr (.inr rfl)⟩
theorem join_play (s : St) (i : Int) (hg : goodS s = true) (b0 : 0 ≤ s.hv) (b1 : s.hv ≤ 255) : Play s (joinF s i).1 1 (joinF s i).2 false := by
  obtain ⟨h1, h2, h3, h4⟩ := join_step s i hg (by omega) (by omega)
  exact ⟨h1, by omega, by omega, by simp, .inl h2⟩
theorem ack_play (s : St) (i e o : Int) (hg : goodS s = true) (b0 : 0 ≤ s.hv) (b1 : s.hv ≤ 255) (h0 : o ≠ 0) (h1 : o ≠ 1) : Play s (ackF s i e).1 o (ackF s i e).2.2 (ackF s i e).2.1 := by
  obtain ⟨a1, a2, a3, a4, a5⟩ := ack_step s i e hg b0 b1
  refine ⟨a1, a4, a5, ?_, ?_⟩
  · have e0 : (o != 0) = true := by simpa using h0
    have e1 : (o != 1) = true := by simpa using h1
    rw [a3, e0, e1]
    simp
  · rcases a2 with h | h
    · exact .inl h
    · exact .inr (.inl h)
end Go.Proofs.Ytcaipfdnadlkdaa
