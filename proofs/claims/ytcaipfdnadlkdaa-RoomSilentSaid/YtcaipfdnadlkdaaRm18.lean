/- Rooms, plainly: who was heard in time stays. No program in sight. -/
import Derived.Test.YtcaipfdnadlkdaaRm15
import Derived.Test.YtcaipfdnadlkdaaRm4
namespace Go.Proofs.Ytcaipfdnadlkdaa
open Go Go.RowKit
set_option linter.unusedVariables false
set_option linter.unusedSimpArgs false

/-- a room in which m came, one behind the other, heard at L -/
structure Sil (x : RV) (m : Nat) (L : Nat → Int) : Prop where
  ok : RmOk x
  o : x.o = false
  k : x.k = ⟨0, false, 0, 0, 0, 0⟩
  u : ∀ j, j < 8 → x.u.getD j false = decide (j < m)
  a : ∀ j, j < m → x.a.getD j 0 = 10 + (j : Int)
  s : ∀ j, j < m → x.s.getD j 0 = L j
theorem exRm_ok {x : RV} (h : RmOk x) : exRm x = x := exRm_eq h.u8 h.a8 h.s8 h.c8
theorem sil_0 (L : Nat → Int) : Sil zeroRm 0 L := by
  refine ⟨⟨rfl, rfl, rfl, rfl, fun i hi => ⟨fun h => ?_, fun _ => z8_off i⟩, (good_shut_iff _ rfl).2 ⟨⟨by decide, by decide⟩, rfl, rfl, rfl, rfl⟩, fun i hi => ⟨fun _ => ⟨z8_off i, z8_off i⟩, ?_, ?_⟩, fun h => (by cases h), fun h => (by cases h), Int.le_refl _, (by decide)⟩, rfl, rfl, fun j hj => ?_, fun j hj => absurd hj (by omega), fun j hj => absurd hj (by omega)⟩
  · rw [show zeroRm.u = f8 from rfl, f8_off] at h; cases h
  · rw [show zeroRm.c = z8 from rfl, z8_off]; exact Int.le_refl _
  · rw [show zeroRm.c = z8 from rfl, z8_off]; exact Int.le_refl _
  · rw [show zeroRm.u = f8 from rfl, f8_off]; simp
theorem join_can {r : RV} (h : RmOk r) (ho : r.o = false) {a : Int} (now : Int) (ha : addrB a = true) (hn : ∀ j, j < 8 → r.u.getD j false = true → r.a.getD j 0 ≠ a) (hf : ∃ j, j < 8 ∧ r.u.getD j false = false) : (joinRm r a now).2.2 = 0 := by
  have hl : r.u.length = r.a.length := by rw [h.u8, h.a8]
  have hfree := join_free r a h.u8 h.good
  unfold joinRm
  rw [h.good, ho]
  simp only [Bool.not_true, Bool.false_eq_true, if_false]
  rcases take_law a hl with ⟨q1, q2, q3, q4⟩ | ⟨i, hi, hr, _⟩
  · exact absurd ⟨h.gd, ha, by rw [h.u8]; exact hn, by rw [h.u8]; exact hf⟩ q4
  · have h0 : (takeG r.u r.a a).2.2 = 0 := by rw [hr]
    rw [if_pos h0, if_pos (hfree h0)]
theorem sil_join {x : RV} {m : Nat} {L : Nat → Int} (h : Sil x m L) (hm : m < 8) (now : Int) (hl : L m = now) : (joinRm x (10 + (m : Int)) now).2.2 = 0 ∧ Sil (joinRm x (10 + (m : Int)) now).1 (m + 1) L := by
  have ha : addrB (10 + (m : Int)) = true := by simp [addrB]; omega
  have h0 : (joinRm x (10 + (m : Int)) now).2.2 = 0 := join_can h.ok h.o now ha (fun j hj hu => by
    rw [h.u j hj] at hu
    have : j < m := of_decide_eq_true hu
    rw [h.a j this]
    omega) ⟨m, hm, by rw [h.u m hm]; simp⟩
  refine ⟨h0, ?_⟩
  rcases join_law h.ok (10 + (m : Int)) now with ⟨h1, _⟩ | ⟨_, h2, h3, i, hi, g1, g2, g2', g3, g4, g5, g6, g7, g8, g9, g10, g11, g12⟩
  · exact absurd h0 h1
  · have hi' : i = m := by
      rw [h.u i hi] at g2
      have a1 : ¬ i < m := of_decide_eq_false g2
      rcases Nat.lt_or_ge m i with h' | h'
      · have := g2' m h'
        rw [h.u m hm] at this
        simp at this
      · omega
    subst hi'
    refine ⟨h2, g7, by rw [g12 (by rw [h.k])]; exact h.k, fun j hj => ?_, fun j hj => ?_, fun j hj => ?_⟩
    · rw [g5, getD_set _ _ _ _ _ (by rw [h.ok.u8]; exact hi)]
      by_cases e : j = i
      · subst e; simp
      · rw [if_neg e, h.u j hj]
        exact decide_eq_decide.2 (by omega)
    · rw [g6, getD_set _ _ _ _ _ (by rw [h.ok.a8]; exact hi)]
      by_cases e : j = i
      · subst e; simp
      · rw [if_neg e, h.a j (by omega)]
    · rw [g10, getD_set _ _ _ _ _ (by rw [h.ok.s8]; exact hi)]
      by_cases e : j = i
      · subst e; rw [if_pos rfl, hl]
      · rw [if_neg e, h.s j (by omega)]
theorem sil_alive {x : RV} {m i : Nat} {L : Nat → Int} (h : Sil x m L) (hm : m ≤ 8) (hi : i < m) (now : Int) : (aliveRm x (10 + (i : Int)) now).2 = 0 ∧ Sil (aliveRm x (10 + (i : Int)) now).1 m (fun j => if j = i then now else L j) := by
  have hp := aliveRm_play h.ok (10 + (i : Int)) now
  rcases find_law h.ok (10 + (i : Int)) with ⟨hf, hn⟩ | ⟨j, hj, hf, hu, ha⟩
  · exact absurd (h.a i hi) (hn i (by omega) (by rw [h.u i (by omega)]; simpa using hi))
  · have hj' : j < m := by rw [h.u j hj] at hu; exact of_decide_eq_true hu
    have hji : j = i := by
      rw [h.a j hj'] at ha
      omega
    subst hji
    have e : aliveRm x (10 + (j : Int)) now = (⟨x.u, x.a, x.k, x.s.set j now, x.c, x.o⟩, 0) := by
      unfold aliveRm
      rw [hf, if_pos rfl]
      simp
    rw [e] at hp ⊢
    refine ⟨rfl, hp.ok, h.o, h.k, h.u, h.a, fun q hq => ?_⟩
    show (x.s.set j now).getD q 0 = _
    rw [getD_set _ _ _ _ _ (by rw [h.ok.s8]; exact hj)]
    by_cases e : q = j
    · rw [if_pos e, if_pos e]
    · rw [if_neg e, if_neg e, h.s q hq]
theorem bitO_zero (n : Nat) : bitO 0 (n : Int) = false := by
  have := bitO_nat 0 n (by omega)
  simpa using this
theorem sil_tk {x : RV} {m : Nat} {L : Nat → Int} (h : Sil x m L) (hm : m ≤ 8) (now : Int) : ∀ n, n ≤ 8 → RmOk (tkN x 0 now n) ∧ (tkN x 0 now n).o = false ∧ (∀ j, j < 8 → (tkN x 0 now n).u.getD j false = (decide (j < m) && !(decide (j < n) && silB (L j) now))) ∧ comS (tkN x 0 now n).k ≤ (n : Int) ∧ comS (tkN x 0 now n).k = (cntL x.u (tkN x 0 now n).u 8 : Nat)
  | 0, _ => ⟨h.ok, h.o, fun j hj => by rw [show tkN x 0 now 0 = x from rfl, h.u j hj]; simp, by rw [show tkN x 0 now 0 = x from rfl, h.k]; simp [comS], by rw [show tkN x 0 now 0 = x from rfl, h.k, cntL_self]; simp [comS]⟩
  | n + 1, hn => by
    obtain ⟨i1, i2, i3, i4, i5⟩ := sil_tk h hm now n (by omega)
    simp only [tkN, tkStep]
    generalize tkN x 0 now n = y at i1 i2 i3 i4 i5
    rw [bitO_zero, Bool.or_false, i2, Bool.not_false, Bool.and_true, h.u n (by omega)]
    split
    · rename_i hc
      simp only [Bool.and_eq_true, decide_eq_true_eq] at hc
      obtain ⟨hnm, hs⟩ := hc
      rw [h.s n hnm] at hs
      have hyu : y.u.getD n false = true := by rw [i3 n (by omega)]; simp [hnm]
      have hxu : x.u.getD n false = true := by rw [h.u n (by omega)]; simpa using hnm
      obtain ⟨g1, g2, g3, g4⟩ := gone_law i1 (by omega) hyu now
      rcases g4 with ⟨a1, a2, a3, _, a4, a5⟩ | ⟨a1, a2⟩
      · refine ⟨g1, a4, fun j hj => ?_, by rw [a5]; push_cast; omega, ?_⟩
        · rw [a2, getD_set _ _ _ _ _ (by rw [i1.u8]; omega)]
          by_cases e : j = n
          · subst e
            rw [if_pos rfl, hs]
            simp
          · rw [if_neg e, i3 j hj]
            by_cases e2 : j < n
            · have e3 : j < n + 1 := by omega
              simp [e2, e3]
            · have e3 : ¬ j < n + 1 := by omega
              simp [e2, e3]
        · rw [a5, a2, cntL_set (by rw [i1.u8]; omega) hxu hyu, i5, if_pos (by omega)]
          push_cast
          omega
      · omega
    · rename_i hc
      refine ⟨i1, i2, fun j hj => ?_, by push_cast; omega, i5⟩
      rw [i3 j hj]
      by_cases e : j = n
      · subst e
        by_cases hjm : j < m
        · rw [h.s j hjm] at hc
          simp only [hjm, decide_true, Bool.true_and, Bool.not_eq_true] at hc
          simp [hc]
        · simp [hjm]
      · by_cases e2 : j < n
        · have e3 : j < n + 1 := by omega
          simp [e2, e3]
        · have e3 : ¬ j < n + 1 := by omega
          simp [e2, e3]
def useN (v : List Bool) : Nat → Nat
  | 0 => 0
  | n + 1 => useN v n + if v.getD n false = true then 1 else 0
theorem use_cnt {u v : List Bool} {m : Nat} (hu : ∀ j, j < 8 → u.getD j false = decide (j < m)) (hv : ∀ j, j < 8 → v.getD j false = true → j < m) : ∀ n, n ≤ 8 → cntL u v n + useN v (min n m) = min n m
  | 0, _ => by simp [cntL, useN]
  | n + 1, hn => by
    have ih := use_cnt hu hv n (by omega)
    simp only [cntL]
    rw [hu n (by omega)]
    by_cases h : n < m
    · have e1 : min (n + 1) m = n + 1 := by omega
      have e2 : min n m = n := by omega
      rw [e1]
      rw [e2] at ih
      simp only [useN, h, decide_true, Bool.true_and]
      cases v.getD n false <;> simp <;> omega
    · have e1 : min (n + 1) m = m := by omega
      have e2 : min n m = m := by omega
      rw [e1]
      rw [e2] at ih
      simp [h]
      exact ih
theorem silB_lt {s now : Int} (h0 : 0 ≤ s) (h1 : s < 1000) (h2 : 0 ≤ now) (h3 : now < 2000) : silB s now = !decide (now - s < 500) := by
  unfold silB
  by_cases h : s ≤ now
  · have e : IntKind.u64.wrap (IntKind.u64.wrap now - IntKind.u64.wrap s) = now - s := by
      simp only [IntKind.wrap_u64]
      omega
    rw [e]
    simp only [h, decide_true, Bool.true_and]
    by_cases h5 : now - s < 500
    · have : ¬ 500 ≤ now - s := by omega
      simp [h5, this]
    · have : 500 ≤ now - s := by omega
      simp [h5, this]
  · have h5 : now - s < 500 := by omega
    simp [h, h5]
/-- the tick -/
theorem sil_tick {x : RV} {m : Nat} {L : Nat → Int} (h : Sil x m L) (hm : m ≤ 8) {now : Int} (hL : ∀ j, j < m → 0 ≤ L j ∧ L j < 1000) (h2 : 0 ≤ now) (h3 : now < 2000) :
    (∀ j, j < m → (tickRm x now).1.u.getD j false = decide (now - L j < 500)) ∧ (tickRm x now).2.length + useN (tickRm x now).1.u m = m ∧ comS (tickRm x now).1.k = ((tickRm x now).2.length : Nat) ∧ (tickRm x now).2.length ≤ 8 ∧ (tickRm x now).1.u.length = 8 := by
  have hlate : lateF x.k now = 0 := by rw [h.k]; simp [lateF]
  have e : tickRm x now = (tkN x 0 now 8, goneL x.u (tkN x 0 now 8).u 8) := by
    unfold tickRm
    rw [if_pos h.ok.good, hlate]
  obtain ⟨i1, i2, i3, i4, i5⟩ := sil_tk h hm now 8 (Nat.le_refl _)
  rw [e]
  dsimp only
  rw [cntL_len]
  have hc := use_cnt (u := x.u) (v := (tkN x 0 now 8).u) (m := m) h.u (fun j hj hv => by
    rw [i3 j hj] at hv
    simp at hv
    exact hv.1) 8 (Nat.le_refl _)
  have e8 : min 8 m = m := by omega
  rw [e8] at hc
  refine ⟨fun j hj => ?_, hc, i5, by omega, i1.u8⟩
  obtain ⟨l0, l1⟩ := hL j hj
  rw [i3 j (by omega), silB_lt l0 l1 h2 h3]
  have e3 : j < 8 := by omega
  simp [hj, e3]
end Go.Proofs.Ytcaipfdnadlkdaa
