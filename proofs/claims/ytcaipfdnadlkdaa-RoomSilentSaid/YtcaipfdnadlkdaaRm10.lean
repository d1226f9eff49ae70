/- Rooms, plainly: who comes has a slot that nobody needs. No condition. -/
import Derived.Test.YtcaipfdnadlkdaaRm3
import Derived.Test.YtcaipfdnadlkdaaRkL
namespace Go.Proofs.Ytcaipfdnadlkdaa
open Go Go.RowKit
set_option linter.unusedVariables false
set_option linter.unusedSimpArgs false

theorem idx_free : ∀ (u : List Bool) (k : Int), 0 ≤ k → 0 ≤ idxGo false k u → u.getD (idxGo false k u - k).toNat true = false
  | [], k, _, h => by simp [idxGo] at h
  | b :: bs, k, h0, h => by
    unfold idxGo at h ⊢
    split
    · rename_i hb
      simp [hb.symm]
    · rename_i hb
      rw [if_neg hb] at h
      have ih := idx_free bs (k + 1) (by omega) h
      have hbd := idxGo_bd false bs (k + 1) h (by omega)
      rw [show (idxGo false (k + 1) bs - k).toNat = (idxGo false (k + 1) bs - (k + 1)).toNat + 1 by omega]
      simpa using ih
theorem take_free (u : List Bool) (a : List Int) (x : Int) (h : (takeG u a x).2.2 = 0) : u.getD (takeG u a x).2.1.toNat true = false ∧ goodGo u a 0 u a = true := by
  unfold takeG at h ⊢
  split
  · rename_i hc
    rw [if_pos hc] at h
    split
    · rename_i h1; rw [if_pos h1] at h; simp at h
    · rename_i h1
      rw [if_neg h1] at h
      split
      · rename_i h2; rw [if_pos h2] at h; simp at h
      · rename_i h2
        have := idx_free u 0 (by omega) (by omega)
        simp at hc
        rw [Int.sub_zero] at this
        exact ⟨this, hc.1⟩
  · rename_i hc; rw [if_neg hc] at h; simp at h
theorem mask_bit8 : ∀ b0 b1 b2 b3 b4 b5 b6 b7 : Bool, ∀ i : Fin 8, (maskGo 0 [b0, b1, b2, b3, b4, b5, b6, b7] 0).toNat.testBit i.val = [b0, b1, b2, b3, b4, b5, b6, b7].getD i.val false := by decide +kernel
theorem mask_bit' (u : List Bool) (h : u.length = 8) (i : Nat) (hi : i < 8) : (maskGo 0 u 0).toNat.testBit i = u.getD i false := by
  match u, h with
  | [b0, b1, b2, b3, b4, b5, b6, b7], _ => exact mask_bit8 b0 b1 b2 b3 b4 b5 b6 b7 ⟨i, hi⟩
theorem join_free (r : RV) (a : Int) (h8 : r.u.length = 8) (hg : goodRm r = true) (ht : (takeG r.u r.a a).2.2 = 0) : (joinF r.k (takeG r.u r.a a).2.1).2 = 0 := by
  obtain ⟨s0, s1⟩ := take_slot r.u r.a a h8 ht
  obtain ⟨hf, hgg⟩ := take_free r.u r.a a ht
  generalize (takeG r.u r.a a).2.1 = i at s0 s1 hf
  have hgs : goodS r.k = true := by
    unfold goodRm at hg; simp at hg; exact hg.1.1.2
  have hend : endRm r = true := by
    unfold goodRm at hg; simp at hg; exact hg.2
  unfold joinF
  have hsl : slB i = true := by simp [slB]; omega
  rw [if_pos (by rw [hgs, hsl]; rfl)]
  split
  · rename_i hop
    have hm : maskG r.u r.a = maskGo 0 r.u 0 := by unfold maskG; rw [if_pos hgg]
    obtain ⟨m0, m1, _⟩ := mask_all r.u h8
    have hnd : 1 ≤ r.k.nd ∧ r.k.nd ≤ 255 := by simp [goodS, hop] at hgs; omega
    have h1 : bits .andNot .i64 r.k.nd (maskGo 0 r.u 0) = 0 := by
      unfold endRm at hend
      rw [hop, hm] at hend
      simp at hend
      exact hend.1
    have h2 := (need_mask _ _ hnd.1 hnd.2 m0 m1).1 h1
    obtain ⟨nd, hn⟩ := Int.eq_ofNat_of_zero_le (show 0 ≤ r.k.nd by omega)
    obtain ⟨m, hmm⟩ := Int.eq_ofNat_of_zero_le m0
    obtain ⟨j, rfl⟩ := Int.eq_ofNat_of_zero_le s0
    have h3 := mask_bit' r.u h8 j (by omega)
    rw [hmm] at h3 h2
    rw [hn] at h2 ⊢
    rw [i64_and_nat nd m (by omega) (by omega)] at h2
    have h4 : nd &&& m = nd := by exact_mod_cast h2
    have hb : nd.testBit j = false := by
      rw [← h4, Nat.testBit_and]
      have : m.testBit j = false := by
        have h5 : m.testBit j = r.u.getD j false := by simpa using h3
        rw [h5]
        have h6 : r.u.getD j true = false := by simpa using hf
        have hlt : j < r.u.length := by omega
        simp [List.getD_eq_getElem?_getD, hlt] at h6 ⊢
        exact h6
      rw [this, Bool.and_false]
    have hbo : bitO (nd : Int) (j : Int) = false := by rw [bitO_nat nd j (by omega), hb]
    rw [if_neg (by rw [hbo]; simp)]
  · rfl
theorem joinR2_eq (r : RV) (a now : Int) (h8 : r.u.length = 8) : joinR2 r a now = joinRm r a now := by
  unfold joinR2 joinRm
  split
  · rfl
  · rename_i hg
    split
    · rfl
    · split
      · rename_i ht
        rw [if_pos (join_free r a h8 (by simpa using hg) ht)]
      · rfl
end Go.Proofs.Ytcaipfdnadlkdaa
