/- Slots, plainly: what a play's round keeps. No program in sight. -/
import Derived.Test.YtcaipfdnadlkdaaSl15
namespace Go.Proofs.Ytcaipfdnadlkdaa
open Go Go.RowKit
set_option linter.unusedVariables false
set_option linter.unusedSimpArgs false
def uL (W : W8) : List Bool := [dU W.w0, dU W.w1, dU W.w2, dU W.w3, dU W.w4, dU W.w5, dU W.w6, dU W.w7]
def aL (W : W8) : List Int := [aU W.w0, aU W.w1, aU W.w2, aU W.w3, aU W.w4, aU W.w5, aU W.w6, aU W.w7]
def frW (W : W8) (n : Int) (a : (List Bool × List Int) × Int) : Prop := a = freeG (uL W) (aL W) n
def tkW (W : W8) (n : Int) (a : (List Bool × List Int) × Int × Int) : Prop := a = takeG (uL W) (aL W) n
def atOk (W : W8) (n : Int) (k : Nat) (a : Int × Bool) : Prop := a.1 = atF (L8 W) k ∧ a.2 = thF (L8 W) n k
/-- what is alike anyway -/
def sN : Prop := (0 : Nat) = 0 ∧ (0 : Nat) = 0
def sV (len : Nat) (G : Nat → Bool) (X : Nat → Int) : Prop := len = len ∧ ∀ (i : Nat), i < len → G i = G i ∧ X i = X i
def sW (W : W8) : Prop := dU W.w0 = dU W.w0 ∧ dU W.w1 = dU W.w1 ∧ dU W.w2 = dU W.w2 ∧ dU W.w3 = dU W.w3 ∧ dU W.w4 = dU W.w4 ∧ dU W.w5 = dU W.w5 ∧ dU W.w6 = dU W.w6 ∧ dU W.w7 = dU W.w7 ∧ aU W.w0 = aU W.w0 ∧ aU W.w1 = aU W.w1 ∧ aU W.w2 = aU W.w2 ∧ aU W.w3 = aU W.w3 ∧ aU W.w4 = aU W.w4 ∧ aU W.w5 = aU W.w5 ∧ aU W.w6 = aU W.w6 ∧ aU W.w7 = aU W.w7
def sO (W : W8) : Prop := W.w0 = W.w0 ∧ W.w1 = W.w1 ∧ W.w2 = W.w2 ∧ W.w3 = W.w3 ∧ W.w4 = W.w4 ∧ W.w5 = W.w5 ∧ W.w6 = W.w6 ∧ W.w7 = W.w7
def lB (b : List Bool) : List Bool := [b.getD 0 false, b.getD 1 false, b.getD 2 false, b.getD 3 false, b.getD 4 false, b.getD 5 false, b.getD 6 false, b.getD 7 false]
def lI (b : List Int) : List Int := [b.getD 0 0, b.getD 1 0, b.getD 2 0, b.getD 3 0, b.getD 4 0, b.getD 5 0, b.getD 6 0, b.getD 7 0]
def sT (p : List Bool × List Int) : Prop := p.1.getD 0 false = (lB p.1).getD 0 false ∧ p.1.getD 1 false = (lB p.1).getD 1 false ∧ p.1.getD 2 false = (lB p.1).getD 2 false ∧ p.1.getD 3 false = (lB p.1).getD 3 false ∧ p.1.getD 4 false = (lB p.1).getD 4 false ∧ p.1.getD 5 false = (lB p.1).getD 5 false ∧ p.1.getD 6 false = (lB p.1).getD 6 false ∧ p.1.getD 7 false = (lB p.1).getD 7 false ∧ p.2.getD 0 0 = (lI p.2).getD 0 0 ∧ p.2.getD 1 0 = (lI p.2).getD 1 0 ∧ p.2.getD 2 0 = (lI p.2).getD 2 0 ∧ p.2.getD 3 0 = (lI p.2).getD 3 0 ∧ p.2.getD 4 0 = (lI p.2).getD 4 0 ∧ p.2.getD 5 0 = (lI p.2).getD 5 0 ∧ p.2.getD 6 0 = (lI p.2).getD 6 0 ∧ p.2.getD 7 0 = (lI p.2).getD 7 0
/-- a table that bears what W says -/
def tT (p : List Bool × List Int) (W : W8) : Prop := p.1.getD 0 false = dU W.w0 ∧ p.1.getD 1 false = dU W.w1 ∧ p.1.getD 2 false = dU W.w2 ∧ p.1.getD 3 false = dU W.w3 ∧ p.1.getD 4 false = dU W.w4 ∧ p.1.getD 5 false = dU W.w5 ∧ p.1.getD 6 false = dU W.w6 ∧ p.1.getD 7 false = dU W.w7 ∧ p.2.getD 0 0 = aU W.w0 ∧ p.2.getD 1 0 = aU W.w1 ∧ p.2.getD 2 0 = aU W.w2 ∧ p.2.getD 3 0 = aU W.w3 ∧ p.2.getD 4 0 = aU W.w4 ∧ p.2.getD 5 0 = aU W.w5 ∧ p.2.getD 6 0 = aU W.w6 ∧ p.2.getD 7 0 = aU W.w7
theorem sN_ok : sN := ⟨rfl, rfl⟩
theorem sV_ok (len : Nat) (G : Nat → Bool) (X : Nat → Int) : sV len G X := ⟨rfl, fun _ _ => ⟨rfl, rfl⟩⟩
theorem sW_ok (W : W8) : sW W := by simp [sW]
theorem sO_ok (W : W8) : sO W := by simp [sO]
theorem sT_ok (p : List Bool × List Int) : sT p := by simp [sT, lB, lI]
theorem uL_len (W : W8) : (uL W).length = 8 := rfl
theorem aL_len (W : W8) : (aL W).length = 8 := rfl
theorem uL_get (W : W8) {j : Nat} (h : j < 8) : (uL W).getD j false = dU (wW (L8 W) j) := by
  match j, h with
  | 0, _ => rfl
  | 1, _ => rfl
  | 2, _ => rfl
  | 3, _ => rfl
  | 4, _ => rfl
  | 5, _ => rfl
  | 6, _ => rfl
  | 7, _ => rfl
theorem aL_get (W : W8) {j : Nat} (h : j < 8) : (aL W).getD j 0 = aU (wW (L8 W) j) := by
  match j, h with
  | 0, _ => rfl
  | 1, _ => rfl
  | 2, _ => rfl
  | 3, _ => rfl
  | 4, _ => rfl
  | 5, _ => rfl
  | 6, _ => rfl
  | 7, _ => rfl
theorem dU_iff {x : Int} : dU x = true ↔ 0 ≤ x := by simp [dU]
theorem gdW {W : W8} (h : WOk W) : Gd (uL W) (aL W) := by
  intro i hi
  have hi8 : i < 8 := hi
  rw [uL_get W hi8, aL_get W hi8]
  refine ⟨fun hd => ?_, fun hd => ?_⟩
  · have h0 : 0 ≤ wW (L8 W) i := dU_iff.1 hd
    rcases h.1 i hi8 with h1 | ⟨_, h63⟩
    · omega
    · refine ⟨by simp [addrB, aU, h0]; omega, fun j hj hu => ?_⟩
      have hj8 : j < 8 := by omega
      rw [uL_get W hj8] at hu
      have hj0 := dU_iff.1 hu
      rw [aL_get W hj8]
      simp only [aU, if_pos h0, if_pos hj0]
      intro e
      have := h.2 j i hj8 hi8 hj0 e
      omega
  · have : ¬0 ≤ wW (L8 W) i := fun h0 => by rw [dU_iff.2 h0] at hd; cases hd
    simp [aU, this]
theorem goodW {W : W8} (h : WOk W) : goodGo (uL W) (aL W) 0 (uL W) (aL W) = true := (good_iff rfl).2 (gdW h)
theorem fr_law {W : W8} {n : Int} {a : (List Bool × List Int) × Int} (h : WOk W) (ha : frW W n a) : (a.2 ≠ 0 ∧ ¬(0 ≤ n ∧ n < 8 ∧ 0 ≤ wW (L8 W) n.toNat)) ∨ (∃ i : Nat, i < 8 ∧ n = (i : Int) ∧ a = (((uL W).set i false, (aL W).set i 0), 0) ∧ 0 ≤ wW (L8 W) i) := by
  rcases free_law (U := uL W) (A := aL W) n rfl rfl with ⟨h1, h2, h3⟩ | ⟨i, h1, h2, h3, h4, _⟩
  · left
    refine ⟨by rw [ha]; exact h1, fun hh => h3 ⟨gdW h, hh.1, hh.2.1, ?_⟩⟩
    rw [uL_get W (by omega)]
    exact dU_iff.2 hh.2.2
  · right
    have h8 : i < 8 := h1
    rw [uL_get W h8] at h4
    exact ⟨i, h8, h2, by rw [ha]; exact h3, dU_iff.1 h4⟩
theorem fr_eta {W : W8} {n : Int} {a : (List Bool × List Int) × Int} (h : WOk W) (ha : frW W n a) : frW W n ((lB a.1.1, lI a.1.2), a.2) := by
  have : a.1.1.length = 8 ∧ a.1.2.length = 8 := by
    rcases free_law (U := uL W) (A := aL W) n rfl rfl with ⟨h1, h2, h3⟩ | ⟨i, h1, h2, h3, h4, _⟩
    · rw [ha, h2]; exact ⟨rfl, rfl⟩
    · rw [ha, h3]; simp [uL, aL]
  have e1 : lB a.1.1 = a.1.1 := list8 false this.1
  have e2 : lI a.1.2 = a.1.2 := list8 0 this.2
  rw [e1, e2]; exact ha
def setW (W : W8) (i : Nat) (x : Int) : W8 := ⟨((L8 W).set i x).getD 0 0, ((L8 W).set i x).getD 1 0, ((L8 W).set i x).getD 2 0, ((L8 W).set i x).getD 3 0, ((L8 W).set i x).getD 4 0, ((L8 W).set i x).getD 5 0, ((L8 W).set i x).getD 6 0, ((L8 W).set i x).getD 7 0⟩
theorem L8_setW (W : W8) (i : Nat) (x : Int) : L8 (setW W i x) = (L8 W).set i x := list8 0 (by simp [L8])
theorem setW_get (W : W8) (x : Int) {i : Nat} (j : Nat) (hi : i < 8) : wW (L8 (setW W i x)) j = if j = i then x else wW (L8 W) j := by
  rw [wW, L8_setW]
  exact getD_set _ _ _ _ _ hi
theorem tT_of {p : List Bool × List Int} {W : W8} (h1 : p.1 = uL W) (h2 : p.2 = aL W) : tT p W := by simp [tT, h1, h2, uL, aL]
theorem ext8 {α : Type} {l m : List α} (d : α) (hl : l.length = 8) (hm : m.length = 8) (h : ∀ j, j < 8 → l.getD j d = m.getD j d) : l = m := ext_getD d (by omega) fun j hj => h j (by omega)
theorem uL_set (W : W8) (x : Int) {i : Nat} (hi : i < 8) : uL (setW W i x) = (uL W).set i (dU x) := by
  refine ext8 false rfl (by simp [uL]) fun j hj => ?_
  rw [uL_get _ hj, setW_get _ _ _ hi, getD_set _ _ _ _ _ hi]
  split
  · rfl
  · exact (uL_get _ hj).symm
theorem aL_set (W : W8) (x : Int) {i : Nat} (hi : i < 8) : aL (setW W i x) = (aL W).set i (aU x) := by
  refine ext8 0 rfl (by simp [aL]) fun j hj => ?_
  rw [aL_get _ hj, setW_get _ _ _ hi, getD_set _ _ _ _ _ hi]
  split
  · rfl
  · exact (aL_get _ hj).symm
/-- one goes -/
theorem fr_set {W : W8} {n : Int} {i : Nat} {a : (List Bool × List Int) × Int} (h : WOk W) (ha : frW W n a) (e : a.2 = 0) (hn : n = (i : Int)) (hi : i < 8) : tT a.1 (setW W i (-1)) ∧ WOk (setW W i (-1)) := by
  rcases fr_law h ha with ⟨h1, _⟩ | ⟨j, hj, h2, h3, h4⟩
  · exact absurd e h1
  · obtain rfl : j = i := by omega
    refine ⟨tT_of (by rw [h3, uL_set W _ hi]; rfl) (by rw [h3, aL_set W _ hi]; rfl), fun k hk => ?_, fun k l hk hl => ?_⟩
    · rw [setW_get _ _ _ hi]
      split
      · left; rfl
      · exact h.1 k hk
    · rw [setW_get _ _ _ hi, setW_get _ _ _ hi]
      split
      · intro h0; omega
      · split
        · intro h0 e; omega
        · exact h.2 k l hk hl
/-- one comes -/
theorem tk_law {W : W8} {n : Int} {a : (List Bool × List Int) × Int × Int} (h : WOk W) (ha : tkW W n a) : (a.2.2 ≠ 0 ∧ ¬(0 ≤ n ∧ n ≤ 63 ∧ (∀ j, j < 8 → wW (L8 W) j ≠ n) ∧ ∃ j, j < 8 ∧ wW (L8 W) j < 0)) ∨ (∃ i : Nat, i < 8 ∧ a = (((uL W).set i true, (aL W).set i n), (i : Int), 0) ∧ wW (L8 W) i < 0 ∧ (∀ j, j < i → 0 ≤ wW (L8 W) j) ∧ 0 ≤ n ∧ n ≤ 63 ∧ ∀ j, j < 8 → wW (L8 W) j ≠ n) := by
  rcases take_law (U := uL W) (A := aL W) n rfl with ⟨h1, h2, h3, h4⟩ | ⟨i, h1, h2, h3, h4, h5, h6, h7⟩
  · left
    refine ⟨by rw [ha]; exact h1, fun hh => h4 ⟨gdW h, by simp [addrB]; omega, fun j hj hu => ?_, ?_⟩⟩
    · have hj8 : j < 8 := hj
      rw [uL_get W hj8] at hu
      rw [aL_get W hj8, aU, if_pos (dU_iff.1 hu)]
      exact hh.2.2.1 j hj8
    · obtain ⟨j, hj, hl⟩ := hh.2.2.2
      refine ⟨j, hj, ?_⟩
      rw [uL_get W hj]
      simp [dU]; omega
  · right
    have h8 : i < 8 := h1
    have hx : 0 ≤ n ∧ n ≤ 63 := by simpa [addrB] using h6
    refine ⟨i, h8, by rw [ha]; exact h2, ?_, fun j hj => ?_, hx.1, hx.2, fun j hj e => ?_⟩
    · rw [uL_get W h8] at h3
      simp [dU] at h3; omega
    · have := h4 j hj
      rw [uL_get W (by omega)] at this
      exact dU_iff.1 this
    · have h0 : 0 ≤ wW (L8 W) j := by omega
      have := h7 j hj (by rw [uL_get W hj]; exact dU_iff.2 h0)
      rw [aL_get W hj, aU, if_pos h0] at this
      exact this e
theorem tk_eta {W : W8} {n : Int} {a : (List Bool × List Int) × Int × Int} (h : WOk W) (ha : tkW W n a) : tkW W n ((lB a.1.1, lI a.1.2), a.2.1, a.2.2) := by
  have : a.1.1.length = 8 ∧ a.1.2.length = 8 := by
    rcases take_law (U := uL W) (A := aL W) n rfl with ⟨h1, h2, h3, h4⟩ | ⟨i, h1, h2, _⟩
    · rw [ha, h2]; exact ⟨rfl, rfl⟩
    · rw [ha, h2]; simp [uL, aL]
  have e1 : lB a.1.1 = a.1.1 := list8 false this.1
  have e2 : lI a.1.2 = a.1.2 := list8 0 this.2
  rw [e1, e2]; exact ha
theorem atF_spec (W : List Int) : ∀ k, k ≤ 8 → (atF W k = -1 ∧ ∀ j, 8 - k ≤ j → j < 8 → 0 ≤ wW W j) ∨ (∃ i : Nat, 8 - k ≤ i ∧ i < 8 ∧ atF W k = (i : Int) ∧ wW W i < 0 ∧ ∀ j, 8 - k ≤ j → j < i → 0 ≤ wW W j)
  | 0, _ => .inl ⟨rfl, fun j h1 h2 => by omega⟩
  | k + 1, h => by
    simp only [atF]
    by_cases c : wW W (7 - k) < 0
    · right
      exact ⟨7 - k, by omega, by omega, by rw [if_pos c], c, fun j h1 h2 => by omega⟩
    · rw [if_neg c]
      rcases atF_spec W k (by omega) with ⟨h1, h2⟩ | ⟨i, h1, h2, h3, h4, h5⟩
      · left
        refine ⟨h1, fun j hj hj8 => ?_⟩
        by_cases e : j = 7 - k
        · subst e; omega
        · exact h2 j (by omega) hj8
      · right
        refine ⟨i, by omega, h2, h3, h4, fun j hj hji => ?_⟩
        by_cases e : j = 7 - k
        · subst e; omega
        · exact h5 j (by omega) hji
theorem thF_spec (W : List Int) (n : Int) : ∀ k, k ≤ 8 → (thF W n k = true ↔ ∃ j, 8 - k ≤ j ∧ j < 8 ∧ wW W j = n)
  | 0, _ => by simp [thF]; omega
  | k + 1, h => by
    simp only [thF, Bool.or_eq_true, thF_spec W n k (by omega), decide_eq_true_eq]
    constructor
    · rintro (⟨j, h1, h2, h3⟩ | e)
      · exact ⟨j, by omega, h2, h3⟩
      · exact ⟨7 - k, by omega, by omega, e⟩
    · rintro ⟨j, h1, h2, h3⟩
      by_cases e : j = 7 - k
      · subst e; exact .inr h3
      · exact .inl ⟨j, by omega, h2, h3⟩
/-- what a take answers, as the play says it -/
theorem tk_at {W : W8} {n : Int} {a : (List Bool × List Int) × Int × Int} {t : Int} {th : Bool} (h : WOk W) (ha : tkW W n a) (ht : t = atF (L8 W) 8) (hth : th = thF (L8 W) n 8) :
    (a.2.2 = 0 ↔ 0 ≤ t ∧ th = false ∧ 0 ≤ n ∧ n ≤ 63) ∧ (a.2.2 = 0 → a.2.1 = t ∧ 0 ≤ t ∧ t < 8 ∧ ∀ i : Nat, t = (i : Int) → tT a.1 (setW W i n) ∧ WOk (setW W i n)) := by
  have hth' : th = false ↔ ∀ j, j < 8 → wW (L8 W) j ≠ n := by
    rw [hth, Bool.eq_false_iff, ne_eq, thF_spec _ _ 8 (by omega)]
    constructor
    · intro hh j hj e; exact hh ⟨j, by omega, hj, e⟩
    · rintro hh ⟨j, _, hj, e⟩; exact hh j hj e
  rcases tk_law h ha with ⟨h1, h2⟩ | ⟨i, hi, h1, h2, h3, h4, h5, h6⟩
  · refine ⟨⟨fun e => absurd e h1, fun ⟨g1, g2, g3, g4⟩ => absurd ⟨g3, g4, hth'.1 g2, ?_⟩ h2⟩, fun e => absurd e h1⟩
    rcases atF_spec (L8 W) 8 (by omega) with ⟨q1, q2⟩ | ⟨j, _, q2, q3, q4, _⟩
    · omega
    · exact ⟨j, q2, q4⟩
  · have et : t = (i : Int) := by
      rcases atF_spec (L8 W) 8 (by omega) with ⟨q1, q2⟩ | ⟨j, _, q2, q3, q4, q5⟩
      · have := q2 i (by omega) hi; omega
      · rcases Nat.lt_trichotomy i j with hl | he | hl
        · have := q5 i (by omega) hl; omega
        · omega
        · have := h3 j hl; omega
    refine ⟨⟨fun _ => ⟨by omega, hth'.2 h6, h4, h5⟩, fun _ => by rw [h1]⟩, fun _ => ⟨by rw [h1, et], by omega, by omega, fun i' e' => ?_⟩⟩
    obtain rfl : i' = i := by omega
    have d1 : dU n = true := dU_iff.2 h4
    have d2 : aU n = n := by simp [aU, h4]
    refine ⟨tT_of (by rw [h1, uL_set W _ hi, d1]) (by rw [h1, aL_set W _ hi, d2]), fun k hk => ?_, fun k l hk hl => ?_⟩
    · rw [setW_get _ _ _ hi]
      split
      · right; omega
      · exact h.1 k hk
    · rw [setW_get _ _ _ hi, setW_get _ _ _ hi]
      split
      · split
        · intro _ _; omega
        · intro _ e; exact absurd e.symm (h6 l hl)
      · split
        · intro _ e; exact absurd e (h6 k hk)
        · exact h.2 k l hk hl
theorem fr_set2 {W : W8} {n : Int} {i : Nat} {a : (List Bool × List Int) × Int} (h : WOk W) (ha : frW W n a ∧ True) (e : a.2 = 0) (hn : n = (i : Int)) (hi : i < 8) : tT a.1 (setW W i (-1)) ∧ WOk (setW W i (-1)) := fr_set h ha.1 e hn hi
theorem fr_eta2 {W : W8} {n m : Int} {a : (List Bool × List Int) × Int} (h : WOk W) (ha : frW W n a) (e : n = m) : frW W m ((lB a.1.1, lI a.1.2), a.2) ∧ True := by subst e; exact ⟨fr_eta h ha, trivial⟩
theorem fr_lin {W : W8} {n : Int} {a : (List Bool × List Int) × Int} (h : WOk W) (ha : frW W n a) : (¬(0 ≤ n ∧ n < 8) ∧ ¬a.2 = 0) ∨ (n = 0 ∧ (a.2 = 0 ↔ 0 ≤ W.w0)) ∨ (n = 1 ∧ (a.2 = 0 ↔ 0 ≤ W.w1)) ∨ (n = 2 ∧ (a.2 = 0 ↔ 0 ≤ W.w2)) ∨ (n = 3 ∧ (a.2 = 0 ↔ 0 ≤ W.w3)) ∨ (n = 4 ∧ (a.2 = 0 ↔ 0 ≤ W.w4)) ∨ (n = 5 ∧ (a.2 = 0 ↔ 0 ≤ W.w5)) ∨ (n = 6 ∧ (a.2 = 0 ↔ 0 ≤ W.w6)) ∨ (n = 7 ∧ (a.2 = 0 ↔ 0 ≤ W.w7)) := by
  have hi : (0 ≤ n ∧ n < 8) → (a.2 = 0 ↔ 0 ≤ wW (L8 W) n.toNat) := fun hn => by
    rcases fr_law h ha with ⟨h1, h2⟩ | ⟨i, h1, h2, h3, h4⟩
    · exact ⟨fun e => absurd e h1, fun e => absurd ⟨hn.1, hn.2, e⟩ h2⟩
    · have : n.toNat = i := by omega
      rw [this]
      exact ⟨fun _ => h4, fun _ => by rw [h3]⟩
  by_cases hn : 0 ≤ n ∧ n < 8
  · right
    have := hi hn
    have c : n = 0 ∨ n = 1 ∨ n = 2 ∨ n = 3 ∨ n = 4 ∨ n = 5 ∨ n = 6 ∨ n = 7 := by omega
    rcases c with rfl | rfl | rfl | rfl | rfl | rfl | rfl | rfl
    · exact .inl ⟨rfl, this⟩
    · exact .inr (.inl ⟨rfl, this⟩)
    · exact .inr (.inr (.inl ⟨rfl, this⟩))
    · exact .inr (.inr (.inr (.inl ⟨rfl, this⟩)))
    · exact .inr (.inr (.inr (.inr (.inl ⟨rfl, this⟩))))
    · exact .inr (.inr (.inr (.inr (.inr (.inl ⟨rfl, this⟩)))))
    · exact .inr (.inr (.inr (.inr (.inr (.inr (.inl ⟨rfl, this⟩))))))
    · exact .inr (.inr (.inr (.inr (.inr (.inr (.inr ⟨rfl, this⟩))))))
  · left
    refine ⟨hn, fun e => ?_⟩
    rcases fr_law h ha with ⟨h1, h2⟩ | ⟨i, h1, h2, h3, h4⟩
    · exact h1 e
    · omega
theorem fr_at {W : W8} {n : Int} {a : (List Bool × List Int) × Int} (h : WOk W) (ha : frW W n a) : (n = 0 → (a.2 = 0 ↔ 0 ≤ W.w0)) ∧ (n = 1 → (a.2 = 0 ↔ 0 ≤ W.w1)) ∧ (n = 2 → (a.2 = 0 ↔ 0 ≤ W.w2)) ∧ (n = 3 → (a.2 = 0 ↔ 0 ≤ W.w3)) ∧ (n = 4 → (a.2 = 0 ↔ 0 ≤ W.w4)) ∧ (n = 5 → (a.2 = 0 ↔ 0 ≤ W.w5)) ∧ (n = 6 → (a.2 = 0 ↔ 0 ≤ W.w6)) ∧ (n = 7 → (a.2 = 0 ↔ 0 ≤ W.w7)) ∧ (¬(0 ≤ n ∧ n < 8) → a.2 ≠ 0) := by
  have := fr_lin h ha
  refine ⟨?_, ?_, ?_, ?_, ?_, ?_, ?_, ?_, ?_⟩ <;> intro hn <;> omega
theorem tk_set2 {W : W8} {n : Int} {i : Nat} {a : (List Bool × List Int) × Int × Int} (h : WOk W) (ha : tkW W n a ∧ True) (e : a.2.2 = 0) (hn : a.2.1 = (i : Int)) : tT a.1 (setW W i n) ∧ WOk (setW W i n) := by
  obtain ⟨h1, h2, h3, h4⟩ := (tk_at h ha.1 rfl rfl).2 e
  exact h4 i (by omega)
theorem tk_bd {W : W8} {n : Int} {a : (List Bool × List Int) × Int × Int} (h : WOk W) (ha : tkW W n a ∧ True) (e : a.2.2 = 0) : 0 ≤ a.2.1 ∧ a.2.1 < 8 := by
  obtain ⟨h1, h2, h3, h4⟩ := (tk_at h ha.1 rfl rfl).2 e
  omega
theorem at_hit {W : W8} {n : Int} {k : Nat} {p : Int × Bool} {t : Int} {b : Bool} (h : atOk W n k p ∧ True) (hw : wW (L8 W) (7 - k) < 0) (ht : t = ((7 - k : Nat) : Int)) (hb : (b = true ∧ (p.2 = true ∨ wW (L8 W) (7 - k) = n)) ∨ (b = false ∧ p.2 = false ∧ ¬wW (L8 W) (7 - k) = n)) : atOk W n (k + 1) (t, b) ∧ True := by
  refine ⟨⟨by simp only [atF]; rw [if_pos hw]; exact ht, ?_⟩, trivial⟩
  simp only [thF, ← h.1.2]
  rcases hb with ⟨rfl, h1 | h1⟩ | ⟨rfl, h1, h2⟩
  · simp [h1]
  · simp [h1]
  · simp [h1, h2]
theorem at_mis {W : W8} {n : Int} {k : Nat} {p : Int × Bool} {t : Int} {b : Bool} (h : atOk W n k p ∧ True) (hw : ¬wW (L8 W) (7 - k) < 0) (ht : t = p.1) (hb : (b = true ∧ (p.2 = true ∨ wW (L8 W) (7 - k) = n)) ∨ (b = false ∧ p.2 = false ∧ ¬wW (L8 W) (7 - k) = n)) : atOk W n (k + 1) (t, b) ∧ True := by
  refine ⟨⟨by simp only [atF]; rw [if_neg hw, ht]; exact h.1.1, ?_⟩, trivial⟩
  simp only [thF, ← h.1.2]
  rcases hb with ⟨rfl, h1 | h1⟩ | ⟨rfl, h1, h2⟩
  · simp [h1]
  · simp [h1]
  · simp [h1, h2]
theorem w0_ok : WOk ⟨-1, -1, -1, -1, -1, -1, -1, -1⟩ := by
  have h : ∀ j, j < 8 → wW (L8 ⟨-1, -1, -1, -1, -1, -1, -1, -1⟩) j = -1 := by decide
  exact ⟨fun j hj => .inl (h j hj), fun i j hi hj h0 => by rw [h i hi] at h0; omega⟩
theorem chk_one {x : Int} (h0 : 0 ≤ x) : dU x = true ∧ aU x = x := ⟨dU_iff.2 h0, by simp [aU, h0]⟩
theorem chk_non {x : Int} (h0 : ¬0 ≤ x) : dU x = false := by simp [dU, h0]
end Go.Proofs.Ytcaipfdnadlkdaa
