/- Slots, plainly: what takes and frees come to. No program in sight. -/
import Derived.Test.YtcaipfdnadlkdaaSlA
namespace Go.Proofs.Ytcaipfdnadlkdaa
open Go Go.RowKit
set_option linter.unusedVariables false
set_option linter.unusedSimpArgs false
theorem getD_set {α : Type} (l : List α) (i j : Nat) (v d : α) (h : i < l.length) : (l.set i v).getD j d = if j = i then v else l.getD j d := by
  simp only [List.getD_eq_getElem?_getD, List.getElem?_set]
  by_cases e : i = j
  · subst e; simp [h]
  · have : ¬ j = i := fun x => e x.symm
    simp [e, this]
theorem ext_getD {α : Type} {l m : List α} (d : α) (hl : l.length = m.length) (h : ∀ j, j < l.length → l.getD j d = m.getD j d) : l = m := by
  apply List.ext_getElem hl
  intro i h1 h2
  have := h i h1
  simpa [List.getD_eq_getElem?_getD, h1, h2] using this
theorem list8 {α : Type} {l : List α} (d : α) (h : l.length = 8) : [l.getD 0 d, l.getD 1 d, l.getD 2 d, l.getD 3 d, l.getD 4 d, l.getD 5 d, l.getD 6 d, l.getD 7 d] = l := by
  match l, h with
  | [a, b, c, e, f, g, i, j], _ => rfl
theorem findGo_spec (x : Int) : ∀ (us : List Bool) (az : List Int) (k : Int), us.length = az.length →
    (∃ i : Nat, i < us.length ∧ us.getD i false = true ∧ az.getD i 0 = x ∧ (∀ j, j < i → us.getD j false = true → az.getD j 0 ≠ x) ∧ findGo k us az x = (k + i, true)) ∨
    ((∀ j, j < us.length → us.getD j false = true → az.getD j 0 ≠ x) ∧ findGo k us az x = (0, false))
  | [], [], k, _ => .inr ⟨by simp, by simp [findGo]⟩
  | [], _ :: _, k, h => by simp at h
  | _ :: _, [], k, h => by simp at h
  | u :: us, a :: az, k, h => by
    by_cases e : u = true ∧ a = x
    · exact .inl ⟨0, by simp, by simpa using e.1, by simpa using e.2, by simp, by simp [findGo, e]⟩
    · have ne : u = true → a ≠ x := fun h1 h2 => e ⟨h1, h2⟩
      rcases findGo_spec x us az (k + 1) (by simpa using h) with ⟨i, h1, h2, h3, h4, h5⟩ | ⟨h1, h2⟩
      · refine .inl ⟨i + 1, by simpa using h1, by simpa using h2, by simpa using h3, fun j hj hu => ?_, ?_⟩
        · cases j with
          | zero => simpa using ne (by simpa using hu)
          | succ j => simpa using h4 j (by omega) (by simpa using hu)
        · simp only [findGo, e, if_false, h5]
          congr 1
          omega
      · refine .inr ⟨fun j hj hu => ?_, by simp only [findGo, e, if_false, h2]⟩
        cases j with
        | zero => simpa using ne (by simpa using hu)
        | succ j => simpa using h1 j (by simpa using hj) (by simpa using hu)
theorem idxGo_spec (v d : Bool) : ∀ (us : List Bool) (k : Int),
    (∃ i : Nat, i < us.length ∧ us.getD i d = v ∧ (∀ j, j < i → us.getD j d = !v) ∧ idxGo v k us = k + i) ∨ ((∀ j, j < us.length → us.getD j d = !v) ∧ idxGo v k us = -1)
  | [], k => .inr ⟨by simp, by simp [idxGo]⟩
  | u :: us, k => by
    by_cases e : v = u
    · exact .inl ⟨0, by simp, by simpa using e.symm, by simp, by simp [idxGo, e]⟩
    · have e2 : u = !v := by cases u <;> cases v <;> simp_all
      rcases idxGo_spec v d us (k + 1) with ⟨i, h1, h2, h4, h5⟩ | ⟨h1, h2⟩
      · refine .inl ⟨i + 1, by simpa using h1, by simpa using h2, fun j hj => ?_, ?_⟩
        · cases j with
          | zero => simpa using e2
          | succ j => simpa using h4 j (by omega)
        · simp only [idxGo, e, if_false, h5]
          omega
      · refine .inr ⟨fun j hj => ?_, by simp only [idxGo, e, if_false, h2]⟩
        cases j with
        | zero => simpa using e2
        | succ j => simpa using h1 j (by simpa using hj)
def Cd (U : List Bool) (A : List Int) (i : Nat) : Prop := (U.getD i false = true → (findGo 0 U A (A.getD i 0)).1 = Int.ofNat i ∧ addrB (A.getD i 0) = true) ∧ (U.getD i false = false → A.getD i 0 = 0)
theorem goodGo_iff (U : List Bool) (A : List Int) : ∀ (us : List Bool) (az : List Int) (k : Nat), us.length = az.length → (∀ i, us.getD i false = U.getD (k + i) false) → (∀ i, az.getD i 0 = A.getD (k + i) 0) →
    (goodGo U A (Int.ofNat k) us az = true ↔ ∀ i, i < us.length → Cd U A (k + i))
  | [], _, k, _, _, _ => by simp [goodGo]
  | _ :: _, [], k, h, _, _ => by simp at h
  | u :: us, a :: az, k, h, hu, ha => by
    have ih := goodGo_iff U A us az (k + 1) (by simpa using h) (fun i => by have := hu (i + 1); simpa [Nat.add_assoc, Nat.add_comm 1] using this) (fun i => by have := ha (i + 1); simpa [Nat.add_assoc, Nat.add_comm 1] using this)
    have u0 := hu 0
    have a0 := ha 0
    simp at u0 a0
    have e : (Int.ofNat (k + 1)) = Int.ofNat k + 1 := rfl
    rw [e] at ih
    have hs : (∀ i, i < (u :: us).length → Cd U A (k + i)) ↔ Cd U A k ∧ ∀ i, i < us.length → Cd U A (k + 1 + i) := by
      constructor
      · intro hh
        refine ⟨hh 0 (by simp), fun i hi => ?_⟩
        have := hh (i + 1) (by simpa using hi)
        rw [show k + (i + 1) = k + 1 + i by omega] at this
        exact this
      · rintro ⟨h0, hh⟩ i hi
        cases i with
        | zero => exact h0
        | succ i =>
          have := hh i (by simpa using hi)
          rw [show k + 1 + i = k + (i + 1) by omega] at this
          exact this
    rw [hs, ← ih]
    simp only [goodGo, Bool.and_eq_true, Cd, List.getD_eq_getElem?_getD, ← u0, ← a0]
    cases u <;> simp
def Gd (U : List Bool) (A : List Int) : Prop := ∀ i, i < U.length → (U.getD i false = true → addrB (A.getD i 0) = true ∧ ∀ j, j < i → U.getD j false = true → A.getD j 0 ≠ A.getD i 0) ∧ (U.getD i false = false → A.getD i 0 = 0)
theorem good_iff {U : List Bool} {A : List Int} (h : U.length = A.length) : goodGo U A 0 U A = true ↔ Gd U A := by
  have g := goodGo_iff U A U A 0 h (fun i => by simp) (fun i => by simp)
  rw [show (Int.ofNat 0) = 0 from rfl] at g
  rw [g]
  simp only [Nat.zero_add]
  refine forall_congr' fun i => forall_congr' fun hi => and_congr (forall_congr' fun hu => ?_) Iff.rfl
  rw [and_comm]
  refine and_congr Iff.rfl ?_
  rcases findGo_spec (A.getD i 0) U A 0 h with ⟨m, h1, h2, h3, h4, h5⟩ | ⟨h1, h2⟩
  · rw [h5]
    constructor
    · intro e j hj
      have : m = i := by simp at e; omega
      subst this
      exact h4 j hj
    · intro hh
      have : ¬ m < i := fun hm => hh m hm h2 h3
      have : ¬ i < m := fun hm => h4 i hm hu rfl
      have : m = i := by omega
      simp [this]
  · exact absurd rfl (h1 i hi hu)
theorem gd_distinct {U : List Bool} {A : List Int} (hg : Gd U A) {i j : Nat} (hi : i < U.length) (hj : j < U.length) (ui : U.getD i false = true) (uj : U.getD j false = true) (e : A.getD i 0 = A.getD j 0) : i = j := by
  rcases Nat.lt_trichotomy i j with h | h | h
  · exact absurd e (((hg j hj).1 uj).2 i h ui)
  · exact h
  · exact absurd e.symm (((hg i hi).1 ui).2 j h uj)
theorem gd_set {U : List Bool} {A : List Int} {x : Int} {i : Nat} (hl : U.length = A.length) (hg : Gd U A) (hi : i < U.length) (hx : addrB x = true) (hn : ∀ j, j < U.length → U.getD j false = true → A.getD j 0 ≠ x) : Gd (U.set i true) (A.set i x) := by
  intro k hk
  have hk' : k < U.length := by simpa using hk
  simp only [getD_set U i _ true false hi, getD_set A i _ x 0 (hl ▸ hi)]
  by_cases e : k = i
  · subst e
    simp only [if_true]
    refine ⟨fun _ => ⟨hx, fun j hj => ?_⟩, fun h => by cases h⟩
    have : ¬ j = k := by omega
    simp only [this, if_false]
    exact fun hu => hn j (by omega) hu
  · simp only [e, if_false]
    refine ⟨fun hu => ⟨((hg k hk').1 hu).1, fun j hj => ?_⟩, (hg k hk').2⟩
    by_cases e2 : j = i
    · subst e2
      simp only [if_true]
      intro _ h
      exact hn k hk' hu h.symm
    · simp only [e2, if_false]
      exact fun huj => ((hg k hk').1 hu).2 j hj huj
theorem gd_clear {U : List Bool} {A : List Int} {i : Nat} (hl : U.length = A.length) (hg : Gd U A) (hi : i < U.length) : Gd (U.set i false) (A.set i 0) := by
  intro k hk
  have hk' : k < U.length := by simpa using hk
  simp only [getD_set U i _ false false hi, getD_set A i _ 0 0 (hl ▸ hi)]
  by_cases e : k = i
  · subst e
    simp
  · simp only [e, if_false]
    refine ⟨fun hu => ⟨((hg k hk').1 hu).1, fun j hj => ?_⟩, (hg k hk').2⟩
    by_cases e2 : j = i
    · subst e2
      simp
    · simp only [e2, if_false]
      exact fun huj => ((hg k hk').1 hu).2 j hj huj
theorem set_back {α : Type} {l : List α} {i : Nat} {v w d : α} (hi : i < l.length) (h : l.getD i d = w) : (l.set i v).set i w = l := by
  apply ext_getD d (by simp)
  intro j hj
  have hj' : j < l.length := by simpa using hj
  rw [getD_set _ _ _ _ _ (by simpa using hi), getD_set _ _ _ _ _ hi]
  by_cases e : j = i
  · subst e; rw [if_pos rfl]; exact h.symm
  · simp [e]
/-- what a take comes to -/
theorem take_law {U : List Bool} {A : List Int} (x : Int) (hl : U.length = A.length) :
    ((takeG U A x).2.2 ≠ 0 ∧ (takeG U A x).1 = (U, A) ∧ (takeG U A x).2.1 = 0 ∧ ¬(Gd U A ∧ addrB x = true ∧ (∀ j, j < U.length → U.getD j false = true → A.getD j 0 ≠ x) ∧ ∃ j, j < U.length ∧ U.getD j false = false)) ∨
    (∃ i : Nat, i < U.length ∧ takeG U A x = ((U.set i true, A.set i x), (i : Int), 0) ∧ U.getD i false = false ∧ (∀ j, j < i → U.getD j false = true) ∧ Gd U A ∧ addrB x = true ∧ ∀ j, j < U.length → U.getD j false = true → A.getD j 0 ≠ x) := by
  unfold takeG
  by_cases hg : (goodGo U A 0 U A && addrB x) = true
  · obtain ⟨g1, g2⟩ := (Bool.and_eq_true _ _ ▸ hg : goodGo U A 0 U A = true ∧ addrB x = true)
    have hgd := (good_iff hl).1 g1
    simp only [hg, if_true]
    rcases findGo_spec x U A 0 hl with ⟨m, h1, h2, h3, h4, h5⟩ | ⟨h1, h2⟩
    · left
      simp only [h5, if_true]
      refine ⟨by simp, trivial, trivial, fun hh => hh.2.2.1 m h1 h2 h3⟩
    · simp only [h2, Bool.false_eq_true, if_false]
      rcases idxGo_spec false false U 0 with ⟨i, i1, i2, i4, i5⟩ | ⟨i1, i2⟩
      · right
        have hn : ¬ idxGo false 0 U < 0 := by rw [i5]; omega
        simp only [hn, if_false]
        refine ⟨i, i1, ?_, i2, i4, hgd, g2, h1⟩
        simp [i5]
      · left
        have hn : idxGo false 0 U < 0 := by rw [i2]; omega
        simp only [hn, if_true]
        refine ⟨by simp, trivial, trivial, fun hh => ?_⟩
        obtain ⟨j, hj, hu⟩ := hh.2.2.2
        have := i1 j hj
        rw [hu] at this
        cases this
  · left
    rw [if_neg hg]
    refine ⟨by simp, rfl, rfl, fun hh => ?_⟩
    rw [(good_iff hl).2 hh.1, hh.2.1] at hg
    exact hg rfl
theorem free_law {U : List Bool} {A : List Int} (x : Int) (hl : U.length = A.length) (h8 : U.length = 8) :
    ((freeG U A x).2 ≠ 0 ∧ (freeG U A x).1 = (U, A) ∧ ¬(Gd U A ∧ 0 ≤ x ∧ x < 8 ∧ U.getD x.toNat false = true)) ∨
    (∃ i : Nat, i < U.length ∧ x = (i : Int) ∧ freeG U A x = ((U.set i false, A.set i 0), 0) ∧ U.getD i false = true ∧ Gd U A) := by
  unfold freeG
  by_cases hg : (goodGo U A 0 U A && slot8 x) = true
  · obtain ⟨g1, g2⟩ := (Bool.and_eq_true _ _ ▸ hg : goodGo U A 0 U A = true ∧ slot8 x = true)
    have hgd := (good_iff hl).1 g1
    have hx : 0 ≤ x ∧ x < 8 := by simpa [slot8] using g2
    simp only [hg, if_true]
    by_cases hu : U.getD x.toNat false = true
    · right
      simp only [hu, if_true]
      exact ⟨x.toNat, by omega, by omega, rfl, hu, hgd⟩
    · left
      rw [if_neg hu]
      exact ⟨by simp, rfl, fun hh => hu hh.2.2.2⟩
  · left
    rw [if_neg hg]
    refine ⟨by simp, rfl, fun hh => ?_⟩
    have : slot8 x = true := by simp [slot8]; omega
    rw [(good_iff hl).2 hh.1, this] at hg
    exact hg rfl
end Go.Proofs.Ytcaipfdnadlkdaa
