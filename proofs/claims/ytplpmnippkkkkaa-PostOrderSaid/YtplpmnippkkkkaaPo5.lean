/- What holds between the rounds of the laws of posts and counters: plain numbers. No condition. -/
import Derived.Test.YtplpmnippkkkkaaPo4
namespace Go.Proofs.Ytplpmnippkkkkaa
open Go Go.RowKit
set_option linter.unusedVariables false
set_option linter.unusedSimpArgs false
/-- noughts, as many as counters -/
def zeros (n : Int) : List Int := List.replicate (min (max n 0) 100).toNat 0
def cntF (O : Nat → Int) (n : Nat) : Int := (((List.range n).filter fun j => O j == 2).length : Nat)
structure ApInv (O : Nat → Int) (n : Nat) (i : Int) (X Q : List ByteArray) (C D : List Int) : Prop where
  i0 : 0 ≤ i
  i1 : i ≤ n
  i2 : i ≤ 50
  x : X.length ≤ 5
  q : Q.length ≤ 5
  c : C.length = 3
  cb : ∀ j, 0 ≤ C.getD j 0 ∧ C.getD j 0 ≤ i
  c2 : C.getD 2 0 = cntF O i.toNat
  d : D.length = 3
  db : ∀ j, 0 ≤ D.getD j 0 ∧ D.getD j 0 ≤ i
  d0 : D.getD 0 0 = 0
def Le5 (l : List ByteArray) : Prop := l.length ≤ 5
structure CpInv (L : List Int) (k : Int) (i : Int) (C W : List Int) : Prop where
  i0 : 0 ≤ i
  i1 : i ≤ L.length
  i2 : i ≤ 300
  c : (C.length : Int) = max 0 (min k 100)
  w : W.length = 100
  eq : ∀ j : Nat, (j : Int) < max 0 (min k 100) → C.getD j 0 = W.getD j 0
  out : ∀ j : Nat, max 0 (min k 100) ≤ (j : Int) → W.getD j 0 = 0
  b : ∀ j : Nat, 0 ≤ C.getD j 0 ∧ C.getD j 0 ≤ i

theorem zeros_len (n : Int) : (zeros n).length = (min (max n 0) 100).toNat := by simp [zeros]
theorem zeros_get (n : Int) (j : Nat) : (zeros n).getD j 0 = 0 := by
  simp only [zeros, List.getD_eq_getElem?_getD, List.getElem?_replicate]
  split <;> rfl
theorem addF_len {m : Int} {l : List ByteArray} {x : ByteArray} (h : (l.length : Int) ≤ m) : ((addF m l x).length : Int) ≤ m := by
  unfold addF
  split
  · simp; omega
  · exact h
theorem oneF_len (l : List Int) (n : Int) : (oneF l n).length = l.length := by unfold oneF; split <;> simp
theorem oneF_get (l : List Int) (n : Int) (j : Nat) : (oneF l n).getD j 0 = if 0 ≤ n ∧ n < l.length ∧ j = n.toNat then l.getD j 0 + 1 else l.getD j 0 := by
  unfold oneF
  by_cases h : 0 ≤ n ∧ n < l.length
  · rw [if_pos h]
    by_cases e : j = n.toNat
    · rw [if_pos ⟨h.1, h.2, e⟩]
      subst e
      simp [List.getD_eq_getElem?_getD, show n.toNat < l.length by omega]
    · rw [if_neg (fun q => e q.2.2)]
      simp only [List.getD_eq_getElem?_getD, List.getElem?_set_ne (Ne.symm e)]
  · rw [if_neg h, if_neg (fun q => h ⟨q.1, q.2.1⟩)]
theorem cntF_zero (O : Nat → Int) : cntF O (Int.toNat 0) = 0 := rfl
theorem cntF_succ (O : Nat → Int) (n : Nat) : cntF O (n + 1) = if O n = 2 then cntF O n + 1 else cntF O n := by
  simp only [cntF, List.range_succ, List.filter_append, List.length_append]
  by_cases h : O n = 2 <;> simp [h]
theorem cntF_bd (O : Nat → Int) (n : Nat) : 0 ≤ cntF O n ∧ cntF O n ≤ n := by
  simp only [cntF]
  have := List.length_filter_le (fun j => O j == 2) (List.range n)
  simp at this
  omega
theorem ApInv.init (O : Nat → Int) (n : Nat) : ApInv O n 0 [] [] (zeros 3) (zeros 3) :=
  ⟨by omega, by omega, by omega, by simp, by simp, by rw [zeros_len]; rfl, fun j => by rw [zeros_get]; omega, by rw [zeros_get]; rfl, by rw [zeros_len]; rfl, fun j => by rw [zeros_get]; omega, zeros_get _ _⟩
theorem ApInv.step {O : Nat → Int} {n : Nat} {i x1 : Int} {X Q Q' : List ByteArray} {C D D' : List Int} {s : ByteArray} (h : ApInv O n i X Q C D) (hn : i < n) (h5 : i < 50) (hx : x1 = IntKind.i64.wrap (i + 1)) (hq : Q'.length ≤ 5) (hd : D' = D ∨ D' = oneF D 2) :
    ApInv O n x1 (addF 5 X s) Q' (oneF C (O (0 + i.toNat))) D' := by
  have i0 := h.i0
  have e : x1 = i + 1 := by rw [hx]; simp only [IntKind.wrap_i64]; omega
  subst e
  have cb := h.cb
  have db := h.db
  have hnat : (i + 1).toNat = i.toNat + 1 := by omega
  refine ⟨by omega, by omega, by omega, ?_, hq, by rw [oneF_len]; exact h.c, fun j => ?_, ?_, ?_, fun j => ?_, ?_⟩
  · have := addF_len (m := 5) (l := X) (x := s) (by have := h.x; omega)
    omega
  · have := cb j
    rw [oneF_get]
    split <;> omega
  · have := h.c2
    have hc := h.c
    rw [oneF_get, hnat, cntF_succ, Nat.zero_add, this]
    by_cases e : O i.toNat = 2
    · rw [if_pos e, if_pos ⟨by omega, by omega, by rw [e]; rfl⟩]
    · rw [if_neg e, if_neg (fun q => e (by omega))]
  · rcases hd with rfl | rfl
    · exact h.d
    · rw [oneF_len]; exact h.d
  · have := db j
    rcases hd with rfl | rfl
    · omega
    · rw [oneF_get]
      split <;> omega
  · rcases hd with rfl | rfl
    · exact h.d0
    · rw [oneF_get, if_neg (fun q => by have := q.2.2; simp at this)]
      exact h.d0
theorem CpInv.init {L : List Int} {k : Int} : CpInv L k 0 (zeros k) (List.replicate 100 0) :=
  ⟨by omega, by omega, by omega, by rw [zeros_len]; omega, by simp, fun j hj => by rw [zeros_get, List.getD_eq_getElem?_getD, List.getElem?_replicate]; split <;> rfl, fun j _ => by rw [List.getD_eq_getElem?_getD, List.getElem?_replicate]; split <;> rfl, fun j => by rw [zeros_get]; omega⟩
theorem CpInv.step_in {L C W : List Int} {k i x x1 x2 x3 v : Int} (h : CpInv L k i C W) (hx : x = min k 100) (h1 : x1 = max 0 x) (hi : i < 300) (hl : i < L.length) (v0 : 0 ≤ v) (v1 : v < x1) (h2 : x2 = IntKind.i64.wrap (W.getD v.toNat 0 + 1)) (h3 : x3 = IntKind.i64.wrap (i + 1)) :
    CpInv L k x3 (oneF C v) (W.set v.toNat x2) := by
  subst hx; subst h1
  have i0 := h.i0
  have hc := h.c
  have hw := h.w
  have hb := h.b
  have e3 : x3 = i + 1 := by rw [h3]; simp only [IntKind.wrap_i64]; omega
  subst e3
  have hbv := hb v.toNat
  have heq := h.eq v.toNat (by omega)
  rw [heq] at hbv
  have e2 : x2 = W.getD v.toNat 0 + 1 := by rw [h2]; simp only [IntKind.wrap_i64]; omega
  subst e2
  have ww : W.set v.toNat (W.getD v.toNat 0 + 1) = oneF W v := by unfold oneF; rw [if_pos ⟨v0, by omega⟩]
  rw [ww]
  refine ⟨by omega, by omega, by omega, by rw [oneF_len]; exact hc, by rw [oneF_len]; exact hw, fun j hj => ?_, fun j hj => ?_, fun j => ?_⟩
  · have := h.eq j hj
    rw [oneF_get, oneF_get, this]
    by_cases e : j = v.toNat
    · rw [if_pos ⟨v0, by omega, e⟩, if_pos ⟨v0, by omega, e⟩]
    · rw [if_neg (fun q => e q.2.2), if_neg (fun q => e q.2.2)]
  · have := h.out j hj
    rw [oneF_get, if_neg (fun q => by have := q.2.2; omega)]
    exact this
  · have := hb j
    rw [oneF_get]
    split <;> omega
theorem CpInv.step_out {L C W : List Int} {k i x x1 x3 v : Int} (h : CpInv L k i C W) (hx : x = min k 100) (h1 : x1 = max 0 x) (hi : i < 300) (hl : i < L.length) (v1 : ¬0 ≤ v ∨ ¬v < x1) (h3 : x3 = IntKind.i64.wrap (i + 1)) :
    CpInv L k x3 (oneF C v) W := by
  subst hx; subst h1
  have i0 := h.i0
  have hc := h.c
  have hb := h.b
  have e3 : x3 = i + 1 := by rw [h3]; simp only [IntKind.wrap_i64]; omega
  subst e3
  have e : oneF C v = C := by unfold oneF; rw [if_neg (by omega)]
  rw [e]
  exact ⟨by omega, by omega, by omega, hc, h.w, h.eq, h.out, fun j => by have := hb j; omega⟩
theorem cnt_step {O : Nat → Int} {n : Nat} {i c x3 x4 : Int} (h : (0 ≤ i ∧ i ≤ n ∧ i ≤ 50) ∧ c = cntF O i.toNat) (e : O (0 + i.toNat) = 2) (h3 : x3 = IntKind.i64.wrap (c + 1)) (h4 : x4 = IntKind.i64.wrap (i + 1)) : x3 = cntF O x4.toNat := by
  obtain ⟨⟨h0, h1, h2⟩, hc⟩ := h
  have hb := cntF_bd O i.toNat
  have e4 : x4 = i + 1 := by rw [h4]; simp only [IntKind.wrap_i64]; omega
  have e3 : x3 = c + 1 := by rw [h3]; simp only [IntKind.wrap_i64]; omega
  rw [Nat.zero_add] at e
  rw [e3, e4, show (i + 1).toNat = i.toNat + 1 by omega, cntF_succ, if_pos e, hc]
theorem cnt_stay {O : Nat → Int} {n : Nat} {i c x4 : Int} (h : (0 ≤ i ∧ i ≤ n ∧ i ≤ 50) ∧ c = cntF O i.toNat) (e : ¬O (0 + i.toNat) = 2) (h4 : x4 = IntKind.i64.wrap (i + 1)) : c = cntF O x4.toNat := by
  obtain ⟨⟨h0, h1, h2⟩, hc⟩ := h
  have e4 : x4 = i + 1 := by rw [h4]; simp only [IntKind.wrap_i64]; omega
  rw [Nat.zero_add] at e
  rw [e4, show (i + 1).toNat = i.toNat + 1 by omega, cntF_succ, if_neg e, hc]
theorem ap_fin {O : Nat → Int} {n : Nat} {i j c : Int} {X Q : List ByteArray} {C D : List Int} (hI : ApInv O n i X Q C D) (hi : ¬i < 50 ∨ ¬i < n) (h : (0 ≤ j ∧ j ≤ n ∧ j ≤ 50) ∧ c = cntF O j.toNat) (hj : ¬j < 50 ∨ ¬j < n) : C.getD 2 0 = c := by
  have h0 := hI.i0
  have h1 := hI.i1
  have h2 := hI.i2
  have : i = j := by omega
  subst this
  rw [hI.c2, h.2]
end Go.Proofs.Ytplpmnippkkkkaa
