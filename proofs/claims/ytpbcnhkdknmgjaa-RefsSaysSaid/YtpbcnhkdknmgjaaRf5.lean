/- The last ones, each once: plain. No program in sight. -/
import Derived.Test.YtpbcnhkdknmgjaaRf0
namespace Go.Proofs.Ytpbcnhkdknmgjaa
open Go Go.RowKit
set_option linter.unusedVariables false
set_option linter.unusedSimpArgs false
def difN (D : List Int) : List Int := D.map fun x => x.tmod 4096 + 1
def jF (l k : List Int) (p q : Int) : Prop := k.reverse = addGo l.reverse [] ∧ addGo (l.drop p.toNat).reverse [] = (k.drop q.toNat).reverse
theorem addGo_full {xs acc : List Int} (h : ¬acc.length < 256) : addGo xs acc = acc := by
  cases xs with
  | nil => rfl
  | cons x xs => simp only [addGo]; rw [if_neg h]
theorem addGo_app : ∀ (xs ys acc : List Int), addGo (xs ++ ys) acc = addGo ys (addGo xs acc)
  | [], ys, acc => rfl
  | x :: xs, ys, acc => by
    simp only [List.cons_append, addGo]
    split
    · exact addGo_app xs ys _
    · rename_i h; rw [addGo_full h]
theorem addGo_pre : ∀ (xs acc : List Int), ∃ t, addGo xs acc = acc ++ t ∧ ∀ x ∈ t, x ∈ xs
  | [], acc => ⟨[], by simp [addGo], by simp⟩
  | x :: xs, acc => by
    simp only [addGo]
    split
    · split
      · obtain ⟨t, h1, h2⟩ := addGo_pre xs acc
        exact ⟨t, h1, fun y hy => List.mem_cons_of_mem _ (h2 y hy)⟩
      · obtain ⟨t, h1, h2⟩ := addGo_pre xs (acc ++ [x])
        refine ⟨x :: t, by rw [h1]; simp, fun y hy => ?_⟩
        rcases List.mem_cons.1 hy with rfl | hy
        · exact List.mem_cons_self ..
        · exact List.mem_cons_of_mem _ (h2 y hy)
    · exact ⟨[], by simp, by simp⟩
/-- where there is room, all that came is there -/
theorem addGo_all : ∀ (xs acc : List Int), (addGo xs acc).length < 256 → ∀ x ∈ xs, x ∈ addGo xs acc
  | [], acc, _, x, hx => by cases hx
  | y :: xs, acc, h, x, hx => by
    simp only [addGo] at h ⊢
    split at h
    · rename_i hl
      rw [if_pos hl]
      rcases List.mem_cons.1 hx with rfl | hx
      · split
        · rename_i hm
          obtain ⟨t, h1, _⟩ := addGo_pre xs acc
          rw [h1]; simp [hasF] at hm; simp [hm]
        · obtain ⟨t, h1, _⟩ := addGo_pre xs (acc ++ [x])
          rw [h1]; simp
      · exact addGo_all xs _ h x hx
    · exact absurd h (by assumption)
theorem addGo_nodup : ∀ (xs acc : List Int), acc.Nodup → (addGo xs acc).Nodup
  | [], acc, h => h
  | x :: xs, acc, h => by
    simp only [addGo]
    split
    · split
      · exact addGo_nodup xs _ h
      · rename_i hm
        refine addGo_nodup xs _ ?_
        simp [hasF] at hm
        exact List.nodup_append.2 ⟨h, by simp, fun a ha b hb => by simp at hb; subst hb; rintro rfl; exact hm ha⟩
    · exact h
theorem nodup_len : ∀ (a b : List Int), a.Nodup → (∀ x ∈ a, x ∈ b) → a.length ≤ b.length
  | [], b, _, _ => Nat.zero_le _
  | x :: a, b, h, hs => by
    have hx : x ∈ b := hs x (List.mem_cons_self ..)
    have h' := List.nodup_cons.1 h
    have := nodup_len a (b.erase x) h'.2 fun y hy => (List.mem_erase_of_ne (by rintro rfl; exact h'.1 hy)).2 (hs y (List.mem_cons_of_mem _ hy))
    rw [List.length_erase_of_mem hx] at this
    have := List.length_pos_of_mem hx
    simp only [List.length_cons]; omega
/-- one more ahead: the same as from the list that was -/
theorem addGo_one (n : Int) : ∀ (r a : List Int), a.Nodup → addGo (addGo r a) [n] = addGo r (addGo a [n])
  | [], a, _ => rfl
  | x :: r, a, ha => by
    by_cases hl : a.length < 256
    · by_cases hx : x ∈ a
      · have e : hasF a x = true := by simp [hasF, hx]
        simp only [addGo, if_pos hl, if_pos e]
        rw [addGo_one n r a ha]
        by_cases hb : (addGo a [n]).length < 256
        · have : hasF (addGo a [n]) x = true := by simp only [hasF, decide_eq_true_eq]; exact addGo_all a [n] hb x hx
          rw [if_pos hb, if_pos this]
        · rw [if_neg hb, addGo_full hb]
      · have e : ¬hasF a x = true := by simp [hasF, hx]
        have hn : (a ++ [x]).Nodup := List.nodup_append.2 ⟨ha, by simp, fun y hy b hb => by simp at hb; subst hb; rintro rfl; exact hx hy⟩
        have ih := addGo_one n r (a ++ [x]) hn
        simp only [addGo, if_pos hl, if_neg e]
        rw [ih, addGo_app a [x] [n]]
        simp only [addGo]
        by_cases hb : (addGo a [n]).length < 256
        · rw [if_pos hb, if_pos hb]
        · rw [if_neg hb, if_neg hb, addGo_full hb]
    · rw [addGo_full hl]
      have hb : ¬(addGo a [n]).length < 256 := fun hb => by
        have := nodup_len a _ ha (addGo_all a [n] hb)
        omega
      rw [addGo_full hb]
theorem addGo_nil1 (n : Int) (r : List Int) : addGo (n :: r) [] = addGo r [n] := by simp [addGo, hasF]
theorem addF_last (L : List Int) (n : Int) : (addF L n).getD ((addF L n).length - 1) 0 = n ∧ 0 < (addF L n).length := by
  obtain ⟨t, h, _⟩ := addGo_pre L.reverse [n]
  have e : addF L n = t.reverse ++ [n] := by
    have e1 : addF L n = (addGo (n :: L.reverse) []).reverse := by simp [addF]
    rw [e1, addGo_nil1, h]
    simp
  rw [e]
  simp [List.getD_eq_getElem?_getD]
/-- one more at the end -/
theorem addF_step {L k : List Int} {n : Int} (h : k.reverse = addGo L.reverse []) : (addF k n).reverse = addGo (L ++ [n]).reverse [] := by
  have e1 : (addF k n).reverse = addGo (n :: k.reverse) [] := by simp [addF]
  have e2 : (L ++ [n]).reverse = n :: L.reverse := by simp
  rw [e1, e2, addGo_nil1, addGo_nil1, h, addGo_one n _ _ List.nodup_nil]
  rfl
theorem jF_end {l k : List Int} (h : k.reverse = addGo l.reverse []) : jF l k l.length k.length := by
  refine ⟨h, ?_⟩
  simp [addGo]
theorem jF_split {l k : List Int} {p q : Int} (h : jF l k p q) : addGo (l.take p.toNat).reverse (k.drop q.toNat).reverse = k.reverse := by
  rw [← h.2, ← addGo_app, ← List.reverse_append, List.take_append_drop]
  exact h.1.symm
theorem len_of {l k : List Int} (h : k.reverse = addGo l.reverse []) : k.length ≤ 256 := by
  have := addGo_len l.reverse [] (by simp)
  rw [← h] at this
  simpa using this
/-- a number that is among those already: on -/
theorem jF_skip {l k : List Int} {p q : Int} (h : jF l k (p + 1) q) (p0 : 0 ≤ p) (p1 : p < (l.length : Int)) (q0 : 0 < q) (q1 : q ≤ (k.length : Int)) (hx : l.getD p.toNat 0 ∈ l.drop (p.toNat + 1)) : jF l k p q := by
  have hk := len_of h.1
  refine ⟨h.1, ?_⟩
  have hs : (p + 1).toNat = p.toNat + 1 := by omega
  have h2 := h.2
  rw [hs] at h2
  rw [drop_cons (by omega), List.reverse_cons, addGo_app, h2]
  have hl : (k.drop q.toNat).reverse.length < 256 := by simp; omega
  have := addGo_all (l.drop (p.toNat + 1)).reverse [] (by rw [h2]; exact hl) (l.getD p.toNat 0) (by simpa using hx)
  rw [h2] at this
  simp only [addGo]
  rw [if_pos hl, if_pos (by simpa [hasF] using this)]
/-- a number that is not among them is the next one -/
theorem jF_hit {l k : List Int} {p q : Int} (h : jF l k (p + 1) (q + 1)) (p0 : 0 ≤ p) (p1 : p < (l.length : Int)) (q0 : 0 ≤ q) (q1 : q < (k.length : Int)) (hx : ¬(l.getD p.toNat 0 ∈ l.drop (p.toNat + 1))) : l.getD p.toNat 0 = k.getD q.toNat 0 ∧ jF l k p q := by
  have hk := len_of h.1
  have hs : (p + 1).toNat = p.toNat + 1 := by omega
  have hq : (q + 1).toNat = q.toNat + 1 := by omega
  have h2 := h.2
  have h3 := jF_split h
  rw [hs, hq] at h2 h3
  have hl : (k.drop (q.toNat + 1)).reverse.length < 256 := by simp; omega
  have hm : ¬ hasF (k.drop (q.toNat + 1)).reverse (l.getD p.toNat 0) = true := by
    rw [← h2]
    intro hc
    simp only [hasF, decide_eq_true_eq] at hc
    obtain ⟨t, e, ht⟩ := addGo_pre (l.drop (p.toNat + 1)).reverse []
    rw [e] at hc
    exact hx (by simpa using ht _ (by simpa using hc))
  rw [take_snoc (by omega), List.reverse_append, List.reverse_singleton, List.singleton_append] at h3
  simp only [addGo] at h3
  rw [if_pos hl, if_neg hm] at h3
  obtain ⟨t, e, _⟩ := addGo_pre (l.take p.toNat).reverse ((k.drop (q.toNat + 1)).reverse ++ [l.getD p.toNat 0])
  rw [e] at h3
  have e4 : k = t.reverse ++ (l.getD p.toNat 0 :: k.drop (q.toNat + 1)) := by
    have := congrArg List.reverse h3
    simpa using this.symm
  have hlt : t.length = q.toNat := by
    have := congrArg List.length e4
    simp at this
    omega
  have e5 : l.getD p.toNat 0 = k.getD q.toNat 0 := by
    have : k.getD q.toNat 0 = (t.reverse ++ (l.getD p.toNat 0 :: k.drop (q.toNat + 1))).getD q.toNat 0 := congrArg (fun z => z.getD q.toNat 0) e4
    rw [this]
    simp [List.getD_eq_getElem?_getD, hlt, List.getElem?_append]
  refine ⟨e5, h.1, ?_⟩
  rw [drop_cons (by omega : p.toNat < l.length), List.reverse_cons, addGo_app, h2]
  simp only [addGo]
  rw [if_pos hl, if_neg hm, drop_cons (by omega : q.toNat < k.length), List.reverse_cons, e5]
/-- there is one to be met -/
theorem jF_none {l k : List Int} {q : Int} (h : jF l k 0 (q + 1)) (q0 : 0 ≤ q) (q1 : q < (k.length : Int)) : False := by
  have := jF_split h
  have e := congrArg List.length this
  simp [addGo] at e
  omega
/-- what stands behind the one that was met is among those already -/
theorem jF_bet {l k : List Int} {p q a : Int} (h : jF l k p q) (q0 : 0 < q) (q1 : q ≤ (k.length : Int)) : betF l p a (k.drop q.toNat) = false := by
  have hk := len_of h.1
  have hl : (k.drop q.toNat).reverse.length < 256 := by simp; omega
  have := addGo_all (l.drop p.toNat).reverse [] (by rw [h.2]; exact hl)
  rw [h.2] at this
  rw [betF, Bool.eq_false_iff]
  intro hc
  obtain ⟨x, hx, hn⟩ := List.any_eq_true.1 hc
  rw [List.drop_take] at hx
  have := this x (by simpa using List.mem_of_mem_take hx)
  simp [hasF] at hn
  exact hn (by simpa using this)
/-- and at the end: where there is room all is there -/
theorem jF_last {l k : List Int} {p : Int} (h : jF l k p 0) (hk : ¬((k.length : Int) = 256)) : betF l 0 p k = false := by
  have hk' := len_of h.1
  have h3 := jF_split h
  simp only [Int.toNat_zero, List.drop_zero] at h3
  have := addGo_all (l.take p.toNat).reverse k.reverse (by rw [h3]; simp; omega)
  rw [h3] at this
  rw [betF, Bool.eq_false_iff]
  intro hc
  obtain ⟨x, hx, hn⟩ := List.any_eq_true.1 hc
  simp at hx
  have := this x (by simpa using hx)
  simp [hasF] at hn
  exact hn (by simpa using this)
theorem difN_len (D : List Int) : (difN D).length = D.length := by simp [difN]
theorem difN_snoc (D : List Int) (x : Int) : difN (D ++ [x]) = difN D ++ [x.tmod 4096 + 1] := by simp [difN]
theorem fitF_snoc (L : List Int) (n : Int) (D : List Int) (d : Int) : fitF L n (D ++ [d]) = (fitF L n D && ((decide (1 ≤ d) && decide (d ≤ 4096)) && hasF L (IntKind.u16.wrap (n - IntKind.u16.wrap d)))) := by simp [fitF, List.all_append]
end Go.Proofs.Ytpbcnhkdknmgjaa
