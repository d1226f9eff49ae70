/- The walks over the reference's functions: they answer as the program's. -/
import Derived.Test.YtbidfmlomiimnaaWalks3
namespace Go.Proofs.Ytbidfmlomiimnaa
open Go.RowKit
set_option linter.unusedSimpArgs false

set_option maxHeartbeats 400000 in
theorem rgood_any (a : Bool) (n k : Int) (w : World) : Calls Try.prog 15 #[.agg #[.bool a, .int .i64 n, .int .i64 k]] w fun x w' => x = .returned (.bool (goodB a n k)) ∧ Below w.heap.size w w' := by
  go_enter Try.func15, Try.ntmps15
  go_wp2
  all_goals go_ret
  all_goals refine ⟨?_, (Below.refl _ _).alloc (Nat.le_refl _) _⟩
  all_goals simp [goodB, srcB, *]
  all_goals first | omega | (rw [Bool.eq_iff_iff]; simp; omega)

set_option maxHeartbeats 400000 in
theorem rask_any (a : Bool) (n k i : Int) (w : World) : Calls Try.prog 12 #[.agg #[.bool a, .int .i64 n, .int .i64 k], .int .i64 i] w fun x w' =>
    x = .returned (.tuple #[.agg #[.bool a, .int .i64 n, .int .i64 (askW a n k i)], .int .i64 (askE a n k i)]) ∧ Below w.heap.size w w' := by
  cases hg : goodB a n k
  · go_enter Try.func12, Try.ntmps12
    go_wp2_with (first | (go_at_call 15; refine (rgood_any _ _ _ _).mono ?_; rintro e w1 ⟨rfl, hb⟩; obtain ⟨hc1, hf1⟩ := bk hb (w.heap.size) (by first | omega | (simp; done) | (simp; omega)); obtain ⟨hc2, hf2⟩ := bk hb (w.heap.size + 1) (by first | omega | (simp; done) | (simp; omega)); have hz_w1 : w.heap.size + 2 ≤ w1.heap.size := by (have h_ := hb.size; first | omega | (simp at h_; omega))))
    exact bodyPost_ret (v := .tuple #[.agg #[.bool a, .int .i64 n, .int .i64 (askW a n k i)], .int .i64 (askE a n k i)]) (by simp [results, Try.results12, go_sem, hc1, hc2, askW, askE, hg]) rfl ⟨rfl, (by repeat (first | exact Below.refl _ _ | refine Below.setCell ?_ (by first | omega | (simp; done) | (simp; omega)) _ | refine bal ?_ _ | refine Below.drew ?_ | refine via ?_ (by assumption)))⟩
  · by_cases c1 : i < 0
    · have hs : srcB i = false := by simp [srcB]; omega
      go_enter Try.func12, Try.ntmps12
      go_wp2_with (first | (go_at_call 15; refine (rgood_any _ _ _ _).mono ?_; rintro e w1 ⟨rfl, hb⟩; obtain ⟨hc1, hf1⟩ := bk hb (w.heap.size) (by first | omega | (simp; done) | (simp; omega)); obtain ⟨hc2, hf2⟩ := bk hb (w.heap.size + 1) (by first | omega | (simp; done) | (simp; omega)); have hz_w1 : w.heap.size + 2 ≤ w1.heap.size := by (have h_ := hb.size; first | omega | (simp at h_; omega))))
      exact bodyPost_ret (v := .tuple #[.agg #[.bool a, .int .i64 n, .int .i64 (askW a n k i)], .int .i64 (askE a n k i)]) (by simp [results, Try.results12, go_sem, hc1, hc2, askW, askE, hg, hs]) rfl ⟨rfl, (by repeat (first | exact Below.refl _ _ | refine Below.setCell ?_ (by first | omega | (simp; done) | (simp; omega)) _ | refine bal ?_ _ | refine Below.drew ?_ | refine via ?_ (by assumption)))⟩
    · by_cases c2 : 2 < i
      · have hs : srcB i = false := by simp [srcB]; omega
        go_enter Try.func12, Try.ntmps12
        go_wp2_with (first | (go_at_call 15; refine (rgood_any _ _ _ _).mono ?_; rintro e w1 ⟨rfl, hb⟩; obtain ⟨hc1, hf1⟩ := bk hb (w.heap.size) (by first | omega | (simp; done) | (simp; omega)); obtain ⟨hc2, hf2⟩ := bk hb (w.heap.size + 1) (by first | omega | (simp; done) | (simp; omega)); have hz_w1 : w.heap.size + 2 ≤ w1.heap.size := by (have h_ := hb.size; first | omega | (simp at h_; omega))))
        exact bodyPost_ret (v := .tuple #[.agg #[.bool a, .int .i64 n, .int .i64 (askW a n k i)], .int .i64 (askE a n k i)]) (by simp [results, Try.results12, go_sem, hc1, hc2, askW, askE, hg, hs]) rfl ⟨rfl, (by repeat (first | exact Below.refl _ _ | refine Below.setCell ?_ (by first | omega | (simp; done) | (simp; omega)) _ | refine bal ?_ _ | refine Below.drew ?_ | refine via ?_ (by assumption)))⟩
      · have hs : srcB i = true := by simp [srcB]; omega
        go_enter Try.func12, Try.ntmps12
        go_wp2_with (first | (go_at_call 15; refine (rgood_any _ _ _ _).mono ?_; rintro e w1 ⟨rfl, hb⟩; obtain ⟨hc1, hf1⟩ := bk hb (w.heap.size) (by first | omega | (simp; done) | (simp; omega)); obtain ⟨hc2, hf2⟩ := bk hb (w.heap.size + 1) (by first | omega | (simp; done) | (simp; omega)); have hz_w1 : w.heap.size + 2 ≤ w1.heap.size := by (have h_ := hb.size; first | omega | (simp at h_; omega))))
        exact bodyPost_ret (v := .tuple #[.agg #[.bool a, .int .i64 n, .int .i64 (askW a n k i)], .int .i64 (askE a n k i)]) (by simp [results, Try.results12, go_sem, hc1, hc2, askW, askE, hg, hs]) rfl ⟨rfl, (by repeat (first | exact Below.refl _ _ | refine Below.setCell ?_ (by first | omega | (simp; done) | (simp; omega)) _ | refine bal ?_ _ | refine Below.drew ?_ | refine via ?_ (by assumption)))⟩

theorem rlacks_any (a : Bool) (n k : Int) (w : World) : Calls Try.prog 14 #[.agg #[.bool a, .int .i64 n, .int .i64 k]] w fun x w' =>
    x = .returned (.tuple #[.int .i64 (lackI a n k), .bool (lackB a n k)]) ∧ Below w.heap.size w w' := by
  cases hg : goodB a n k
  · have e1 : lackI a n k = 0 := by simp [lackI, hg]
    have e2 : lackB a n k = false := by simp [lackB, hg]
    rw [e1, e2]
    clear e1 e2
    go_enter Try.func14, Try.ntmps14
    go_wp2_with (first | (go_at_call 15; refine (rgood_any _ _ _ _).mono ?_; rintro e w1 ⟨rfl, hb⟩; obtain ⟨hc1, hf1⟩ := bk hb (w.heap.size) (by first | omega | (simp; done) | (simp; omega)); have hz_w1 : w.heap.size + 1 ≤ w1.heap.size := by (have h_ := hb.size; first | omega | (simp at h_; omega))))
    go_ret2
    exact ⟨rfl, (by repeat (first | exact Below.refl _ _ | refine Below.setCell ?_ (by first | omega | (simp; done) | (simp; omega)) _ | refine bal ?_ _ | refine Below.drew ?_ | refine via ?_ (by assumption)))⟩
  cases a
  · have e1 : lackI false n k = k := by simp [lackI, hg]
    have e2 : lackB false n k = true := by simp [lackB, hg]
    rw [e1, e2]
    clear e1 e2
    go_enter Try.func14, Try.ntmps14
    go_wp2_with (first | (go_at_call 15; refine (rgood_any _ _ _ _).mono ?_; rintro e w1 ⟨rfl, hb⟩; obtain ⟨hc1, hf1⟩ := bk hb (w.heap.size) (by first | omega | (simp; done) | (simp; omega)); have hz_w1 : w.heap.size + 1 ≤ w1.heap.size := by (have h_ := hb.size; first | omega | (simp at h_; omega))))
    go_ret2
    exact ⟨rfl, (by repeat (first | exact Below.refl _ _ | refine Below.setCell ?_ (by first | omega | (simp; done) | (simp; omega)) _ | refine bal ?_ _ | refine Below.drew ?_ | refine via ?_ (by assumption)))⟩
  cases hn : n == k
  · have e1 : lackI true n k = k := by simp [lackI, hg, hn]
    have e2 : lackB true n k = true := by simp [lackB, hg, hn]
    rw [e1, e2]
    clear e1 e2
    go_enter Try.func14, Try.ntmps14
    go_wp2_with (first | (go_at_call 15; refine (rgood_any _ _ _ _).mono ?_; rintro e w1 ⟨rfl, hb⟩; obtain ⟨hc1, hf1⟩ := bk hb (w.heap.size) (by first | omega | (simp; done) | (simp; omega)); have hz_w1 : w.heap.size + 1 ≤ w1.heap.size := by (have h_ := hb.size; first | omega | (simp at h_; omega))))
    go_ret2
    exact ⟨rfl, (by repeat (first | exact Below.refl _ _ | refine Below.setCell ?_ (by first | omega | (simp; done) | (simp; omega)) _ | refine bal ?_ _ | refine Below.drew ?_ | refine via ?_ (by assumption)))⟩
  · have e1 : lackI true n k = 0 := by simp [lackI, hg, hn]
    have e2 : lackB true n k = false := by simp [lackB, hg, hn]
    rw [e1, e2]
    clear e1 e2
    go_enter Try.func14, Try.ntmps14
    go_wp2_with (first | (go_at_call 15; refine (rgood_any _ _ _ _).mono ?_; rintro e w1 ⟨rfl, hb⟩; obtain ⟨hc1, hf1⟩ := bk hb (w.heap.size) (by first | omega | (simp; done) | (simp; omega)); have hz_w1 : w.heap.size + 1 ≤ w1.heap.size := by (have h_ := hb.size; first | omega | (simp at h_; omega))))
    go_ret2
    exact ⟨rfl, (by repeat (first | exact Below.refl _ _ | refine Below.setCell ?_ (by first | omega | (simp; done) | (simp; omega)) _ | refine bal ?_ _ | refine Below.drew ?_ | refine via ?_ (by assumption)))⟩

end Go.Proofs.Ytbidfmlomiimnaa
