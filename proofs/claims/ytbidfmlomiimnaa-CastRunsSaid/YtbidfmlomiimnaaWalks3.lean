/- The walks over cast.On, cast.Lacks. -/
import Derived.Test.YtbidfmlomiimnaaWalks2
namespace Go.Proofs.Ytbidfmlomiimnaa
open Go.RowKit
set_option linter.unusedSimpArgs false

def onT (a : Bool) (n k i : Int) (key : Bool) : Bool := goodB a n k && i == k && key && !(a && n == i)
def onA (a : Bool) (n k i : Int) (key : Bool) : Bool := a || onT a n k i key
def onN (a : Bool) (n k i : Int) (key : Bool) : Int := if onT a n k i key then i else n
def onG (a : Bool) (n k i : Int) (key : Bool) : Bool := goodB a n k && (onT a n k i key || (a && n == i))

set_option maxHeartbeats 400000 in
theorem on_bad (a : Bool) (n k i : Int) (key : Bool) (w : World) (hg : goodB a n k = false) : Calls Try.prog 9 #[.agg #[.bool a, .int .i64 n, .int .i64 k], .int .i64 i, .bool key] w fun x w' =>
    x = .returned (.tuple #[.agg #[.bool (onA a n k i key), .int .i64 (onN a n k i key), .int .i64 k], .bool (onG a n k i key), .bool (onT a n k i key)]) ∧ Below w.heap.size w w' := by
  have e1 : onT a n k i key = false := by simp [onT, hg]
  have e2 : onA a n k i key = a := by simp [onA, e1]
  have e3 : onN a n k i key = n := by simp [onN, e1]
  have e4 : onG a n k i key = false := by simp [onG, hg]
  rw [e1, e2, e3, e4]
  clear e1 e2 e3 e4
  go_enter Try.func9, Try.ntmps9
  go_wp2_with (first | (go_at_call 11; refine (good_any _ _ _ _).mono ?_; rintro e w1 ⟨rfl, hb⟩; obtain ⟨hc1, hf1⟩ := bk hb (w.heap.size) (by first | omega | (simp; done) | (simp; omega)); obtain ⟨hc2, hf2⟩ := bk hb (w.heap.size + 1) (by first | omega | (simp; done) | (simp; omega)); have hz_w1 : w.heap.size + 2 ≤ w1.heap.size := by (have h_ := hb.size; first | omega | (simp at h_; omega))))
  exact bodyPost_ret (v := .tuple #[.agg #[.bool a, .int .i64 n, .int .i64 k], .bool false, .bool false]) (by simp [results, Try.results9, go_sem, hc1, hc2]) rfl ⟨rfl, (by repeat (first | exact Below.refl _ _ | refine Below.setCell ?_ (by first | omega | (simp; done) | (simp; omega)) _ | refine bal ?_ _ | refine Below.drew ?_ | refine via ?_ (by assumption)))⟩

set_option maxHeartbeats 400000 in
theorem on_turn (a : Bool) (n k : Int) (w : World) (hg : goodB a n k = true) (hr : (a && n == k) = false) : Calls Try.prog 9 #[.agg #[.bool a, .int .i64 n, .int .i64 k], .int .i64 k, .bool true] w fun x w' =>
    x = .returned (.tuple #[.agg #[.bool (onA a n k k true), .int .i64 (onN a n k k true), .int .i64 k], .bool (onG a n k k true), .bool (onT a n k k true)]) ∧ Below w.heap.size w w' := by
  have e1 : onT a n k k true = true := by simp [onT, hg, hr]
  have e2 : onA a n k k true = true := by simp [onA, e1]
  have e3 : onN a n k k true = k := by simp [onN, e1]
  have e4 : onG a n k k true = true := by simp [onG, hg, e1]
  rw [e1, e2, e3, e4]
  clear e1 e2 e3 e4
  go_enter Try.func9, Try.ntmps9
  go_wp2_with (first | (go_at_call 11; refine (good_any _ _ _ _).mono ?_; rintro e w1 ⟨rfl, hb⟩; obtain ⟨hc1, hf1⟩ := bk hb (w.heap.size) (by first | omega | (simp; done) | (simp; omega)); obtain ⟨hc2, hf2⟩ := bk hb (w.heap.size + 1) (by first | omega | (simp; done) | (simp; omega)); have hz_w1 : w.heap.size + 2 ≤ w1.heap.size := by (have h_ := hb.size; first | omega | (simp at h_; omega))) | (go_at_call 17; refine (runs_any _ _ _ _ _).mono ?_; rintro e w2 ⟨rfl, hb2⟩; obtain ⟨hc3, hf3⟩ := bk hb2 (w.heap.size) (by first | omega | (simp; done) | (simp; omega)); obtain ⟨hc4, hf4⟩ := bk hb2 (w.heap.size + 1) (by first | omega | (simp; done) | (simp; omega)); have hz_w2 : w.heap.size + 2 ≤ w2.heap.size := by (have h_ := hb2.size; first | omega | (simp at h_; omega))))
  exact bodyPost_ret (v := .tuple #[.agg #[.bool true, .int .i64 k, .int .i64 k], .bool true, .bool true]) (by simp [results, Try.results9, go_sem, hc1, hc2, hc3, hc4]) rfl ⟨rfl, (by repeat (first | exact Below.refl _ _ | refine Below.setCell ?_ (by first | omega | (simp; done) | (simp; omega)) _ | refine bal ?_ _ | refine Below.drew ?_ | refine via ?_ (by assumption)))⟩

set_option maxHeartbeats 400000 in
theorem on_stay1 (a : Bool) (n k i : Int) (key : Bool) (w : World) (hg : goodB a n k = true) (hi : (i == k) = false) : Calls Try.prog 9 #[.agg #[.bool a, .int .i64 n, .int .i64 k], .int .i64 i, .bool key] w fun x w' =>
    x = .returned (.tuple #[.agg #[.bool (onA a n k i key), .int .i64 (onN a n k i key), .int .i64 k], .bool (onG a n k i key), .bool (onT a n k i key)]) ∧ Below w.heap.size w w' := by
  have e1 : onT a n k i key = false := by simp [onT, hi]
  have e2 : onA a n k i key = a := by simp [onA, e1]
  have e3 : onN a n k i key = n := by simp [onN, e1]
  have e4 : onG a n k i key = (a && n == i) := by simp [onG, hg, e1]
  rw [e1, e2, e3, e4]
  clear e1 e2 e3 e4
  go_enter Try.func9, Try.ntmps9
  go_wp2_with (first | (go_at_call 11; refine (good_any _ _ _ _).mono ?_; rintro e w1 ⟨rfl, hb⟩; obtain ⟨hc1, hf1⟩ := bk hb (w.heap.size) (by first | omega | (simp; done) | (simp; omega)); obtain ⟨hc2, hf2⟩ := bk hb (w.heap.size + 1) (by first | omega | (simp; done) | (simp; omega)); have hz_w1 : w.heap.size + 2 ≤ w1.heap.size := by (have h_ := hb.size; first | omega | (simp at h_; omega))) | (go_at_call 17; refine (runs_any _ _ _ _ _).mono ?_; rintro e w2 ⟨rfl, hb2⟩; obtain ⟨hc3, hf3⟩ := bk hb2 (w.heap.size) (by first | omega | (simp; done) | (simp; omega)); obtain ⟨hc4, hf4⟩ := bk hb2 (w.heap.size + 1) (by first | omega | (simp; done) | (simp; omega)); have hz_w2 : w.heap.size + 2 ≤ w2.heap.size := by (have h_ := hb2.size; first | omega | (simp at h_; omega))))
  go_region_with (first | (go_at_call 17; refine (runs_any _ _ _ _ _).mono ?_; rintro e w2 ⟨rfl, hb2⟩; obtain ⟨hc3, hf3⟩ := bk hb2 (w.heap.size) (by first | omega | (simp; done) | (simp; omega)); obtain ⟨hc4, hf4⟩ := bk hb2 (w.heap.size + 1) (by first | omega | (simp; done) | (simp; omega)); have hz_w2 : w.heap.size + 2 ≤ w2.heap.size := by (have h_ := hb2.size; first | omega | (simp at h_; omega))))
  all_goals go_wp2
  all_goals exact bodyPost_ret (v := .tuple #[.agg #[.bool a, .int .i64 n, .int .i64 k], .bool (a && n == i), .bool false]) (by simp [results, Try.results9, go_sem, hc1, hc2, hc3, hc4]) rfl ⟨rfl, (by repeat (first | exact Below.refl _ _ | refine Below.setCell ?_ (by first | omega | (simp; done) | (simp; omega)) _ | refine bal ?_ _ | refine Below.drew ?_ | refine via ?_ (by assumption)))⟩

set_option maxHeartbeats 400000 in
theorem on_stay2 (a : Bool) (n k : Int) (w : World) (hg : goodB a n k = true) : Calls Try.prog 9 #[.agg #[.bool a, .int .i64 n, .int .i64 k], .int .i64 k, .bool false] w fun x w' =>
    x = .returned (.tuple #[.agg #[.bool (onA a n k k false), .int .i64 (onN a n k k false), .int .i64 k], .bool (onG a n k k false), .bool (onT a n k k false)]) ∧ Below w.heap.size w w' := by
  have e1 : onT a n k k false = false := by simp [onT]
  have e2 : onA a n k k false = a := by simp [onA, e1]
  have e3 : onN a n k k false = n := by simp [onN, e1]
  have e4 : onG a n k k false = (a && n == k) := by simp [onG, hg, e1]
  rw [e1, e2, e3, e4]
  clear e1 e2 e3 e4
  go_enter Try.func9, Try.ntmps9
  go_wp2_with (first | (go_at_call 11; refine (good_any _ _ _ _).mono ?_; rintro e w1 ⟨rfl, hb⟩; obtain ⟨hc1, hf1⟩ := bk hb (w.heap.size) (by first | omega | (simp; done) | (simp; omega)); obtain ⟨hc2, hf2⟩ := bk hb (w.heap.size + 1) (by first | omega | (simp; done) | (simp; omega)); have hz_w1 : w.heap.size + 2 ≤ w1.heap.size := by (have h_ := hb.size; first | omega | (simp at h_; omega))) | (go_at_call 17; refine (runs_any _ _ _ _ _).mono ?_; rintro e w2 ⟨rfl, hb2⟩; obtain ⟨hc3, hf3⟩ := bk hb2 (w.heap.size) (by first | omega | (simp; done) | (simp; omega)); obtain ⟨hc4, hf4⟩ := bk hb2 (w.heap.size + 1) (by first | omega | (simp; done) | (simp; omega)); have hz_w2 : w.heap.size + 2 ≤ w2.heap.size := by (have h_ := hb2.size; first | omega | (simp at h_; omega))))
  go_region_with (first | (go_at_call 17; refine (runs_any _ _ _ _ _).mono ?_; rintro e w2 ⟨rfl, hb2⟩; obtain ⟨hc3, hf3⟩ := bk hb2 (w.heap.size) (by first | omega | (simp; done) | (simp; omega)); obtain ⟨hc4, hf4⟩ := bk hb2 (w.heap.size + 1) (by first | omega | (simp; done) | (simp; omega)); have hz_w2 : w.heap.size + 2 ≤ w2.heap.size := by (have h_ := hb2.size; first | omega | (simp at h_; omega))))
  all_goals go_wp2
  all_goals exact bodyPost_ret (v := .tuple #[.agg #[.bool a, .int .i64 n, .int .i64 k], .bool (a && n == k), .bool false]) (by simp [results, Try.results9, go_sem, hc1, hc2, hc3, hc4]) rfl ⟨rfl, (by repeat (first | exact Below.refl _ _ | refine Below.setCell ?_ (by first | omega | (simp; done) | (simp; omega)) _ | refine bal ?_ _ | refine Below.drew ?_ | refine via ?_ (by assumption)))⟩

set_option maxHeartbeats 400000 in
theorem on_stay3 (a : Bool) (n k : Int) (w : World) (hg : goodB a n k = true) (hr : (a && n == k) = true) : Calls Try.prog 9 #[.agg #[.bool a, .int .i64 n, .int .i64 k], .int .i64 k, .bool true] w fun x w' =>
    x = .returned (.tuple #[.agg #[.bool (onA a n k k true), .int .i64 (onN a n k k true), .int .i64 k], .bool (onG a n k k true), .bool (onT a n k k true)]) ∧ Below w.heap.size w w' := by
  have e1 : onT a n k k true = false := by simp [onT, hr]
  have e2 : onA a n k k true = a := by simp [onA, e1]
  have e3 : onN a n k k true = n := by simp [onN, e1]
  have e4 : onG a n k k true = true := by simp [onG, hg, hr]
  rw [e1, e2, e3, e4]
  clear e1 e2 e3 e4
  go_enter Try.func9, Try.ntmps9
  go_wp2_with (first | (go_at_call 11; refine (good_any _ _ _ _).mono ?_; rintro e w1 ⟨rfl, hb⟩; obtain ⟨hc1, hf1⟩ := bk hb (w.heap.size) (by first | omega | (simp; done) | (simp; omega)); obtain ⟨hc2, hf2⟩ := bk hb (w.heap.size + 1) (by first | omega | (simp; done) | (simp; omega)); have hz_w1 : w.heap.size + 2 ≤ w1.heap.size := by (have h_ := hb.size; first | omega | (simp at h_; omega))) | (go_at_call 17; refine (runs_any _ _ _ _ _).mono ?_; rintro e w2 ⟨rfl, hb2⟩; obtain ⟨hc3, hf3⟩ := bk hb2 (w.heap.size) (by first | omega | (simp; done) | (simp; omega)); obtain ⟨hc4, hf4⟩ := bk hb2 (w.heap.size + 1) (by first | omega | (simp; done) | (simp; omega)); have hz_w2 : w.heap.size + 2 ≤ w2.heap.size := by (have h_ := hb2.size; first | omega | (simp at h_; omega))))
  go_region_with (first | (go_at_call 17; refine (runs_any _ _ _ _ _).mono ?_; rintro e w3 ⟨rfl, hb3⟩; obtain ⟨hc5, hf5⟩ := bk hb3 (w.heap.size) (by first | omega | (simp; done) | (simp; omega)); obtain ⟨hc6, hf6⟩ := bk hb3 (w.heap.size + 1) (by first | omega | (simp; done) | (simp; omega)); have hz_w3 : w.heap.size + 2 ≤ w3.heap.size := by (have h_ := hb3.size; first | omega | (simp at h_; omega))))
  all_goals go_wp2
  all_goals exact bodyPost_ret (v := .tuple #[.agg #[.bool a, .int .i64 n, .int .i64 k], .bool true, .bool false]) (by simp [results, Try.results9, go_sem, hc1, hc2, hc3, hc4, hc5, hc6]) rfl ⟨rfl, (by repeat (first | exact Below.refl _ _ | refine Below.setCell ?_ (by first | omega | (simp; done) | (simp; omega)) _ | refine bal ?_ _ | refine Below.drew ?_ | refine via ?_ (by assumption)))⟩

theorem on_any (a : Bool) (n k i : Int) (key : Bool) (w : World) : Calls Try.prog 9 #[.agg #[.bool a, .int .i64 n, .int .i64 k], .int .i64 i, .bool key] w fun x w' =>
    x = .returned (.tuple #[.agg #[.bool (onA a n k i key), .int .i64 (onN a n k i key), .int .i64 k], .bool (onG a n k i key), .bool (onT a n k i key)]) ∧ Below w.heap.size w w' := by
  cases hg : goodB a n k
  · exact on_bad a n k i key w hg
  · cases hi : i == k
    · exact on_stay1 a n k i key w hg hi
    · have hik : i = k := by simpa using hi
      subst hik
      cases key
      · exact on_stay2 a n i w hg
      · cases hr : (a && n == i)
        · exact on_turn a n i w hg hr
        · exact on_stay3 a n i w hg hr

def lackI (a : Bool) (n k : Int) : Int := if goodB a n k && !(a && n == k) then k else 0
def lackB (a : Bool) (n k : Int) : Bool := goodB a n k && !(a && n == k)
set_option maxHeartbeats 400000 in
theorem lacks_any (a : Bool) (n k : Int) (w : World) : Calls Try.prog 10 #[.agg #[.bool a, .int .i64 n, .int .i64 k]] w fun x w' =>
    x = .returned (.tuple #[.int .i64 (lackI a n k), .bool (lackB a n k)]) ∧ Below w.heap.size w w' := by
  cases hg : goodB a n k
  · have e1 : lackI a n k = 0 := by simp [lackI, hg]
    have e2 : lackB a n k = false := by simp [lackB, hg]
    rw [e1, e2]
    clear e1 e2
    go_enter Try.func10, Try.ntmps10
    go_wp2_with (first | (go_at_call 11; refine (good_any _ _ _ _).mono ?_; rintro e w1 ⟨rfl, hb⟩; obtain ⟨hc1, hf1⟩ := bk hb (w.heap.size) (by first | omega | (simp; done) | (simp; omega)); have hz_w1 : w.heap.size + 1 ≤ w1.heap.size := by (have h_ := hb.size; first | omega | (simp at h_; omega))) | (go_at_call 17; refine (runs_any _ _ _ _ _).mono ?_; rintro e w2 ⟨rfl, hb2⟩; obtain ⟨hc3, hf3⟩ := bk hb2 (w.heap.size) (by first | omega | (simp; done) | (simp; omega)); have hz_w2 : w.heap.size + 1 ≤ w2.heap.size := by (have h_ := hb2.size; first | omega | (simp at h_; omega))))
    go_ret2
    exact ⟨rfl, (by repeat (first | exact Below.refl _ _ | refine Below.setCell ?_ (by first | omega | (simp; done) | (simp; omega)) _ | refine bal ?_ _ | refine Below.drew ?_ | refine via ?_ (by assumption)))⟩
  cases hr : (a && n == k)
  · have e1 : lackI a n k = k := by simp [lackI, hg, hr]
    have e2 : lackB a n k = true := by simp [lackB, hg, hr]
    rw [e1, e2]
    clear e1 e2
    go_enter Try.func10, Try.ntmps10
    go_wp2_with (first | (go_at_call 11; refine (good_any _ _ _ _).mono ?_; rintro e w1 ⟨rfl, hb⟩; obtain ⟨hc1, hf1⟩ := bk hb (w.heap.size) (by first | omega | (simp; done) | (simp; omega)); have hz_w1 : w.heap.size + 1 ≤ w1.heap.size := by (have h_ := hb.size; first | omega | (simp at h_; omega))) | (go_at_call 17; refine (runs_any _ _ _ _ _).mono ?_; rintro e w2 ⟨rfl, hb2⟩; obtain ⟨hc3, hf3⟩ := bk hb2 (w.heap.size) (by first | omega | (simp; done) | (simp; omega)); have hz_w2 : w.heap.size + 1 ≤ w2.heap.size := by (have h_ := hb2.size; first | omega | (simp at h_; omega))))
    go_ret2
    exact ⟨rfl, (by repeat (first | exact Below.refl _ _ | refine Below.setCell ?_ (by first | omega | (simp; done) | (simp; omega)) _ | refine bal ?_ _ | refine Below.drew ?_ | refine via ?_ (by assumption)))⟩
  · have e1 : lackI a n k = 0 := by simp [lackI, hg, hr]
    have e2 : lackB a n k = false := by simp [lackB, hg, hr]
    rw [e1, e2]
    clear e1 e2
    go_enter Try.func10, Try.ntmps10
    go_wp2_with (first | (go_at_call 11; refine (good_any _ _ _ _).mono ?_; rintro e w1 ⟨rfl, hb⟩; obtain ⟨hc1, hf1⟩ := bk hb (w.heap.size) (by first | omega | (simp; done) | (simp; omega)); have hz_w1 : w.heap.size + 1 ≤ w1.heap.size := by (have h_ := hb.size; first | omega | (simp at h_; omega))) | (go_at_call 17; refine (runs_any _ _ _ _ _).mono ?_; rintro e w2 ⟨rfl, hb2⟩; obtain ⟨hc3, hf3⟩ := bk hb2 (w.heap.size) (by first | omega | (simp; done) | (simp; omega)); have hz_w2 : w.heap.size + 1 ≤ w2.heap.size := by (have h_ := hb2.size; first | omega | (simp at h_; omega))))
    go_ret2
    exact ⟨rfl, (by repeat (first | exact Below.refl _ _ | refine Below.setCell ?_ (by first | omega | (simp; done) | (simp; omega)) _ | refine bal ?_ _ | refine Below.drew ?_ | refine via ?_ (by assumption)))⟩
end Go.Proofs.Ytbidfmlomiimnaa
