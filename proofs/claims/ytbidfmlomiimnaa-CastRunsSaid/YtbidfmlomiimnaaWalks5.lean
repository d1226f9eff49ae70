/- The walk over the reference's On. -/
import Derived.Test.YtbidfmlomiimnaaWalks4
import Derived.RegionTactic
namespace Go.Proofs.Ytbidfmlomiimnaa
open Go.RowKit
set_option linter.unusedSimpArgs false

set_option maxHeartbeats 400000 in
theorem ron_bad (a : Bool) (n k i : Int) (key : Bool) (hg : goodB a n k = false) (w : World) : Calls Try.prog 13 #[.agg #[.bool a, .int .i64 n, .int .i64 k], .int .i64 i, .bool key] w fun x w' =>
    x = .returned (.tuple #[.agg #[.bool (onA a n k i key), .int .i64 (onN a n k i key), .int .i64 k], .bool (onG a n k i key), .bool (onT a n k i key)]) ∧ Below w.heap.size w w' := by
  have e1 : onT a n k i key = false := by simp [onT, hg]
  have e2 : onA a n k i key = a := by simp [onA, e1]
  have e3 : onN a n k i key = n := by simp [onN, e1]
  have e4 : onG a n k i key = false := by simp [onG, e1, hg]
  rw [e1, e2, e3, e4]
  clear e1 e2 e3 e4
  go_enter Try.func13, Try.ntmps13
  go_wp2_with (first | (go_at_call 15; refine (rgood_any _ _ _ _).mono ?_; rintro e w1 ⟨rfl, hb⟩; obtain ⟨hc1, hf1⟩ := bk hb (w.heap.size) (by first | omega | (simp; done) | (simp; omega)); obtain ⟨hc2, hf2⟩ := bk hb (w.heap.size + 1) (by first | omega | (simp; done) | (simp; omega)); have hz_w1 : w.heap.size + 2 ≤ w1.heap.size := by (have h_ := hb.size; first | omega | (simp at h_; omega))))
  first | exact bodyPost_ret (v := .tuple #[.agg #[.bool (a), .int .i64 (n), .int .i64 k], .bool (false), .bool (false)]) (by simp [results, Try.results13, go_sem, hc1, hc2]) rfl ⟨rfl, (by repeat (first | exact Below.refl _ _ | refine Below.setCell ?_ (by first | omega | (simp; done) | (simp; omega)) _ | refine bal ?_ _ | refine Below.drew ?_ | refine via ?_ (by assumption)))⟩ | (go_region; all_goals go_wp2; all_goals exact bodyPost_ret (v := .tuple #[.agg #[.bool (a), .int .i64 (n), .int .i64 k], .bool (false), .bool (false)]) (by simp [results, Try.results13, go_sem, hc1, hc2]) rfl ⟨rfl, (by repeat (first | exact Below.refl _ _ | refine Below.setCell ?_ (by first | omega | (simp; done) | (simp; omega)) _ | refine bal ?_ _ | refine Below.drew ?_ | refine via ?_ (by assumption)))⟩)

set_option maxHeartbeats 400000 in
theorem ron_o1 (n k i : Int) (key : Bool) (hg : goodB false n k = true) (hi : (i == k) = false) (w : World) : Calls Try.prog 13 #[.agg #[.bool false, .int .i64 n, .int .i64 k], .int .i64 i, .bool key] w fun x w' =>
    x = .returned (.tuple #[.agg #[.bool (onA false n k i key), .int .i64 (onN false n k i key), .int .i64 k], .bool (onG false n k i key), .bool (onT false n k i key)]) ∧ Below w.heap.size w w' := by
  have e1 : onT false n k i key = false := by simp [onT, hg, hi]
  have e2 : onA false n k i key = false := by simp [onA, e1]
  have e3 : onN false n k i key = n := by simp [onN, e1]
  have e4 : onG false n k i key = false := by simp [onG, e1, hg, hi]
  rw [e1, e2, e3, e4]
  clear e1 e2 e3 e4
  go_enter Try.func13, Try.ntmps13
  go_wp2_with (first | (go_at_call 15; refine (rgood_any _ _ _ _).mono ?_; rintro e w1 ⟨rfl, hb⟩; obtain ⟨hc1, hf1⟩ := bk hb (w.heap.size) (by first | omega | (simp; done) | (simp; omega)); obtain ⟨hc2, hf2⟩ := bk hb (w.heap.size + 1) (by first | omega | (simp; done) | (simp; omega)); have hz_w1 : w.heap.size + 2 ≤ w1.heap.size := by (have h_ := hb.size; first | omega | (simp at h_; omega))))
  first | exact bodyPost_ret (v := .tuple #[.agg #[.bool (false), .int .i64 (n), .int .i64 k], .bool (false), .bool (false)]) (by simp [results, Try.results13, go_sem, hc1, hc2]) rfl ⟨rfl, (by repeat (first | exact Below.refl _ _ | refine Below.setCell ?_ (by first | omega | (simp; done) | (simp; omega)) _ | refine bal ?_ _ | refine Below.drew ?_ | refine via ?_ (by assumption)))⟩ | (go_region; all_goals go_wp2; all_goals exact bodyPost_ret (v := .tuple #[.agg #[.bool (false), .int .i64 (n), .int .i64 k], .bool (false), .bool (false)]) (by simp [results, Try.results13, go_sem, hc1, hc2]) rfl ⟨rfl, (by repeat (first | exact Below.refl _ _ | refine Below.setCell ?_ (by first | omega | (simp; done) | (simp; omega)) _ | refine bal ?_ _ | refine Below.drew ?_ | refine via ?_ (by assumption)))⟩)

set_option maxHeartbeats 400000 in
theorem ron_o2 (n k i : Int) (key : Bool) (hg : goodB true n k = true) (hi : (i == k) = false) (hn : (i == n) = false) (hn2 : (n == i) = false) (w : World) : Calls Try.prog 13 #[.agg #[.bool true, .int .i64 n, .int .i64 k], .int .i64 i, .bool key] w fun x w' =>
    x = .returned (.tuple #[.agg #[.bool (onA true n k i key), .int .i64 (onN true n k i key), .int .i64 k], .bool (onG true n k i key), .bool (onT true n k i key)]) ∧ Below w.heap.size w w' := by
  have e1 : onT true n k i key = false := by simp [onT, hg, hi, hn2]
  have e2 : onA true n k i key = true := by simp [onA, e1]
  have e3 : onN true n k i key = n := by simp [onN, e1]
  have e4 : onG true n k i key = false := by simp [onG, e1, hg, hi, hn2]
  rw [e1, e2, e3, e4]
  clear e1 e2 e3 e4
  go_enter Try.func13, Try.ntmps13
  go_wp2_with (first | (go_at_call 15; refine (rgood_any _ _ _ _).mono ?_; rintro e w1 ⟨rfl, hb⟩; obtain ⟨hc1, hf1⟩ := bk hb (w.heap.size) (by first | omega | (simp; done) | (simp; omega)); obtain ⟨hc2, hf2⟩ := bk hb (w.heap.size + 1) (by first | omega | (simp; done) | (simp; omega)); have hz_w1 : w.heap.size + 2 ≤ w1.heap.size := by (have h_ := hb.size; first | omega | (simp at h_; omega))))
  first | exact bodyPost_ret (v := .tuple #[.agg #[.bool (true), .int .i64 (n), .int .i64 k], .bool (false), .bool (false)]) (by simp [results, Try.results13, go_sem, hc1, hc2]) rfl ⟨rfl, (by repeat (first | exact Below.refl _ _ | refine Below.setCell ?_ (by first | omega | (simp; done) | (simp; omega)) _ | refine bal ?_ _ | refine Below.drew ?_ | refine via ?_ (by assumption)))⟩ | (go_region; all_goals go_wp2; all_goals exact bodyPost_ret (v := .tuple #[.agg #[.bool (true), .int .i64 (n), .int .i64 k], .bool (false), .bool (false)]) (by simp [results, Try.results13, go_sem, hc1, hc2]) rfl ⟨rfl, (by repeat (first | exact Below.refl _ _ | refine Below.setCell ?_ (by first | omega | (simp; done) | (simp; omega)) _ | refine bal ?_ _ | refine Below.drew ?_ | refine via ?_ (by assumption)))⟩)

set_option maxHeartbeats 400000 in
theorem ron_o3 (n k : Int) (key : Bool) (hg : goodB true n k = true) (hi : (n == k) = false) (w : World) : Calls Try.prog 13 #[.agg #[.bool true, .int .i64 n, .int .i64 k], .int .i64 n, .bool key] w fun x w' =>
    x = .returned (.tuple #[.agg #[.bool (onA true n k n key), .int .i64 (onN true n k n key), .int .i64 k], .bool (onG true n k n key), .bool (onT true n k n key)]) ∧ Below w.heap.size w w' := by
  have e1 : onT true n k n key = false := by simp [onT, hg, hi]
  have e2 : onA true n k n key = true := by simp [onA, e1]
  have e3 : onN true n k n key = n := by simp [onN, e1]
  have e4 : onG true n k n key = true := by simp [onG, e1, hg, hi]
  rw [e1, e2, e3, e4]
  clear e1 e2 e3 e4
  go_enter Try.func13, Try.ntmps13
  go_wp2_with (first | (go_at_call 15; refine (rgood_any _ _ _ _).mono ?_; rintro e w1 ⟨rfl, hb⟩; obtain ⟨hc1, hf1⟩ := bk hb (w.heap.size) (by first | omega | (simp; done) | (simp; omega)); obtain ⟨hc2, hf2⟩ := bk hb (w.heap.size + 1) (by first | omega | (simp; done) | (simp; omega)); have hz_w1 : w.heap.size + 2 ≤ w1.heap.size := by (have h_ := hb.size; first | omega | (simp at h_; omega))))
  first | exact bodyPost_ret (v := .tuple #[.agg #[.bool (true), .int .i64 (n), .int .i64 k], .bool (true), .bool (false)]) (by simp [results, Try.results13, go_sem, hc1, hc2]) rfl ⟨rfl, (by repeat (first | exact Below.refl _ _ | refine Below.setCell ?_ (by first | omega | (simp; done) | (simp; omega)) _ | refine bal ?_ _ | refine Below.drew ?_ | refine via ?_ (by assumption)))⟩ | (go_region; all_goals go_wp2; all_goals exact bodyPost_ret (v := .tuple #[.agg #[.bool (true), .int .i64 (n), .int .i64 k], .bool (true), .bool (false)]) (by simp [results, Try.results13, go_sem, hc1, hc2]) rfl ⟨rfl, (by repeat (first | exact Below.refl _ _ | refine Below.setCell ?_ (by first | omega | (simp; done) | (simp; omega)) _ | refine bal ?_ _ | refine Below.drew ?_ | refine via ?_ (by assumption)))⟩)

set_option maxHeartbeats 400000 in
theorem ron_n1 (n k : Int) (hg : goodB false n k = true) (w : World) : Calls Try.prog 13 #[.agg #[.bool false, .int .i64 n, .int .i64 k], .int .i64 k, .bool false] w fun x w' =>
    x = .returned (.tuple #[.agg #[.bool (onA false n k k false), .int .i64 (onN false n k k false), .int .i64 k], .bool (onG false n k k false), .bool (onT false n k k false)]) ∧ Below w.heap.size w w' := by
  have e1 : onT false n k k false = false := by simp [onT, hg]
  have e2 : onA false n k k false = false := by simp [onA, e1]
  have e3 : onN false n k k false = n := by simp [onN, e1]
  have e4 : onG false n k k false = false := by simp [onG, e1, hg]
  rw [e1, e2, e3, e4]
  clear e1 e2 e3 e4
  go_enter Try.func13, Try.ntmps13
  go_wp2_with (first | (go_at_call 15; refine (rgood_any _ _ _ _).mono ?_; rintro e w1 ⟨rfl, hb⟩; obtain ⟨hc1, hf1⟩ := bk hb (w.heap.size) (by first | omega | (simp; done) | (simp; omega)); obtain ⟨hc2, hf2⟩ := bk hb (w.heap.size + 1) (by first | omega | (simp; done) | (simp; omega)); have hz_w1 : w.heap.size + 2 ≤ w1.heap.size := by (have h_ := hb.size; first | omega | (simp at h_; omega))))
  first | exact bodyPost_ret (v := .tuple #[.agg #[.bool (false), .int .i64 (n), .int .i64 k], .bool (false), .bool (false)]) (by simp [results, Try.results13, go_sem, hc1, hc2]) rfl ⟨rfl, (by repeat (first | exact Below.refl _ _ | refine Below.setCell ?_ (by first | omega | (simp; done) | (simp; omega)) _ | refine bal ?_ _ | refine Below.drew ?_ | refine via ?_ (by assumption)))⟩ | (go_region; all_goals go_wp2; all_goals exact bodyPost_ret (v := .tuple #[.agg #[.bool (false), .int .i64 (n), .int .i64 k], .bool (false), .bool (false)]) (by simp [results, Try.results13, go_sem, hc1, hc2]) rfl ⟨rfl, (by repeat (first | exact Below.refl _ _ | refine Below.setCell ?_ (by first | omega | (simp; done) | (simp; omega)) _ | refine bal ?_ _ | refine Below.drew ?_ | refine via ?_ (by assumption)))⟩)

set_option maxHeartbeats 400000 in
theorem ron_n2 (n k : Int) (hg : goodB true n k = true) (hn : (k == n) = false) (hn2 : (n == k) = false) (w : World) : Calls Try.prog 13 #[.agg #[.bool true, .int .i64 n, .int .i64 k], .int .i64 k, .bool false] w fun x w' =>
    x = .returned (.tuple #[.agg #[.bool (onA true n k k false), .int .i64 (onN true n k k false), .int .i64 k], .bool (onG true n k k false), .bool (onT true n k k false)]) ∧ Below w.heap.size w w' := by
  have e1 : onT true n k k false = false := by simp [onT, hg, hn2]
  have e2 : onA true n k k false = true := by simp [onA, e1]
  have e3 : onN true n k k false = n := by simp [onN, e1]
  have e4 : onG true n k k false = false := by simp [onG, e1, hg, hn2]
  rw [e1, e2, e3, e4]
  clear e1 e2 e3 e4
  go_enter Try.func13, Try.ntmps13
  go_wp2_with (first | (go_at_call 15; refine (rgood_any _ _ _ _).mono ?_; rintro e w1 ⟨rfl, hb⟩; obtain ⟨hc1, hf1⟩ := bk hb (w.heap.size) (by first | omega | (simp; done) | (simp; omega)); obtain ⟨hc2, hf2⟩ := bk hb (w.heap.size + 1) (by first | omega | (simp; done) | (simp; omega)); have hz_w1 : w.heap.size + 2 ≤ w1.heap.size := by (have h_ := hb.size; first | omega | (simp at h_; omega))))
  first | exact bodyPost_ret (v := .tuple #[.agg #[.bool (true), .int .i64 (n), .int .i64 k], .bool (false), .bool (false)]) (by simp [results, Try.results13, go_sem, hc1, hc2]) rfl ⟨rfl, (by repeat (first | exact Below.refl _ _ | refine Below.setCell ?_ (by first | omega | (simp; done) | (simp; omega)) _ | refine bal ?_ _ | refine Below.drew ?_ | refine via ?_ (by assumption)))⟩ | (go_region; all_goals go_wp2; all_goals exact bodyPost_ret (v := .tuple #[.agg #[.bool (true), .int .i64 (n), .int .i64 k], .bool (false), .bool (false)]) (by simp [results, Try.results13, go_sem, hc1, hc2]) rfl ⟨rfl, (by repeat (first | exact Below.refl _ _ | refine Below.setCell ?_ (by first | omega | (simp; done) | (simp; omega)) _ | refine bal ?_ _ | refine Below.drew ?_ | refine via ?_ (by assumption)))⟩)

set_option maxHeartbeats 400000 in
theorem ron_n3 (n : Int) (hg : goodB true n n = true) (w : World) : Calls Try.prog 13 #[.agg #[.bool true, .int .i64 n, .int .i64 n], .int .i64 n, .bool false] w fun x w' =>
    x = .returned (.tuple #[.agg #[.bool (onA true n n n false), .int .i64 (onN true n n n false), .int .i64 n], .bool (onG true n n n false), .bool (onT true n n n false)]) ∧ Below w.heap.size w w' := by
  have e1 : onT true n n n false = false := by simp [onT, hg]
  have e2 : onA true n n n false = true := by simp [onA, e1]
  have e3 : onN true n n n false = n := by simp [onN, e1]
  have e4 : onG true n n n false = true := by simp [onG, e1, hg]
  rw [e1, e2, e3, e4]
  clear e1 e2 e3 e4
  go_enter Try.func13, Try.ntmps13
  go_wp2_with (first | (go_at_call 15; refine (rgood_any _ _ _ _).mono ?_; rintro e w1 ⟨rfl, hb⟩; obtain ⟨hc1, hf1⟩ := bk hb (w.heap.size) (by first | omega | (simp; done) | (simp; omega)); obtain ⟨hc2, hf2⟩ := bk hb (w.heap.size + 1) (by first | omega | (simp; done) | (simp; omega)); have hz_w1 : w.heap.size + 2 ≤ w1.heap.size := by (have h_ := hb.size; first | omega | (simp at h_; omega))))
  first | exact bodyPost_ret (v := .tuple #[.agg #[.bool (true), .int .i64 (n), .int .i64 n], .bool (true), .bool (false)]) (by simp [results, Try.results13, go_sem, hc1, hc2]) rfl ⟨rfl, (by repeat (first | exact Below.refl _ _ | refine Below.setCell ?_ (by first | omega | (simp; done) | (simp; omega)) _ | refine bal ?_ _ | refine Below.drew ?_ | refine via ?_ (by assumption)))⟩ | (go_region; all_goals go_wp2; all_goals exact bodyPost_ret (v := .tuple #[.agg #[.bool (true), .int .i64 (n), .int .i64 n], .bool (true), .bool (false)]) (by simp [results, Try.results13, go_sem, hc1, hc2]) rfl ⟨rfl, (by repeat (first | exact Below.refl _ _ | refine Below.setCell ?_ (by first | omega | (simp; done) | (simp; omega)) _ | refine bal ?_ _ | refine Below.drew ?_ | refine via ?_ (by assumption)))⟩)

set_option maxHeartbeats 400000 in
theorem ron_k1 (n k : Int) (hg : goodB false n k = true) (w : World) : Calls Try.prog 13 #[.agg #[.bool false, .int .i64 n, .int .i64 k], .int .i64 k, .bool true] w fun x w' =>
    x = .returned (.tuple #[.agg #[.bool (onA false n k k true), .int .i64 (onN false n k k true), .int .i64 k], .bool (onG false n k k true), .bool (onT false n k k true)]) ∧ Below w.heap.size w w' := by
  have e1 : onT false n k k true = true := by simp [onT, hg]
  have e2 : onA false n k k true = true := by simp [onA, e1]
  have e3 : onN false n k k true = k := by simp [onN, e1]
  have e4 : onG false n k k true = true := by simp [onG, e1, hg]
  rw [e1, e2, e3, e4]
  clear e1 e2 e3 e4
  go_enter Try.func13, Try.ntmps13
  go_wp2_with (first | (go_at_call 15; refine (rgood_any _ _ _ _).mono ?_; rintro e w1 ⟨rfl, hb⟩; obtain ⟨hc1, hf1⟩ := bk hb (w.heap.size) (by first | omega | (simp; done) | (simp; omega)); obtain ⟨hc2, hf2⟩ := bk hb (w.heap.size + 1) (by first | omega | (simp; done) | (simp; omega)); have hz_w1 : w.heap.size + 2 ≤ w1.heap.size := by (have h_ := hb.size; first | omega | (simp at h_; omega))))
  first | exact bodyPost_ret (v := .tuple #[.agg #[.bool (true), .int .i64 (k), .int .i64 k], .bool (true), .bool (true)]) (by simp [results, Try.results13, go_sem, hc1, hc2]) rfl ⟨rfl, (by repeat (first | exact Below.refl _ _ | refine Below.setCell ?_ (by first | omega | (simp; done) | (simp; omega)) _ | refine bal ?_ _ | refine Below.drew ?_ | refine via ?_ (by assumption)))⟩ | (go_region; all_goals go_wp2; all_goals exact bodyPost_ret (v := .tuple #[.agg #[.bool (true), .int .i64 (k), .int .i64 k], .bool (true), .bool (true)]) (by simp [results, Try.results13, go_sem, hc1, hc2]) rfl ⟨rfl, (by repeat (first | exact Below.refl _ _ | refine Below.setCell ?_ (by first | omega | (simp; done) | (simp; omega)) _ | refine bal ?_ _ | refine Below.drew ?_ | refine via ?_ (by assumption)))⟩)

set_option maxHeartbeats 400000 in
theorem ron_k2 (n k : Int) (hg : goodB true n k = true) (hn : (n != k) = true) (hn2 : (n == k) = false) (w : World) : Calls Try.prog 13 #[.agg #[.bool true, .int .i64 n, .int .i64 k], .int .i64 k, .bool true] w fun x w' =>
    x = .returned (.tuple #[.agg #[.bool (onA true n k k true), .int .i64 (onN true n k k true), .int .i64 k], .bool (onG true n k k true), .bool (onT true n k k true)]) ∧ Below w.heap.size w w' := by
  have e1 : onT true n k k true = true := by simp [onT, hg, hn2]
  have e2 : onA true n k k true = true := by simp [onA, e1]
  have e3 : onN true n k k true = k := by simp [onN, e1]
  have e4 : onG true n k k true = true := by simp [onG, e1, hg, hn2]
  rw [e1, e2, e3, e4]
  clear e1 e2 e3 e4
  go_enter Try.func13, Try.ntmps13
  go_wp2_with (first | (go_at_call 15; refine (rgood_any _ _ _ _).mono ?_; rintro e w1 ⟨rfl, hb⟩; obtain ⟨hc1, hf1⟩ := bk hb (w.heap.size) (by first | omega | (simp; done) | (simp; omega)); obtain ⟨hc2, hf2⟩ := bk hb (w.heap.size + 1) (by first | omega | (simp; done) | (simp; omega)); have hz_w1 : w.heap.size + 2 ≤ w1.heap.size := by (have h_ := hb.size; first | omega | (simp at h_; omega))))
  first | exact bodyPost_ret (v := .tuple #[.agg #[.bool (true), .int .i64 (k), .int .i64 k], .bool (true), .bool (true)]) (by simp [results, Try.results13, go_sem, hc1, hc2]) rfl ⟨rfl, (by repeat (first | exact Below.refl _ _ | refine Below.setCell ?_ (by first | omega | (simp; done) | (simp; omega)) _ | refine bal ?_ _ | refine Below.drew ?_ | refine via ?_ (by assumption)))⟩ | (go_region; all_goals go_wp2; all_goals exact bodyPost_ret (v := .tuple #[.agg #[.bool (true), .int .i64 (k), .int .i64 k], .bool (true), .bool (true)]) (by simp [results, Try.results13, go_sem, hc1, hc2]) rfl ⟨rfl, (by repeat (first | exact Below.refl _ _ | refine Below.setCell ?_ (by first | omega | (simp; done) | (simp; omega)) _ | refine bal ?_ _ | refine Below.drew ?_ | refine via ?_ (by assumption)))⟩)

set_option maxHeartbeats 400000 in
theorem ron_k3 (n : Int) (hg : goodB true n n = true) (w : World) : Calls Try.prog 13 #[.agg #[.bool true, .int .i64 n, .int .i64 n], .int .i64 n, .bool true] w fun x w' =>
    x = .returned (.tuple #[.agg #[.bool (onA true n n n true), .int .i64 (onN true n n n true), .int .i64 n], .bool (onG true n n n true), .bool (onT true n n n true)]) ∧ Below w.heap.size w w' := by
  have e1 : onT true n n n true = false := by simp [onT, hg]
  have e2 : onA true n n n true = true := by simp [onA, e1]
  have e3 : onN true n n n true = n := by simp [onN, e1]
  have e4 : onG true n n n true = true := by simp [onG, e1, hg]
  rw [e1, e2, e3, e4]
  clear e1 e2 e3 e4
  go_enter Try.func13, Try.ntmps13
  go_wp2_with (first | (go_at_call 15; refine (rgood_any _ _ _ _).mono ?_; rintro e w1 ⟨rfl, hb⟩; obtain ⟨hc1, hf1⟩ := bk hb (w.heap.size) (by first | omega | (simp; done) | (simp; omega)); obtain ⟨hc2, hf2⟩ := bk hb (w.heap.size + 1) (by first | omega | (simp; done) | (simp; omega)); have hz_w1 : w.heap.size + 2 ≤ w1.heap.size := by (have h_ := hb.size; first | omega | (simp at h_; omega))))
  first | exact bodyPost_ret (v := .tuple #[.agg #[.bool (true), .int .i64 (n), .int .i64 n], .bool (true), .bool (false)]) (by simp [results, Try.results13, go_sem, hc1, hc2]) rfl ⟨rfl, (by repeat (first | exact Below.refl _ _ | refine Below.setCell ?_ (by first | omega | (simp; done) | (simp; omega)) _ | refine bal ?_ _ | refine Below.drew ?_ | refine via ?_ (by assumption)))⟩ | (go_region; all_goals go_wp2; all_goals exact bodyPost_ret (v := .tuple #[.agg #[.bool (true), .int .i64 (n), .int .i64 n], .bool (true), .bool (false)]) (by simp [results, Try.results13, go_sem, hc1, hc2]) rfl ⟨rfl, (by repeat (first | exact Below.refl _ _ | refine Below.setCell ?_ (by first | omega | (simp; done) | (simp; omega)) _ | refine bal ?_ _ | refine Below.drew ?_ | refine via ?_ (by assumption)))⟩)

theorem ron_any (a : Bool) (n k i : Int) (key : Bool) (w : World) : Calls Try.prog 13 #[.agg #[.bool a, .int .i64 n, .int .i64 k], .int .i64 i, .bool key] w fun x w' =>
    x = .returned (.tuple #[.agg #[.bool (onA a n k i key), .int .i64 (onN a n k i key), .int .i64 k], .bool (onG a n k i key), .bool (onT a n k i key)]) ∧ Below w.heap.size w w' := by
  cases hg : goodB a n k
  · exact ron_bad a n k i key hg w
  · by_cases hi : i = k
    · subst hi
      cases key <;> cases a
      · exact ron_n1 n i hg w
      · by_cases hn : n = i
        · subst hn; exact ron_n3 n hg w
        · exact ron_n2 n i hg (by simpa using Ne.symm hn) (by simpa using hn) w
      · exact ron_k1 n i hg w
      · by_cases hn : n = i
        · subst hn; exact ron_k3 n hg w
        · exact ron_k2 n i hg (by simpa using hn) (by simpa using hn) w
    · cases a
      · exact ron_o1 n k i key hg (by simpa using hi) w
      · by_cases hn : n = i
        · subst hn; exact ron_o3 n k key hg (by simpa using hi) w
        · exact ron_o2 n k i key hg (by simpa using hi) (by simpa using Ne.symm hn) (by simpa using hn) w
end Go.Proofs.Ytbidfmlomiimnaa
