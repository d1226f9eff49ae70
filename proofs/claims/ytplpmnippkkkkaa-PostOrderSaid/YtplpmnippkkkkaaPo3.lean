/- Counters. No condition. -/
import Derived.Test.YtplpmnippkkkkaaPo1
import Derived.Laws.LoneSync
import Derived.Laws.MakeOwn
namespace Go.Proofs.Ytplpmnippkkkkaa
open Go Go.RowKit
set_option linter.unusedVariables false
set_option linter.unusedSimpArgs false

set_option maxHeartbeats 4000000 in
theorem atomic_add (b o : Nat) (x y : Int) (w : World) (hc : w.cell? ⟨b, o, none⟩ = some (.int .i64 x)) (hz : w.frozen? ⟨b, o, none⟩ = false) :
    Calls Try.prog 27 #[.pointer (some ⟨b, o, none⟩), .int .i64 y] w fun e w' => e = .returned (.int .i64 (wrap64 (x + y))) ∧ w' = w.setCell ⟨b, o, none⟩ (.int .i64 (wrap64 (x + y))) := by
  have hd := Go.run_call_add (P := Try.prog) (f := 29) Try.func29 (by kernel_rfl) (by kernel_rfl) (by kernel_rfl) .i64 (by kernel_rfl) (y := y) (s := wrap64 (x + y)) hc hz (by simp [go_sem, IntKind.wrap_i64, wrap64])
  go_enter Try.func27, Try.ntmps27
  go_wp2
  exact bodyPost_ret (v := .int .i64 (wrap64 (x + y))) (by first | rfl | (simp [results]; done) | (simp [results]; rfl)) rfl ⟨rfl, rfl⟩
set_option maxHeartbeats 4000000 in
theorem atomic_load (b o : Nat) (x : Int) (w : World) (hc : w.cell? ⟨b, o, none⟩ = some (.int .i64 x)) :
    Calls Try.prog 28 #[.pointer (some ⟨b, o, none⟩)] w fun e w' => e = .returned (.int .i64 x) ∧ w' = w := by
  have hd := Go.run_call_load (P := Try.prog) (f := 30) Try.func30 (by kernel_rfl) (by kernel_rfl) (by kernel_rfl) .i64 (by kernel_rfl) hc
  go_enter Try.func28, Try.ntmps28
  go_wp2
  exact bodyPost_ret (v := .int .i64 x) (by first | rfl | (simp [results]; done) | (simp [results]; rfl)) rfl ⟨rfl, rfl⟩
theorem elem_63 : ∃ inf z, Try.prog.info? 63 = some inf ∧ inf.zero = some z ∧ z.cells = #[.int .i64 0] ∧ inf.size = 1 ∧ inf.bytes = 8 := by
  refine ⟨_, ((Try.prog.info? 63).getD default).zero.getD undef, (by kernel_rfl : Try.prog.info? 63 = some ((Try.prog.info? 63).getD default)), by kernel_rfl, by kernel_rfl, by kernel_rfl, by kernel_rfl⟩
theorem made63 (n : Nat) : madeCells #[Value.int .i64 0] n = ((List.replicate n (0 : Int)).map (Value.int .i64)).toArray := by
  apply Array.ext
  · simp [madeCells]
  · intro i h1 h2
    simp [madeCells, Nat.mod_one]

set_option maxHeartbeats 4000000 in
theorem new_cnt_lo (m : Int) (w : World) (h : m < 0) (m0 : -9223372036854775808 ≤ m) (m1 : m ≤ 9223372036854775807) :
    Calls Try.prog 8 #[.int .i64 m] w fun e w' => e = .returned (.pointer (some ⟨w.heap.size + 1, 0, none⟩)) ∧ w' = (w.alloc (.cells ((List.replicate (0 : Int).toNat (0 : Int)).map (Value.int .i64)).toArray 63)).alloc (.cells #[.slice (some ⟨w.heap.size, 0, none⟩) (0 : Int).toNat (0 : Int).toNat] 58) := by
  obtain ⟨inf, z, hi, hz, hzc, hs, hb⟩ := elem_63
  have hr := run_make (P := Try.prog) w 56 63 inf _ Try.underlying56 hi hz .i64 .i64 (0) (0) (by omega) (Int.le_refl _) (by rw [hb]; omega) (by omega)
  rw [hs, hzc, Nat.mul_one, made63] at hr
  go_enter Try.func8, Try.ntmps8
  go_wp2
  exact bodyPost_ret (v := .pointer (some ⟨w.heap.size + 1, 0, none⟩)) (by first | rfl | (simp [results]; done) | (simp [results]; rfl)) rfl ⟨rfl, by simp⟩

set_option maxHeartbeats 4000000 in
theorem new_cnt_mid (m : Int) (w : World) (h0 : 0 ≤ m) (h1 : m ≤ 100) (m0 : -9223372036854775808 ≤ m) (m1 : m ≤ 9223372036854775807) :
    Calls Try.prog 8 #[.int .i64 m] w fun e w' => e = .returned (.pointer (some ⟨w.heap.size + 1, 0, none⟩)) ∧ w' = (w.alloc (.cells ((List.replicate (m : Int).toNat (0 : Int)).map (Value.int .i64)).toArray 63)).alloc (.cells #[.slice (some ⟨w.heap.size, 0, none⟩) (m : Int).toNat (m : Int).toNat] 58) := by
  obtain ⟨inf, z, hi, hz, hzc, hs, hb⟩ := elem_63
  have hr := run_make (P := Try.prog) w 56 63 inf _ Try.underlying56 hi hz .i64 .i64 (m) (m) (by omega) (Int.le_refl _) (by rw [hb]; omega) (by omega)
  rw [hs, hzc, Nat.mul_one, made63] at hr
  go_enter Try.func8, Try.ntmps8
  go_wp2
  exact bodyPost_ret (v := .pointer (some ⟨w.heap.size + 1, 0, none⟩)) (by first | rfl | (simp [results]; done) | (simp [results]; rfl)) rfl ⟨rfl, by simp⟩

set_option maxHeartbeats 4000000 in
theorem new_cnt_hi (m : Int) (w : World) (h : 100 < m) (m0 : -9223372036854775808 ≤ m) (m1 : m ≤ 9223372036854775807) :
    Calls Try.prog 8 #[.int .i64 m] w fun e w' => e = .returned (.pointer (some ⟨w.heap.size + 1, 0, none⟩)) ∧ w' = (w.alloc (.cells ((List.replicate (100 : Int).toNat (0 : Int)).map (Value.int .i64)).toArray 63)).alloc (.cells #[.slice (some ⟨w.heap.size, 0, none⟩) (100 : Int).toNat (100 : Int).toNat] 58) := by
  obtain ⟨inf, z, hi, hz, hzc, hs, hb⟩ := elem_63
  have hr := run_make (P := Try.prog) w 56 63 inf _ Try.underlying56 hi hz .i64 .i64 (100) (100) (by omega) (Int.le_refl _) (by rw [hb]; omega) (by omega)
  rw [hs, hzc, Nat.mul_one, made63] at hr
  go_enter Try.func8, Try.ntmps8
  go_wp2
  exact bodyPost_ret (v := .pointer (some ⟨w.heap.size + 1, 0, none⟩)) (by first | rfl | (simp [results]; done) | (simp [results]; rfl)) rfl ⟨rfl, by simp⟩

set_option maxHeartbeats 4000000 in
theorem one_in (pb : Nat) (ao : Option Addr) (n c : Nat) (w : World) (h : w.heap[pb]? = some (.cells #[.slice ao n c] 58 (0, 0))) (g off : Nat) (ha : ao = some ⟨g, off, none⟩) (i : Int) (x : Int) (h0 : 0 ≤ i) (h1 : i < n) (hn : n ≤ 100)
    (hx : w.cell? ⟨g, off + i.toNat, none⟩ = some (.int .i64 x)) (hz : w.frozen? ⟨g, off + i.toNat, none⟩ = false) (x0 : 0 ≤ x) (x1 : x < 1000000) :
    Calls Try.prog 10 #[.pointer (some ⟨pb, 0, none⟩), .int .i64 i] w fun e w' => e = .returned (.tuple #[]) ∧ w' = w.setCell ⟨g, off + i.toNat, none⟩ (.int .i64 (x + 1)) := by
  subst ha
  have hst : StAt w pb 58 _ := ⟨h⟩
  have c0 : w.cell? ⟨pb, 0, none⟩ = some (.slice (some ⟨g, off, none⟩) n c) := hst.cell 0
  have e1 : wrap64 (x + 1) = x + 1 := by simp only [wrap64]; omega
  go_enter Try.func10, Try.ntmps10
  go_wp2_with (go_at_call 27; refine (atomic_add _ _ _ _ _ hx hz).mono ?_; rintro _ _ ⟨rfl, rfl⟩)
  go_end0
  exact ⟨rfl, rfl⟩
set_option maxHeartbeats 4000000 in
theorem one_out (pb : Nat) (ao : Option Addr) (n c : Nat) (w : World) (h : w.heap[pb]? = some (.cells #[.slice ao n c] 58 (0, 0))) (i : Int) (h0 : i < 0 ∨ (n : Int) ≤ i) (hn : n ≤ 100) :
    Calls Try.prog 10 #[.pointer (some ⟨pb, 0, none⟩), .int .i64 i] w fun e w' => e = .returned (.tuple #[]) ∧ w' = w := by
  have hst : StAt w pb 58 _ := ⟨h⟩
  have c0 : w.cell? ⟨pb, 0, none⟩ = some (.slice ao n c) := hst.cell 0
  rcases h0 with h0 | h0 <;>
  (go_enter Try.func10, Try.ntmps10
   go_wp2
   go_end0
   exact ⟨rfl, rfl⟩)
set_option maxHeartbeats 4000000 in
theorem of_in (pb : Nat) (ao : Option Addr) (n c : Nat) (w : World) (h : w.heap[pb]? = some (.cells #[.slice ao n c] 58 (0, 0))) (g off : Nat) (ha : ao = some ⟨g, off, none⟩) (i : Int) (x : Int) (h0 : 0 ≤ i) (h1 : i < n) (hn : n ≤ 100)
    (hx : w.cell? ⟨g, off + i.toNat, none⟩ = some (.int .i64 x)) :
    Calls Try.prog 11 #[.pointer (some ⟨pb, 0, none⟩), .int .i64 i] w fun e w' => e = .returned (.int .i64 x) ∧ w' = w := by
  subst ha
  have hst : StAt w pb 58 _ := ⟨h⟩
  have c0 : w.cell? ⟨pb, 0, none⟩ = some (.slice (some ⟨g, off, none⟩) n c) := hst.cell 0
  go_enter Try.func11, Try.ntmps11
  go_wp2_with (go_at_call 28; refine (atomic_load _ _ _ _ hx).mono ?_; rintro _ _ ⟨rfl, rfl⟩)
  exact bodyPost_ret (v := .int .i64 x) (by first | rfl | (simp [results]; done) | (simp [results]; rfl)) rfl ⟨rfl, rfl⟩
set_option maxHeartbeats 4000000 in
theorem of_out (pb : Nat) (ao : Option Addr) (n c : Nat) (w : World) (h : w.heap[pb]? = some (.cells #[.slice ao n c] 58 (0, 0))) (i : Int) (h0 : i < 0 ∨ (n : Int) ≤ i) (hn : n ≤ 100) :
    Calls Try.prog 11 #[.pointer (some ⟨pb, 0, none⟩), .int .i64 i] w fun e w' => e = .returned (.int .i64 0) ∧ w' = w := by
  have hst : StAt w pb 58 _ := ⟨h⟩
  have c0 : w.cell? ⟨pb, 0, none⟩ = some (.slice ao n c) := hst.cell 0
  rcases h0 with h0 | h0 <;>
  (go_enter Try.func11, Try.ntmps11
   go_wp2
   exact bodyPost_ret (v := .int .i64 0) (by first | rfl | (simp [results]; done) | (simp [results]; rfl)) rfl ⟨rfl, rfl⟩)
end Go.Proofs.Ytplpmnippkkkkaa
