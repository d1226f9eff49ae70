/- Add, where there is no room; Len. No condition. -/
import Derived.Test.YtplpmnippkkkkaaPo1
namespace Go.Proofs.Ytplpmnippkkkkaa
open Go Go.RowKit
set_option linter.unusedVariables false
set_option linter.unusedSimpArgs false
theorem elem_3 : ∃ inf, Try.prog.info? 3 = some inf ∧ (∃ z, inf.zero = some z ∧ z.cells.size = 1) ∧ inf.size = 1 ∧ inf.bytes = 8 := by
  refine ⟨_, (by kernel_rfl : Try.prog.info? 3 = some ((Try.prog.info? 3).getD default)), ⟨((Try.prog.info? 3).getD default).zero.getD undef, by kernel_rfl, by kernel_rfl⟩, by kernel_rfl, by kernel_rfl⟩
theorem elem_9 : ∃ inf, Try.prog.info? 9 = some inf ∧ (∃ z, inf.zero = some z ∧ z.cells.size = 1) ∧ inf.size = 1 ∧ inf.bytes = 16 := by
  refine ⟨_, (by kernel_rfl : Try.prog.info? 9 = some ((Try.prog.info? 9).getD default)), ⟨((Try.prog.info? 9).getD default).zero.getD undef, by kernel_rfl, by kernel_rfl⟩, by kernel_rfl, by kernel_rfl⟩
theorem elem_33 : ∃ inf, Try.prog.info? 33 = some inf ∧ (∃ z, inf.zero = some z ∧ z.cells.size = 1) ∧ inf.size = 1 ∧ inf.bytes = 24 := by
  refine ⟨_, (by kernel_rfl : Try.prog.info? 33 = some ((Try.prog.info? 33).getD default)), ⟨((Try.prog.info? 33).getD default).zero.getD undef, by kernel_rfl, by kernel_rfl⟩, by kernel_rfl, by kernel_rfl⟩

set_option maxHeartbeats 4000000 in
theorem add_int_full (pb : Nat) (most : Int) (ao : Option Addr) (n c : Nat) (w : World) (h : w.heap[pb]? = some (.cells #[.int .i64 most, .slice ao n c] 71 (0, 0))) (x : Int) (hm : most ≤ n) :
    Calls Try.prog 20 #[.pointer (some ⟨pb, 0, none⟩), (.int .i64 x)] w fun e w' => e = .returned (.bool false) ∧ Below w.heap.size w w' := by
  have hst : StAt w pb 71 _ := ⟨h⟩
  have c0 : w.cell? ⟨pb, 0, none⟩ = some (.int .i64 most) := hst.cell 0
  have c1 : w.cell? ⟨pb, 1, none⟩ = some (.slice ao n c) := hst.cell 1
  have z1 : w.frozen? ⟨pb, 1, none⟩ = false := hst.fz 1
  have z0 : w.frozen? ⟨pb, 0, none⟩ = false := hst.fz 0
  have hlt := hst.lt
  go_enter Try.func20, Try.ntmps20
  go_wp2
  go_quiet (fail)
  go_wp2
  exact bodyPost_ret (v := .bool false) (by first | rfl | (simp [results]; done) | (simp [results]; rfl)) rfl ⟨rfl, (by repeat (first | with_reducible exact Below.refl _ _ | with_reducible refine Below.drew ?_ | with_reducible refine bdn ?_ _ | with_reducible refine bal ?_ _))⟩
set_option maxHeartbeats 4000000 in
theorem len_int (pb : Nat) (most : Int) (ao : Option Addr) (n c : Nat) (w : World) (h : w.heap[pb]? = some (.cells #[.int .i64 most, .slice ao n c] 71 (0, 0))) (hn : n ≤ 1000) :
    Calls Try.prog 23 #[.pointer (some ⟨pb, 0, none⟩)] w fun e w' => e = .returned (.int .i64 n) ∧ Below w.heap.size w w' := by
  have hst : StAt w pb 71 _ := ⟨h⟩
  have c0 : w.cell? ⟨pb, 0, none⟩ = some (.int .i64 most) := hst.cell 0
  have c1 : w.cell? ⟨pb, 1, none⟩ = some (.slice ao n c) := hst.cell 1
  have z1 : w.frozen? ⟨pb, 1, none⟩ = false := hst.fz 1
  have z0 : w.frozen? ⟨pb, 0, none⟩ = false := hst.fz 0
  have hlt := hst.lt
  go_enter Try.func23, Try.ntmps23
  go_wp2
  exact bodyPost_ret (v := .int .i64 n) (by first | rfl | (simp [results]; done) | (simp [results]; rfl)) rfl ⟨rfl, (by repeat (first | with_reducible exact Below.refl _ _ | with_reducible refine Below.drew ?_ | with_reducible refine bdn ?_ _ | with_reducible refine bal ?_ _))⟩

set_option maxHeartbeats 4000000 in
theorem add_int_room (pb : Nat) (most : Int) (ao : Option Addr) (n c : Nat) (w : World) (h : w.heap[pb]? = some (.cells #[.int .i64 most, .slice ao n c] 71 (0, 0))) (x : Int) (xs : List Value) (hr : RowAt w pb ao n c xs) (hm : (n : Int) < most) (hn : n ≤ 1000) :
    Calls Try.prog 20 #[.pointer (some ⟨pb, 0, none⟩), (.int .i64 x)] w fun e w' => e = .returned (.bool true) ∧ ∃ ao' c', RowAt w' pb ao' (n + 1) c' (xs ++ [(.int .i64 x)]) ∧ Grow w ao c ao' c' ∧ Touch w w' pb ao c ∧ StAt w' pb 71 #[.int .i64 most, .slice ao' (n + 1) c'] := by
  have hst : StAt w pb 71 _ := ⟨h⟩
  have c0 : w.cell? ⟨pb, 0, none⟩ = some (.int .i64 most) := hst.cell 0
  have c1 : w.cell? ⟨pb, 1, none⟩ = some (.slice ao n c) := hst.cell 1
  have z1 : w.frozen? ⟨pb, 1, none⟩ = false := hst.fz 1
  have z0 : w.frozen? ⟨pb, 0, none⟩ = false := hst.fz 0
  have hlt := hst.lt
  obtain ⟨inf, hi, hz, h1, hby⟩ := elem_3
  obtain ⟨z, hz0, hz1⟩ := hz
  go_enter Try.func20, Try.ntmps20
  go_wp2
  go_quiet (fail)
  go_wp2_with (at_builtin; refine wpList_append_obj _ rfl _ _ 22 rfl Try.underlying22 hi hz0 hz1 h1 (pb := pb) (xs := xs) rfl (hr.below (by repeat (first | with_reducible exact Below.refl _ _ | with_reducible refine Below.drew ?_ | with_reducible refine bdn ?_ _ | with_reducible refine bal ?_ _))) (v := (.int .i64 x)) rfl ?cv rfl ?bb ?mx ?lt ?go)
  case cv => exact alloc_cell rfl
  case bb => rw [hby]; omega
  case mx => simp only [maxLen]; omega
  case lt => simp; omega
  case go =>
    intro ao' c' w1 hg1 hr1 ht1 hp1
    have hs1 : StAt w1 pb 71 _ := hp1 _ _ (hst.below (by repeat (first | with_reducible exact Below.refl _ _ | with_reducible refine Below.drew ?_ | with_reducible refine bdn ?_ _ | with_reducible refine bal ?_ _)))
    have c11 : w1.cell? ⟨pb, 1, none⟩ = some (.slice ao n c) := hs1.cell 1
    have z11 : w1.frozen? ⟨pb, 1, none⟩ = false := hs1.fz 1
    go_wp2
    exact bodyPost_ret (v := .bool true) (by first | rfl | (simp [results]; done) | (simp [results]; rfl)) rfl ⟨rfl, ao', c', hr1.same fun y _ hne => set_other _ _ _ _ hne, Grow.of_below (by repeat (first | with_reducible exact Below.refl _ _ | with_reducible refine Below.drew ?_ | with_reducible refine bdn ?_ _ | with_reducible refine bal ?_ _)) hg1, (Touch.of_below (by repeat (first | with_reducible exact Below.refl _ _ | with_reducible refine Below.drew ?_ | with_reducible refine bdn ?_ _ | with_reducible refine bal ?_ _)) ht1).set 1 _, ⟨set_at _ _ _ _ hs1.heap⟩⟩

set_option maxHeartbeats 4000000 in
theorem take_int_none (pb : Nat) (most : Int) (ao : Option Addr) (n c : Nat) (w : World) (h : w.heap[pb]? = some (.cells #[.int .i64 most, .slice ao n c] 71 (0, 0))) (hn : n = 0) :
    Calls Try.prog 22 #[.pointer (some ⟨pb, 0, none⟩)] w fun e w' => e = .returned (.tuple #[.int .i64 0, .bool false]) ∧ Below w.heap.size w w' := by
  subst hn
  have hst : StAt w pb 71 _ := ⟨h⟩
  have c0 : w.cell? ⟨pb, 0, none⟩ = some (.int .i64 most) := hst.cell 0
  have c1 : w.cell? ⟨pb, 1, none⟩ = some (.slice ao 0 c) := hst.cell 1
  have z1 : w.frozen? ⟨pb, 1, none⟩ = false := hst.fz 1
  have z0 : w.frozen? ⟨pb, 0, none⟩ = false := hst.fz 0
  have hlt := hst.lt
  go_enter Try.func22, Try.ntmps22
  go_wp2
  exact bodyPost_ret (v := .tuple #[.int .i64 0, .bool false]) (by first | rfl | (simp [results]; done) | (simp [results]; rfl)) rfl ⟨rfl, (by repeat (first | with_reducible exact Below.refl _ _ | with_reducible refine Below.drew ?_ | with_reducible refine bdn ?_ _ | with_reducible refine bal ?_ _))⟩
set_option maxHeartbeats 4000000 in
theorem take_int_some (pb : Nat) (most : Int) (ao : Option Addr) (n c : Nat) (w : World) (h : w.heap[pb]? = some (.cells #[.int .i64 most, .slice ao n c] 71 (0, 0))) (x : Int) (xs : List Value) (hr : RowAt w pb ao n c xs) (hx : xs[0]? = some (.int .i64 x)) (hn : n ≤ 1000) :
    Calls Try.prog 22 #[.pointer (some ⟨pb, 0, none⟩)] w fun e w' => e = .returned (.tuple #[(.int .i64 x), .bool true]) ∧ ∃ ao' c', RowAt w' pb ao' (n - 1) c' (xs.drop 1) ∧ Grow w ao c ao' c' ∧ Touch w w' pb ao c ∧ StAt w' pb 71 #[.int .i64 most, .slice ao' (n - 1) c'] := by
  have hn0 : 0 < n := by
    have := (List.getElem?_eq_some_iff.1 hx).1
    have := hr.len
    omega
  have hnc := hr.le
  obtain ⟨g, off, cur, tc, rfl, hg, hcur, hsz, hat⟩ := hr.row (by omega)
  have hst : StAt w pb 71 _ := ⟨h⟩
  have c0 : w.cell? ⟨pb, 0, none⟩ = some (.int .i64 most) := hst.cell 0
  have c1 : w.cell? ⟨pb, 1, none⟩ = some (.slice (some ⟨g, off, none⟩) n c) := hst.cell 1
  have z1 : w.frozen? ⟨pb, 1, none⟩ = false := hst.fz 1
  have z0 : w.frozen? ⟨pb, 0, none⟩ = false := hst.fz 0
  have hlt := hst.lt
  have cg : w.cell? ⟨g, off, none⟩ = some (.int .i64 x) := by
    have := hat 0 hn0
    rw [Nat.add_zero, hx] at this
    simp only [World.cell?, hcur]
    exact this
  go_enter Try.func22, Try.ntmps22
  go_wp2
  all_goals refine bodyPost_ret (v := .tuple #[(.int .i64 x), .bool true]) (by first | rfl | simp [results]) rfl ⟨rfl, _, _, ?_, ?_, Touch.refl.set 1 _, ⟨set_at _ _ _ _ hst.heap⟩⟩
  all_goals first
    | exact fun hc gg oo e => by cases e; exact .inr ⟨by omega, _, rfl⟩
    | refine ⟨by simp [hr.len], by omega, by have := hr.max; omega, fun hc => ?_⟩
  all_goals first
    | omega
    | exact ⟨g, off + 1, cur, tc, rfl, hg, (set_other _ _ _ _ hg).trans hcur, by omega, fun i hi => by
        have := hat (i + 1) (by omega)
        rw [show off + 1 + i = off + (i + 1) by omega, this]
        simp⟩

set_option maxHeartbeats 4000000 in
theorem clear_int (pb : Nat) (most : Int) (ao : Option Addr) (n c : Nat) (w : World) (h : w.heap[pb]? = some (.cells #[.int .i64 most, .slice ao n c] 71 (0, 0))) :
    Calls Try.prog 21 #[.pointer (some ⟨pb, 0, none⟩)] w fun e w' => e = .returned (.tuple #[]) ∧ RowAt w' pb none 0 0 [] ∧ Touch w w' pb ao c ∧ StAt w' pb 71 #[.int .i64 most, .slice none 0 0] := by
  have hst : StAt w pb 71 _ := ⟨h⟩
  have c0 : w.cell? ⟨pb, 0, none⟩ = some (.int .i64 most) := hst.cell 0
  have c1 : w.cell? ⟨pb, 1, none⟩ = some (.slice ao n c) := hst.cell 1
  have z1 : w.frozen? ⟨pb, 1, none⟩ = false := hst.fz 1
  have z0 : w.frozen? ⟨pb, 0, none⟩ = false := hst.fz 0
  have hlt := hst.lt
  go_enter Try.func21, Try.ntmps21
  go_wp2
  go_end0
  exact ⟨rfl, ⟨rfl, Nat.le_refl _, Nat.zero_le _, fun h => by omega⟩, Touch.refl.set 1 _, ⟨set_at _ _ _ _ hst.heap⟩⟩

set_option maxHeartbeats 4000000 in
theorem new_int (m : Int) (w : World) (m0 : -9223372036854775808 ≤ m) (m1 : m ≤ 9223372036854775807) :
    Calls Try.prog 18 #[.int .i64 m] w fun e w' => e = .returned (.pointer (some ⟨w.heap.size, 0, none⟩)) ∧ Below w.heap.size w w' ∧ StAt w' w.heap.size 71 #[.int .i64 (min (max m 1) 1000), .slice none 0 0] := by
  go_enter Try.func18, Try.ntmps18
  go_wp2
  all_goals refine bodyPost_ret (v := .pointer (some ⟨w.heap.size, 0, none⟩)) (by first | rfl | simp [results]) rfl ⟨rfl, (by repeat (first | with_reducible exact Below.refl _ _ | with_reducible refine Below.drew ?_ | with_reducible refine bdn ?_ _ | with_reducible refine bal ?_ _)), ⟨?_⟩⟩
  all_goals first
    | (have e : min (max m 1) 1000 = 1000 := by omega
       rw [e]; exact heap_alloc_new w _)
    | (have e : min (max m 1) 1000 = m := by omega
       rw [e]; exact heap_alloc_new w _)
    | (have e : min (max m 1) 1000 = 1 := by omega
       rw [e]; exact heap_alloc_new w _)

set_option maxHeartbeats 4000000 in
theorem add_str_full (pb : Nat) (most : Int) (ao : Option Addr) (n c : Nat) (w : World) (h : w.heap[pb]? = some (.cells #[.int .i64 most, .slice ao n c] 69 (0, 0))) (x : ByteArray) (hm : most ≤ n) :
    Calls Try.prog 19 #[.pointer (some ⟨pb, 0, none⟩), (.string x)] w fun e w' => e = .returned (.bool false) ∧ Below w.heap.size w w' := by
  have hst : StAt w pb 69 _ := ⟨h⟩
  have c0 : w.cell? ⟨pb, 0, none⟩ = some (.int .i64 most) := hst.cell 0
  have c1 : w.cell? ⟨pb, 1, none⟩ = some (.slice ao n c) := hst.cell 1
  have z1 : w.frozen? ⟨pb, 1, none⟩ = false := hst.fz 1
  have z0 : w.frozen? ⟨pb, 0, none⟩ = false := hst.fz 0
  have hlt := hst.lt
  go_enter Try.func19, Try.ntmps19
  go_wp2
  go_quiet (fail)
  go_wp2
  exact bodyPost_ret (v := .bool false) (by first | rfl | (simp [results]; done) | (simp [results]; rfl)) rfl ⟨rfl, (by repeat (first | with_reducible exact Below.refl _ _ | with_reducible refine Below.drew ?_ | with_reducible refine bdn ?_ _ | with_reducible refine bal ?_ _))⟩
set_option maxHeartbeats 4000000 in
theorem len_str (pb : Nat) (most : Int) (ao : Option Addr) (n c : Nat) (w : World) (h : w.heap[pb]? = some (.cells #[.int .i64 most, .slice ao n c] 69 (0, 0))) (hn : n ≤ 1000) :
    Calls Try.prog 24 #[.pointer (some ⟨pb, 0, none⟩)] w fun e w' => e = .returned (.int .i64 n) ∧ Below w.heap.size w w' := by
  have hst : StAt w pb 69 _ := ⟨h⟩
  have c0 : w.cell? ⟨pb, 0, none⟩ = some (.int .i64 most) := hst.cell 0
  have c1 : w.cell? ⟨pb, 1, none⟩ = some (.slice ao n c) := hst.cell 1
  have z1 : w.frozen? ⟨pb, 1, none⟩ = false := hst.fz 1
  have z0 : w.frozen? ⟨pb, 0, none⟩ = false := hst.fz 0
  have hlt := hst.lt
  go_enter Try.func24, Try.ntmps24
  go_wp2
  exact bodyPost_ret (v := .int .i64 n) (by first | rfl | (simp [results]; done) | (simp [results]; rfl)) rfl ⟨rfl, (by repeat (first | with_reducible exact Below.refl _ _ | with_reducible refine Below.drew ?_ | with_reducible refine bdn ?_ _ | with_reducible refine bal ?_ _))⟩

set_option maxHeartbeats 4000000 in
theorem add_str_room (pb : Nat) (most : Int) (ao : Option Addr) (n c : Nat) (w : World) (h : w.heap[pb]? = some (.cells #[.int .i64 most, .slice ao n c] 69 (0, 0))) (x : ByteArray) (xs : List Value) (hr : RowAt w pb ao n c xs) (hm : (n : Int) < most) (hn : n ≤ 1000) :
    Calls Try.prog 19 #[.pointer (some ⟨pb, 0, none⟩), (.string x)] w fun e w' => e = .returned (.bool true) ∧ ∃ ao' c', RowAt w' pb ao' (n + 1) c' (xs ++ [(.string x)]) ∧ Grow w ao c ao' c' ∧ Touch w w' pb ao c ∧ StAt w' pb 69 #[.int .i64 most, .slice ao' (n + 1) c'] := by
  have hst : StAt w pb 69 _ := ⟨h⟩
  have c0 : w.cell? ⟨pb, 0, none⟩ = some (.int .i64 most) := hst.cell 0
  have c1 : w.cell? ⟨pb, 1, none⟩ = some (.slice ao n c) := hst.cell 1
  have z1 : w.frozen? ⟨pb, 1, none⟩ = false := hst.fz 1
  have z0 : w.frozen? ⟨pb, 0, none⟩ = false := hst.fz 0
  have hlt := hst.lt
  obtain ⟨inf, hi, hz, h1, hby⟩ := elem_9
  obtain ⟨z, hz0, hz1⟩ := hz
  go_enter Try.func19, Try.ntmps19
  go_wp2
  go_quiet (fail)
  go_wp2_with (at_builtin; refine wpList_append_obj _ rfl _ _ 49 rfl Try.underlying49 hi hz0 hz1 h1 (pb := pb) (xs := xs) rfl (hr.below (by repeat (first | with_reducible exact Below.refl _ _ | with_reducible refine Below.drew ?_ | with_reducible refine bdn ?_ _ | with_reducible refine bal ?_ _))) (v := (.string x)) rfl ?cv rfl ?bb ?mx ?lt ?go)
  case cv => exact alloc_cell rfl
  case bb => rw [hby]; omega
  case mx => simp only [maxLen]; omega
  case lt => simp; omega
  case go =>
    intro ao' c' w1 hg1 hr1 ht1 hp1
    have hs1 : StAt w1 pb 69 _ := hp1 _ _ (hst.below (by repeat (first | with_reducible exact Below.refl _ _ | with_reducible refine Below.drew ?_ | with_reducible refine bdn ?_ _ | with_reducible refine bal ?_ _)))
    have c11 : w1.cell? ⟨pb, 1, none⟩ = some (.slice ao n c) := hs1.cell 1
    have z11 : w1.frozen? ⟨pb, 1, none⟩ = false := hs1.fz 1
    go_wp2
    exact bodyPost_ret (v := .bool true) (by first | rfl | (simp [results]; done) | (simp [results]; rfl)) rfl ⟨rfl, ao', c', hr1.same fun y _ hne => set_other _ _ _ _ hne, Grow.of_below (by repeat (first | with_reducible exact Below.refl _ _ | with_reducible refine Below.drew ?_ | with_reducible refine bdn ?_ _ | with_reducible refine bal ?_ _)) hg1, (Touch.of_below (by repeat (first | with_reducible exact Below.refl _ _ | with_reducible refine Below.drew ?_ | with_reducible refine bdn ?_ _ | with_reducible refine bal ?_ _)) ht1).set 1 _, ⟨set_at _ _ _ _ hs1.heap⟩⟩

set_option maxHeartbeats 4000000 in
theorem take_str_none (pb : Nat) (most : Int) (ao : Option Addr) (n c : Nat) (w : World) (h : w.heap[pb]? = some (.cells #[.int .i64 most, .slice ao n c] 69 (0, 0))) (hn : n = 0) :
    Calls Try.prog 25 #[.pointer (some ⟨pb, 0, none⟩)] w fun e w' => e = .returned (.tuple #[.string ByteArray.empty, .bool false]) ∧ Below w.heap.size w w' := by
  subst hn
  have hst : StAt w pb 69 _ := ⟨h⟩
  have c0 : w.cell? ⟨pb, 0, none⟩ = some (.int .i64 most) := hst.cell 0
  have c1 : w.cell? ⟨pb, 1, none⟩ = some (.slice ao 0 c) := hst.cell 1
  have z1 : w.frozen? ⟨pb, 1, none⟩ = false := hst.fz 1
  have z0 : w.frozen? ⟨pb, 0, none⟩ = false := hst.fz 0
  have hlt := hst.lt
  go_enter Try.func25, Try.ntmps25
  go_wp2
  exact bodyPost_ret (v := .tuple #[.string ByteArray.empty, .bool false]) (by first | rfl | (simp [results]; done) | (simp [results]; rfl)) rfl ⟨rfl, (by repeat (first | with_reducible exact Below.refl _ _ | with_reducible refine Below.drew ?_ | with_reducible refine bdn ?_ _ | with_reducible refine bal ?_ _))⟩
set_option maxHeartbeats 4000000 in
theorem take_str_some (pb : Nat) (most : Int) (ao : Option Addr) (n c : Nat) (w : World) (h : w.heap[pb]? = some (.cells #[.int .i64 most, .slice ao n c] 69 (0, 0))) (x : ByteArray) (xs : List Value) (hr : RowAt w pb ao n c xs) (hx : xs[0]? = some (.string x)) (hn : n ≤ 1000) :
    Calls Try.prog 25 #[.pointer (some ⟨pb, 0, none⟩)] w fun e w' => e = .returned (.tuple #[(.string x), .bool true]) ∧ ∃ ao' c', RowAt w' pb ao' (n - 1) c' (xs.drop 1) ∧ Grow w ao c ao' c' ∧ Touch w w' pb ao c ∧ StAt w' pb 69 #[.int .i64 most, .slice ao' (n - 1) c'] := by
  have hn0 : 0 < n := by
    have := (List.getElem?_eq_some_iff.1 hx).1
    have := hr.len
    omega
  have hnc := hr.le
  obtain ⟨g, off, cur, tc, rfl, hg, hcur, hsz, hat⟩ := hr.row (by omega)
  have hst : StAt w pb 69 _ := ⟨h⟩
  have c0 : w.cell? ⟨pb, 0, none⟩ = some (.int .i64 most) := hst.cell 0
  have c1 : w.cell? ⟨pb, 1, none⟩ = some (.slice (some ⟨g, off, none⟩) n c) := hst.cell 1
  have z1 : w.frozen? ⟨pb, 1, none⟩ = false := hst.fz 1
  have z0 : w.frozen? ⟨pb, 0, none⟩ = false := hst.fz 0
  have hlt := hst.lt
  have cg : w.cell? ⟨g, off, none⟩ = some (.string x) := by
    have := hat 0 hn0
    rw [Nat.add_zero, hx] at this
    simp only [World.cell?, hcur]
    exact this
  go_enter Try.func25, Try.ntmps25
  go_wp2
  all_goals refine bodyPost_ret (v := .tuple #[(.string x), .bool true]) (by first | rfl | simp [results]) rfl ⟨rfl, _, _, ?_, ?_, Touch.refl.set 1 _, ⟨set_at _ _ _ _ hst.heap⟩⟩
  all_goals first
    | exact fun hc gg oo e => by cases e; exact .inr ⟨by omega, _, rfl⟩
    | refine ⟨by simp [hr.len], by omega, by have := hr.max; omega, fun hc => ?_⟩
  all_goals first
    | omega
    | exact ⟨g, off + 1, cur, tc, rfl, hg, (set_other _ _ _ _ hg).trans hcur, by omega, fun i hi => by
        have := hat (i + 1) (by omega)
        rw [show off + 1 + i = off + (i + 1) by omega, this]
        simp⟩

set_option maxHeartbeats 4000000 in
theorem clear_str (pb : Nat) (most : Int) (ao : Option Addr) (n c : Nat) (w : World) (h : w.heap[pb]? = some (.cells #[.int .i64 most, .slice ao n c] 69 (0, 0))) :
    Calls Try.prog 26 #[.pointer (some ⟨pb, 0, none⟩)] w fun e w' => e = .returned (.tuple #[]) ∧ RowAt w' pb none 0 0 [] ∧ Touch w w' pb ao c ∧ StAt w' pb 69 #[.int .i64 most, .slice none 0 0] := by
  have hst : StAt w pb 69 _ := ⟨h⟩
  have c0 : w.cell? ⟨pb, 0, none⟩ = some (.int .i64 most) := hst.cell 0
  have c1 : w.cell? ⟨pb, 1, none⟩ = some (.slice ao n c) := hst.cell 1
  have z1 : w.frozen? ⟨pb, 1, none⟩ = false := hst.fz 1
  have z0 : w.frozen? ⟨pb, 0, none⟩ = false := hst.fz 0
  have hlt := hst.lt
  go_enter Try.func26, Try.ntmps26
  go_wp2
  go_end0
  exact ⟨rfl, ⟨rfl, Nat.le_refl _, Nat.zero_le _, fun h => by omega⟩, Touch.refl.set 1 _, ⟨set_at _ _ _ _ hst.heap⟩⟩

set_option maxHeartbeats 4000000 in
theorem new_str (m : Int) (w : World) (m0 : -9223372036854775808 ≤ m) (m1 : m ≤ 9223372036854775807) :
    Calls Try.prog 17 #[.int .i64 m] w fun e w' => e = .returned (.pointer (some ⟨w.heap.size, 0, none⟩)) ∧ Below w.heap.size w w' ∧ StAt w' w.heap.size 69 #[.int .i64 (min (max m 1) 1000), .slice none 0 0] := by
  go_enter Try.func17, Try.ntmps17
  go_wp2
  all_goals refine bodyPost_ret (v := .pointer (some ⟨w.heap.size, 0, none⟩)) (by first | rfl | simp [results]) rfl ⟨rfl, (by repeat (first | with_reducible exact Below.refl _ _ | with_reducible refine Below.drew ?_ | with_reducible refine bdn ?_ _ | with_reducible refine bal ?_ _)), ⟨?_⟩⟩
  all_goals first
    | (have e : min (max m 1) 1000 = 1000 := by omega
       rw [e]; exact heap_alloc_new w _)
    | (have e : min (max m 1) 1000 = m := by omega
       rw [e]; exact heap_alloc_new w _)
    | (have e : min (max m 1) 1000 = 1 := by omega
       rw [e]; exact heap_alloc_new w _)

set_option maxHeartbeats 4000000 in
theorem add_row_full (pb : Nat) (most : Int) (ao : Option Addr) (n c : Nat) (w : World) (h : w.heap[pb]? = some (.cells #[.int .i64 most, .slice ao n c] 67 (0, 0))) (xa : Option Addr) (xn xc : Nat) (hm : most ≤ n) :
    Calls Try.prog 13 #[.pointer (some ⟨pb, 0, none⟩), (.slice xa xn xc)] w fun e w' => e = .returned (.bool false) ∧ Below w.heap.size w w' := by
  have hst : StAt w pb 67 _ := ⟨h⟩
  have c0 : w.cell? ⟨pb, 0, none⟩ = some (.int .i64 most) := hst.cell 0
  have c1 : w.cell? ⟨pb, 1, none⟩ = some (.slice ao n c) := hst.cell 1
  have z1 : w.frozen? ⟨pb, 1, none⟩ = false := hst.fz 1
  have z0 : w.frozen? ⟨pb, 0, none⟩ = false := hst.fz 0
  have hlt := hst.lt
  go_enter Try.func13, Try.ntmps13
  go_wp2
  go_quiet (fail)
  go_wp2
  exact bodyPost_ret (v := .bool false) (by first | rfl | (simp [results]; done) | (simp [results]; rfl)) rfl ⟨rfl, (by repeat (first | with_reducible exact Below.refl _ _ | with_reducible refine Below.drew ?_ | with_reducible refine bdn ?_ _ | with_reducible refine bal ?_ _))⟩
set_option maxHeartbeats 4000000 in
theorem len_row (pb : Nat) (most : Int) (ao : Option Addr) (n c : Nat) (w : World) (h : w.heap[pb]? = some (.cells #[.int .i64 most, .slice ao n c] 67 (0, 0))) (hn : n ≤ 1000) :
    Calls Try.prog 16 #[.pointer (some ⟨pb, 0, none⟩)] w fun e w' => e = .returned (.int .i64 n) ∧ Below w.heap.size w w' := by
  have hst : StAt w pb 67 _ := ⟨h⟩
  have c0 : w.cell? ⟨pb, 0, none⟩ = some (.int .i64 most) := hst.cell 0
  have c1 : w.cell? ⟨pb, 1, none⟩ = some (.slice ao n c) := hst.cell 1
  have z1 : w.frozen? ⟨pb, 1, none⟩ = false := hst.fz 1
  have z0 : w.frozen? ⟨pb, 0, none⟩ = false := hst.fz 0
  have hlt := hst.lt
  go_enter Try.func16, Try.ntmps16
  go_wp2
  exact bodyPost_ret (v := .int .i64 n) (by first | rfl | (simp [results]; done) | (simp [results]; rfl)) rfl ⟨rfl, (by repeat (first | with_reducible exact Below.refl _ _ | with_reducible refine Below.drew ?_ | with_reducible refine bdn ?_ _ | with_reducible refine bal ?_ _))⟩

set_option maxHeartbeats 4000000 in
theorem add_row_room (pb : Nat) (most : Int) (ao : Option Addr) (n c : Nat) (w : World) (h : w.heap[pb]? = some (.cells #[.int .i64 most, .slice ao n c] 67 (0, 0))) (xa : Option Addr) (xn xc : Nat) (xs : List Value) (hr : RowAt w pb ao n c xs) (hm : (n : Int) < most) (hn : n ≤ 1000) :
    Calls Try.prog 13 #[.pointer (some ⟨pb, 0, none⟩), (.slice xa xn xc)] w fun e w' => e = .returned (.bool true) ∧ ∃ ao' c', RowAt w' pb ao' (n + 1) c' (xs ++ [(.slice xa xn xc)]) ∧ Grow w ao c ao' c' ∧ Touch w w' pb ao c ∧ StAt w' pb 67 #[.int .i64 most, .slice ao' (n + 1) c'] := by
  have hst : StAt w pb 67 _ := ⟨h⟩
  have c0 : w.cell? ⟨pb, 0, none⟩ = some (.int .i64 most) := hst.cell 0
  have c1 : w.cell? ⟨pb, 1, none⟩ = some (.slice ao n c) := hst.cell 1
  have z1 : w.frozen? ⟨pb, 1, none⟩ = false := hst.fz 1
  have z0 : w.frozen? ⟨pb, 0, none⟩ = false := hst.fz 0
  have hlt := hst.lt
  obtain ⟨inf, hi, hz, h1, hby⟩ := elem_33
  obtain ⟨z, hz0, hz1⟩ := hz
  go_enter Try.func13, Try.ntmps13
  go_wp2
  go_quiet (fail)
  go_wp2_with (at_builtin; refine wpList_append_obj _ rfl _ _ 30 rfl Try.underlying30 hi hz0 hz1 h1 (pb := pb) (xs := xs) rfl (hr.below (by repeat (first | with_reducible exact Below.refl _ _ | with_reducible refine Below.drew ?_ | with_reducible refine bdn ?_ _ | with_reducible refine bal ?_ _))) (v := (.slice xa xn xc)) rfl ?cv rfl ?bb ?mx ?lt ?go)
  case cv => exact alloc_cell rfl
  case bb => rw [hby]; omega
  case mx => simp only [maxLen]; omega
  case lt => simp; omega
  case go =>
    intro ao' c' w1 hg1 hr1 ht1 hp1
    have hs1 : StAt w1 pb 67 _ := hp1 _ _ (hst.below (by repeat (first | with_reducible exact Below.refl _ _ | with_reducible refine Below.drew ?_ | with_reducible refine bdn ?_ _ | with_reducible refine bal ?_ _)))
    have c11 : w1.cell? ⟨pb, 1, none⟩ = some (.slice ao n c) := hs1.cell 1
    have z11 : w1.frozen? ⟨pb, 1, none⟩ = false := hs1.fz 1
    go_wp2
    exact bodyPost_ret (v := .bool true) (by first | rfl | (simp [results]; done) | (simp [results]; rfl)) rfl ⟨rfl, ao', c', hr1.same fun y _ hne => set_other _ _ _ _ hne, Grow.of_below (by repeat (first | with_reducible exact Below.refl _ _ | with_reducible refine Below.drew ?_ | with_reducible refine bdn ?_ _ | with_reducible refine bal ?_ _)) hg1, (Touch.of_below (by repeat (first | with_reducible exact Below.refl _ _ | with_reducible refine Below.drew ?_ | with_reducible refine bdn ?_ _ | with_reducible refine bal ?_ _)) ht1).set 1 _, ⟨set_at _ _ _ _ hs1.heap⟩⟩

set_option maxHeartbeats 4000000 in
theorem take_row_none (pb : Nat) (most : Int) (ao : Option Addr) (n c : Nat) (w : World) (h : w.heap[pb]? = some (.cells #[.int .i64 most, .slice ao n c] 67 (0, 0))) (hn : n = 0) :
    Calls Try.prog 14 #[.pointer (some ⟨pb, 0, none⟩)] w fun e w' => e = .returned (.tuple #[.slice none 0 0, .bool false]) ∧ Below w.heap.size w w' := by
  subst hn
  have hst : StAt w pb 67 _ := ⟨h⟩
  have c0 : w.cell? ⟨pb, 0, none⟩ = some (.int .i64 most) := hst.cell 0
  have c1 : w.cell? ⟨pb, 1, none⟩ = some (.slice ao 0 c) := hst.cell 1
  have z1 : w.frozen? ⟨pb, 1, none⟩ = false := hst.fz 1
  have z0 : w.frozen? ⟨pb, 0, none⟩ = false := hst.fz 0
  have hlt := hst.lt
  go_enter Try.func14, Try.ntmps14
  go_wp2
  exact bodyPost_ret (v := .tuple #[.slice none 0 0, .bool false]) (by first | rfl | (simp [results]; done) | (simp [results]; rfl)) rfl ⟨rfl, (by repeat (first | with_reducible exact Below.refl _ _ | with_reducible refine Below.drew ?_ | with_reducible refine bdn ?_ _ | with_reducible refine bal ?_ _))⟩
set_option maxHeartbeats 4000000 in
theorem take_row_some (pb : Nat) (most : Int) (ao : Option Addr) (n c : Nat) (w : World) (h : w.heap[pb]? = some (.cells #[.int .i64 most, .slice ao n c] 67 (0, 0))) (xa : Option Addr) (xn xc : Nat) (xs : List Value) (hr : RowAt w pb ao n c xs) (hx : xs[0]? = some (.slice xa xn xc)) (hn : n ≤ 1000) :
    Calls Try.prog 14 #[.pointer (some ⟨pb, 0, none⟩)] w fun e w' => e = .returned (.tuple #[(.slice xa xn xc), .bool true]) ∧ ∃ ao' c', RowAt w' pb ao' (n - 1) c' (xs.drop 1) ∧ Grow w ao c ao' c' ∧ Touch w w' pb ao c ∧ StAt w' pb 67 #[.int .i64 most, .slice ao' (n - 1) c'] := by
  have hn0 : 0 < n := by
    have := (List.getElem?_eq_some_iff.1 hx).1
    have := hr.len
    omega
  have hnc := hr.le
  obtain ⟨g, off, cur, tc, rfl, hg, hcur, hsz, hat⟩ := hr.row (by omega)
  have hst : StAt w pb 67 _ := ⟨h⟩
  have c0 : w.cell? ⟨pb, 0, none⟩ = some (.int .i64 most) := hst.cell 0
  have c1 : w.cell? ⟨pb, 1, none⟩ = some (.slice (some ⟨g, off, none⟩) n c) := hst.cell 1
  have z1 : w.frozen? ⟨pb, 1, none⟩ = false := hst.fz 1
  have z0 : w.frozen? ⟨pb, 0, none⟩ = false := hst.fz 0
  have hlt := hst.lt
  have cg : w.cell? ⟨g, off, none⟩ = some (.slice xa xn xc) := by
    have := hat 0 hn0
    rw [Nat.add_zero, hx] at this
    simp only [World.cell?, hcur]
    exact this
  go_enter Try.func14, Try.ntmps14
  go_wp2
  all_goals refine bodyPost_ret (v := .tuple #[(.slice xa xn xc), .bool true]) (by first | rfl | simp [results]) rfl ⟨rfl, _, _, ?_, ?_, Touch.refl.set 1 _, ⟨set_at _ _ _ _ hst.heap⟩⟩
  all_goals first
    | exact fun hc gg oo e => by cases e; exact .inr ⟨by omega, _, rfl⟩
    | refine ⟨by simp [hr.len], by omega, by have := hr.max; omega, fun hc => ?_⟩
  all_goals first
    | omega
    | exact ⟨g, off + 1, cur, tc, rfl, hg, (set_other _ _ _ _ hg).trans hcur, by omega, fun i hi => by
        have := hat (i + 1) (by omega)
        rw [show off + 1 + i = off + (i + 1) by omega, this]
        simp⟩

set_option maxHeartbeats 4000000 in
theorem new_row (m : Int) (w : World) (m0 : -9223372036854775808 ≤ m) (m1 : m ≤ 9223372036854775807) :
    Calls Try.prog 12 #[.int .i64 m] w fun e w' => e = .returned (.pointer (some ⟨w.heap.size, 0, none⟩)) ∧ Below w.heap.size w w' ∧ StAt w' w.heap.size 67 #[.int .i64 (min (max m 1) 1000), .slice none 0 0] := by
  go_enter Try.func12, Try.ntmps12
  go_wp2
  all_goals refine bodyPost_ret (v := .pointer (some ⟨w.heap.size, 0, none⟩)) (by first | rfl | simp [results]) rfl ⟨rfl, (by repeat (first | with_reducible exact Below.refl _ _ | with_reducible refine Below.drew ?_ | with_reducible refine bdn ?_ _ | with_reducible refine bal ?_ _)), ⟨?_⟩⟩
  all_goals first
    | (have e : min (max m 1) 1000 = 1000 := by omega
       rw [e]; exact heap_alloc_new w _)
    | (have e : min (max m 1) 1000 = m := by omega
       rw [e]; exact heap_alloc_new w _)
    | (have e : min (max m 1) 1000 = 1 := by omega
       rw [e]; exact heap_alloc_new w _)
end Go.Proofs.Ytplpmnippkkkkaa
