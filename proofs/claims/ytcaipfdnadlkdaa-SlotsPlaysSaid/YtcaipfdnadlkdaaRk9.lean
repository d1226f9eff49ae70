/- The walks over the reference's Ack, Late. -/
import Derived.Test.YtcaipfdnadlkdaaRk8
namespace Go.Proofs.Ytcaipfdnadlkdaa
open Go.RowKit
set_option linter.unusedSimpArgs false
set_option linter.unusedVariables false

set_option maxHeartbeats 4000000 in
theorem rack_any (ep : Int) (op : Bool) (nx nd hv bn : Int) (i e : Int) (w : World) (b0 : -9223372036854775808 ≤ hv) (b1 : hv ≤ 9223372036854775807) : Calls Try.prog 24 #[.agg #[.int .i64 ep, .bool op, .int .i64 nx, .int .i64 nd, .int .i64 hv, .int .i64 bn], .int .i64 i, .int .i64 e] w fun x w' => x = .returned (.tuple #[.agg #[.int .i64 ((ackF ⟨ep, op, nx, nd, hv, bn⟩ i e).1).ep, .bool ((ackF ⟨ep, op, nx, nd, hv, bn⟩ i e).1).op, .int .i64 ((ackF ⟨ep, op, nx, nd, hv, bn⟩ i e).1).nx, .int .i64 ((ackF ⟨ep, op, nx, nd, hv, bn⟩ i e).1).nd, .int .i64 ((ackF ⟨ep, op, nx, nd, hv, bn⟩ i e).1).hv, .int .i64 ((ackF ⟨ep, op, nx, nd, hv, bn⟩ i e).1).bn], .bool (ackF ⟨ep, op, nx, nd, hv, bn⟩ i e).2.1, .int .i64 (ackF ⟨ep, op, nx, nd, hv, bn⟩ i e).2.2]) ∧ Below w.heap.size w w' := by
  cases hg : goodS ⟨ep, op, nx, nd, hv, bn⟩
  · have e : ackF ⟨ep, op, nx, nd, hv, bn⟩ i e = (⟨ep, op, nx, nd, hv, bn⟩, false, 1) := by simp [ackF, hg]
    rw [e]
    try dsimp only
    clear e
    go_enter Try.func24, Try.ntmps24
    go_wp2_with (first | (go_at_call 25; refine (rgood_any _ _ _ _ _ _ _ b0 b1).mono ?_; rintro e w2 ⟨rfl, hb2⟩; have hz_w2 : w.heap.size + 2 ≤ w2.heap.size := (by have h_ := hb2.size; first | omega | (simp at h_; omega)); obtain ⟨hc1, hf1⟩ := bk hb2 (w.heap.size) (by first | omega | (simp; done) | (simp; omega)); have hs1 : w.heap.size < w2.heap.size := (by omega); obtain ⟨hc2, hf2⟩ := bk hb2 (w.heap.size + 1) (by first | omega | (simp; done) | (simp; omega)); have hs2 : w.heap.size + 1 < w2.heap.size := (by omega)))
    exact bodyPost_ret (v := .tuple #[.agg #[.int .i64 ep, .bool op, .int .i64 nx, .int .i64 nd, .int .i64 hv, .int .i64 bn], .bool false, .int .i64 1]) (by simp [results, Try.results24, go_sem, hc1, hc2]) rfl ⟨rfl, (by repeat (first | with_reducible exact Below.refl _ _ | (with_reducible refine Below.setCell ?_ (by first | omega | (simp; done) | (simp; omega)) _) | with_reducible refine bal ?_ _ | with_reducible refine Below.drew ?_ | with_reducible refine bdn ?_ _ | with_reducible refine via ?_ (by with_reducible assumption)))⟩
  cases hs : slB i
  · have e : ackF ⟨ep, op, nx, nd, hv, bn⟩ i e = (⟨ep, op, nx, nd, hv, bn⟩, false, 1) := by simp [ackF, hs]
    rw [e]
    try dsimp only
    clear e
    simp [slB] at hs
    have hin : decide (0 ≤ i ∧ i ≤ 7) = false := by (simp; omega)
    have HIN := Lib.hid hin
    clear hin
    clear hs
    go_enter Try.func24, Try.ntmps24
    go_wp2_with (first | (go_at_call 25; refine (rgood_any _ _ _ _ _ _ _ b0 b1).mono ?_; rintro e w2 ⟨rfl, hb2⟩; have hz_w2 : w.heap.size + 2 ≤ w2.heap.size := (by have h_ := hb2.size; first | omega | (simp at h_; omega)); obtain ⟨hc1, hf1⟩ := bk hb2 (w.heap.size) (by first | omega | (simp; done) | (simp; omega)); have hs1 : w.heap.size < w2.heap.size := (by omega); obtain ⟨hc2, hf2⟩ := bk hb2 (w.heap.size + 1) (by first | omega | (simp; done) | (simp; omega)); have hs2 : w.heap.size + 1 < w2.heap.size := (by omega)) | (go_at_call 58; refine (in_val _ _ _ _ _ HIN.out).mono ?_; rintro e w' ⟨rfl, rfl⟩))
    exact bodyPost_ret (v := .tuple #[.agg #[.int .i64 ep, .bool op, .int .i64 nx, .int .i64 nd, .int .i64 hv, .int .i64 bn], .bool false, .int .i64 1]) (by simp [results, Try.results24, go_sem, hc1, hc2]) rfl ⟨rfl, (by repeat (first | with_reducible exact Below.refl _ _ | (with_reducible refine Below.setCell ?_ (by first | omega | (simp; done) | (simp; omega)) _) | with_reducible refine bal ?_ _ | with_reducible refine Below.drew ?_ | with_reducible refine bdn ?_ _ | with_reducible refine via ?_ (by with_reducible assumption)))⟩
  have hs' : 0 ≤ i ∧ i < 8 := by simpa [slB] using hs
  obtain ⟨i0, i1⟩ := hs'
  have hp := pow_small i i0 i1
  cases op
  · have e : ackF ⟨ep, false, nx, nd, hv, bn⟩ i e = (⟨ep, false, nx, nd, hv, bn⟩, false, 12) := by simp [ackF, hg, hs]
    rw [e]
    try dsimp only
    clear e
    have hin : decide (0 ≤ i ∧ i ≤ 7) = true := by (simp; omega)
    have HIN := Lib.hid hin
    clear hin
    have hu : IntKind.u64.wrap i = i := by (rw [IntKind.wrap_u64]; omega)
    go_enter Try.func24, Try.ntmps24
    go_wp2_with (first | (go_at_call 25; refine (rgood_any _ _ _ _ _ _ _ b0 b1).mono ?_; rintro e w2 ⟨rfl, hb2⟩; have hz_w2 : w.heap.size + 2 ≤ w2.heap.size := (by have h_ := hb2.size; first | omega | (simp at h_; omega)); obtain ⟨hc1, hf1⟩ := bk hb2 (w.heap.size) (by first | omega | (simp; done) | (simp; omega)); have hs1 : w.heap.size < w2.heap.size := (by omega); obtain ⟨hc2, hf2⟩ := bk hb2 (w.heap.size + 1) (by first | omega | (simp; done) | (simp; omega)); have hs2 : w.heap.size + 1 < w2.heap.size := (by omega)) | (go_at_call 58; refine (in_val _ _ _ _ _ HIN.out).mono ?_; rintro e w' ⟨rfl, rfl⟩))
    exact bodyPost_ret (v := .tuple #[.agg #[.int .i64 ep, .bool false, .int .i64 nx, .int .i64 nd, .int .i64 hv, .int .i64 bn], .bool false, .int .i64 12]) (by simp [results, Try.results24, go_sem, hc1, hc2]) rfl ⟨rfl, (by repeat (first | with_reducible exact Below.refl _ _ | (with_reducible refine Below.setCell ?_ (by first | omega | (simp; done) | (simp; omega)) _) | with_reducible refine bal ?_ _ | with_reducible refine Below.drew ?_ | with_reducible refine bdn ?_ _ | with_reducible refine via ?_ (by with_reducible assumption)))⟩
  cases hx : nx != e
  case true =>
    have e : ackF ⟨ep, true, nx, nd, hv, bn⟩ i e = (⟨ep, true, nx, nd, hv, bn⟩, false, 12) := by (have hxx : (nx == e) = false := by simpa [bne] using hx); simp only [ackF, hg, hs, hxx, Bool.and_self, Bool.and_false, if_true, Bool.false_eq_true, if_false]
    rw [e]
    try dsimp only
    clear e
    have hin : decide (0 ≤ i ∧ i ≤ 7) = true := by (simp; omega)
    have HIN := Lib.hid hin
    clear hin
    have hu : IntKind.u64.wrap i = i := by (rw [IntKind.wrap_u64]; omega)
    go_enter Try.func24, Try.ntmps24
    go_wp2_with (first | (go_at_call 25; refine (rgood_any _ _ _ _ _ _ _ b0 b1).mono ?_; rintro e w2 ⟨rfl, hb2⟩; have hz_w2 : w.heap.size + 2 ≤ w2.heap.size := (by have h_ := hb2.size; first | omega | (simp at h_; omega)); obtain ⟨hc1, hf1⟩ := bk hb2 (w.heap.size) (by first | omega | (simp; done) | (simp; omega)); have hs1 : w.heap.size < w2.heap.size := (by omega); obtain ⟨hc2, hf2⟩ := bk hb2 (w.heap.size + 1) (by first | omega | (simp; done) | (simp; omega)); have hs2 : w.heap.size + 1 < w2.heap.size := (by omega)) | (go_at_call 58; refine (in_val _ _ _ _ _ HIN.out).mono ?_; rintro e w' ⟨rfl, rfl⟩))
    exact bodyPost_ret (v := .tuple #[.agg #[.int .i64 ep, .bool true, .int .i64 nx, .int .i64 nd, .int .i64 hv, .int .i64 bn], .bool false, .int .i64 12]) (by simp [results, Try.results24, go_sem, hc1, hc2]) rfl ⟨rfl, (by repeat (first | with_reducible exact Below.refl _ _ | (with_reducible refine Below.setCell ?_ (by first | omega | (simp; done) | (simp; omega)) _) | with_reducible refine bal ?_ _ | with_reducible refine Below.drew ?_ | with_reducible refine bdn ?_ _ | with_reducible refine via ?_ (by with_reducible assumption)))⟩
  cases hb : bitZ nd i
  case true =>
    have hb' : (bits .and .i64 (nd / 2 ^ i.toNat) 1 == 0) = true := hb
    have e : ackF ⟨ep, true, nx, nd, hv, bn⟩ i e = (⟨ep, true, nx, nd, hv, bn⟩, false, 6) := by (have hxx : (nx == e) = true := by simpa [bne] using hx); simp only [ackF, hg, hs, hxx, Bool.and_self, if_true, hb]
    rw [e]
    try dsimp only
    clear e
    have hin : decide (0 ≤ i ∧ i ≤ 7) = true := by (simp; omega)
    have HIN := Lib.hid hin
    clear hin
    have hu : IntKind.u64.wrap i = i := by (rw [IntKind.wrap_u64]; omega)
    go_enter Try.func24, Try.ntmps24
    go_wp2_with (first | (go_at_call 25; refine (rgood_any _ _ _ _ _ _ _ b0 b1).mono ?_; rintro e w2 ⟨rfl, hb2⟩; have hz_w2 : w.heap.size + 2 ≤ w2.heap.size := (by have h_ := hb2.size; first | omega | (simp at h_; omega)); obtain ⟨hc1, hf1⟩ := bk hb2 (w.heap.size) (by first | omega | (simp; done) | (simp; omega)); have hs1 : w.heap.size < w2.heap.size := (by omega); obtain ⟨hc2, hf2⟩ := bk hb2 (w.heap.size + 1) (by first | omega | (simp; done) | (simp; omega)); have hs2 : w.heap.size + 1 < w2.heap.size := (by omega)) | (go_at_call 58; refine (in_val _ _ _ _ _ HIN.out).mono ?_; rintro e w' ⟨rfl, rfl⟩))
    exact bodyPost_ret (v := .tuple #[.agg #[.int .i64 ep, .bool true, .int .i64 nx, .int .i64 nd, .int .i64 hv, .int .i64 bn], .bool false, .int .i64 6]) (by simp [results, Try.results24, go_sem, hc1, hc2]) rfl ⟨rfl, (by repeat (first | with_reducible exact Below.refl _ _ | (with_reducible refine Below.setCell ?_ (by first | omega | (simp; done) | (simp; omega)) _) | with_reducible refine bal ?_ _ | with_reducible refine Below.drew ?_ | with_reducible refine bdn ?_ _ | with_reducible refine via ?_ (by with_reducible assumption)))⟩
  have hb' : (bits .and .i64 (nd / 2 ^ i.toNat) 1 == 0) = false := hb
  cases hd : bitO hv i
  case true =>
    have hd' : (bits .and .i64 (hv / 2 ^ i.toNat) 1 == 1) = true := hd
    have e : ackF ⟨ep, true, nx, nd, hv, bn⟩ i e = (⟨ep, true, nx, nd, hv, bn⟩, false, 7) := by (have hxx : (nx == e) = true := by simpa [bne] using hx); simp only [ackF, hg, hs, hxx, Bool.and_self, if_true, hb, hd, Bool.false_eq_true, if_false]
    rw [e]
    try dsimp only
    clear e
    have hin : decide (0 ≤ i ∧ i ≤ 7) = true := by (simp; omega)
    have HIN := Lib.hid hin
    clear hin
    have hu : IntKind.u64.wrap i = i := by (rw [IntKind.wrap_u64]; omega)
    go_enter Try.func24, Try.ntmps24
    go_wp2_with (first | (go_at_call 25; refine (rgood_any _ _ _ _ _ _ _ b0 b1).mono ?_; rintro e w2 ⟨rfl, hb2⟩; have hz_w2 : w.heap.size + 2 ≤ w2.heap.size := (by have h_ := hb2.size; first | omega | (simp at h_; omega)); obtain ⟨hc1, hf1⟩ := bk hb2 (w.heap.size) (by first | omega | (simp; done) | (simp; omega)); have hs1 : w.heap.size < w2.heap.size := (by omega); obtain ⟨hc2, hf2⟩ := bk hb2 (w.heap.size + 1) (by first | omega | (simp; done) | (simp; omega)); have hs2 : w.heap.size + 1 < w2.heap.size := (by omega)) | (go_at_call 58; refine (in_val _ _ _ _ _ HIN.out).mono ?_; rintro e w' ⟨rfl, rfl⟩))
    exact bodyPost_ret (v := .tuple #[.agg #[.int .i64 ep, .bool true, .int .i64 nx, .int .i64 nd, .int .i64 hv, .int .i64 bn], .bool false, .int .i64 7]) (by simp [results, Try.results24, go_sem, hc1, hc2]) rfl ⟨rfl, (by repeat (first | with_reducible exact Below.refl _ _ | (with_reducible refine Below.setCell ?_ (by first | omega | (simp; done) | (simp; omega)) _) | with_reducible refine bal ?_ _ | with_reducible refine Below.drew ?_ | with_reducible refine bdn ?_ _ | with_reducible refine via ?_ (by with_reducible assumption)))⟩
  have hd' : (bits .and .i64 (hv / 2 ^ i.toNat) 1 == 1) = false := hd
  cases hq : bits .or .i64 hv (2 ^ i.toNat) == nd
  · have e : ackF ⟨ep, true, nx, nd, hv, bn⟩ i e = (⟨ep, true, nx, nd, bits .or .i64 hv (2 ^ i.toNat), bn⟩, false, 0) := by (have hxx : (nx == e) = true := by simpa [bne] using hx); simp only [ackF, hg, hs, hxx, Bool.and_self, if_true, hb, hd, hq, Bool.false_eq_true, if_false]
    rw [e]
    try dsimp only
    clear e
    have hin : decide (0 ≤ i ∧ i ≤ 7) = true := by (simp; omega)
    have HIN := Lib.hid hin
    clear hin
    have hu : IntKind.u64.wrap i = i := by (rw [IntKind.wrap_u64]; omega)
    go_enter Try.func24, Try.ntmps24
    go_wp2_with (first | (go_at_call 25; refine (rgood_any _ _ _ _ _ _ _ b0 b1).mono ?_; rintro e w2 ⟨rfl, hb2⟩; have hz_w2 : w.heap.size + 2 ≤ w2.heap.size := (by have h_ := hb2.size; first | omega | (simp at h_; omega)); obtain ⟨hc1, hf1⟩ := bk hb2 (w.heap.size) (by first | omega | (simp; done) | (simp; omega)); have hs1 : w.heap.size < w2.heap.size := (by omega); obtain ⟨hc2, hf2⟩ := bk hb2 (w.heap.size + 1) (by first | omega | (simp; done) | (simp; omega)); have hs2 : w.heap.size + 1 < w2.heap.size := (by omega)) | (go_at_call 58; refine (in_val _ _ _ _ _ HIN.out).mono ?_; rintro e w' ⟨rfl, rfl⟩))
    exact bodyPost_ret (v := .tuple #[.agg #[.int .i64 ep, .bool true, .int .i64 nx, .int .i64 nd, .int .i64 (bits .or .i64 hv (2 ^ i.toNat)), .int .i64 bn], .bool false, .int .i64 0]) (by simp [results, Try.results24, go_sem, hc1, hc2]) rfl ⟨rfl, (by repeat (first | with_reducible exact Below.refl _ _ | (with_reducible refine Below.setCell ?_ (by first | omega | (simp; done) | (simp; omega)) _) | with_reducible refine bal ?_ _ | with_reducible refine Below.drew ?_ | with_reducible refine bdn ?_ _ | with_reducible refine via ?_ (by with_reducible assumption)))⟩
  · have e : ackF ⟨ep, true, nx, nd, hv, bn⟩ i e = (⟨nx, false, 0, 0, 0, 0⟩, true, 0) := by (have hxx : (nx == e) = true := by simpa [bne] using hx); simp only [ackF, hg, hs, hxx, Bool.and_self, if_true, hb, hd, hq, Bool.false_eq_true, if_false]
    rw [e]
    try dsimp only
    clear e
    have hin : decide (0 ≤ i ∧ i ≤ 7) = true := by (simp; omega)
    have HIN := Lib.hid hin
    clear hin
    have hu : IntKind.u64.wrap i = i := by (rw [IntKind.wrap_u64]; omega)
    go_enter Try.func24, Try.ntmps24
    go_wp2_with (first | (go_at_call 25; refine (rgood_any _ _ _ _ _ _ _ b0 b1).mono ?_; rintro e w2 ⟨rfl, hb2⟩; have hz_w2 : w.heap.size + 2 ≤ w2.heap.size := (by have h_ := hb2.size; first | omega | (simp at h_; omega)); obtain ⟨hc1, hf1⟩ := bk hb2 (w.heap.size) (by first | omega | (simp; done) | (simp; omega)); have hs1 : w.heap.size < w2.heap.size := (by omega); obtain ⟨hc2, hf2⟩ := bk hb2 (w.heap.size + 1) (by first | omega | (simp; done) | (simp; omega)); have hs2 : w.heap.size + 1 < w2.heap.size := (by omega)) | (go_at_call 58; refine (in_val _ _ _ _ _ HIN.out).mono ?_; rintro e w' ⟨rfl, rfl⟩))
    exact bodyPost_ret (v := .tuple #[.agg #[.int .i64 nx, .bool false, .int .i64 0, .int .i64 0, .int .i64 0, .int .i64 0], .bool true, .int .i64 0]) (by simp [results, Try.results24, go_sem, hc1, hc2]) rfl ⟨rfl, (by repeat (first | with_reducible exact Below.refl _ _ | (with_reducible refine Below.setCell ?_ (by first | omega | (simp; done) | (simp; omega)) _) | with_reducible refine bal ?_ _ | with_reducible refine Below.drew ?_ | with_reducible refine bdn ?_ _ | with_reducible refine via ?_ (by with_reducible assumption)))⟩

theorem above_any (a b n : Int) (w : World) : Calls Try.prog 59 #[.int .i64 a, .int .i64 b, .int .u64 n] w fun x w' => x = .returned (.bool (decide (b ≤ a) && decide (n ≤ IntKind.u64.wrap (IntKind.u64.wrap a - IntKind.u64.wrap b)))) ∧ w = w' := by
  by_cases c1 : b ≤ a
  · have e : decide (b ≤ a) = true := by simpa using c1
    rw [e, Bool.true_and]
    clear e
    go_enter Try.func59, Try.ntmps59
    go_wp2
    go_ret
    exact ⟨rfl, rfl⟩
  · have e : decide (b ≤ a) = false := by simpa using c1
    rw [e, Bool.false_and]
    clear e
    go_enter Try.func59, Try.ntmps59
    go_wp2
    go_ret
    exact ⟨rfl, rfl⟩

theorem above_val (a b n : Int) (w : World) (r : Bool) (h : (decide (b ≤ a) && decide (n ≤ IntKind.u64.wrap (IntKind.u64.wrap a - IntKind.u64.wrap b))) = r) : Calls Try.prog 59 #[.int .i64 a, .int .i64 b, .int .u64 n] w fun x w' => x = .returned (.bool r) ∧ w = w' := by
  rw [← h]
  exact above_any a b n w

set_option maxHeartbeats 2000000 in
theorem rlate_any (ep : Int) (op : Bool) (nx nd hv bn : Int) (now : Int) (w : World) (b0 : -9223372036854775808 ≤ hv) (b1 : hv ≤ 9223372036854775807) : Calls Try.prog 27 #[.agg #[.int .i64 ep, .bool op, .int .i64 nx, .int .i64 nd, .int .i64 hv, .int .i64 bn], .int .i64 now] w fun x w' => x = .returned (.int .i64 (lateF ⟨ep, op, nx, nd, hv, bn⟩ now)) ∧ Below w.heap.size w w' := by
  cases hg : goodS ⟨ep, op, nx, nd, hv, bn⟩
  · have e : lateF ⟨ep, op, nx, nd, hv, bn⟩ now = 0 := by simp [lateF, hg]
    rw [e]
    try dsimp only
    clear e
    go_enter Try.func27, Try.ntmps27
    go_wp2_with (first | (go_at_call 25; refine (rgood_any _ _ _ _ _ _ _ b0 b1).mono ?_; rintro e w2 ⟨rfl, hb2⟩; have hz_w2 : w.heap.size + 1 ≤ w2.heap.size := (by have h_ := hb2.size; first | omega | (simp at h_; omega)); obtain ⟨hc1, hf1⟩ := bk hb2 (w.heap.size) (by first | omega | (simp; done) | (simp; omega)); have hs1 : w.heap.size < w2.heap.size := (by omega)))
    go_ret
    exact ⟨rfl, (by repeat (first | with_reducible exact Below.refl _ _ | (with_reducible refine Below.setCell ?_ (by first | omega | (simp; done) | (simp; omega)) _) | with_reducible refine bal ?_ _ | with_reducible refine Below.drew ?_ | with_reducible refine bdn ?_ _ | with_reducible refine via ?_ (by with_reducible assumption)))⟩
  cases op
  · have e : lateF ⟨ep, false, nx, nd, hv, bn⟩ now = 0 := by simp [lateF]
    rw [e]
    try dsimp only
    clear e
    go_enter Try.func27, Try.ntmps27
    go_wp2_with (first | (go_at_call 25; refine (rgood_any _ _ _ _ _ _ _ b0 b1).mono ?_; rintro e w2 ⟨rfl, hb2⟩; have hz_w2 : w.heap.size + 1 ≤ w2.heap.size := (by have h_ := hb2.size; first | omega | (simp at h_; omega)); obtain ⟨hc1, hf1⟩ := bk hb2 (w.heap.size) (by first | omega | (simp; done) | (simp; omega)); have hs1 : w.heap.size < w2.heap.size := (by omega)))
    go_ret
    exact ⟨rfl, (by repeat (first | with_reducible exact Below.refl _ _ | (with_reducible refine Below.setCell ?_ (by first | omega | (simp; done) | (simp; omega)) _) | with_reducible refine bal ?_ _ | with_reducible refine Below.drew ?_ | with_reducible refine bdn ?_ _ | with_reducible refine via ?_ (by with_reducible assumption)))⟩
  cases hl : longB bn now
  · have e : lateF ⟨ep, true, nx, nd, hv, bn⟩ now = 0 := by simp [lateF, hl]
    rw [e]
    try dsimp only
    clear e
    have HAB : Hid ((decide (bn ≤ now) && decide (200 ≤ IntKind.u64.wrap (IntKind.u64.wrap now - IntKind.u64.wrap bn))) = false) := Lib.hid hl
    clear hl
    go_enter Try.func27, Try.ntmps27
    go_wp2_with (first | (go_at_call 25; refine (rgood_any _ _ _ _ _ _ _ b0 b1).mono ?_; rintro e w2 ⟨rfl, hb2⟩; have hz_w2 : w.heap.size + 1 ≤ w2.heap.size := (by have h_ := hb2.size; first | omega | (simp at h_; omega)); obtain ⟨hc1, hf1⟩ := bk hb2 (w.heap.size) (by first | omega | (simp; done) | (simp; omega)); have hs1 : w.heap.size < w2.heap.size := (by omega)) | (go_at_call 59; refine (above_val _ _ _ _ _ HAB.out).mono ?_; rintro e w' ⟨rfl, rfl⟩))
    go_ret
    exact ⟨rfl, (by repeat (first | with_reducible exact Below.refl _ _ | (with_reducible refine Below.setCell ?_ (by first | omega | (simp; done) | (simp; omega)) _) | with_reducible refine bal ?_ _ | with_reducible refine Below.drew ?_ | with_reducible refine bdn ?_ _ | with_reducible refine via ?_ (by with_reducible assumption)))⟩
  · have e : lateF ⟨ep, true, nx, nd, hv, bn⟩ now = bits .andNot .i64 nd hv := by simp [lateF, hl, hg]
    rw [e]
    try dsimp only
    clear e
    have HAB : Hid ((decide (bn ≤ now) && decide (200 ≤ IntKind.u64.wrap (IntKind.u64.wrap now - IntKind.u64.wrap bn))) = true) := Lib.hid hl
    clear hl
    go_enter Try.func27, Try.ntmps27
    go_wp2_with (first | (go_at_call 25; refine (rgood_any _ _ _ _ _ _ _ b0 b1).mono ?_; rintro e w2 ⟨rfl, hb2⟩; have hz_w2 : w.heap.size + 1 ≤ w2.heap.size := (by have h_ := hb2.size; first | omega | (simp at h_; omega)); obtain ⟨hc1, hf1⟩ := bk hb2 (w.heap.size) (by first | omega | (simp; done) | (simp; omega)); have hs1 : w.heap.size < w2.heap.size := (by omega)) | (go_at_call 59; refine (above_val _ _ _ _ _ HAB.out).mono ?_; rintro e w' ⟨rfl, rfl⟩))
    go_ret
    exact ⟨rfl, (by repeat (first | with_reducible exact Below.refl _ _ | (with_reducible refine Below.setCell ?_ (by first | omega | (simp; done) | (simp; omega)) _) | with_reducible refine bal ?_ _ | with_reducible refine Below.drew ?_ | with_reducible refine bdn ?_ _ | with_reducible refine via ?_ (by with_reducible assumption)))⟩

end Go.Proofs.Ytcaipfdnadlkdaa
