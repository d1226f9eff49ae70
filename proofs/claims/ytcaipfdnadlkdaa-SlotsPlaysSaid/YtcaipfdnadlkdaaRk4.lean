/- The walks over rekey.Ack. -/
import Derived.Test.YtcaipfdnadlkdaaRk3
namespace Go.Proofs.Ytcaipfdnadlkdaa
open Go.RowKit
set_option linter.unusedSimpArgs false
set_option linter.unusedVariables false

set_option maxHeartbeats 4000000 in
theorem ack_any (ep : Int) (op : Bool) (nx nd hv bn : Int) (i e : Int) (w : World) : Calls Try.prog 17 #[.agg #[.int .i64 ep, .bool op, .int .i64 nx, .int .i64 nd, .int .i64 hv, .int .i64 bn], .int .i64 i, .int .i64 e] w fun x w' => x = .returned (.tuple #[.agg #[.int .i64 ((ackF ⟨ep, op, nx, nd, hv, bn⟩ i e).1).ep, .bool ((ackF ⟨ep, op, nx, nd, hv, bn⟩ i e).1).op, .int .i64 ((ackF ⟨ep, op, nx, nd, hv, bn⟩ i e).1).nx, .int .i64 ((ackF ⟨ep, op, nx, nd, hv, bn⟩ i e).1).nd, .int .i64 ((ackF ⟨ep, op, nx, nd, hv, bn⟩ i e).1).hv, .int .i64 ((ackF ⟨ep, op, nx, nd, hv, bn⟩ i e).1).bn], .bool (ackF ⟨ep, op, nx, nd, hv, bn⟩ i e).2.1, .int .i64 (ackF ⟨ep, op, nx, nd, hv, bn⟩ i e).2.2]) ∧ Below w.heap.size w w' := by
  cases hg : goodS ⟨ep, op, nx, nd, hv, bn⟩
  · have e : ackF ⟨ep, op, nx, nd, hv, bn⟩ i e = (⟨ep, op, nx, nd, hv, bn⟩, false, 1) := by simp [ackF, hg]
    rw [e]
    dsimp only
    clear e
    go_enter Try.func17, Try.ntmps17
    go_wp2_with (first | (go_at_call 20; refine (good_any _ _ _ _ _ _ _).mono ?_; rintro e w2 ⟨rfl, hb2⟩; have hz_w2 : w.heap.size + 2 ≤ w2.heap.size := (by have h_ := hb2.size; first | omega | (simp at h_; omega)); obtain ⟨hc1, hf1⟩ := bk hb2 (w.heap.size) (by first | omega | (simp; done) | (simp; omega)); have hs1 : w.heap.size < w2.heap.size := (by omega); obtain ⟨hc2, hf2⟩ := bk hb2 (w.heap.size + 1) (by first | omega | (simp; done) | (simp; omega)); have hs2 : w.heap.size + 1 < w2.heap.size := (by omega)) | (go_at_call 57; refine (slot_any _ _).mono ?_; rintro e w' ⟨rfl, rfl⟩))
    exact bodyPost_ret (v := .tuple #[.agg #[.int .i64 ep, .bool op, .int .i64 nx, .int .i64 nd, .int .i64 hv, .int .i64 bn], .bool false, .int .i64 1]) (by simp [results, Try.results17, go_sem, hc1, hc2]) rfl ⟨rfl, (by repeat (first | with_reducible exact Below.refl _ _ | (with_reducible refine Below.setCell ?_ (by first | omega | (simp; done) | (simp; omega)) _) | with_reducible refine bal ?_ _ | with_reducible refine Below.drew ?_ | with_reducible refine bdn ?_ _ | with_reducible refine via ?_ (by with_reducible assumption)))⟩
  cases hs : slB i
  · have e : ackF ⟨ep, op, nx, nd, hv, bn⟩ i e = (⟨ep, op, nx, nd, hv, bn⟩, false, 1) := by simp [ackF, hs]
    rw [e]
    dsimp only
    clear e
    go_enter Try.func17, Try.ntmps17
    go_wp2_with (first | (go_at_call 20; refine (good_any _ _ _ _ _ _ _).mono ?_; rintro e w2 ⟨rfl, hb2⟩; have hz_w2 : w.heap.size + 2 ≤ w2.heap.size := (by have h_ := hb2.size; first | omega | (simp at h_; omega)); obtain ⟨hc1, hf1⟩ := bk hb2 (w.heap.size) (by first | omega | (simp; done) | (simp; omega)); have hs1 : w.heap.size < w2.heap.size := (by omega); obtain ⟨hc2, hf2⟩ := bk hb2 (w.heap.size + 1) (by first | omega | (simp; done) | (simp; omega)); have hs2 : w.heap.size + 1 < w2.heap.size := (by omega)) | (go_at_call 57; refine (slot_any _ _).mono ?_; rintro e w' ⟨rfl, rfl⟩))
    exact bodyPost_ret (v := .tuple #[.agg #[.int .i64 ep, .bool op, .int .i64 nx, .int .i64 nd, .int .i64 hv, .int .i64 bn], .bool false, .int .i64 1]) (by simp [results, Try.results17, go_sem, hc1, hc2]) rfl ⟨rfl, (by repeat (first | with_reducible exact Below.refl _ _ | (with_reducible refine Below.setCell ?_ (by first | omega | (simp; done) | (simp; omega)) _) | with_reducible refine bal ?_ _ | with_reducible refine Below.drew ?_ | with_reducible refine bdn ?_ _ | with_reducible refine via ?_ (by with_reducible assumption)))⟩
  have hs' : 0 ≤ i ∧ i < 8 := by simpa [slB] using hs
  obtain ⟨i0, i1⟩ := hs'
  have hp := pow_small i i0 i1
  cases op
  · have e : ackF ⟨ep, false, nx, nd, hv, bn⟩ i e = (⟨ep, false, nx, nd, hv, bn⟩, false, 12) := by simp [ackF, hg, hs]
    rw [e]
    dsimp only
    clear e
    go_enter Try.func17, Try.ntmps17
    go_wp2_with (first | (go_at_call 20; refine (good_any _ _ _ _ _ _ _).mono ?_; rintro e w2 ⟨rfl, hb2⟩; have hz_w2 : w.heap.size + 2 ≤ w2.heap.size := (by have h_ := hb2.size; first | omega | (simp at h_; omega)); obtain ⟨hc1, hf1⟩ := bk hb2 (w.heap.size) (by first | omega | (simp; done) | (simp; omega)); have hs1 : w.heap.size < w2.heap.size := (by omega); obtain ⟨hc2, hf2⟩ := bk hb2 (w.heap.size + 1) (by first | omega | (simp; done) | (simp; omega)); have hs2 : w.heap.size + 1 < w2.heap.size := (by omega)) | (go_at_call 57; refine (slot_any _ _).mono ?_; rintro e w' ⟨rfl, rfl⟩))
    exact bodyPost_ret (v := .tuple #[.agg #[.int .i64 ep, .bool false, .int .i64 nx, .int .i64 nd, .int .i64 hv, .int .i64 bn], .bool false, .int .i64 12]) (by simp [results, Try.results17, go_sem, hc1, hc2]) rfl ⟨rfl, (by repeat (first | with_reducible exact Below.refl _ _ | (with_reducible refine Below.setCell ?_ (by first | omega | (simp; done) | (simp; omega)) _) | with_reducible refine bal ?_ _ | with_reducible refine Below.drew ?_ | with_reducible refine bdn ?_ _ | with_reducible refine via ?_ (by with_reducible assumption)))⟩
  cases hx : nx != e
  case true =>
    have e : ackF ⟨ep, true, nx, nd, hv, bn⟩ i e = (⟨ep, true, nx, nd, hv, bn⟩, false, 12) := by (have hxx : (nx == e) = false := by simpa [bne] using hx); simp only [ackF, hg, hs, hxx, Bool.and_self, Bool.and_false, if_true, Bool.false_eq_true, if_false]
    rw [e]
    dsimp only
    clear e
    go_enter Try.func17, Try.ntmps17
    go_wp2_with (first | (go_at_call 20; refine (good_any _ _ _ _ _ _ _).mono ?_; rintro e w2 ⟨rfl, hb2⟩; have hz_w2 : w.heap.size + 2 ≤ w2.heap.size := (by have h_ := hb2.size; first | omega | (simp at h_; omega)); obtain ⟨hc1, hf1⟩ := bk hb2 (w.heap.size) (by first | omega | (simp; done) | (simp; omega)); have hs1 : w.heap.size < w2.heap.size := (by omega); obtain ⟨hc2, hf2⟩ := bk hb2 (w.heap.size + 1) (by first | omega | (simp; done) | (simp; omega)); have hs2 : w.heap.size + 1 < w2.heap.size := (by omega)) | (go_at_call 57; refine (slot_any _ _).mono ?_; rintro e w' ⟨rfl, rfl⟩))
    exact bodyPost_ret (v := .tuple #[.agg #[.int .i64 ep, .bool true, .int .i64 nx, .int .i64 nd, .int .i64 hv, .int .i64 bn], .bool false, .int .i64 12]) (by simp [results, Try.results17, go_sem, hc1, hc2]) rfl ⟨rfl, (by repeat (first | with_reducible exact Below.refl _ _ | (with_reducible refine Below.setCell ?_ (by first | omega | (simp; done) | (simp; omega)) _) | with_reducible refine bal ?_ _ | with_reducible refine Below.drew ?_ | with_reducible refine bdn ?_ _ | with_reducible refine via ?_ (by with_reducible assumption)))⟩
  cases hb : bitZ nd i
  case true =>
    have hb' : (bits .and .i64 (nd / 2 ^ i.toNat) 1 == 0) = true := hb
    have e : ackF ⟨ep, true, nx, nd, hv, bn⟩ i e = (⟨ep, true, nx, nd, hv, bn⟩, false, 6) := by (have hxx : (nx == e) = true := by simpa [bne] using hx); simp only [ackF, hg, hs, hxx, Bool.and_self, if_true, hb]
    rw [e]
    dsimp only
    clear e
    go_enter Try.func17, Try.ntmps17
    go_wp2_with (first | (go_at_call 20; refine (good_any _ _ _ _ _ _ _).mono ?_; rintro e w2 ⟨rfl, hb2⟩; have hz_w2 : w.heap.size + 2 ≤ w2.heap.size := (by have h_ := hb2.size; first | omega | (simp at h_; omega)); obtain ⟨hc1, hf1⟩ := bk hb2 (w.heap.size) (by first | omega | (simp; done) | (simp; omega)); have hs1 : w.heap.size < w2.heap.size := (by omega); obtain ⟨hc2, hf2⟩ := bk hb2 (w.heap.size + 1) (by first | omega | (simp; done) | (simp; omega)); have hs2 : w.heap.size + 1 < w2.heap.size := (by omega)) | (go_at_call 57; refine (slot_any _ _).mono ?_; rintro e w' ⟨rfl, rfl⟩))
    exact bodyPost_ret (v := .tuple #[.agg #[.int .i64 ep, .bool true, .int .i64 nx, .int .i64 nd, .int .i64 hv, .int .i64 bn], .bool false, .int .i64 6]) (by simp [results, Try.results17, go_sem, hc1, hc2]) rfl ⟨rfl, (by repeat (first | with_reducible exact Below.refl _ _ | (with_reducible refine Below.setCell ?_ (by first | omega | (simp; done) | (simp; omega)) _) | with_reducible refine bal ?_ _ | with_reducible refine Below.drew ?_ | with_reducible refine bdn ?_ _ | with_reducible refine via ?_ (by with_reducible assumption)))⟩
  have hb' : (bits .and .i64 (nd / 2 ^ i.toNat) 1 == 0) = false := hb
  cases hd : bitO hv i
  case true =>
    have hd' : (bits .and .i64 (hv / 2 ^ i.toNat) 1 == 1) = true := hd
    have e : ackF ⟨ep, true, nx, nd, hv, bn⟩ i e = (⟨ep, true, nx, nd, hv, bn⟩, false, 7) := by (have hxx : (nx == e) = true := by simpa [bne] using hx); simp only [ackF, hg, hs, hxx, Bool.and_self, if_true, hb, hd, Bool.false_eq_true, if_false]
    rw [e]
    dsimp only
    clear e
    go_enter Try.func17, Try.ntmps17
    go_wp2_with (first | (go_at_call 20; refine (good_any _ _ _ _ _ _ _).mono ?_; rintro e w2 ⟨rfl, hb2⟩; have hz_w2 : w.heap.size + 2 ≤ w2.heap.size := (by have h_ := hb2.size; first | omega | (simp at h_; omega)); obtain ⟨hc1, hf1⟩ := bk hb2 (w.heap.size) (by first | omega | (simp; done) | (simp; omega)); have hs1 : w.heap.size < w2.heap.size := (by omega); obtain ⟨hc2, hf2⟩ := bk hb2 (w.heap.size + 1) (by first | omega | (simp; done) | (simp; omega)); have hs2 : w.heap.size + 1 < w2.heap.size := (by omega)) | (go_at_call 57; refine (slot_any _ _).mono ?_; rintro e w' ⟨rfl, rfl⟩))
    exact bodyPost_ret (v := .tuple #[.agg #[.int .i64 ep, .bool true, .int .i64 nx, .int .i64 nd, .int .i64 hv, .int .i64 bn], .bool false, .int .i64 7]) (by simp [results, Try.results17, go_sem, hc1, hc2]) rfl ⟨rfl, (by repeat (first | with_reducible exact Below.refl _ _ | (with_reducible refine Below.setCell ?_ (by first | omega | (simp; done) | (simp; omega)) _) | with_reducible refine bal ?_ _ | with_reducible refine Below.drew ?_ | with_reducible refine bdn ?_ _ | with_reducible refine via ?_ (by with_reducible assumption)))⟩
  have hd' : (bits .and .i64 (hv / 2 ^ i.toNat) 1 == 1) = false := hd
  cases hq : bits .or .i64 hv (2 ^ i.toNat) == nd
  · have e : ackF ⟨ep, true, nx, nd, hv, bn⟩ i e = (⟨ep, true, nx, nd, bits .or .i64 hv (2 ^ i.toNat), bn⟩, false, 0) := by (have hxx : (nx == e) = true := by simpa [bne] using hx); simp only [ackF, hg, hs, hxx, Bool.and_self, if_true, hb, hd, hq, Bool.false_eq_true, if_false]
    rw [e]
    dsimp only
    clear e
    go_enter Try.func17, Try.ntmps17
    go_wp2_with (first | (go_at_call 20; refine (good_any _ _ _ _ _ _ _).mono ?_; rintro e w2 ⟨rfl, hb2⟩; have hz_w2 : w.heap.size + 2 ≤ w2.heap.size := (by have h_ := hb2.size; first | omega | (simp at h_; omega)); obtain ⟨hc1, hf1⟩ := bk hb2 (w.heap.size) (by first | omega | (simp; done) | (simp; omega)); have hs1 : w.heap.size < w2.heap.size := (by omega); obtain ⟨hc2, hf2⟩ := bk hb2 (w.heap.size + 1) (by first | omega | (simp; done) | (simp; omega)); have hs2 : w.heap.size + 1 < w2.heap.size := (by omega)) | (go_at_call 57; refine (slot_any _ _).mono ?_; rintro e w' ⟨rfl, rfl⟩))
    go_region
    all_goals go_wp2_with fail
    all_goals exact bodyPost_ret (v := .tuple #[.agg #[.int .i64 ep, .bool true, .int .i64 nx, .int .i64 nd, .int .i64 (bits .or .i64 hv (2 ^ i.toNat)), .int .i64 bn], .bool false, .int .i64 0]) (by simp [results, Try.results17, go_sem, hc1, hc2]) rfl ⟨rfl, (by repeat (first | with_reducible exact Below.refl _ _ | (with_reducible refine Below.setCell ?_ (by first | omega | (simp; done) | (simp; omega)) _) | with_reducible refine bal ?_ _ | with_reducible refine Below.drew ?_ | with_reducible refine bdn ?_ _ | with_reducible refine via ?_ (by with_reducible assumption)))⟩
  · have e : ackF ⟨ep, true, nx, nd, hv, bn⟩ i e = (⟨nx, false, 0, 0, 0, 0⟩, true, 0) := by (have hxx : (nx == e) = true := by simpa [bne] using hx); simp only [ackF, hg, hs, hxx, Bool.and_self, if_true, hb, hd, hq, Bool.false_eq_true, if_false]
    rw [e]
    dsimp only
    clear e
    go_enter Try.func17, Try.ntmps17
    go_wp2_with (first | (go_at_call 20; refine (good_any _ _ _ _ _ _ _).mono ?_; rintro e w2 ⟨rfl, hb2⟩; have hz_w2 : w.heap.size + 2 ≤ w2.heap.size := (by have h_ := hb2.size; first | omega | (simp at h_; omega)); obtain ⟨hc1, hf1⟩ := bk hb2 (w.heap.size) (by first | omega | (simp; done) | (simp; omega)); have hs1 : w.heap.size < w2.heap.size := (by omega); obtain ⟨hc2, hf2⟩ := bk hb2 (w.heap.size + 1) (by first | omega | (simp; done) | (simp; omega)); have hs2 : w.heap.size + 1 < w2.heap.size := (by omega)) | (go_at_call 57; refine (slot_any _ _).mono ?_; rintro e w' ⟨rfl, rfl⟩))
    go_region
    all_goals go_wp2_with fail
    all_goals exact bodyPost_ret (v := .tuple #[.agg #[.int .i64 nx, .bool false, .int .i64 0, .int .i64 0, .int .i64 0, .int .i64 0], .bool true, .int .i64 0]) (by simp [results, Try.results17, go_sem, hc1, hc2]) rfl ⟨rfl, (by repeat (first | with_reducible exact Below.refl _ _ | (with_reducible refine Below.setCell ?_ (by first | omega | (simp; done) | (simp; omega)) _) | with_reducible refine bal ?_ _ | with_reducible refine Below.drew ?_ | with_reducible refine bdn ?_ _ | with_reducible refine via ?_ (by with_reducible assumption)))⟩

end Go.Proofs.Ytcaipfdnadlkdaa
