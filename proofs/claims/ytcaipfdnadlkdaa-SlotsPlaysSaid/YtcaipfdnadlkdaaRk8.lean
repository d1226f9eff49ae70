/- The walks over the reference's Raise, JoinKeys. -/
import Derived.Test.YtcaipfdnadlkdaaRk7
namespace Go.Proofs.Ytcaipfdnadlkdaa
open Go.RowKit
set_option linter.unusedSimpArgs false
set_option linter.unusedVariables false

theorem in_val (n lo hi : Int) (w : World) (b : Bool) (h : decide (lo ≤ n ∧ n ≤ hi) = b) : Calls Try.prog 58 #[.int .i64 n, .int .i64 lo, .int .i64 hi] w fun x w' => x = .returned (.bool b) ∧ w = w' := by
  rw [← h]
  exact in_any n lo hi w
set_option maxHeartbeats 2000000 in
theorem rraise_any (ep : Int) (op : Bool) (nx nd hv bn : Int) (need now : Int) (w : World) (b0 : -9223372036854775808 ≤ hv) (b1 : hv ≤ 9223372036854775807) : Calls Try.prog 22 #[.agg #[.int .i64 ep, .bool op, .int .i64 nx, .int .i64 nd, .int .i64 hv, .int .i64 bn], .int .i64 need, .int .i64 now] w fun x w' => x = .returned (.tuple #[.agg #[.int .i64 ((raiseF ⟨ep, op, nx, nd, hv, bn⟩ need now).1).ep, .bool ((raiseF ⟨ep, op, nx, nd, hv, bn⟩ need now).1).op, .int .i64 ((raiseF ⟨ep, op, nx, nd, hv, bn⟩ need now).1).nx, .int .i64 ((raiseF ⟨ep, op, nx, nd, hv, bn⟩ need now).1).nd, .int .i64 ((raiseF ⟨ep, op, nx, nd, hv, bn⟩ need now).1).hv, .int .i64 ((raiseF ⟨ep, op, nx, nd, hv, bn⟩ need now).1).bn], .int .i64 (raiseF ⟨ep, op, nx, nd, hv, bn⟩ need now).2]) ∧ Below w.heap.size w w' := by
  cases hg : goodS ⟨ep, op, nx, nd, hv, bn⟩
  · have e : raiseF ⟨ep, op, nx, nd, hv, bn⟩ need now = (⟨ep, op, nx, nd, hv, bn⟩, 1) := by simp [raiseF, hg]
    rw [e]
    dsimp only
    clear e
    go_enter Try.func22, Try.ntmps22
    go_wp2_with (first | (go_at_call 25; refine (rgood_any _ _ _ _ _ _ _ b0 b1).mono ?_; rintro e w2 ⟨rfl, hb2⟩; have hz_w2 : w.heap.size + 2 ≤ w2.heap.size := (by have h_ := hb2.size; first | omega | (simp at h_; omega)); obtain ⟨hc1, hf1⟩ := bk hb2 (w.heap.size) (by first | omega | (simp; done) | (simp; omega)); have hs1 : w.heap.size < w2.heap.size := (by omega); obtain ⟨hc2, hf2⟩ := bk hb2 (w.heap.size + 1) (by first | omega | (simp; done) | (simp; omega)); have hs2 : w.heap.size + 1 < w2.heap.size := (by omega)))
    exact bodyPost_ret (v := .tuple #[.agg #[.int .i64 ep, .bool op, .int .i64 nx, .int .i64 nd, .int .i64 hv, .int .i64 bn], .int .i64 1]) (by simp [results, Try.results22, go_sem, hc1, hc2]) rfl ⟨rfl, (by repeat (first | with_reducible exact Below.refl _ _ | (with_reducible refine Below.setCell ?_ (by first | omega | (simp; done) | (simp; omega)) _) | with_reducible refine bal ?_ _ | with_reducible refine Below.drew ?_ | with_reducible refine bdn ?_ _ | with_reducible refine via ?_ (by with_reducible assumption)))⟩
  have hcb := com_bd ⟨ep, op, nx, nd, hv, bn⟩ hg
  by_cases h1 : need < 0 ∨ 255 < need
  · have e : raiseF ⟨ep, op, nx, nd, hv, bn⟩ need now = (⟨ep, op, nx, nd, hv, bn⟩, 1) := by (have hn : needB need = false := by (simp [needB]; omega)); simp [raiseF, hn]
    rw [e]
    dsimp only
    clear e
    have hin : decide (0 ≤ need ∧ need ≤ 255) = false := by (simp; omega)
    have HIN := Lib.hid hin
    clear hin
    go_enter Try.func22, Try.ntmps22
    go_wp2_with (first | (go_at_call 25; refine (rgood_any _ _ _ _ _ _ _ b0 b1).mono ?_; rintro e w2 ⟨rfl, hb2⟩; have hz_w2 : w.heap.size + 2 ≤ w2.heap.size := (by have h_ := hb2.size; first | omega | (simp at h_; omega)); obtain ⟨hc1, hf1⟩ := bk hb2 (w.heap.size) (by first | omega | (simp; done) | (simp; omega)); have hs1 : w.heap.size < w2.heap.size := (by omega); obtain ⟨hc2, hf2⟩ := bk hb2 (w.heap.size + 1) (by first | omega | (simp; done) | (simp; omega)); have hs2 : w.heap.size + 1 < w2.heap.size := (by omega)) | (go_at_call 26; refine (rcoming_any _ _ _ _ _ _ _).mono ?_; rintro e w1 ⟨rfl, hb1⟩; have hz_w1 : w.heap.size + 2 ≤ w1.heap.size := (by have h_ := hb1.size; first | omega | (simp at h_; omega)); obtain ⟨hc3, hf3⟩ := bk hb1 (w.heap.size) (by first | omega | (simp; done) | (simp; omega)); have hs3 : w.heap.size < w1.heap.size := (by omega); obtain ⟨hc4, hf4⟩ := bk hb1 (w.heap.size + 1) (by first | omega | (simp; done) | (simp; omega)); have hs4 : w.heap.size + 1 < w1.heap.size := (by omega)) | (go_at_call 58; refine (in_val _ _ _ _ _ HIN.out).mono ?_; rintro e w' ⟨rfl, rfl⟩))
    exact bodyPost_ret (v := .tuple #[.agg #[.int .i64 ep, .bool op, .int .i64 nx, .int .i64 nd, .int .i64 hv, .int .i64 bn], .int .i64 1]) (by simp [results, Try.results22, go_sem, hc1, hc2]) rfl ⟨rfl, (by repeat (first | with_reducible exact Below.refl _ _ | (with_reducible refine Below.setCell ?_ (by first | omega | (simp; done) | (simp; omega)) _) | with_reducible refine bal ?_ _ | with_reducible refine Below.drew ?_ | with_reducible refine bdn ?_ _ | with_reducible refine via ?_ (by with_reducible assumption)))⟩
  by_cases hc : 65535 < comS ⟨ep, op, nx, nd, hv, bn⟩ + 1
  · have e : raiseF ⟨ep, op, nx, nd, hv, bn⟩ need now = (⟨ep, op, nx, nd, hv, bn⟩, 11) := by (have hn : needB need = true := by (simp [needB]; omega)); simp only [raiseF, hg, hn, Bool.and_self, if_true]; rw [if_pos hc]
    rw [e]
    dsimp only
    clear e
    have hin : decide (0 ≤ need ∧ need ≤ 255) = true := by (simp; omega)
    have HIN := Lib.hid hin
    clear hin
    have hcc : (comS ⟨ep, op, nx, nd, hv, bn⟩ == 65535) = true := by (simp; omega)
    go_enter Try.func22, Try.ntmps22
    go_wp2_with (first | (go_at_call 25; refine (rgood_any _ _ _ _ _ _ _ b0 b1).mono ?_; rintro e w2 ⟨rfl, hb2⟩; have hz_w2 : w.heap.size + 2 ≤ w2.heap.size := (by have h_ := hb2.size; first | omega | (simp at h_; omega)); obtain ⟨hc1, hf1⟩ := bk hb2 (w.heap.size) (by first | omega | (simp; done) | (simp; omega)); have hs1 : w.heap.size < w2.heap.size := (by omega); obtain ⟨hc2, hf2⟩ := bk hb2 (w.heap.size + 1) (by first | omega | (simp; done) | (simp; omega)); have hs2 : w.heap.size + 1 < w2.heap.size := (by omega)) | (go_at_call 26; refine (rcoming_any _ _ _ _ _ _ _).mono ?_; rintro e w1 ⟨rfl, hb1⟩; have hz_w1 : w.heap.size + 2 ≤ w1.heap.size := (by have h_ := hb1.size; first | omega | (simp at h_; omega)); obtain ⟨hc3, hf3⟩ := bk hb1 (w.heap.size) (by first | omega | (simp; done) | (simp; omega)); have hs3 : w.heap.size < w1.heap.size := (by omega); obtain ⟨hc4, hf4⟩ := bk hb1 (w.heap.size + 1) (by first | omega | (simp; done) | (simp; omega)); have hs4 : w.heap.size + 1 < w1.heap.size := (by omega)) | (go_at_call 58; refine (in_val _ _ _ _ _ HIN.out).mono ?_; rintro e w' ⟨rfl, rfl⟩))
    exact bodyPost_ret (v := .tuple #[.agg #[.int .i64 ep, .bool op, .int .i64 nx, .int .i64 nd, .int .i64 hv, .int .i64 bn], .int .i64 11]) (by simp [results, Try.results22, go_sem, hc1, hc2, hc3, hc4]) rfl ⟨rfl, (by repeat (first | with_reducible exact Below.refl _ _ | (with_reducible refine Below.setCell ?_ (by first | omega | (simp; done) | (simp; omega)) _) | with_reducible refine bal ?_ _ | with_reducible refine Below.drew ?_ | with_reducible refine bdn ?_ _ | with_reducible refine via ?_ (by with_reducible assumption)))⟩
  by_cases h3 : need = 0
  · subst h3
    have e : raiseF ⟨ep, op, nx, nd, hv, bn⟩ 0 now = (⟨comS ⟨ep, op, nx, nd, hv, bn⟩ + 1, false, 0, 0, 0, 0⟩, 0) := by (have hn : needB 0 = true := by decide); simp only [raiseF, hg, hn, Bool.and_self, if_true]; rw [if_neg hc]
    rw [e]
    dsimp only
    clear e
    have HIN : Hid (decide ((0 : Int) ≤ 0 ∧ (0 : Int) ≤ 255) = true) := Lib.hid (by decide)
    have hcc : (comS ⟨ep, op, nx, nd, hv, bn⟩ == 65535) = false := by (simp; omega)
    go_enter Try.func22, Try.ntmps22
    go_wp2_with (first | (go_at_call 25; refine (rgood_any _ _ _ _ _ _ _ b0 b1).mono ?_; rintro e w2 ⟨rfl, hb2⟩; have hz_w2 : w.heap.size + 2 ≤ w2.heap.size := (by have h_ := hb2.size; first | omega | (simp at h_; omega)); obtain ⟨hc1, hf1⟩ := bk hb2 (w.heap.size) (by first | omega | (simp; done) | (simp; omega)); have hs1 : w.heap.size < w2.heap.size := (by omega); obtain ⟨hc2, hf2⟩ := bk hb2 (w.heap.size + 1) (by first | omega | (simp; done) | (simp; omega)); have hs2 : w.heap.size + 1 < w2.heap.size := (by omega)) | (go_at_call 26; refine (rcoming_any _ _ _ _ _ _ _).mono ?_; rintro e w1 ⟨rfl, hb1⟩; have hz_w1 : w.heap.size + 2 ≤ w1.heap.size := (by have h_ := hb1.size; first | omega | (simp at h_; omega)); obtain ⟨hc3, hf3⟩ := bk hb1 (w.heap.size) (by first | omega | (simp; done) | (simp; omega)); have hs3 : w.heap.size < w1.heap.size := (by omega); obtain ⟨hc4, hf4⟩ := bk hb1 (w.heap.size + 1) (by first | omega | (simp; done) | (simp; omega)); have hs4 : w.heap.size + 1 < w1.heap.size := (by omega)) | (go_at_call 58; refine (in_val _ _ _ _ _ HIN.out).mono ?_; rintro e w' ⟨rfl, rfl⟩))
    exact bodyPost_ret (v := .tuple #[.agg #[.int .i64 (comS ⟨ep, op, nx, nd, hv, bn⟩ + 1), .bool false, .int .i64 0, .int .i64 0, .int .i64 0, .int .i64 0], .int .i64 0]) (by simp [results, Try.results22, go_sem, hc1, hc2, hc3, hc4]) rfl ⟨rfl, (by repeat (first | with_reducible exact Below.refl _ _ | (with_reducible refine Below.setCell ?_ (by first | omega | (simp; done) | (simp; omega)) _) | with_reducible refine bal ?_ _ | with_reducible refine Below.drew ?_ | with_reducible refine bdn ?_ _ | with_reducible refine via ?_ (by with_reducible assumption)))⟩
  · have e : raiseF ⟨ep, op, nx, nd, hv, bn⟩ need now = (⟨ep, true, comS ⟨ep, op, nx, nd, hv, bn⟩ + 1, need, 0, now⟩, 0) := by (have hn : needB need = true := by (simp [needB]; omega)); simp only [raiseF, hg, hn, Bool.and_self, if_true]; rw [if_neg hc, if_neg h3]
    rw [e]
    dsimp only
    clear e
    have hin : decide (0 ≤ need ∧ need ≤ 255) = true := by (simp; omega)
    have HIN := Lib.hid hin
    clear hin
    have hcc : (comS ⟨ep, op, nx, nd, hv, bn⟩ == 65535) = false := by (simp; omega)
    go_enter Try.func22, Try.ntmps22
    go_wp2_with (first | (go_at_call 25; refine (rgood_any _ _ _ _ _ _ _ b0 b1).mono ?_; rintro e w2 ⟨rfl, hb2⟩; have hz_w2 : w.heap.size + 2 ≤ w2.heap.size := (by have h_ := hb2.size; first | omega | (simp at h_; omega)); obtain ⟨hc1, hf1⟩ := bk hb2 (w.heap.size) (by first | omega | (simp; done) | (simp; omega)); have hs1 : w.heap.size < w2.heap.size := (by omega); obtain ⟨hc2, hf2⟩ := bk hb2 (w.heap.size + 1) (by first | omega | (simp; done) | (simp; omega)); have hs2 : w.heap.size + 1 < w2.heap.size := (by omega)) | (go_at_call 26; refine (rcoming_any _ _ _ _ _ _ _).mono ?_; rintro e w1 ⟨rfl, hb1⟩; have hz_w1 : w.heap.size + 2 ≤ w1.heap.size := (by have h_ := hb1.size; first | omega | (simp at h_; omega)); obtain ⟨hc3, hf3⟩ := bk hb1 (w.heap.size) (by first | omega | (simp; done) | (simp; omega)); have hs3 : w.heap.size < w1.heap.size := (by omega); obtain ⟨hc4, hf4⟩ := bk hb1 (w.heap.size + 1) (by first | omega | (simp; done) | (simp; omega)); have hs4 : w.heap.size + 1 < w1.heap.size := (by omega)) | (go_at_call 58; refine (in_val _ _ _ _ _ HIN.out).mono ?_; rintro e w' ⟨rfl, rfl⟩))
    exact bodyPost_ret (v := .tuple #[.agg #[.int .i64 ep, .bool true, .int .i64 (comS ⟨ep, op, nx, nd, hv, bn⟩ + 1), .int .i64 need, .int .i64 0, .int .i64 now], .int .i64 0]) (by simp [results, Try.results22, go_sem, hc1, hc2, hc3, hc4]) rfl ⟨rfl, (by repeat (first | with_reducible exact Below.refl _ _ | (with_reducible refine Below.setCell ?_ (by first | omega | (simp; done) | (simp; omega)) _) | with_reducible refine bal ?_ _ | with_reducible refine Below.drew ?_ | with_reducible refine bdn ?_ _ | with_reducible refine via ?_ (by with_reducible assumption)))⟩

set_option maxHeartbeats 2000000 in
theorem rjoin_any (ep : Int) (op : Bool) (nx nd hv bn : Int) (i : Int) (w : World) (b0 : -9223372036854775808 ≤ hv) (b1 : hv ≤ 9223372036854775807) : Calls Try.prog 23 #[.agg #[.int .i64 ep, .bool op, .int .i64 nx, .int .i64 nd, .int .i64 hv, .int .i64 bn], .int .i64 i] w fun x w' => x = .returned (.tuple #[.agg #[.int .i64 ((joinF ⟨ep, op, nx, nd, hv, bn⟩ i).1).ep, .bool ((joinF ⟨ep, op, nx, nd, hv, bn⟩ i).1).op, .int .i64 ((joinF ⟨ep, op, nx, nd, hv, bn⟩ i).1).nx, .int .i64 ((joinF ⟨ep, op, nx, nd, hv, bn⟩ i).1).nd, .int .i64 ((joinF ⟨ep, op, nx, nd, hv, bn⟩ i).1).hv, .int .i64 ((joinF ⟨ep, op, nx, nd, hv, bn⟩ i).1).bn], .int .i64 (joinF ⟨ep, op, nx, nd, hv, bn⟩ i).2]) ∧ Below w.heap.size w w' := by
  cases hg : goodS ⟨ep, op, nx, nd, hv, bn⟩
  · have e : joinF ⟨ep, op, nx, nd, hv, bn⟩ i = (⟨ep, op, nx, nd, hv, bn⟩, 1) := by simp [joinF, hg]
    rw [e]
    dsimp only
    clear e
    go_enter Try.func23, Try.ntmps23
    go_wp2_with (first | (go_at_call 25; refine (rgood_any _ _ _ _ _ _ _ b0 b1).mono ?_; rintro e w2 ⟨rfl, hb2⟩; have hz_w2 : w.heap.size + 2 ≤ w2.heap.size := (by have h_ := hb2.size; first | omega | (simp at h_; omega)); obtain ⟨hc1, hf1⟩ := bk hb2 (w.heap.size) (by first | omega | (simp; done) | (simp; omega)); have hs1 : w.heap.size < w2.heap.size := (by omega); obtain ⟨hc2, hf2⟩ := bk hb2 (w.heap.size + 1) (by first | omega | (simp; done) | (simp; omega)); have hs2 : w.heap.size + 1 < w2.heap.size := (by omega)))
    exact bodyPost_ret (v := .tuple #[.agg #[.int .i64 ep, .bool op, .int .i64 nx, .int .i64 nd, .int .i64 hv, .int .i64 bn], .int .i64 1]) (by simp [results, Try.results23, go_sem, hc1, hc2]) rfl ⟨rfl, (by repeat (first | with_reducible exact Below.refl _ _ | (with_reducible refine Below.setCell ?_ (by first | omega | (simp; done) | (simp; omega)) _) | with_reducible refine bal ?_ _ | with_reducible refine Below.drew ?_ | with_reducible refine bdn ?_ _ | with_reducible refine via ?_ (by with_reducible assumption)))⟩
  cases hs : slB i
  · have e : joinF ⟨ep, op, nx, nd, hv, bn⟩ i = (⟨ep, op, nx, nd, hv, bn⟩, 1) := by simp [joinF, hs]
    rw [e]
    dsimp only
    clear e
    simp [slB] at hs
    have hin : decide (0 ≤ i ∧ i ≤ 7) = false := by (simp; omega)
    have HIN := Lib.hid hin
    clear hin
    clear hs
    go_enter Try.func23, Try.ntmps23
    go_wp2_with (first | (go_at_call 25; refine (rgood_any _ _ _ _ _ _ _ b0 b1).mono ?_; rintro e w2 ⟨rfl, hb2⟩; have hz_w2 : w.heap.size + 2 ≤ w2.heap.size := (by have h_ := hb2.size; first | omega | (simp at h_; omega)); obtain ⟨hc1, hf1⟩ := bk hb2 (w.heap.size) (by first | omega | (simp; done) | (simp; omega)); have hs1 : w.heap.size < w2.heap.size := (by omega); obtain ⟨hc2, hf2⟩ := bk hb2 (w.heap.size + 1) (by first | omega | (simp; done) | (simp; omega)); have hs2 : w.heap.size + 1 < w2.heap.size := (by omega)) | (go_at_call 58; refine (in_val _ _ _ _ _ HIN.out).mono ?_; rintro e w' ⟨rfl, rfl⟩))
    exact bodyPost_ret (v := .tuple #[.agg #[.int .i64 ep, .bool op, .int .i64 nx, .int .i64 nd, .int .i64 hv, .int .i64 bn], .int .i64 1]) (by simp [results, Try.results23, go_sem, hc1, hc2]) rfl ⟨rfl, (by repeat (first | with_reducible exact Below.refl _ _ | (with_reducible refine Below.setCell ?_ (by first | omega | (simp; done) | (simp; omega)) _) | with_reducible refine bal ?_ _ | with_reducible refine Below.drew ?_ | with_reducible refine bdn ?_ _ | with_reducible refine via ?_ (by with_reducible assumption)))⟩
  have hs' : 0 ≤ i ∧ i < 8 := by simpa [slB] using hs
  obtain ⟨i0, i1⟩ := hs'
  have hp := pow_small i i0 i1
  cases op
  · have e : joinF ⟨ep, false, nx, nd, hv, bn⟩ i = (⟨ep, false, nx, nd, hv, bn⟩, 0) := by simp [joinF, hg, hs]
    rw [e]
    dsimp only
    clear e
    have hin : decide (0 ≤ i ∧ i ≤ 7) = true := by (simp; omega)
    have HIN := Lib.hid hin
    clear hin
    have hu : IntKind.u64.wrap i = i := by (rw [IntKind.wrap_u64]; omega)
    go_enter Try.func23, Try.ntmps23
    go_wp2_with (first | (go_at_call 25; refine (rgood_any _ _ _ _ _ _ _ b0 b1).mono ?_; rintro e w2 ⟨rfl, hb2⟩; have hz_w2 : w.heap.size + 2 ≤ w2.heap.size := (by have h_ := hb2.size; first | omega | (simp at h_; omega)); obtain ⟨hc1, hf1⟩ := bk hb2 (w.heap.size) (by first | omega | (simp; done) | (simp; omega)); have hs1 : w.heap.size < w2.heap.size := (by omega); obtain ⟨hc2, hf2⟩ := bk hb2 (w.heap.size + 1) (by first | omega | (simp; done) | (simp; omega)); have hs2 : w.heap.size + 1 < w2.heap.size := (by omega)) | (go_at_call 58; refine (in_val _ _ _ _ _ HIN.out).mono ?_; rintro e w' ⟨rfl, rfl⟩))
    exact bodyPost_ret (v := .tuple #[.agg #[.int .i64 ep, .bool false, .int .i64 nx, .int .i64 nd, .int .i64 hv, .int .i64 bn], .int .i64 0]) (by simp [results, Try.results23, go_sem, hc1, hc2]) rfl ⟨rfl, (by repeat (first | with_reducible exact Below.refl _ _ | (with_reducible refine Below.setCell ?_ (by first | omega | (simp; done) | (simp; omega)) _) | with_reducible refine bal ?_ _ | with_reducible refine Below.drew ?_ | with_reducible refine bdn ?_ _ | with_reducible refine via ?_ (by with_reducible assumption)))⟩
  cases hb : bitO nd i
  · have hb' : (bits .and .i64 (nd / 2 ^ i.toNat) 1 == 1) = false := hb
    have e : joinF ⟨ep, true, nx, nd, hv, bn⟩ i = (⟨ep, true, nx, bits .or .i64 nd (2 ^ i.toNat), hv, bn⟩, 0) := by simp [joinF, hg, hs, hb]
    rw [e]
    dsimp only
    clear e
    have hin : decide (0 ≤ i ∧ i ≤ 7) = true := by (simp; omega)
    have HIN := Lib.hid hin
    clear hin
    have hu : IntKind.u64.wrap i = i := by (rw [IntKind.wrap_u64]; omega)
    go_enter Try.func23, Try.ntmps23
    go_wp2_with (first | (go_at_call 25; refine (rgood_any _ _ _ _ _ _ _ b0 b1).mono ?_; rintro e w2 ⟨rfl, hb2⟩; have hz_w2 : w.heap.size + 2 ≤ w2.heap.size := (by have h_ := hb2.size; first | omega | (simp at h_; omega)); obtain ⟨hc1, hf1⟩ := bk hb2 (w.heap.size) (by first | omega | (simp; done) | (simp; omega)); have hs1 : w.heap.size < w2.heap.size := (by omega); obtain ⟨hc2, hf2⟩ := bk hb2 (w.heap.size + 1) (by first | omega | (simp; done) | (simp; omega)); have hs2 : w.heap.size + 1 < w2.heap.size := (by omega)) | (go_at_call 58; refine (in_val _ _ _ _ _ HIN.out).mono ?_; rintro e w' ⟨rfl, rfl⟩))
    exact bodyPost_ret (v := .tuple #[.agg #[.int .i64 ep, .bool true, .int .i64 nx, .int .i64 (bits .or .i64 nd (2 ^ i.toNat)), .int .i64 hv, .int .i64 bn], .int .i64 0]) (by simp [results, Try.results23, go_sem, hc1, hc2]) rfl ⟨rfl, (by repeat (first | with_reducible exact Below.refl _ _ | (with_reducible refine Below.setCell ?_ (by first | omega | (simp; done) | (simp; omega)) _) | with_reducible refine bal ?_ _ | with_reducible refine Below.drew ?_ | with_reducible refine bdn ?_ _ | with_reducible refine via ?_ (by with_reducible assumption)))⟩
  · have hb' : (bits .and .i64 (nd / 2 ^ i.toNat) 1 == 1) = true := hb
    have e : joinF ⟨ep, true, nx, nd, hv, bn⟩ i = (⟨ep, true, nx, nd, hv, bn⟩, 7) := by simp [joinF, hg, hs, hb]
    rw [e]
    dsimp only
    clear e
    have hin : decide (0 ≤ i ∧ i ≤ 7) = true := by (simp; omega)
    have HIN := Lib.hid hin
    clear hin
    have hu : IntKind.u64.wrap i = i := by (rw [IntKind.wrap_u64]; omega)
    go_enter Try.func23, Try.ntmps23
    go_wp2_with (first | (go_at_call 25; refine (rgood_any _ _ _ _ _ _ _ b0 b1).mono ?_; rintro e w2 ⟨rfl, hb2⟩; have hz_w2 : w.heap.size + 2 ≤ w2.heap.size := (by have h_ := hb2.size; first | omega | (simp at h_; omega)); obtain ⟨hc1, hf1⟩ := bk hb2 (w.heap.size) (by first | omega | (simp; done) | (simp; omega)); have hs1 : w.heap.size < w2.heap.size := (by omega); obtain ⟨hc2, hf2⟩ := bk hb2 (w.heap.size + 1) (by first | omega | (simp; done) | (simp; omega)); have hs2 : w.heap.size + 1 < w2.heap.size := (by omega)) | (go_at_call 58; refine (in_val _ _ _ _ _ HIN.out).mono ?_; rintro e w' ⟨rfl, rfl⟩))
    exact bodyPost_ret (v := .tuple #[.agg #[.int .i64 ep, .bool true, .int .i64 nx, .int .i64 nd, .int .i64 hv, .int .i64 bn], .int .i64 7]) (by simp [results, Try.results23, go_sem, hc1, hc2]) rfl ⟨rfl, (by repeat (first | with_reducible exact Below.refl _ _ | (with_reducible refine Below.setCell ?_ (by first | omega | (simp; done) | (simp; omega)) _) | with_reducible refine bal ?_ _ | with_reducible refine Below.drew ?_ | with_reducible refine bdn ?_ _ | with_reducible refine via ?_ (by with_reducible assumption)))⟩

end Go.Proofs.Ytcaipfdnadlkdaa
