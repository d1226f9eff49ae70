/- The walks over rekey.Raise, Join, Ack, Late. -/
import Derived.Test.YtcaipfdnadlkdaaRk1
namespace Go.Proofs.Ytcaipfdnadlkdaa
open Go.RowKit
set_option linter.unusedSimpArgs false
set_option linter.unusedVariables false

theorem com_bd (s : St) (h : goodS s = true) : 0 ≤ comS s ∧ comS s ≤ 65535 := by
  unfold goodS at h
  unfold comS
  cases ho : s.op
  · simp [ho] at h
    simp
    omega
  · simp [ho] at h
    simp
    omega

set_option maxHeartbeats 2000000 in
theorem raise_any (ep : Int) (op : Bool) (nx nd hv bn : Int) (need now : Int) (w : World) : Calls Try.prog 16 #[.agg #[.int .i64 ep, .bool op, .int .i64 nx, .int .i64 nd, .int .i64 hv, .int .i64 bn], .int .i64 need, .int .i64 now] w fun x w' => x = .returned (.tuple #[.agg #[.int .i64 ((raiseF ⟨ep, op, nx, nd, hv, bn⟩ need now).1).ep, .bool ((raiseF ⟨ep, op, nx, nd, hv, bn⟩ need now).1).op, .int .i64 ((raiseF ⟨ep, op, nx, nd, hv, bn⟩ need now).1).nx, .int .i64 ((raiseF ⟨ep, op, nx, nd, hv, bn⟩ need now).1).nd, .int .i64 ((raiseF ⟨ep, op, nx, nd, hv, bn⟩ need now).1).hv, .int .i64 ((raiseF ⟨ep, op, nx, nd, hv, bn⟩ need now).1).bn], .int .i64 (raiseF ⟨ep, op, nx, nd, hv, bn⟩ need now).2]) ∧ Below w.heap.size w w' := by
  cases hg : goodS ⟨ep, op, nx, nd, hv, bn⟩
  · have e : raiseF ⟨ep, op, nx, nd, hv, bn⟩ need now = (⟨ep, op, nx, nd, hv, bn⟩, 1) := by simp [raiseF, hg]
    rw [e]
    dsimp only
    clear e
    go_enter Try.func16, Try.ntmps16
    go_wp2_with (first | (go_at_call 19; refine (coming_any _ _ _ _ _ _ _).mono ?_; rintro e w1 ⟨rfl, hb1⟩; have hz_w1 : w.heap.size + 2 ≤ w1.heap.size := (by have h_ := hb1.size; first | omega | (simp at h_; omega)); obtain ⟨hc1, hf1⟩ := bk hb1 (w.heap.size) (by first | omega | (simp; done) | (simp; omega)); have hs1 : w.heap.size < w1.heap.size := (by omega); obtain ⟨hc2, hf2⟩ := bk hb1 (w.heap.size + 1) (by first | omega | (simp; done) | (simp; omega)); have hs2 : w.heap.size + 1 < w1.heap.size := (by omega)) | (go_at_call 20; refine (good_any _ _ _ _ _ _ _).mono ?_; rintro e w2 ⟨rfl, hb2⟩; have hz_w2 : w.heap.size + 2 ≤ w2.heap.size := (by have h_ := hb2.size; first | omega | (simp at h_; omega)); obtain ⟨hc3, hf3⟩ := bk hb2 (w.heap.size) (by first | omega | (simp; done) | (simp; omega)); have hs3 : w.heap.size < w2.heap.size := (by omega); obtain ⟨hc4, hf4⟩ := bk hb2 (w.heap.size + 1) (by first | omega | (simp; done) | (simp; omega)); have hs4 : w.heap.size + 1 < w2.heap.size := (by omega)))
    exact bodyPost_ret (v := .tuple #[.agg #[.int .i64 ep, .bool op, .int .i64 nx, .int .i64 nd, .int .i64 hv, .int .i64 bn], .int .i64 1]) (by simp [results, Try.results16, go_sem, hc1, hc2, hc3, hc4]) rfl ⟨rfl, (by repeat (first | with_reducible exact Below.refl _ _ | (with_reducible refine Below.setCell ?_ (by first | omega | (simp; done) | (simp; omega)) _) | with_reducible refine bal ?_ _ | with_reducible refine Below.drew ?_ | with_reducible refine bdn ?_ _ | with_reducible refine via ?_ (by with_reducible assumption)))⟩
  have hcb := com_bd ⟨ep, op, nx, nd, hv, bn⟩ hg
  by_cases h1 : need < 0
  · have e : raiseF ⟨ep, op, nx, nd, hv, bn⟩ need now = (⟨ep, op, nx, nd, hv, bn⟩, 1) := by (have hn : needB need = false := by (simp [needB]; omega)); simp [raiseF, hn]
    rw [e]
    dsimp only
    clear e
    go_enter Try.func16, Try.ntmps16
    go_wp2_with (first | (go_at_call 19; refine (coming_any _ _ _ _ _ _ _).mono ?_; rintro e w1 ⟨rfl, hb1⟩; have hz_w1 : w.heap.size + 2 ≤ w1.heap.size := (by have h_ := hb1.size; first | omega | (simp at h_; omega)); obtain ⟨hc1, hf1⟩ := bk hb1 (w.heap.size) (by first | omega | (simp; done) | (simp; omega)); have hs1 : w.heap.size < w1.heap.size := (by omega); obtain ⟨hc2, hf2⟩ := bk hb1 (w.heap.size + 1) (by first | omega | (simp; done) | (simp; omega)); have hs2 : w.heap.size + 1 < w1.heap.size := (by omega)) | (go_at_call 20; refine (good_any _ _ _ _ _ _ _).mono ?_; rintro e w2 ⟨rfl, hb2⟩; have hz_w2 : w.heap.size + 2 ≤ w2.heap.size := (by have h_ := hb2.size; first | omega | (simp at h_; omega)); obtain ⟨hc3, hf3⟩ := bk hb2 (w.heap.size) (by first | omega | (simp; done) | (simp; omega)); have hs3 : w.heap.size < w2.heap.size := (by omega); obtain ⟨hc4, hf4⟩ := bk hb2 (w.heap.size + 1) (by first | omega | (simp; done) | (simp; omega)); have hs4 : w.heap.size + 1 < w2.heap.size := (by omega)))
    exact bodyPost_ret (v := .tuple #[.agg #[.int .i64 ep, .bool op, .int .i64 nx, .int .i64 nd, .int .i64 hv, .int .i64 bn], .int .i64 1]) (by simp [results, Try.results16, go_sem, hc1, hc2, hc3, hc4]) rfl ⟨rfl, (by repeat (first | with_reducible exact Below.refl _ _ | (with_reducible refine Below.setCell ?_ (by first | omega | (simp; done) | (simp; omega)) _) | with_reducible refine bal ?_ _ | with_reducible refine Below.drew ?_ | with_reducible refine bdn ?_ _ | with_reducible refine via ?_ (by with_reducible assumption)))⟩
  by_cases h2 : 255 < need
  · have e : raiseF ⟨ep, op, nx, nd, hv, bn⟩ need now = (⟨ep, op, nx, nd, hv, bn⟩, 1) := by (have hn : needB need = false := by (simp [needB]; omega)); simp [raiseF, hn]
    rw [e]
    dsimp only
    clear e
    go_enter Try.func16, Try.ntmps16
    go_wp2_with (first | (go_at_call 19; refine (coming_any _ _ _ _ _ _ _).mono ?_; rintro e w1 ⟨rfl, hb1⟩; have hz_w1 : w.heap.size + 2 ≤ w1.heap.size := (by have h_ := hb1.size; first | omega | (simp at h_; omega)); obtain ⟨hc1, hf1⟩ := bk hb1 (w.heap.size) (by first | omega | (simp; done) | (simp; omega)); have hs1 : w.heap.size < w1.heap.size := (by omega); obtain ⟨hc2, hf2⟩ := bk hb1 (w.heap.size + 1) (by first | omega | (simp; done) | (simp; omega)); have hs2 : w.heap.size + 1 < w1.heap.size := (by omega)) | (go_at_call 20; refine (good_any _ _ _ _ _ _ _).mono ?_; rintro e w2 ⟨rfl, hb2⟩; have hz_w2 : w.heap.size + 2 ≤ w2.heap.size := (by have h_ := hb2.size; first | omega | (simp at h_; omega)); obtain ⟨hc3, hf3⟩ := bk hb2 (w.heap.size) (by first | omega | (simp; done) | (simp; omega)); have hs3 : w.heap.size < w2.heap.size := (by omega); obtain ⟨hc4, hf4⟩ := bk hb2 (w.heap.size + 1) (by first | omega | (simp; done) | (simp; omega)); have hs4 : w.heap.size + 1 < w2.heap.size := (by omega)))
    exact bodyPost_ret (v := .tuple #[.agg #[.int .i64 ep, .bool op, .int .i64 nx, .int .i64 nd, .int .i64 hv, .int .i64 bn], .int .i64 1]) (by simp [results, Try.results16, go_sem, hc1, hc2, hc3, hc4]) rfl ⟨rfl, (by repeat (first | with_reducible exact Below.refl _ _ | (with_reducible refine Below.setCell ?_ (by first | omega | (simp; done) | (simp; omega)) _) | with_reducible refine bal ?_ _ | with_reducible refine Below.drew ?_ | with_reducible refine bdn ?_ _ | with_reducible refine via ?_ (by with_reducible assumption)))⟩
  by_cases hc : 65535 < comS ⟨ep, op, nx, nd, hv, bn⟩ + 1
  · have e : raiseF ⟨ep, op, nx, nd, hv, bn⟩ need now = (⟨ep, op, nx, nd, hv, bn⟩, 11) := by (have hn : needB need = true := by (simp [needB]; omega)); simp only [raiseF, hg, hn, Bool.and_self, if_true]; rw [if_pos hc]
    rw [e]
    dsimp only
    clear e
    go_enter Try.func16, Try.ntmps16
    go_wp2_with (first | (go_at_call 19; refine (coming_any _ _ _ _ _ _ _).mono ?_; rintro e w1 ⟨rfl, hb1⟩; have hz_w1 : w.heap.size + 2 ≤ w1.heap.size := (by have h_ := hb1.size; first | omega | (simp at h_; omega)); obtain ⟨hc1, hf1⟩ := bk hb1 (w.heap.size) (by first | omega | (simp; done) | (simp; omega)); have hs1 : w.heap.size < w1.heap.size := (by omega); obtain ⟨hc2, hf2⟩ := bk hb1 (w.heap.size + 1) (by first | omega | (simp; done) | (simp; omega)); have hs2 : w.heap.size + 1 < w1.heap.size := (by omega)) | (go_at_call 20; refine (good_any _ _ _ _ _ _ _).mono ?_; rintro e w2 ⟨rfl, hb2⟩; have hz_w2 : w.heap.size + 2 ≤ w2.heap.size := (by have h_ := hb2.size; first | omega | (simp at h_; omega)); obtain ⟨hc3, hf3⟩ := bk hb2 (w.heap.size) (by first | omega | (simp; done) | (simp; omega)); have hs3 : w.heap.size < w2.heap.size := (by omega); obtain ⟨hc4, hf4⟩ := bk hb2 (w.heap.size + 1) (by first | omega | (simp; done) | (simp; omega)); have hs4 : w.heap.size + 1 < w2.heap.size := (by omega)))
    exact bodyPost_ret (v := .tuple #[.agg #[.int .i64 ep, .bool op, .int .i64 nx, .int .i64 nd, .int .i64 hv, .int .i64 bn], .int .i64 11]) (by simp [results, Try.results16, go_sem, hc1, hc2, hc3, hc4]) rfl ⟨rfl, (by repeat (first | with_reducible exact Below.refl _ _ | (with_reducible refine Below.setCell ?_ (by first | omega | (simp; done) | (simp; omega)) _) | with_reducible refine bal ?_ _ | with_reducible refine Below.drew ?_ | with_reducible refine bdn ?_ _ | with_reducible refine via ?_ (by with_reducible assumption)))⟩
  by_cases h3 : need = 0
  · subst h3
    have e : raiseF ⟨ep, op, nx, nd, hv, bn⟩ 0 now = (⟨comS ⟨ep, op, nx, nd, hv, bn⟩ + 1, false, 0, 0, 0, 0⟩, 0) := by (have hn : needB 0 = true := by decide); simp only [raiseF, hg, hn, Bool.and_self, if_true]; rw [if_neg hc]
    rw [e]
    dsimp only
    clear e
    go_enter Try.func16, Try.ntmps16
    go_wp2_with (first | (go_at_call 19; refine (coming_any _ _ _ _ _ _ _).mono ?_; rintro e w1 ⟨rfl, hb1⟩; have hz_w1 : w.heap.size + 2 ≤ w1.heap.size := (by have h_ := hb1.size; first | omega | (simp at h_; omega)); obtain ⟨hc1, hf1⟩ := bk hb1 (w.heap.size) (by first | omega | (simp; done) | (simp; omega)); have hs1 : w.heap.size < w1.heap.size := (by omega); obtain ⟨hc2, hf2⟩ := bk hb1 (w.heap.size + 1) (by first | omega | (simp; done) | (simp; omega)); have hs2 : w.heap.size + 1 < w1.heap.size := (by omega)) | (go_at_call 20; refine (good_any _ _ _ _ _ _ _).mono ?_; rintro e w2 ⟨rfl, hb2⟩; have hz_w2 : w.heap.size + 2 ≤ w2.heap.size := (by have h_ := hb2.size; first | omega | (simp at h_; omega)); obtain ⟨hc3, hf3⟩ := bk hb2 (w.heap.size) (by first | omega | (simp; done) | (simp; omega)); have hs3 : w.heap.size < w2.heap.size := (by omega); obtain ⟨hc4, hf4⟩ := bk hb2 (w.heap.size + 1) (by first | omega | (simp; done) | (simp; omega)); have hs4 : w.heap.size + 1 < w2.heap.size := (by omega)))
    exact bodyPost_ret (v := .tuple #[.agg #[.int .i64 (comS ⟨ep, op, nx, nd, hv, bn⟩ + 1), .bool false, .int .i64 0, .int .i64 0, .int .i64 0, .int .i64 0], .int .i64 0]) (by simp [results, Try.results16, go_sem, hc1, hc2, hc3, hc4]) rfl ⟨rfl, (by repeat (first | with_reducible exact Below.refl _ _ | (with_reducible refine Below.setCell ?_ (by first | omega | (simp; done) | (simp; omega)) _) | with_reducible refine bal ?_ _ | with_reducible refine Below.drew ?_ | with_reducible refine bdn ?_ _ | with_reducible refine via ?_ (by with_reducible assumption)))⟩
  · have e : raiseF ⟨ep, op, nx, nd, hv, bn⟩ need now = (⟨ep, true, comS ⟨ep, op, nx, nd, hv, bn⟩ + 1, need, 0, now⟩, 0) := by (have hn : needB need = true := by (simp [needB]; omega)); simp only [raiseF, hg, hn, Bool.and_self, if_true]; rw [if_neg hc, if_neg h3]
    rw [e]
    dsimp only
    clear e
    go_enter Try.func16, Try.ntmps16
    go_wp2_with (first | (go_at_call 19; refine (coming_any _ _ _ _ _ _ _).mono ?_; rintro e w1 ⟨rfl, hb1⟩; have hz_w1 : w.heap.size + 2 ≤ w1.heap.size := (by have h_ := hb1.size; first | omega | (simp at h_; omega)); obtain ⟨hc1, hf1⟩ := bk hb1 (w.heap.size) (by first | omega | (simp; done) | (simp; omega)); have hs1 : w.heap.size < w1.heap.size := (by omega); obtain ⟨hc2, hf2⟩ := bk hb1 (w.heap.size + 1) (by first | omega | (simp; done) | (simp; omega)); have hs2 : w.heap.size + 1 < w1.heap.size := (by omega)) | (go_at_call 20; refine (good_any _ _ _ _ _ _ _).mono ?_; rintro e w2 ⟨rfl, hb2⟩; have hz_w2 : w.heap.size + 2 ≤ w2.heap.size := (by have h_ := hb2.size; first | omega | (simp at h_; omega)); obtain ⟨hc3, hf3⟩ := bk hb2 (w.heap.size) (by first | omega | (simp; done) | (simp; omega)); have hs3 : w.heap.size < w2.heap.size := (by omega); obtain ⟨hc4, hf4⟩ := bk hb2 (w.heap.size + 1) (by first | omega | (simp; done) | (simp; omega)); have hs4 : w.heap.size + 1 < w2.heap.size := (by omega)))
    exact bodyPost_ret (v := .tuple #[.agg #[.int .i64 ep, .bool true, .int .i64 (comS ⟨ep, op, nx, nd, hv, bn⟩ + 1), .int .i64 need, .int .i64 0, .int .i64 now], .int .i64 0]) (by simp [results, Try.results16, go_sem, hc1, hc2, hc3, hc4]) rfl ⟨rfl, (by repeat (first | with_reducible exact Below.refl _ _ | (with_reducible refine Below.setCell ?_ (by first | omega | (simp; done) | (simp; omega)) _) | with_reducible refine bal ?_ _ | with_reducible refine Below.drew ?_ | with_reducible refine bdn ?_ _ | with_reducible refine via ?_ (by with_reducible assumption)))⟩

end Go.Proofs.Ytcaipfdnadlkdaa
