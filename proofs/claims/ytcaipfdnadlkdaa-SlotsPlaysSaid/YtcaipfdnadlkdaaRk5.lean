/- The walks over rekey.Late. -/
import Derived.Test.YtcaipfdnadlkdaaRk4
namespace Go.Proofs.Ytcaipfdnadlkdaa
open Go.RowKit
set_option linter.unusedSimpArgs false
set_option linter.unusedVariables false

set_option maxHeartbeats 2000000 in
theorem late_any (ep : Int) (op : Bool) (nx nd hv bn : Int) (now : Int) (w : World) : Calls Try.prog 21 #[.agg #[.int .i64 ep, .bool op, .int .i64 nx, .int .i64 nd, .int .i64 hv, .int .i64 bn], .int .i64 now] w fun x w' => x = .returned (.int .i64 (lateF ⟨ep, op, nx, nd, hv, bn⟩ now)) ∧ Below w.heap.size w w' := by
  cases hg : goodS ⟨ep, op, nx, nd, hv, bn⟩
  · have e : lateF ⟨ep, op, nx, nd, hv, bn⟩ now = 0 := by simp [lateF, hg]
    rw [e]
    clear e
    go_enter Try.func21, Try.ntmps21
    go_wp2_with (first | (go_at_call 20; refine (good_any _ _ _ _ _ _ _).mono ?_; rintro e w2 ⟨rfl, hb2⟩; have hz_w2 : w.heap.size + 1 ≤ w2.heap.size := (by have h_ := hb2.size; first | omega | (simp at h_; omega)); obtain ⟨hc1, hf1⟩ := bk hb2 (w.heap.size) (by first | omega | (simp; done) | (simp; omega)); have hs1 : w.heap.size < w2.heap.size := (by omega)))
    go_ret
    exact ⟨rfl, (by repeat (first | with_reducible exact Below.refl _ _ | (with_reducible refine Below.setCell ?_ (by first | omega | (simp; done) | (simp; omega)) _) | with_reducible refine bal ?_ _ | with_reducible refine Below.drew ?_ | with_reducible refine bdn ?_ _ | with_reducible refine via ?_ (by with_reducible assumption)))⟩
  cases op
  · have e : lateF ⟨ep, false, nx, nd, hv, bn⟩ now = 0 := by simp [lateF]
    rw [e]
    clear e
    go_enter Try.func21, Try.ntmps21
    go_wp2_with (first | (go_at_call 20; refine (good_any _ _ _ _ _ _ _).mono ?_; rintro e w2 ⟨rfl, hb2⟩; have hz_w2 : w.heap.size + 1 ≤ w2.heap.size := (by have h_ := hb2.size; first | omega | (simp at h_; omega)); obtain ⟨hc1, hf1⟩ := bk hb2 (w.heap.size) (by first | omega | (simp; done) | (simp; omega)); have hs1 : w.heap.size < w2.heap.size := (by omega)))
    go_ret
    exact ⟨rfl, (by repeat (first | with_reducible exact Below.refl _ _ | (with_reducible refine Below.setCell ?_ (by first | omega | (simp; done) | (simp; omega)) _) | with_reducible refine bal ?_ _ | with_reducible refine Below.drew ?_ | with_reducible refine bdn ?_ _ | with_reducible refine via ?_ (by with_reducible assumption)))⟩
  by_cases h1 : now < bn
  · have e : lateF ⟨ep, true, nx, nd, hv, bn⟩ now = 0 := by (have hl : longB bn now = false := by (simp [longB]; omega)); simp [lateF, hl]
    rw [e]
    clear e
    go_enter Try.func21, Try.ntmps21
    go_wp2_with (first | (go_at_call 20; refine (good_any _ _ _ _ _ _ _).mono ?_; rintro e w2 ⟨rfl, hb2⟩; have hz_w2 : w.heap.size + 1 ≤ w2.heap.size := (by have h_ := hb2.size; first | omega | (simp at h_; omega)); obtain ⟨hc1, hf1⟩ := bk hb2 (w.heap.size) (by first | omega | (simp; done) | (simp; omega)); have hs1 : w.heap.size < w2.heap.size := (by omega)))
    go_ret
    exact ⟨rfl, (by repeat (first | with_reducible exact Below.refl _ _ | (with_reducible refine Below.setCell ?_ (by first | omega | (simp; done) | (simp; omega)) _) | with_reducible refine bal ?_ _ | with_reducible refine Below.drew ?_ | with_reducible refine bdn ?_ _ | with_reducible refine via ?_ (by with_reducible assumption)))⟩
  have h1' : bn ≤ now := by omega
  by_cases h2 : IntKind.u64.wrap (IntKind.u64.wrap now - IntKind.u64.wrap bn) < 200
  · have e : lateF ⟨ep, true, nx, nd, hv, bn⟩ now = 0 := by (have hl : longB bn now = false := by (simp [longB]; omega)); simp [lateF, hl]
    rw [e]
    clear e
    go_enter Try.func21, Try.ntmps21
    go_wp2_with (first | (go_at_call 20; refine (good_any _ _ _ _ _ _ _).mono ?_; rintro e w2 ⟨rfl, hb2⟩; have hz_w2 : w.heap.size + 1 ≤ w2.heap.size := (by have h_ := hb2.size; first | omega | (simp at h_; omega)); obtain ⟨hc1, hf1⟩ := bk hb2 (w.heap.size) (by first | omega | (simp; done) | (simp; omega)); have hs1 : w.heap.size < w2.heap.size := (by omega)))
    go_ret
    exact ⟨rfl, (by repeat (first | with_reducible exact Below.refl _ _ | (with_reducible refine Below.setCell ?_ (by first | omega | (simp; done) | (simp; omega)) _) | with_reducible refine bal ?_ _ | with_reducible refine Below.drew ?_ | with_reducible refine bdn ?_ _ | with_reducible refine via ?_ (by with_reducible assumption)))⟩
  · have h2' : 200 ≤ IntKind.u64.wrap (IntKind.u64.wrap now - IntKind.u64.wrap bn) := by omega
    have e : lateF ⟨ep, true, nx, nd, hv, bn⟩ now = bits .andNot .i64 nd hv := by (have hl : longB bn now = true := by (simp [longB]; omega)); simp [lateF, hl, hg]
    rw [e]
    clear e
    go_enter Try.func21, Try.ntmps21
    go_wp2_with (first | (go_at_call 20; refine (good_any _ _ _ _ _ _ _).mono ?_; rintro e w2 ⟨rfl, hb2⟩; have hz_w2 : w.heap.size + 1 ≤ w2.heap.size := (by have h_ := hb2.size; first | omega | (simp at h_; omega)); obtain ⟨hc1, hf1⟩ := bk hb2 (w.heap.size) (by first | omega | (simp; done) | (simp; omega)); have hs1 : w.heap.size < w2.heap.size := (by omega)))
    go_ret
    exact ⟨rfl, (by repeat (first | with_reducible exact Below.refl _ _ | (with_reducible refine Below.setCell ?_ (by first | omega | (simp; done) | (simp; omega)) _) | with_reducible refine bal ?_ _ | with_reducible refine Below.drew ?_ | with_reducible refine bdn ?_ _ | with_reducible refine via ?_ (by with_reducible assumption)))⟩

end Go.Proofs.Ytcaipfdnadlkdaa
