/- What the document tells of epochs; the program's answers against the reference's. -/
import Derived.Test.YtcaipfdnadlkdaaRk9
import Derived.KernelRfl
namespace Go.Proofs.Ytcaipfdnadlkdaa
open Go.RowKit
set_option linter.unusedSimpArgs false
set_option linter.unusedVariables false

theorem St.eta (s : St) : (⟨s.ep, s.op, s.nx, s.nd, s.hv, s.bn⟩ : St) = s := rfl
set_option maxHeartbeats 2000000 in
theorem awake_any (w : World) : Calls Try.prog 15 #[] w fun x w' => x = .returned (.bool true) ∧ Below w.heap.size w w' := by
  have f0 : raiseF ⟨0, false, 0, 0, 0, 0⟩ 3 0 = (⟨0, true, 1, 3, 0, 0⟩, 0) := by kernel_rfl
  have f1 : ackF ⟨0, true, 1, 3, 0, 0⟩ 0 1 = (⟨0, true, 1, 3, 1, 0⟩, false, 0) := by kernel_rfl
  have f2 : ackF ⟨0, true, 1, 3, 1, 0⟩ 1 1 = (⟨1, false, 0, 0, 0, 0⟩, true, 0) := by kernel_rfl
  have f3 : goodS ⟨0, true, 1, 3, 0, 0⟩ = true := by kernel_rfl
  have tok1 : True := trivial
  have tok2 : True := trivial
  have tok3 : True := trivial
  have tok4 : True := trivial
  go_enter Try.func15, Try.ntmps15
  go_wp2_with (first | (go_at_call 16; clear tok1; refine (raise_any _ _ _ _ _ _ _ _ _ ).mono ?_; rintro e w1 ⟨rfl, hb1⟩; have hz_w1 : w.heap.size ≤ w1.heap.size := (by have h_ := hb1.size; first | omega | (simp at h_; omega))) | (go_at_call 17; clear tok2; refine (ack_any _ _ _ _ _ _ _ _ _ ).mono ?_; rintro e w2 ⟨rfl, hb2⟩; have hz_w2 : w1.heap.size + 1 ≤ w2.heap.size := (by have h_ := hb2.size; first | omega | (simp at h_; omega)); obtain ⟨hc1, hf1⟩ := bk hb2 (w1.heap.size) (by first | omega | (simp; done) | (simp; omega)); have hs1 : w1.heap.size < w2.heap.size := (by omega)) | (go_at_call 17; clear tok3; refine (ack_any _ _ _ _ _ _ _ _ _ ).mono ?_; rintro e w3 ⟨rfl, hb3⟩; have hz_w3 : w2.heap.size + 1 ≤ w3.heap.size := (by have h_ := hb3.size; first | omega | (simp at h_; omega)); obtain ⟨hc2, hf2⟩ := bk hb3 (w1.heap.size) (by first | omega | (simp; done) | (simp; omega)); have hs2 : w1.heap.size < w3.heap.size := (by omega); obtain ⟨hc3, hf3⟩ := bk hb3 (w2.heap.size) (by first | omega | (simp; done) | (simp; omega)); have hs3 : w2.heap.size < w3.heap.size := (by omega)) | (go_at_call 20; clear tok4; refine (good_any _ _ _ _ _ _ _ ).mono ?_; rintro e w4 ⟨rfl, hb4⟩; have hz_w4 : w3.heap.size + 1 ≤ w4.heap.size := (by have h_ := hb4.size; first | omega | (simp at h_; omega)); obtain ⟨hc4, hf4⟩ := bk hb4 (w1.heap.size) (by first | omega | (simp; done) | (simp; omega)); have hs4 : w1.heap.size < w4.heap.size := (by omega); obtain ⟨hc5, hf5⟩ := bk hb4 (w2.heap.size) (by first | omega | (simp; done) | (simp; omega)); have hs5 : w2.heap.size < w4.heap.size := (by omega); obtain ⟨hc6, hf6⟩ := bk hb4 (w3.heap.size) (by first | omega | (simp; done) | (simp; omega)); have hs6 : w3.heap.size < w4.heap.size := (by omega)))
  go_ret
  exact ⟨rfl, (by repeat (first | with_reducible exact Below.refl _ _ | (with_reducible refine Below.setCell ?_ (by first | omega | (simp; done) | (simp; omega)) _) | with_reducible refine bal ?_ _ | with_reducible refine Below.drew ?_ | with_reducible refine bdn ?_ _ | with_reducible refine via ?_ (by with_reducible assumption)))⟩

end Go.Proofs.Ytcaipfdnadlkdaa
