/- What chapter 23 says of numbers that go round. -/
import Derived.Test.YtecpbhefpicmaaaWalks4
namespace Go.Proofs.Ytecpbhefpicmaaa
open Go.RowKit
set_option linter.unusedSimpArgs false
set_option linter.unusedVariables false

set_option maxRecDepth 100000 in
set_option maxHeartbeats 4000000 in
theorem known_any (w : World) : Calls Try.prog 3 #[] w fun x w' => x = .returned (.bool true) ∧ Below w.heap.size w w' := by
  have f0 : seqF false 0 = 0 := by decide
  have f1 : oT 1000 0 = 1000 := by decide
  have f2 : oF 50 0 = 50 := by decide
  have f3 : ntF false 0 0 1000 = 1000 := by decide
  have f4 : nfF false 0 0 50 = 50 := by decide
  have f5 : bT true 1000 10 77 30 = 2723 := by decide
  have f6 : bF true 50 9 = 42 := by decide
  have f7 : seqF true 0 = 1 := by decide
  have f8 : oT 77 2723 = 2800 := by decide
  have f9 : oF 9 42 = 51 := by decide
  have f10 : ntF true 1000 2723 77 = 2800 := by decide
  have f11 : nfF true 50 42 9 = 51 := by decide
  have f12 : seqF true 1 = 2 := by decide
  have f13 : oT 76 2723 = 2799 := by decide
  have f14 : oF 8 42 = 50 := by decide
  have f15 : ntF true 2800 2723 76 = 2800 := by decide
  have f16 : nfF true 51 42 8 = 51 := by decide
  have f17 : bT true 2800 30 0 5 = 2890 := by decide
  have f18 : bF true 51 0 = 52 := by decide
  have f19 : oT 0 2890 = 2890 := by decide
  have f20 : oF 0 52 = 52 := by decide
  have f21 : ntF true 2800 2890 0 = 2890 := by decide
  have f22 : nfF true 51 52 0 = 52 := by decide
  have f23 : bT false 0 0 9 9 = 0 := by decide
  have f24 : bF false 0 9 = 0 := by decide
  have f25 : seqF true 65535 = 0 := by decide
  have f26 : oT 0 0 = 0 := by decide
  have f27 : oF 0 0 = 0 := by decide
  have f28 : ntF true 0 0 0 = 0 := by decide
  have f29 : nfF true 0 0 0 = 0 := by decide
  have tok1 : True := trivial
  have tok2 : True := trivial
  have tok3 : True := trivial
  have tok4 : True := trivial
  have tok5 : True := trivial
  have tok6 : True := trivial
  have tok7 : True := trivial
  have tok8 : True := trivial
  have tok9 : True := trivial
  go_enter Try.func3, Try.ntmps3
  go_wp2_with (first | (go_at_call 7; clear tok1; refine (awake_any _).mono ?_; rintro e w1 ⟨rfl, hb1⟩; have hz_w1 : w.heap.size ≤ w1.heap.size := (by have h_ := hb1.size; first | omega | (simp at h_; omega))) | (go_at_call 8; clear tok2; refine (out_any _ _ _ _ _ _ _ _ _ _ _ (by omega) (by omega) (by omega) (by omega) (by omega) (by omega) (by omega) (by omega) (by omega) (by omega) (by omega) (by omega) (by omega) (by omega)).mono ?_; rintro e w2 ⟨rfl, hb2⟩; have hz_w2 : w1.heap.size ≤ w2.heap.size := (by have h_ := hb2.size; first | omega | (simp at h_; omega))) | (go_at_call 9; clear tok3; refine (begin_any _ _ _ _ _ _ _ _ _ _ _ (by omega) (by omega) (by omega) (by omega) (by omega) (by omega) (by omega) (by omega) (by omega) (by omega) (by omega) (by omega) (by omega) (by omega)).mono ?_; rintro e w3 ⟨rfl, hb3⟩; have hz_w3 : w2.heap.size + 1 ≤ w3.heap.size := (by have h_ := hb3.size; first | omega | (simp at h_; omega)); obtain ⟨hc1, hf1⟩ := bk hb3 (w2.heap.size) (by first | omega | (simp; done) | (simp; omega)); have hs1 : w2.heap.size < w3.heap.size := (by omega)) | (go_at_call 8; clear tok4; refine (out_any _ _ _ _ _ _ _ _ _ _ _ (by omega) (by omega) (by omega) (by omega) (by omega) (by omega) (by omega) (by omega) (by omega) (by omega) (by omega) (by omega) (by omega) (by omega)).mono ?_; rintro e w4 ⟨rfl, hb4⟩; have hz_w4 : w3.heap.size + 1 ≤ w4.heap.size := (by have h_ := hb4.size; first | omega | (simp at h_; omega)); obtain ⟨hc2, hf2⟩ := bk hb4 (w2.heap.size) (by first | omega | (simp; done) | (simp; omega)); have hs2 : w2.heap.size < w4.heap.size := (by omega); obtain ⟨hc3, hf3⟩ := bk hb4 (w3.heap.size) (by first | omega | (simp; done) | (simp; omega)); have hs3 : w3.heap.size < w4.heap.size := (by omega)) | (go_at_call 8; clear tok5; refine (out_any _ _ _ _ _ _ _ _ _ _ _ (by omega) (by omega) (by omega) (by omega) (by omega) (by omega) (by omega) (by omega) (by omega) (by omega) (by omega) (by omega) (by omega) (by omega)).mono ?_; rintro e w5 ⟨rfl, hb5⟩; have hz_w5 : w4.heap.size + 1 ≤ w5.heap.size := (by have h_ := hb5.size; first | omega | (simp at h_; omega)); obtain ⟨hc4, hf4⟩ := bk hb5 (w2.heap.size) (by first | omega | (simp; done) | (simp; omega)); have hs4 : w2.heap.size < w5.heap.size := (by omega); obtain ⟨hc5, hf5⟩ := bk hb5 (w3.heap.size) (by first | omega | (simp; done) | (simp; omega)); have hs5 : w3.heap.size < w5.heap.size := (by omega); obtain ⟨hc6, hf6⟩ := bk hb5 (w4.heap.size) (by first | omega | (simp; done) | (simp; omega)); have hs6 : w4.heap.size < w5.heap.size := (by omega)) | (go_at_call 9; clear tok6; refine (begin_any _ _ _ _ _ _ _ _ _ _ _ (by omega) (by omega) (by omega) (by omega) (by omega) (by omega) (by omega) (by omega) (by omega) (by omega) (by omega) (by omega) (by omega) (by omega)).mono ?_; rintro e w6 ⟨rfl, hb6⟩; have hz_w6 : w5.heap.size + 1 ≤ w6.heap.size := (by have h_ := hb6.size; first | omega | (simp at h_; omega)); obtain ⟨hc7, hf7⟩ := bk hb6 (w2.heap.size) (by first | omega | (simp; done) | (simp; omega)); have hs7 : w2.heap.size < w6.heap.size := (by omega); obtain ⟨hc8, hf8⟩ := bk hb6 (w3.heap.size) (by first | omega | (simp; done) | (simp; omega)); have hs8 : w3.heap.size < w6.heap.size := (by omega); obtain ⟨hc9, hf9⟩ := bk hb6 (w4.heap.size) (by first | omega | (simp; done) | (simp; omega)); have hs9 : w4.heap.size < w6.heap.size := (by omega); obtain ⟨hc10, hf10⟩ := bk hb6 (w5.heap.size) (by first | omega | (simp; done) | (simp; omega)); have hs10 : w5.heap.size < w6.heap.size := (by omega)) | (go_at_call 8; clear tok7; refine (out_any _ _ _ _ _ _ _ _ _ _ _ (by omega) (by omega) (by omega) (by omega) (by omega) (by omega) (by omega) (by omega) (by omega) (by omega) (by omega) (by omega) (by omega) (by omega)).mono ?_; rintro e w7 ⟨rfl, hb7⟩; have hz_w7 : w6.heap.size + 1 ≤ w7.heap.size := (by have h_ := hb7.size; first | omega | (simp at h_; omega)); obtain ⟨hc11, hf11⟩ := bk hb7 (w2.heap.size) (by first | omega | (simp; done) | (simp; omega)); have hs11 : w2.heap.size < w7.heap.size := (by omega); obtain ⟨hc12, hf12⟩ := bk hb7 (w3.heap.size) (by first | omega | (simp; done) | (simp; omega)); have hs12 : w3.heap.size < w7.heap.size := (by omega); obtain ⟨hc13, hf13⟩ := bk hb7 (w4.heap.size) (by first | omega | (simp; done) | (simp; omega)); have hs13 : w4.heap.size < w7.heap.size := (by omega); obtain ⟨hc14, hf14⟩ := bk hb7 (w5.heap.size) (by first | omega | (simp; done) | (simp; omega)); have hs14 : w5.heap.size < w7.heap.size := (by omega); obtain ⟨hc15, hf15⟩ := bk hb7 (w6.heap.size) (by first | omega | (simp; done) | (simp; omega)); have hs15 : w6.heap.size < w7.heap.size := (by omega)) | (go_at_call 9; clear tok8; refine (begin_any _ _ _ _ _ _ _ _ _ _ _ (by omega) (by omega) (by omega) (by omega) (by omega) (by omega) (by omega) (by omega) (by omega) (by omega) (by omega) (by omega) (by omega) (by omega)).mono ?_; rintro e w8 ⟨rfl, hb8⟩; have hz_w8 : w7.heap.size + 1 ≤ w8.heap.size := (by have h_ := hb8.size; first | omega | (simp at h_; omega)); obtain ⟨hc16, hf16⟩ := bk hb8 (w2.heap.size) (by first | omega | (simp; done) | (simp; omega)); have hs16 : w2.heap.size < w8.heap.size := (by omega); obtain ⟨hc17, hf17⟩ := bk hb8 (w3.heap.size) (by first | omega | (simp; done) | (simp; omega)); have hs17 : w3.heap.size < w8.heap.size := (by omega); obtain ⟨hc18, hf18⟩ := bk hb8 (w4.heap.size) (by first | omega | (simp; done) | (simp; omega)); have hs18 : w4.heap.size < w8.heap.size := (by omega); obtain ⟨hc19, hf19⟩ := bk hb8 (w5.heap.size) (by first | omega | (simp; done) | (simp; omega)); have hs19 : w5.heap.size < w8.heap.size := (by omega); obtain ⟨hc20, hf20⟩ := bk hb8 (w6.heap.size) (by first | omega | (simp; done) | (simp; omega)); have hs20 : w6.heap.size < w8.heap.size := (by omega)) | (go_at_call 8; clear tok9; refine (out_any _ _ _ _ _ _ _ _ _ _ _ (by omega) (by omega) (by omega) (by omega) (by omega) (by omega) (by omega) (by omega) (by omega) (by omega) (by omega) (by omega) (by omega) (by omega)).mono ?_; rintro e w9 ⟨rfl, hb9⟩; have hz_w9 : w8.heap.size + 1 ≤ w9.heap.size := (by have h_ := hb9.size; first | omega | (simp at h_; omega)); obtain ⟨hc21, hf21⟩ := bk hb9 (w2.heap.size) (by first | omega | (simp; done) | (simp; omega)); have hs21 : w2.heap.size < w9.heap.size := (by omega); obtain ⟨hc22, hf22⟩ := bk hb9 (w3.heap.size) (by first | omega | (simp; done) | (simp; omega)); have hs22 : w3.heap.size < w9.heap.size := (by omega); obtain ⟨hc23, hf23⟩ := bk hb9 (w4.heap.size) (by first | omega | (simp; done) | (simp; omega)); have hs23 : w4.heap.size < w9.heap.size := (by omega); obtain ⟨hc24, hf24⟩ := bk hb9 (w5.heap.size) (by first | omega | (simp; done) | (simp; omega)); have hs24 : w5.heap.size < w9.heap.size := (by omega); obtain ⟨hc25, hf25⟩ := bk hb9 (w6.heap.size) (by first | omega | (simp; done) | (simp; omega)); have hs25 : w6.heap.size < w9.heap.size := (by omega); obtain ⟨hc26, hf26⟩ := bk hb9 (w8.heap.size) (by first | omega | (simp; done) | (simp; omega)); have hs26 : w8.heap.size < w9.heap.size := (by omega)))
  go_ret
  exact ⟨rfl, (by repeat (first | with_reducible exact Below.refl _ _ | (with_reducible refine Below.setCell ?_ (by first | omega | (simp; done) | (simp; omega)) _) | with_reducible refine bal ?_ _ | with_reducible refine Below.drew ?_ | with_reducible refine bdn ?_ _ | with_reducible refine via ?_ (by with_reducible assumption)))⟩
end Go.Proofs.Ytecpbhefpicmaaa
