/- The law at no calls. -/
import Derived.Test.YtbidfmlomiimnaaWalks9
namespace Go.Proofs.Ytbidfmlomiimnaa
open Go.RowKit
set_option linter.unusedSimpArgs false

set_option maxRecDepth 100000 in
set_option maxHeartbeats 4000000 in
theorem keys_nil (ao : Option Addr) (cap : Nat) (want : Int) (w : World) (hw0 : 0 ≤ want) (hw1 : want ≤ 255) : Calls Try.prog 3 #[.slice ao 0 cap, .int .u8 want] w fun x w' => x = .returned (.bool true) ∧ Below w.heap.size w w' := by
  have hK0 : 0 ≤ want % 3 := by omega
  have hK1 : want % 3 < 3 := by omega
  have hK : srcB (want % 3) = true := by simp [srcB, hK0, hK1]
  have hg : goodB false 0 0 = true := by decide
  have f1 : askE false 0 0 (want % 3) = 0 := by simp [askE, hg, hK]
  have f2 : askW false 0 0 (want % 3) = (want % 3) := by simp [askW, hg, hK]
  have hgK : goodB false 0 (want % 3) = true := by simp [goodB, hK]; decide
  have hgKK : goodB true (want % 3) (want % 3) = true := by simp [goodB, hK]
  have f4 : onT true (want % 3) (want % 3) (want % 3) true = false := by simp [onT]
  have f5 : onA true (want % 3) (want % 3) (want % 3) true = true := by simp [onA]
  have f6 : onN true (want % 3) (want % 3) (want % 3) true = (want % 3) := by simp [onN]
  have f7 : onG true (want % 3) (want % 3) (want % 3) true = true := by simp [onG, hgKK]
  have f8 : onT false 0 (want % 3) (want % 3) false = false := by simp [onT]
  have f9 : onA false 0 (want % 3) (want % 3) false = false := by simp [onA, f8]
  have f10 : onN false 0 (want % 3) (want % 3) false = 0 := by simp [onN, f8]
  have g1 : onT false 0 (want % 3) (want % 3) true = true := by simp [onT, hgK]
  have g2 : onA false 0 (want % 3) (want % 3) true = true := by simp [onA, g1]
  have g3 : onN false 0 (want % 3) (want % 3) true = want % 3 := by simp [onN, g1]
  have g4 : onG false 0 (want % 3) (want % 3) true = true := by simp [onG, hgK, g1]
  clear hg hgK hgKK hK hK0 hK1
  go_enter Try.func3, Try.ntmps3
  go_wp2_with (first | (go_at_call 7; refine (awake_any _).mono ?_; rintro e w1 ⟨rfl, hb1⟩; have hz_w1 : w.heap.size ≤ w1.heap.size := (by have h_ := hb1.size; first | omega | (simp at h_; omega))))
  refine wp_loop_rounds 1 ?_
  rw [rounds_succ]
  have tok2 : True := trivial
  have tok3 : True := trivial
  have tok4 : True := trivial
  have tok5 : True := trivial
  go_wp2_with (first | (go_at_call 8; clear tok2; refine (ask_any _ _ _ _ _).mono ?_; rintro e w2 ⟨rfl, hb2⟩; have hz_w2 : w1.heap.size + 1 ≤ w2.heap.size := (by have h_ := hb2.size; first | omega | (simp at h_; omega)); obtain ⟨hc1, hf1⟩ := bk hb2 (w1.heap.size) (by first | omega | (simp; done) | (simp; omega)); have hs1 : w1.heap.size < w2.heap.size := (by omega)) | (go_at_call 9; clear tok3; refine (on_any _ _ _ _ _ _).mono ?_; rintro e w3 ⟨rfl, hb3⟩; have hz_w3 : w2.heap.size + 1 ≤ w3.heap.size := (by have h_ := hb3.size; first | omega | (simp at h_; omega)); obtain ⟨hc2, hf2⟩ := bk hb3 (w1.heap.size) (by first | omega | (simp; done) | (simp; omega)); have hs2 : w1.heap.size < w3.heap.size := (by omega); obtain ⟨hc3, hf3⟩ := bk hb3 (w2.heap.size) (by first | omega | (simp; done) | (simp; omega)); have hs3 : w2.heap.size < w3.heap.size := (by omega)) | (go_at_call 9; clear tok4; refine (on_any _ _ _ _ _ _).mono ?_; rintro e w4 ⟨rfl, hb4⟩; have hz_w4 : w3.heap.size + 1 ≤ w4.heap.size := (by have h_ := hb4.size; first | omega | (simp at h_; omega)); obtain ⟨hc4, hf4⟩ := bk hb4 (w1.heap.size) (by first | omega | (simp; done) | (simp; omega)); have hs4 : w1.heap.size < w4.heap.size := (by omega); obtain ⟨hc5, hf5⟩ := bk hb4 (w2.heap.size) (by first | omega | (simp; done) | (simp; omega)); have hs5 : w2.heap.size < w4.heap.size := (by omega); obtain ⟨hc6, hf6⟩ := bk hb4 (w3.heap.size) (by first | omega | (simp; done) | (simp; omega)); have hs6 : w3.heap.size < w4.heap.size := (by omega)) | (go_at_call 9; clear tok5; refine (on_any _ _ _ _ _ _).mono ?_; rintro e w5 ⟨rfl, hb5⟩; have hz_w5 : w4.heap.size + 1 ≤ w5.heap.size := (by have h_ := hb5.size; first | omega | (simp at h_; omega)); obtain ⟨hc7, hf7⟩ := bk hb5 (w1.heap.size) (by first | omega | (simp; done) | (simp; omega)); have hs7 : w1.heap.size < w5.heap.size := (by omega); obtain ⟨hc8, hf8⟩ := bk hb5 (w2.heap.size) (by first | omega | (simp; done) | (simp; omega)); have hs8 : w2.heap.size < w5.heap.size := (by omega); obtain ⟨hc9, hf9⟩ := bk hb5 (w3.heap.size) (by first | omega | (simp; done) | (simp; omega)); have hs9 : w3.heap.size < w5.heap.size := (by omega); obtain ⟨hc10, hf10⟩ := bk hb5 (w4.heap.size) (by first | omega | (simp; done) | (simp; omega)); have hs10 : w4.heap.size < w5.heap.size := (by omega)))
  go_ret
  exact ⟨by first | rfl | simp, (by repeat (first | exact Below.refl _ _ | refine Below.setCell ?_ (by first | omega | (simp; done) | (simp; omega)) _ | refine bal ?_ _ | refine Below.drew ?_ | refine via ?_ (by assumption)))⟩
end Go.Proofs.Ytbidfmlomiimnaa
