/- The walk of the law of any calls. -/
import Derived.Test.YtbidfmlomiimnaaWalks6
import Derived.Deep.LoopGhost
import Derived.RegionTactic
namespace Go.Proofs.Ytbidfmlomiimnaa
open Go.RowKit
set_option linter.unusedSimpArgs false

set_option maxRecDepth 100000 in
set_option maxHeartbeats 4000000 in
theorem runs_law (b off len cap : Nat) (A : Nat → Bool) (Sr : Nat → Int) (Ky : Nat → Bool) (w : World) (hm : len ≤ 9223372036854775807)
    (hcA : ∀ i, i < len → w.cell? ⟨b, off + i * 3, none⟩ = some (.bool (A i))) (hcS : ∀ i, i < len → w.cell? ⟨b, off + i * 3 + 1, none⟩ = some (.int .i64 (Sr i)))
    (hcK : ∀ i, i < len → w.cell? ⟨b, off + i * 3 + 2, none⟩ = some (.bool (Ky i))) (hb : b < w.heap.size) :
    Calls Try.prog 6 #[.slice (some ⟨b, off, none⟩) len cap] w fun x w' => x = .returned (.bool true) ∧ Below w.heap.size w w' := by
  go_enter Try.func6, Try.ntmps6
  go_wp2_with (first | (go_at_call 7; refine (awake_any _).mono ?_; rintro e w1 ⟨rfl, hb1⟩; have hz_w1 : w.heap.size ≤ w1.heap.size := (by have h_ := hb1.size; first | omega | (simp at h_; omega))))
  go_loopw [4] (fun i wr => ∃ (k : Nat) (a : Bool) (n q : Int), k ≤ len ∧ k ≤ 100 ∧ i = .int .i64 k ∧ goodB a n q = true ∧ wr.cell? ⟨w1.heap.size, 0, none⟩ = some (.bool a) ∧ wr.cell? ⟨w1.heap.size, 1, none⟩ = some (.int .i64 n) ∧ wr.cell? ⟨w1.heap.size, 2, none⟩ = some (.int .i64 q) ∧ (∀ o, wr.frozen? ⟨w1.heap.size, o, none⟩ = false) ∧ w1.heap.size < wr.heap.size ∧ Below w.heap.size w wr)
    (fun i _ => len - (intOf i).toNat)
  case atStart => exact ⟨0, false, 0, 0, by omega, by omega, rfl, by decide, by go_simp, by go_simp, by go_simp, fun o => by go_simp, by simp, (by repeat (first | with_reducible exact Below.refl _ _ | (with_reducible refine Below.setCell ?_ (by first | omega | (simp; done) | (simp; omega)) _) | with_reducible refine bal ?_ _ | with_reducible refine Below.drew ?_ | with_reducible refine via ?_ (by with_reducible assumption)))⟩
  case round =>
    obtain ⟨k, a, n, q, hk, hk2, rfl, hg, hc0, hc1, hc2, hf0, hz, hbl⟩ := hrel
    by_cases hlt : k < len
    · by_cases hl2 : k < 100
      · have cA : wr.cell? ⟨b, off + k * 3, none⟩ = _ := (hbl.cell (by exact hb)).trans (hcA k hlt)
        have cS : wr.cell? ⟨b, off + k * 3 + 1, none⟩ = _ := (hbl.cell (by exact hb)).trans (hcS k hlt)
        have cK : wr.cell? ⟨b, off + k * 3 + 2, none⟩ = _ := (hbl.cell (by exact hb)).trans (hcK k hlt)
        clear hcA hcS hcK
        have hbw : b < wr.heap.size := by (have := hbl.size; omega)
        generalize A k = ak at cA
        generalize Sr k = s at cS
        generalize Ky k = key at cK
        cases ak
        · cases hT : onT a n q s key
          · have e1 : onA a n q s key = a := by simp [onA, hT]
            have e2 : onN a n q s key = n := by simp [onN, hT]
            cases a
            · have e3 : onG false n q s key = false := by simp [onG, hT]
              have e4 : lackB false n q = true := by simp [lackB, hg]
              as_aux_lemma =>
              go_wp2_with fail
              go_region
              all_goals
                go_wp2_with (first | (go_at_call 9; refine (on_any _ _ _ _ _ _).mono ?_; rintro e w3 ⟨rfl, hb3⟩; have hz_w3 : wr.heap.size + 2 ≤ w3.heap.size := (by have h_ := hb3.size; first | omega | (simp at h_; omega)); obtain ⟨hc20, hf20⟩ := bk hb3 (w1.heap.size) (by first | omega | (simp; done) | (simp; omega)); have hs20 : w1.heap.size < w3.heap.size := (by omega); obtain ⟨hc21, hf21⟩ := bk hb3 (wr.heap.size) (by first | omega | (simp; done) | (simp; omega)); have hs21 : wr.heap.size < w3.heap.size := (by omega); obtain ⟨hc22, hf22⟩ := bk hb3 (wr.heap.size + 1) (by first | omega | (simp; done) | (simp; omega)); have hs22 : wr.heap.size + 1 < w3.heap.size := (by omega)) | (go_at_call 11; refine (good_any _ _ _ _).mono ?_; rintro e w4 ⟨rfl, hb4⟩; have hz_w4 : w3.heap.size + 1 ≤ w4.heap.size := (by have h_ := hb4.size; first | omega | (simp at h_; omega)); obtain ⟨hc30, hf30⟩ := bk hb4 (w1.heap.size) (by first | omega | (simp; done) | (simp; omega)); have hs30 : w1.heap.size < w4.heap.size := (by omega); obtain ⟨hc31, hf31⟩ := bk hb4 (wr.heap.size) (by first | omega | (simp; done) | (simp; omega)); have hs31 : wr.heap.size < w4.heap.size := (by omega); obtain ⟨hc32, hf32⟩ := bk hb4 (wr.heap.size + 1) (by first | omega | (simp; done) | (simp; omega)); have hs32 : wr.heap.size + 1 < w4.heap.size := (by omega); obtain ⟨hc33, hf33⟩ := bk hb4 (w3.heap.size) (by first | omega | (simp; done) | (simp; omega)); have hs33 : w3.heap.size < w4.heap.size := (by omega)) | (go_at_call 10; refine (lacks_any _ _ _ _).mono ?_; rintro e w5 ⟨rfl, hb5⟩; have hz_w5 : w4.heap.size ≤ w5.heap.size := (by have h_ := hb5.size; first | omega | (simp at h_; omega)); obtain ⟨hc40, hf40⟩ := bk hb5 (w1.heap.size) (by first | omega | (simp; done) | (simp; omega)); have hs40 : w1.heap.size < w5.heap.size := (by omega); obtain ⟨hc41, hf41⟩ := bk hb5 (wr.heap.size) (by first | omega | (simp; done) | (simp; omega)); have hs41 : wr.heap.size < w5.heap.size := (by omega); obtain ⟨hc42, hf42⟩ := bk hb5 (wr.heap.size + 1) (by first | omega | (simp; done) | (simp; omega)); have hs42 : wr.heap.size + 1 < w5.heap.size := (by omega); obtain ⟨hc43, hf43⟩ := bk hb5 (w3.heap.size) (by first | omega | (simp; done) | (simp; omega)); have hs43 : w3.heap.size < w5.heap.size := (by omega)))
                all_goals
                  have q0 : w5.cell? ⟨w1.heap.size, 0, none⟩ = some (.bool false) := by go_simp
                  have q1 : w5.cell? ⟨w1.heap.size, 1, none⟩ = some (.int .i64 n) := by go_simp
                  have q2 : w5.cell? ⟨w1.heap.size, 2, none⟩ = some (.int .i64 q) := by go_simp
                  clear hc40
                  go_roundw
                  case rel => exact ⟨k + 1, _, _, _, by omega, by omega, by go_num, hg, by go_simp, by go_simp, by go_simp, fun o => by go_simp, by (simp; omega), (by repeat (first | with_reducible exact Below.refl _ _ | (with_reducible refine Below.setCell ?_ (by first | omega | (simp; done) | (simp; omega)) _) | with_reducible refine bal ?_ _ | with_reducible refine Below.drew ?_ | with_reducible refine via ?_ (by with_reducible assumption)))⟩
                  case measure => simp [intOf]; omega
            · cases hns : n == s
              · have e3 : onG true n q s key = false := by simp [onG, hT, hns]
                cases hnq : n == q
                · have hnq' : (n != q) = true := by simp [bne, hnq]
                  have e4 : lackB true n q = true := by simp [lackB, hg, hnq]
                  as_aux_lemma =>
                  go_wp2_with fail
                  go_region
                  all_goals
                    go_wp2_with (first | (go_at_call 9; refine (on_any _ _ _ _ _ _).mono ?_; rintro e w3 ⟨rfl, hb3⟩; have hz_w3 : wr.heap.size + 2 ≤ w3.heap.size := (by have h_ := hb3.size; first | omega | (simp at h_; omega)); obtain ⟨hc20, hf20⟩ := bk hb3 (w1.heap.size) (by first | omega | (simp; done) | (simp; omega)); have hs20 : w1.heap.size < w3.heap.size := (by omega); obtain ⟨hc21, hf21⟩ := bk hb3 (wr.heap.size) (by first | omega | (simp; done) | (simp; omega)); have hs21 : wr.heap.size < w3.heap.size := (by omega); obtain ⟨hc22, hf22⟩ := bk hb3 (wr.heap.size + 1) (by first | omega | (simp; done) | (simp; omega)); have hs22 : wr.heap.size + 1 < w3.heap.size := (by omega)) | (go_at_call 11; refine (good_any _ _ _ _).mono ?_; rintro e w4 ⟨rfl, hb4⟩; have hz_w4 : w3.heap.size + 1 ≤ w4.heap.size := (by have h_ := hb4.size; first | omega | (simp at h_; omega)); obtain ⟨hc30, hf30⟩ := bk hb4 (w1.heap.size) (by first | omega | (simp; done) | (simp; omega)); have hs30 : w1.heap.size < w4.heap.size := (by omega); obtain ⟨hc31, hf31⟩ := bk hb4 (wr.heap.size) (by first | omega | (simp; done) | (simp; omega)); have hs31 : wr.heap.size < w4.heap.size := (by omega); obtain ⟨hc32, hf32⟩ := bk hb4 (wr.heap.size + 1) (by first | omega | (simp; done) | (simp; omega)); have hs32 : wr.heap.size + 1 < w4.heap.size := (by omega); obtain ⟨hc33, hf33⟩ := bk hb4 (w3.heap.size) (by first | omega | (simp; done) | (simp; omega)); have hs33 : w3.heap.size < w4.heap.size := (by omega)) | (go_at_call 10; refine (lacks_any _ _ _ _).mono ?_; rintro e w5 ⟨rfl, hb5⟩; have hz_w5 : w4.heap.size ≤ w5.heap.size := (by have h_ := hb5.size; first | omega | (simp at h_; omega)); obtain ⟨hc40, hf40⟩ := bk hb5 (w1.heap.size) (by first | omega | (simp; done) | (simp; omega)); have hs40 : w1.heap.size < w5.heap.size := (by omega); obtain ⟨hc41, hf41⟩ := bk hb5 (wr.heap.size) (by first | omega | (simp; done) | (simp; omega)); have hs41 : wr.heap.size < w5.heap.size := (by omega); obtain ⟨hc42, hf42⟩ := bk hb5 (wr.heap.size + 1) (by first | omega | (simp; done) | (simp; omega)); have hs42 : wr.heap.size + 1 < w5.heap.size := (by omega); obtain ⟨hc43, hf43⟩ := bk hb5 (w3.heap.size) (by first | omega | (simp; done) | (simp; omega)); have hs43 : w3.heap.size < w5.heap.size := (by omega)))
                    all_goals
                      have q0 : w5.cell? ⟨w1.heap.size, 0, none⟩ = some (.bool true) := by go_simp
                      have q1 : w5.cell? ⟨w1.heap.size, 1, none⟩ = some (.int .i64 n) := by go_simp
                      have q2 : w5.cell? ⟨w1.heap.size, 2, none⟩ = some (.int .i64 q) := by go_simp
                      clear hc40
                      go_roundw
                      case rel => exact ⟨k + 1, _, _, _, by omega, by omega, by go_num, hg, by go_simp, by go_simp, by go_simp, fun o => by go_simp, by (simp; omega), (by repeat (first | with_reducible exact Below.refl _ _ | (with_reducible refine Below.setCell ?_ (by first | omega | (simp; done) | (simp; omega)) _) | with_reducible refine bal ?_ _ | with_reducible refine Below.drew ?_ | with_reducible refine via ?_ (by with_reducible assumption)))⟩
                      case measure => simp [intOf]; omega
                · have hnq' : (n != q) = false := by simp [bne, hnq]
                  have e4 : lackB true n q = false := by simp [lackB, hnq]
                  as_aux_lemma =>
                  go_wp2_with fail
                  go_region
                  all_goals
                    go_wp2_with (first | (go_at_call 9; refine (on_any _ _ _ _ _ _).mono ?_; rintro e w3 ⟨rfl, hb3⟩; have hz_w3 : wr.heap.size + 2 ≤ w3.heap.size := (by have h_ := hb3.size; first | omega | (simp at h_; omega)); obtain ⟨hc20, hf20⟩ := bk hb3 (w1.heap.size) (by first | omega | (simp; done) | (simp; omega)); have hs20 : w1.heap.size < w3.heap.size := (by omega); obtain ⟨hc21, hf21⟩ := bk hb3 (wr.heap.size) (by first | omega | (simp; done) | (simp; omega)); have hs21 : wr.heap.size < w3.heap.size := (by omega); obtain ⟨hc22, hf22⟩ := bk hb3 (wr.heap.size + 1) (by first | omega | (simp; done) | (simp; omega)); have hs22 : wr.heap.size + 1 < w3.heap.size := (by omega)) | (go_at_call 11; refine (good_any _ _ _ _).mono ?_; rintro e w4 ⟨rfl, hb4⟩; have hz_w4 : w3.heap.size + 1 ≤ w4.heap.size := (by have h_ := hb4.size; first | omega | (simp at h_; omega)); obtain ⟨hc30, hf30⟩ := bk hb4 (w1.heap.size) (by first | omega | (simp; done) | (simp; omega)); have hs30 : w1.heap.size < w4.heap.size := (by omega); obtain ⟨hc31, hf31⟩ := bk hb4 (wr.heap.size) (by first | omega | (simp; done) | (simp; omega)); have hs31 : wr.heap.size < w4.heap.size := (by omega); obtain ⟨hc32, hf32⟩ := bk hb4 (wr.heap.size + 1) (by first | omega | (simp; done) | (simp; omega)); have hs32 : wr.heap.size + 1 < w4.heap.size := (by omega); obtain ⟨hc33, hf33⟩ := bk hb4 (w3.heap.size) (by first | omega | (simp; done) | (simp; omega)); have hs33 : w3.heap.size < w4.heap.size := (by omega)) | (go_at_call 10; refine (lacks_any _ _ _ _).mono ?_; rintro e w5 ⟨rfl, hb5⟩; have hz_w5 : w4.heap.size ≤ w5.heap.size := (by have h_ := hb5.size; first | omega | (simp at h_; omega)); obtain ⟨hc40, hf40⟩ := bk hb5 (w1.heap.size) (by first | omega | (simp; done) | (simp; omega)); have hs40 : w1.heap.size < w5.heap.size := (by omega); obtain ⟨hc41, hf41⟩ := bk hb5 (wr.heap.size) (by first | omega | (simp; done) | (simp; omega)); have hs41 : wr.heap.size < w5.heap.size := (by omega); obtain ⟨hc42, hf42⟩ := bk hb5 (wr.heap.size + 1) (by first | omega | (simp; done) | (simp; omega)); have hs42 : wr.heap.size + 1 < w5.heap.size := (by omega); obtain ⟨hc43, hf43⟩ := bk hb5 (w3.heap.size) (by first | omega | (simp; done) | (simp; omega)); have hs43 : w3.heap.size < w5.heap.size := (by omega)))
                    all_goals
                      have q0 : w5.cell? ⟨w1.heap.size, 0, none⟩ = some (.bool true) := by go_simp
                      have q1 : w5.cell? ⟨w1.heap.size, 1, none⟩ = some (.int .i64 n) := by go_simp
                      have q2 : w5.cell? ⟨w1.heap.size, 2, none⟩ = some (.int .i64 q) := by go_simp
                      clear hc40
                      go_roundw
                      case rel => exact ⟨k + 1, _, _, _, by omega, by omega, by go_num, hg, by go_simp, by go_simp, by go_simp, fun o => by go_simp, by (simp; omega), (by repeat (first | with_reducible exact Below.refl _ _ | (with_reducible refine Below.setCell ?_ (by first | omega | (simp; done) | (simp; omega)) _) | with_reducible refine bal ?_ _ | with_reducible refine Below.drew ?_ | with_reducible refine via ?_ (by with_reducible assumption)))⟩
                      case measure => simp [intOf]; omega
              · have e3 : onG true n q s key = true := by simp [onG, hT, hns, hg]
                cases hnq : n == q
                · have hnq' : (n != q) = true := by simp [bne, hnq]
                  have e4 : lackB true n q = true := by simp [lackB, hg, hnq]
                  as_aux_lemma =>
                  go_wp2_with fail
                  go_region
                  all_goals
                    go_wp2_with (first | (go_at_call 9; refine (on_any _ _ _ _ _ _).mono ?_; rintro e w3 ⟨rfl, hb3⟩; have hz_w3 : wr.heap.size + 2 ≤ w3.heap.size := (by have h_ := hb3.size; first | omega | (simp at h_; omega)); obtain ⟨hc20, hf20⟩ := bk hb3 (w1.heap.size) (by first | omega | (simp; done) | (simp; omega)); have hs20 : w1.heap.size < w3.heap.size := (by omega); obtain ⟨hc21, hf21⟩ := bk hb3 (wr.heap.size) (by first | omega | (simp; done) | (simp; omega)); have hs21 : wr.heap.size < w3.heap.size := (by omega); obtain ⟨hc22, hf22⟩ := bk hb3 (wr.heap.size + 1) (by first | omega | (simp; done) | (simp; omega)); have hs22 : wr.heap.size + 1 < w3.heap.size := (by omega)) | (go_at_call 11; refine (good_any _ _ _ _).mono ?_; rintro e w4 ⟨rfl, hb4⟩; have hz_w4 : w3.heap.size + 1 ≤ w4.heap.size := (by have h_ := hb4.size; first | omega | (simp at h_; omega)); obtain ⟨hc30, hf30⟩ := bk hb4 (w1.heap.size) (by first | omega | (simp; done) | (simp; omega)); have hs30 : w1.heap.size < w4.heap.size := (by omega); obtain ⟨hc31, hf31⟩ := bk hb4 (wr.heap.size) (by first | omega | (simp; done) | (simp; omega)); have hs31 : wr.heap.size < w4.heap.size := (by omega); obtain ⟨hc32, hf32⟩ := bk hb4 (wr.heap.size + 1) (by first | omega | (simp; done) | (simp; omega)); have hs32 : wr.heap.size + 1 < w4.heap.size := (by omega); obtain ⟨hc33, hf33⟩ := bk hb4 (w3.heap.size) (by first | omega | (simp; done) | (simp; omega)); have hs33 : w3.heap.size < w4.heap.size := (by omega)) | (go_at_call 10; refine (lacks_any _ _ _ _).mono ?_; rintro e w5 ⟨rfl, hb5⟩; have hz_w5 : w4.heap.size ≤ w5.heap.size := (by have h_ := hb5.size; first | omega | (simp at h_; omega)); obtain ⟨hc40, hf40⟩ := bk hb5 (w1.heap.size) (by first | omega | (simp; done) | (simp; omega)); have hs40 : w1.heap.size < w5.heap.size := (by omega); obtain ⟨hc41, hf41⟩ := bk hb5 (wr.heap.size) (by first | omega | (simp; done) | (simp; omega)); have hs41 : wr.heap.size < w5.heap.size := (by omega); obtain ⟨hc42, hf42⟩ := bk hb5 (wr.heap.size + 1) (by first | omega | (simp; done) | (simp; omega)); have hs42 : wr.heap.size + 1 < w5.heap.size := (by omega); obtain ⟨hc43, hf43⟩ := bk hb5 (w3.heap.size) (by first | omega | (simp; done) | (simp; omega)); have hs43 : w3.heap.size < w5.heap.size := (by omega)))
                    all_goals
                      have q0 : w5.cell? ⟨w1.heap.size, 0, none⟩ = some (.bool true) := by go_simp
                      have q1 : w5.cell? ⟨w1.heap.size, 1, none⟩ = some (.int .i64 n) := by go_simp
                      have q2 : w5.cell? ⟨w1.heap.size, 2, none⟩ = some (.int .i64 q) := by go_simp
                      clear hc40
                      go_roundw
                      case rel => exact ⟨k + 1, _, _, _, by omega, by omega, by go_num, hg, by go_simp, by go_simp, by go_simp, fun o => by go_simp, by (simp; omega), (by repeat (first | with_reducible exact Below.refl _ _ | (with_reducible refine Below.setCell ?_ (by first | omega | (simp; done) | (simp; omega)) _) | with_reducible refine bal ?_ _ | with_reducible refine Below.drew ?_ | with_reducible refine via ?_ (by with_reducible assumption)))⟩
                      case measure => simp [intOf]; omega
                · have hnq' : (n != q) = false := by simp [bne, hnq]
                  have e4 : lackB true n q = false := by simp [lackB, hnq]
                  as_aux_lemma =>
                  go_wp2_with fail
                  go_region
                  all_goals
                    go_wp2_with (first | (go_at_call 9; refine (on_any _ _ _ _ _ _).mono ?_; rintro e w3 ⟨rfl, hb3⟩; have hz_w3 : wr.heap.size + 2 ≤ w3.heap.size := (by have h_ := hb3.size; first | omega | (simp at h_; omega)); obtain ⟨hc20, hf20⟩ := bk hb3 (w1.heap.size) (by first | omega | (simp; done) | (simp; omega)); have hs20 : w1.heap.size < w3.heap.size := (by omega); obtain ⟨hc21, hf21⟩ := bk hb3 (wr.heap.size) (by first | omega | (simp; done) | (simp; omega)); have hs21 : wr.heap.size < w3.heap.size := (by omega); obtain ⟨hc22, hf22⟩ := bk hb3 (wr.heap.size + 1) (by first | omega | (simp; done) | (simp; omega)); have hs22 : wr.heap.size + 1 < w3.heap.size := (by omega)) | (go_at_call 11; refine (good_any _ _ _ _).mono ?_; rintro e w4 ⟨rfl, hb4⟩; have hz_w4 : w3.heap.size + 1 ≤ w4.heap.size := (by have h_ := hb4.size; first | omega | (simp at h_; omega)); obtain ⟨hc30, hf30⟩ := bk hb4 (w1.heap.size) (by first | omega | (simp; done) | (simp; omega)); have hs30 : w1.heap.size < w4.heap.size := (by omega); obtain ⟨hc31, hf31⟩ := bk hb4 (wr.heap.size) (by first | omega | (simp; done) | (simp; omega)); have hs31 : wr.heap.size < w4.heap.size := (by omega); obtain ⟨hc32, hf32⟩ := bk hb4 (wr.heap.size + 1) (by first | omega | (simp; done) | (simp; omega)); have hs32 : wr.heap.size + 1 < w4.heap.size := (by omega); obtain ⟨hc33, hf33⟩ := bk hb4 (w3.heap.size) (by first | omega | (simp; done) | (simp; omega)); have hs33 : w3.heap.size < w4.heap.size := (by omega)) | (go_at_call 10; refine (lacks_any _ _ _ _).mono ?_; rintro e w5 ⟨rfl, hb5⟩; have hz_w5 : w4.heap.size ≤ w5.heap.size := (by have h_ := hb5.size; first | omega | (simp at h_; omega)); obtain ⟨hc40, hf40⟩ := bk hb5 (w1.heap.size) (by first | omega | (simp; done) | (simp; omega)); have hs40 : w1.heap.size < w5.heap.size := (by omega); obtain ⟨hc41, hf41⟩ := bk hb5 (wr.heap.size) (by first | omega | (simp; done) | (simp; omega)); have hs41 : wr.heap.size < w5.heap.size := (by omega); obtain ⟨hc42, hf42⟩ := bk hb5 (wr.heap.size + 1) (by first | omega | (simp; done) | (simp; omega)); have hs42 : wr.heap.size + 1 < w5.heap.size := (by omega); obtain ⟨hc43, hf43⟩ := bk hb5 (w3.heap.size) (by first | omega | (simp; done) | (simp; omega)); have hs43 : w3.heap.size < w5.heap.size := (by omega)))
                    all_goals
                      have q0 : w5.cell? ⟨w1.heap.size, 0, none⟩ = some (.bool true) := by go_simp
                      have q1 : w5.cell? ⟨w1.heap.size, 1, none⟩ = some (.int .i64 n) := by go_simp
                      have q2 : w5.cell? ⟨w1.heap.size, 2, none⟩ = some (.int .i64 q) := by go_simp
                      clear hc40
                      go_roundw
                      case rel => exact ⟨k + 1, _, _, _, by omega, by omega, by go_num, hg, by go_simp, by go_simp, by go_simp, fun o => by go_simp, by (simp; omega), (by repeat (first | with_reducible exact Below.refl _ _ | (with_reducible refine Below.setCell ?_ (by first | omega | (simp; done) | (simp; omega)) _) | with_reducible refine bal ?_ _ | with_reducible refine Below.drew ?_ | with_reducible refine via ?_ (by with_reducible assumption)))⟩
                      case measure => simp [intOf]; omega
          · have hT' := hT
            simp [onT] at hT'
            obtain ⟨⟨⟨_, hsq⟩, hkey⟩, hr⟩ := hT'
            subst hkey
            subst hsq
            have e1 : onA a n s s true = true := by simp [onA, hT]
            have e2 : onN a n s s true = s := by simp [onN, hT]
            have e3 : onG a n s s true = true := by simp [onG, hT, hg]
            have hg' : goodB true s s = true := by simp [goodB] at hg ⊢; simp [hg]
            have e4 : lackB true s s = false := by simp [lackB]
            cases a
            · as_aux_lemma =>
              go_wp2_with fail
              go_region
              all_goals
                go_wp2_with (first | (go_at_call 9; refine (on_any _ _ _ _ _ _).mono ?_; rintro e w3 ⟨rfl, hb3⟩; have hz_w3 : wr.heap.size + 2 ≤ w3.heap.size := (by have h_ := hb3.size; first | omega | (simp at h_; omega)); obtain ⟨hc20, hf20⟩ := bk hb3 (w1.heap.size) (by first | omega | (simp; done) | (simp; omega)); have hs20 : w1.heap.size < w3.heap.size := (by omega); obtain ⟨hc21, hf21⟩ := bk hb3 (wr.heap.size) (by first | omega | (simp; done) | (simp; omega)); have hs21 : wr.heap.size < w3.heap.size := (by omega); obtain ⟨hc22, hf22⟩ := bk hb3 (wr.heap.size + 1) (by first | omega | (simp; done) | (simp; omega)); have hs22 : wr.heap.size + 1 < w3.heap.size := (by omega)) | (go_at_call 11; refine (good_any _ _ _ _).mono ?_; rintro e w4 ⟨rfl, hb4⟩; have hz_w4 : w3.heap.size + 1 ≤ w4.heap.size := (by have h_ := hb4.size; first | omega | (simp at h_; omega)); obtain ⟨hc30, hf30⟩ := bk hb4 (w1.heap.size) (by first | omega | (simp; done) | (simp; omega)); have hs30 : w1.heap.size < w4.heap.size := (by omega); obtain ⟨hc31, hf31⟩ := bk hb4 (wr.heap.size) (by first | omega | (simp; done) | (simp; omega)); have hs31 : wr.heap.size < w4.heap.size := (by omega); obtain ⟨hc32, hf32⟩ := bk hb4 (wr.heap.size + 1) (by first | omega | (simp; done) | (simp; omega)); have hs32 : wr.heap.size + 1 < w4.heap.size := (by omega); obtain ⟨hc33, hf33⟩ := bk hb4 (w3.heap.size) (by first | omega | (simp; done) | (simp; omega)); have hs33 : w3.heap.size < w4.heap.size := (by omega)) | (go_at_call 10; refine (lacks_any _ _ _ _).mono ?_; rintro e w5 ⟨rfl, hb5⟩; have hz_w5 : w4.heap.size ≤ w5.heap.size := (by have h_ := hb5.size; first | omega | (simp at h_; omega)); obtain ⟨hc40, hf40⟩ := bk hb5 (w1.heap.size) (by first | omega | (simp; done) | (simp; omega)); have hs40 : w1.heap.size < w5.heap.size := (by omega); obtain ⟨hc41, hf41⟩ := bk hb5 (wr.heap.size) (by first | omega | (simp; done) | (simp; omega)); have hs41 : wr.heap.size < w5.heap.size := (by omega); obtain ⟨hc42, hf42⟩ := bk hb5 (wr.heap.size + 1) (by first | omega | (simp; done) | (simp; omega)); have hs42 : wr.heap.size + 1 < w5.heap.size := (by omega); obtain ⟨hc43, hf43⟩ := bk hb5 (w3.heap.size) (by first | omega | (simp; done) | (simp; omega)); have hs43 : w3.heap.size < w5.heap.size := (by omega)))
                all_goals
                  have q0 : w5.cell? ⟨w1.heap.size, 0, none⟩ = some (.bool false) := by go_simp
                  have q1 : w5.cell? ⟨w1.heap.size, 1, none⟩ = some (.int .i64 n) := by go_simp
                  have q2 : w5.cell? ⟨w1.heap.size, 2, none⟩ = some (.int .i64 s) := by go_simp
                  clear hc40
                  go_roundw
                  case rel => exact ⟨k + 1, _, _, _, by omega, by omega, by go_num, hg', by go_simp, by go_simp, by go_simp, fun o => by go_simp, by (simp; omega), (by repeat (first | with_reducible exact Below.refl _ _ | (with_reducible refine Below.setCell ?_ (by first | omega | (simp; done) | (simp; omega)) _) | with_reducible refine bal ?_ _ | with_reducible refine Below.drew ?_ | with_reducible refine via ?_ (by with_reducible assumption)))⟩
                  case measure => simp [intOf]; omega
            · have hsn : (s != n) = true := by (simp at hr; simpa using Ne.symm hr)
              as_aux_lemma =>
              go_wp2_with fail
              go_region
              all_goals
                go_wp2_with (first | (go_at_call 9; refine (on_any _ _ _ _ _ _).mono ?_; rintro e w3 ⟨rfl, hb3⟩; have hz_w3 : wr.heap.size + 2 ≤ w3.heap.size := (by have h_ := hb3.size; first | omega | (simp at h_; omega)); obtain ⟨hc20, hf20⟩ := bk hb3 (w1.heap.size) (by first | omega | (simp; done) | (simp; omega)); have hs20 : w1.heap.size < w3.heap.size := (by omega); obtain ⟨hc21, hf21⟩ := bk hb3 (wr.heap.size) (by first | omega | (simp; done) | (simp; omega)); have hs21 : wr.heap.size < w3.heap.size := (by omega); obtain ⟨hc22, hf22⟩ := bk hb3 (wr.heap.size + 1) (by first | omega | (simp; done) | (simp; omega)); have hs22 : wr.heap.size + 1 < w3.heap.size := (by omega)) | (go_at_call 11; refine (good_any _ _ _ _).mono ?_; rintro e w4 ⟨rfl, hb4⟩; have hz_w4 : w3.heap.size + 1 ≤ w4.heap.size := (by have h_ := hb4.size; first | omega | (simp at h_; omega)); obtain ⟨hc30, hf30⟩ := bk hb4 (w1.heap.size) (by first | omega | (simp; done) | (simp; omega)); have hs30 : w1.heap.size < w4.heap.size := (by omega); obtain ⟨hc31, hf31⟩ := bk hb4 (wr.heap.size) (by first | omega | (simp; done) | (simp; omega)); have hs31 : wr.heap.size < w4.heap.size := (by omega); obtain ⟨hc32, hf32⟩ := bk hb4 (wr.heap.size + 1) (by first | omega | (simp; done) | (simp; omega)); have hs32 : wr.heap.size + 1 < w4.heap.size := (by omega); obtain ⟨hc33, hf33⟩ := bk hb4 (w3.heap.size) (by first | omega | (simp; done) | (simp; omega)); have hs33 : w3.heap.size < w4.heap.size := (by omega)) | (go_at_call 10; refine (lacks_any _ _ _ _).mono ?_; rintro e w5 ⟨rfl, hb5⟩; have hz_w5 : w4.heap.size ≤ w5.heap.size := (by have h_ := hb5.size; first | omega | (simp at h_; omega)); obtain ⟨hc40, hf40⟩ := bk hb5 (w1.heap.size) (by first | omega | (simp; done) | (simp; omega)); have hs40 : w1.heap.size < w5.heap.size := (by omega); obtain ⟨hc41, hf41⟩ := bk hb5 (wr.heap.size) (by first | omega | (simp; done) | (simp; omega)); have hs41 : wr.heap.size < w5.heap.size := (by omega); obtain ⟨hc42, hf42⟩ := bk hb5 (wr.heap.size + 1) (by first | omega | (simp; done) | (simp; omega)); have hs42 : wr.heap.size + 1 < w5.heap.size := (by omega); obtain ⟨hc43, hf43⟩ := bk hb5 (w3.heap.size) (by first | omega | (simp; done) | (simp; omega)); have hs43 : w3.heap.size < w5.heap.size := (by omega)))
                all_goals
                  have q0 : w5.cell? ⟨w1.heap.size, 0, none⟩ = some (.bool true) := by go_simp
                  have q1 : w5.cell? ⟨w1.heap.size, 1, none⟩ = some (.int .i64 n) := by go_simp
                  have q2 : w5.cell? ⟨w1.heap.size, 2, none⟩ = some (.int .i64 s) := by go_simp
                  clear hc40
                  go_roundw
                  case rel => exact ⟨k + 1, _, _, _, by omega, by omega, by go_num, hg', by go_simp, by go_simp, by go_simp, fun o => by go_simp, by (simp; omega), (by repeat (first | with_reducible exact Below.refl _ _ | (with_reducible refine Below.setCell ?_ (by first | omega | (simp; done) | (simp; omega)) _) | with_reducible refine bal ?_ _ | with_reducible refine Below.drew ?_ | with_reducible refine via ?_ (by with_reducible assumption)))⟩
                  case measure => simp [intOf]; omega
        · cases hs : srcB s
          · have e1 : askE a n q s = 1 := by simp [askE, hs]
            have e2 : askW a n q s = q := by simp [askW, hs]
            have hs' := srcB_f hs
            as_aux_lemma =>
            go_wp2_with fail
            go_region
            all_goals
              go_wp2_with (first | (go_at_call 8; refine (ask_any _ _ _ _ _).mono ?_; rintro e w2 ⟨rfl, hb2⟩; have hz_w2 : wr.heap.size + 2 ≤ w2.heap.size := (by have h_ := hb2.size; first | omega | (simp at h_; omega)); obtain ⟨hc10, hf10⟩ := bk hb2 (w1.heap.size) (by first | omega | (simp; done) | (simp; omega)); have hs10 : w1.heap.size < w2.heap.size := (by omega); obtain ⟨hc11, hf11⟩ := bk hb2 (wr.heap.size) (by first | omega | (simp; done) | (simp; omega)); have hs11 : wr.heap.size < w2.heap.size := (by omega); obtain ⟨hc12, hf12⟩ := bk hb2 (wr.heap.size + 1) (by first | omega | (simp; done) | (simp; omega)); have hs12 : wr.heap.size + 1 < w2.heap.size := (by omega)))
              all_goals
                have q0 : w2.cell? ⟨w1.heap.size, 0, none⟩ = some (.bool a) := by go_simp
                have q1 : w2.cell? ⟨w1.heap.size, 1, none⟩ = some (.int .i64 n) := by go_simp
                have q2 : w2.cell? ⟨w1.heap.size, 2, none⟩ = some (.int .i64 q) := by go_simp
                clear hc10
                go_roundw
                case rel => exact ⟨k + 1, _, _, _, by omega, by omega, by go_num, hg, by go_simp, by go_simp, by go_simp, fun o => by go_simp, by (simp; omega), (by repeat (first | with_reducible exact Below.refl _ _ | (with_reducible refine Below.setCell ?_ (by first | omega | (simp; done) | (simp; omega)) _) | with_reducible refine bal ?_ _ | with_reducible refine Below.drew ?_ | with_reducible refine via ?_ (by with_reducible assumption)))⟩
                case measure => simp [intOf]; omega
          · have e1 : askE a n q s = 0 := by simp [askE, hs, hg]
            have e2 : askW a n q s = s := by simp [askW, hs, hg]
            have hg' : goodB a n s = true := by simp [goodB, hs] at hg ⊢; simp [hg]
            obtain ⟨hs1, hs2⟩ := srcB_t hs
            as_aux_lemma =>
            go_wp2_with fail
            go_region
            all_goals
              go_wp2_with (first | (go_at_call 8; refine (ask_any _ _ _ _ _).mono ?_; rintro e w2 ⟨rfl, hb2⟩; have hz_w2 : wr.heap.size + 2 ≤ w2.heap.size := (by have h_ := hb2.size; first | omega | (simp at h_; omega)); obtain ⟨hc10, hf10⟩ := bk hb2 (w1.heap.size) (by first | omega | (simp; done) | (simp; omega)); have hs10 : w1.heap.size < w2.heap.size := (by omega); obtain ⟨hc11, hf11⟩ := bk hb2 (wr.heap.size) (by first | omega | (simp; done) | (simp; omega)); have hs11 : wr.heap.size < w2.heap.size := (by omega); obtain ⟨hc12, hf12⟩ := bk hb2 (wr.heap.size + 1) (by first | omega | (simp; done) | (simp; omega)); have hs12 : wr.heap.size + 1 < w2.heap.size := (by omega)))
              all_goals
                have q0 : w2.cell? ⟨w1.heap.size, 0, none⟩ = some (.bool a) := by go_simp
                have q1 : w2.cell? ⟨w1.heap.size, 1, none⟩ = some (.int .i64 n) := by go_simp
                have q2 : w2.cell? ⟨w1.heap.size, 2, none⟩ = some (.int .i64 q) := by go_simp
                clear hc10
                go_roundw
                case rel => exact ⟨k + 1, _, _, _, by omega, by omega, by go_num, hg', by go_simp, by go_simp, by go_simp, fun o => by go_simp, by (simp; omega), (by repeat (first | with_reducible exact Below.refl _ _ | (with_reducible refine Below.setCell ?_ (by first | omega | (simp; done) | (simp; omega)) _) | with_reducible refine bal ?_ _ | with_reducible refine Below.drew ?_ | with_reducible refine via ?_ (by with_reducible assumption)))⟩
                case measure => simp [intOf]; omega
      · clear hcA hcS hcK
        go_wp2
        go_ret
        exact ⟨rfl, hbl⟩
    · clear hcA hcS hcK
      go_wp2
      go_ret
      exact ⟨rfl, hbl⟩

set_option maxRecDepth 100000 in
theorem runs_nil (ao : Option Addr) (cap : Nat) (w : World) : Calls Try.prog 6 #[.slice ao 0 cap] w fun x w' => x = .returned (.bool true) ∧ Below w.heap.size w w' := by
  go_enter Try.func6, Try.ntmps6
  go_wp2_with (first | (go_at_call 7; refine (awake_any _).mono ?_; rintro e w1 ⟨rfl, hb1⟩; have hz_w1 : w.heap.size ≤ w1.heap.size := (by have h_ := hb1.size; first | omega | (simp at h_; omega))))
  refine wp_loop_rounds 1 ?_
  rw [rounds_succ]
  go_wp2
  go_ret
  exact ⟨rfl, (by repeat (first | with_reducible exact Below.refl _ _ | (with_reducible refine Below.setCell ?_ (by first | omega | (simp; done) | (simp; omega)) _) | with_reducible refine bal ?_ _ | with_reducible refine Below.drew ?_ | with_reducible refine via ?_ (by with_reducible assumption)))⟩
end Go.Proofs.Ytbidfmlomiimnaa
