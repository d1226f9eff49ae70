/- The walk of the law: once a key frame of what is wanted came, it runs. -/
import Derived.Test.YtbidfmlomiimnaaWalks6
import Derived.Deep.LoopGhost
import Derived.RegionTactic
namespace Go.Proofs.Ytbidfmlomiimnaa
open Go.RowKit
set_option linter.unusedSimpArgs false

theorem good_ask {a : Bool} {n q : Int} (s : Int) (hg : goodB a n q = true) : goodB a n (askW a n q s) = true := by
  unfold askW
  cases hs : srcB s
  · simp [hg]
  · simp only [hg, Bool.true_and, if_true]
    simp [goodB, hs] at hg ⊢
    simp [hg]
theorem good_on {a : Bool} {n q : Int} (s : Int) (key : Bool) (hg : goodB a n q = true) : goodB (onA a n q s key) (onN a n q s key) q = true := by
  cases hT : onT a n q s key
  · simp [onA, onN, hT, hg]
  · have hT' := hT
    simp [onT] at hT'
    obtain ⟨⟨⟨_, hsq⟩, _⟩, _⟩ := hT'
    subst hsq
    simp [onA, onN, hT, goodB] at hg ⊢
    simp [hg]

set_option maxRecDepth 100000 in
set_option maxHeartbeats 4000000 in
theorem keys_law (b off len cap : Nat) (want : Int) (A : Nat → Bool) (Sr : Nat → Int) (Ky : Nat → Bool) (w : World) (hm : len ≤ 9223372036854775807) (hw0 : 0 ≤ want) (hw1 : want ≤ 255)
    (hcA : ∀ i, i < len → w.cell? ⟨b, off + i * 3, none⟩ = some (.bool (A i))) (hcS : ∀ i, i < len → w.cell? ⟨b, off + i * 3 + 1, none⟩ = some (.int .i64 (Sr i)))
    (hcK : ∀ i, i < len → w.cell? ⟨b, off + i * 3 + 2, none⟩ = some (.bool (Ky i))) (hb : b < w.heap.size) :
    Calls Try.prog 3 #[.slice (some ⟨b, off, none⟩) len cap, .int .u8 want] w fun x w' => x = .returned (.bool true) ∧ Below w.heap.size w w' := by
  have hK0 : 0 ≤ want % 3 := by omega
  have hK1 : want % 3 < 3 := by omega
  have hK : srcB (want % 3) = true := by simp [srcB, hK0, hK1]
  go_enter Try.func3, Try.ntmps3
  go_wp2_with (first | (go_at_call 7; refine (awake_any _).mono ?_; rintro e w1 ⟨rfl, hb1⟩; have hz_w1 : w.heap.size ≤ w1.heap.size := (by have h_ := hb1.size; first | omega | (simp at h_; omega))))
  go_loopw [6] (fun i wr => ∃ (k : Nat) (a : Bool) (n q : Int), k ≤ len ∧ k ≤ 100 ∧ i = .int .i64 k ∧ goodB a n q = true ∧ wr.cell? ⟨w1.heap.size, 0, none⟩ = some (.bool a) ∧ wr.cell? ⟨w1.heap.size, 1, none⟩ = some (.int .i64 n) ∧ wr.cell? ⟨w1.heap.size, 2, none⟩ = some (.int .i64 q) ∧ (∀ o, wr.frozen? ⟨w1.heap.size, o, none⟩ = false) ∧ w1.heap.size < wr.heap.size ∧ Below w.heap.size w wr)
    (fun i _ => len - (intOf i).toNat)
  case atStart => exact ⟨0, false, 0, 0, by omega, by omega, rfl, by decide, by go_simp, by go_simp, by go_simp, fun o => by go_simp, by simp, (by repeat (first | exact Below.refl _ _ | refine Below.setCell ?_ (by first | omega | (simp; done) | (simp; omega)) _ | refine bal ?_ _ | refine Below.drew ?_ | refine via ?_ (by assumption)))⟩
  case round =>
    obtain ⟨k, a, n, q, hk, hk2, rfl, hg, hc0, hc1, hc2, hf0, hz, hbl⟩ := hrel
    by_cases hl : k < len ∧ k < 100
    · obtain ⟨hlt, hl2⟩ := hl
      have cA : wr.cell? ⟨b, off + k * 3, none⟩ = _ := (hbl.cell (by exact hb)).trans (hcA k hlt)
      have cS : wr.cell? ⟨b, off + k * 3 + 1, none⟩ = _ := (hbl.cell (by exact hb)).trans (hcS k hlt)
      have cK : wr.cell? ⟨b, off + k * 3 + 2, none⟩ = _ := (hbl.cell (by exact hb)).trans (hcK k hlt)
      clear hcA hcS hcK hK hK0 hK1
      have hbw : b < wr.heap.size := by (have := hbl.size; omega)
      generalize A k = ak at cA
      generalize Sr k = s at cS
      generalize Ky k = key at cK
      cases ak
      · go_wp2_with fail
        go_region_with (first | (go_at_call 9; refine (on_any _ _ _ _ _ _).mono ?_; rintro e w2 ⟨rfl, hb2⟩; have hz_w2 : wr.heap.size ≤ w2.heap.size := (by have h_ := hb2.size; first | omega | (simp at h_; omega)); obtain ⟨hc10, hf10⟩ := bk hb2 (w1.heap.size) (by first | omega | (simp; done) | (simp; omega)); have hs10 : w1.heap.size < w2.heap.size := (by omega)))
        all_goals
          go_wp2
          have q0 : w2.cell? ⟨w1.heap.size, 0, none⟩ = some (.bool a) := by go_simp
          have q1 : w2.cell? ⟨w1.heap.size, 1, none⟩ = some (.int .i64 n) := by go_simp
          have q2 : w2.cell? ⟨w1.heap.size, 2, none⟩ = some (.int .i64 q) := by go_simp
          clear hc10
          go_roundw
          case rel => exact ⟨k + 1, _, _, _, by omega, by omega, by go_num, good_on s key hg, by go_simp, by go_simp, by go_simp, fun o => by go_simp, by (simp; omega), (by repeat (first | exact Below.refl _ _ | refine Below.setCell ?_ (by first | omega | (simp; done) | (simp; omega)) _ | refine bal ?_ _ | refine Below.drew ?_ | refine via ?_ (by assumption)))⟩
          case measure => simp [intOf]; omega
      · go_wp2_with fail
        go_region_with (first | (go_at_call 8; refine (ask_any _ _ _ _ _).mono ?_; rintro e w2 ⟨rfl, hb2⟩; have hz_w2 : wr.heap.size ≤ w2.heap.size := (by have h_ := hb2.size; first | omega | (simp at h_; omega)); obtain ⟨hc10, hf10⟩ := bk hb2 (w1.heap.size) (by first | omega | (simp; done) | (simp; omega)); have hs10 : w1.heap.size < w2.heap.size := (by omega)))
        all_goals
          go_wp2
          have q0 : w2.cell? ⟨w1.heap.size, 0, none⟩ = some (.bool a) := by go_simp
          have q1 : w2.cell? ⟨w1.heap.size, 1, none⟩ = some (.int .i64 n) := by go_simp
          have q2 : w2.cell? ⟨w1.heap.size, 2, none⟩ = some (.int .i64 q) := by go_simp
          clear hc10
          go_roundw
          case rel => exact ⟨k + 1, _, _, _, by omega, by omega, by go_num, good_ask s hg, by go_simp, by go_simp, by go_simp, fun o => by go_simp, by (simp; omega), (by repeat (first | exact Below.refl _ _ | refine Below.setCell ?_ (by first | omega | (simp; done) | (simp; omega)) _ | refine bal ?_ _ | refine Below.drew ?_ | refine via ?_ (by assumption)))⟩
          case measure => simp [intOf]; omega
    · clear hcA hcS hcK
      have hl' : ¬ (k < len) ∨ (k < len ∧ ¬ (k < 100)) := by omega
      clear hl
      have f1 : askE a n q (want % 3) = 0 := by simp [askE, hg, hK]
      have f2 : askW a n q (want % 3) = (want % 3) := by simp [askW, hg, hK]
      have hgK : goodB a n (want % 3) = true := by simp [goodB, hK] at hg ⊢; simp [hg]
      have hgKK : goodB true (want % 3) (want % 3) = true := by simp [goodB, hK]
      have f4 : onT true (want % 3) (want % 3) (want % 3) true = false := by simp [onT]
      have f5 : onA true (want % 3) (want % 3) (want % 3) true = true := by simp [onA]
      have f6 : onN true (want % 3) (want % 3) (want % 3) true = (want % 3) := by simp [onN]
      have f7 : onG true (want % 3) (want % 3) (want % 3) true = true := by simp [onG, hgKK]
      have f8 : onT a n (want % 3) (want % 3) false = false := by simp [onT]
      have f9 : onA a n (want % 3) (want % 3) false = a := by simp [onA, f8]
      have f10 : onN a n (want % 3) (want % 3) false = n := by simp [onN, f8]
      rcases hl' with hl | ⟨hl, hl2⟩
      · cases a
        · have g1 : onT false n (want % 3) (want % 3) true = true := by simp [onT, hgK]
          have g2 : onA false n (want % 3) (want % 3) true = true := by simp [onA, g1]
          have g3 : onN false n (want % 3) (want % 3) true = want % 3 := by simp [onN, g1]
          have g4 : onG false n (want % 3) (want % 3) true = true := by simp [onG, hgK, g1]
          clear hg hgK hgKK hK hK0 hK1
          have tok3 : True := trivial
          have tok4 : True := trivial
          have tok5 : True := trivial
          have tok6 : True := trivial
          go_wp2_with (first | (go_at_call 8; clear tok3; refine (ask_any _ _ _ _ _).mono ?_; rintro e w3 ⟨rfl, hb3⟩; have hz_w3 : wr.heap.size ≤ w3.heap.size := (by have h_ := hb3.size; first | omega | (simp at h_; omega)); obtain ⟨hc51, hf51⟩ := bk hb3 (w1.heap.size) (by first | omega | (simp; done) | (simp; omega)); have hs51 : w1.heap.size < w3.heap.size := (by omega)) | (go_at_call 9; clear tok4; refine (on_any _ _ _ _ _ _).mono ?_; rintro e w4 ⟨rfl, hb4⟩; have hz_w4 : w3.heap.size + 1 ≤ w4.heap.size := (by have h_ := hb4.size; first | omega | (simp at h_; omega)); obtain ⟨hc52, hf52⟩ := bk hb4 (w1.heap.size) (by first | omega | (simp; done) | (simp; omega)); have hs52 : w1.heap.size < w4.heap.size := (by omega); obtain ⟨hc53, hf53⟩ := bk hb4 (w3.heap.size) (by first | omega | (simp; done) | (simp; omega)); have hs53 : w3.heap.size < w4.heap.size := (by omega)) | (go_at_call 9; clear tok5; refine (on_any _ _ _ _ _ _).mono ?_; rintro e w5 ⟨rfl, hb5⟩; have hz_w5 : w4.heap.size + 1 ≤ w5.heap.size := (by have h_ := hb5.size; first | omega | (simp at h_; omega)); obtain ⟨hc54, hf54⟩ := bk hb5 (w1.heap.size) (by first | omega | (simp; done) | (simp; omega)); have hs54 : w1.heap.size < w5.heap.size := (by omega); obtain ⟨hc55, hf55⟩ := bk hb5 (w3.heap.size) (by first | omega | (simp; done) | (simp; omega)); have hs55 : w3.heap.size < w5.heap.size := (by omega); obtain ⟨hc56, hf56⟩ := bk hb5 (w4.heap.size) (by first | omega | (simp; done) | (simp; omega)); have hs56 : w4.heap.size < w5.heap.size := (by omega)) | (go_at_call 9; clear tok6; refine (on_any _ _ _ _ _ _).mono ?_; rintro e w6 ⟨rfl, hb6⟩; have hz_w6 : w5.heap.size + 1 ≤ w6.heap.size := (by have h_ := hb6.size; first | omega | (simp at h_; omega)); obtain ⟨hc57, hf57⟩ := bk hb6 (w1.heap.size) (by first | omega | (simp; done) | (simp; omega)); have hs57 : w1.heap.size < w6.heap.size := (by omega); obtain ⟨hc58, hf58⟩ := bk hb6 (w3.heap.size) (by first | omega | (simp; done) | (simp; omega)); have hs58 : w3.heap.size < w6.heap.size := (by omega); obtain ⟨hc59, hf59⟩ := bk hb6 (w4.heap.size) (by first | omega | (simp; done) | (simp; omega)); have hs59 : w4.heap.size < w6.heap.size := (by omega); obtain ⟨hc60, hf60⟩ := bk hb6 (w5.heap.size) (by first | omega | (simp; done) | (simp; omega)); have hs60 : w5.heap.size < w6.heap.size := (by omega)))
          go_ret
          exact ⟨by first | rfl | simp, (by repeat (first | exact Below.refl _ _ | refine Below.setCell ?_ (by first | omega | (simp; done) | (simp; omega)) _ | refine bal ?_ _ | refine Below.drew ?_ | refine via ?_ (by assumption)))⟩
        · by_cases hn : n = want % 3
          · subst hn
            have hne : ((want % 3) != (want % 3)) = false := by simp
            have g1 : onT true (want % 3) (want % 3) (want % 3) true = false := by simp [onT, hgK]
            have g2 : onA true (want % 3) (want % 3) (want % 3) true = true := by simp [onA, g1]
            have g3 : onN true (want % 3) (want % 3) (want % 3) true = want % 3 := by simp [onN, g1]
            have g4 : onG true (want % 3) (want % 3) (want % 3) true = true := by simp [onG, hgK, g1]
            clear hg hgK hgKK hK hK0 hK1
            have tok3 : True := trivial
            have tok4 : True := trivial
            have tok5 : True := trivial
            have tok6 : True := trivial
            go_wp2_with (first | (go_at_call 8; clear tok3; refine (ask_any _ _ _ _ _).mono ?_; rintro e w3 ⟨rfl, hb3⟩; have hz_w3 : wr.heap.size ≤ w3.heap.size := (by have h_ := hb3.size; first | omega | (simp at h_; omega)); obtain ⟨hc51, hf51⟩ := bk hb3 (w1.heap.size) (by first | omega | (simp; done) | (simp; omega)); have hs51 : w1.heap.size < w3.heap.size := (by omega)) | (go_at_call 9; clear tok4; refine (on_any _ _ _ _ _ _).mono ?_; rintro e w4 ⟨rfl, hb4⟩; have hz_w4 : w3.heap.size + 1 ≤ w4.heap.size := (by have h_ := hb4.size; first | omega | (simp at h_; omega)); obtain ⟨hc52, hf52⟩ := bk hb4 (w1.heap.size) (by first | omega | (simp; done) | (simp; omega)); have hs52 : w1.heap.size < w4.heap.size := (by omega); obtain ⟨hc53, hf53⟩ := bk hb4 (w3.heap.size) (by first | omega | (simp; done) | (simp; omega)); have hs53 : w3.heap.size < w4.heap.size := (by omega)) | (go_at_call 9; clear tok5; refine (on_any _ _ _ _ _ _).mono ?_; rintro e w5 ⟨rfl, hb5⟩; have hz_w5 : w4.heap.size + 1 ≤ w5.heap.size := (by have h_ := hb5.size; first | omega | (simp at h_; omega)); obtain ⟨hc54, hf54⟩ := bk hb5 (w1.heap.size) (by first | omega | (simp; done) | (simp; omega)); have hs54 : w1.heap.size < w5.heap.size := (by omega); obtain ⟨hc55, hf55⟩ := bk hb5 (w3.heap.size) (by first | omega | (simp; done) | (simp; omega)); have hs55 : w3.heap.size < w5.heap.size := (by omega); obtain ⟨hc56, hf56⟩ := bk hb5 (w4.heap.size) (by first | omega | (simp; done) | (simp; omega)); have hs56 : w4.heap.size < w5.heap.size := (by omega)) | (go_at_call 9; clear tok6; refine (on_any _ _ _ _ _ _).mono ?_; rintro e w6 ⟨rfl, hb6⟩; have hz_w6 : w5.heap.size + 1 ≤ w6.heap.size := (by have h_ := hb6.size; first | omega | (simp at h_; omega)); obtain ⟨hc57, hf57⟩ := bk hb6 (w1.heap.size) (by first | omega | (simp; done) | (simp; omega)); have hs57 : w1.heap.size < w6.heap.size := (by omega); obtain ⟨hc58, hf58⟩ := bk hb6 (w3.heap.size) (by first | omega | (simp; done) | (simp; omega)); have hs58 : w3.heap.size < w6.heap.size := (by omega); obtain ⟨hc59, hf59⟩ := bk hb6 (w4.heap.size) (by first | omega | (simp; done) | (simp; omega)); have hs59 : w4.heap.size < w6.heap.size := (by omega); obtain ⟨hc60, hf60⟩ := bk hb6 (w5.heap.size) (by first | omega | (simp; done) | (simp; omega)); have hs60 : w5.heap.size < w6.heap.size := (by omega)))
            go_ret
            exact ⟨by first | rfl | simp, (by repeat (first | exact Below.refl _ _ | refine Below.setCell ?_ (by first | omega | (simp; done) | (simp; omega)) _ | refine bal ?_ _ | refine Below.drew ?_ | refine via ?_ (by assumption)))⟩
          · have hne : (n != want % 3) = true := by simpa using hn
            have hne2 : (n == want % 3) = false := by simpa using hn
            have g1 : onT true n (want % 3) (want % 3) true = true := by simp [onT, hgK, hne2]
            have g2 : onA true n (want % 3) (want % 3) true = true := by simp [onA, g1]
            have g3 : onN true n (want % 3) (want % 3) true = want % 3 := by simp [onN, g1]
            have g4 : onG true n (want % 3) (want % 3) true = true := by simp [onG, hgK, g1, hne2]
            clear hg hgK hgKK hK hK0 hK1
            have tok3 : True := trivial
            have tok4 : True := trivial
            have tok5 : True := trivial
            have tok6 : True := trivial
            go_wp2_with (first | (go_at_call 8; clear tok3; refine (ask_any _ _ _ _ _).mono ?_; rintro e w3 ⟨rfl, hb3⟩; have hz_w3 : wr.heap.size ≤ w3.heap.size := (by have h_ := hb3.size; first | omega | (simp at h_; omega)); obtain ⟨hc51, hf51⟩ := bk hb3 (w1.heap.size) (by first | omega | (simp; done) | (simp; omega)); have hs51 : w1.heap.size < w3.heap.size := (by omega)) | (go_at_call 9; clear tok4; refine (on_any _ _ _ _ _ _).mono ?_; rintro e w4 ⟨rfl, hb4⟩; have hz_w4 : w3.heap.size + 1 ≤ w4.heap.size := (by have h_ := hb4.size; first | omega | (simp at h_; omega)); obtain ⟨hc52, hf52⟩ := bk hb4 (w1.heap.size) (by first | omega | (simp; done) | (simp; omega)); have hs52 : w1.heap.size < w4.heap.size := (by omega); obtain ⟨hc53, hf53⟩ := bk hb4 (w3.heap.size) (by first | omega | (simp; done) | (simp; omega)); have hs53 : w3.heap.size < w4.heap.size := (by omega)) | (go_at_call 9; clear tok5; refine (on_any _ _ _ _ _ _).mono ?_; rintro e w5 ⟨rfl, hb5⟩; have hz_w5 : w4.heap.size + 1 ≤ w5.heap.size := (by have h_ := hb5.size; first | omega | (simp at h_; omega)); obtain ⟨hc54, hf54⟩ := bk hb5 (w1.heap.size) (by first | omega | (simp; done) | (simp; omega)); have hs54 : w1.heap.size < w5.heap.size := (by omega); obtain ⟨hc55, hf55⟩ := bk hb5 (w3.heap.size) (by first | omega | (simp; done) | (simp; omega)); have hs55 : w3.heap.size < w5.heap.size := (by omega); obtain ⟨hc56, hf56⟩ := bk hb5 (w4.heap.size) (by first | omega | (simp; done) | (simp; omega)); have hs56 : w4.heap.size < w5.heap.size := (by omega)) | (go_at_call 9; clear tok6; refine (on_any _ _ _ _ _ _).mono ?_; rintro e w6 ⟨rfl, hb6⟩; have hz_w6 : w5.heap.size + 1 ≤ w6.heap.size := (by have h_ := hb6.size; first | omega | (simp at h_; omega)); obtain ⟨hc57, hf57⟩ := bk hb6 (w1.heap.size) (by first | omega | (simp; done) | (simp; omega)); have hs57 : w1.heap.size < w6.heap.size := (by omega); obtain ⟨hc58, hf58⟩ := bk hb6 (w3.heap.size) (by first | omega | (simp; done) | (simp; omega)); have hs58 : w3.heap.size < w6.heap.size := (by omega); obtain ⟨hc59, hf59⟩ := bk hb6 (w4.heap.size) (by first | omega | (simp; done) | (simp; omega)); have hs59 : w4.heap.size < w6.heap.size := (by omega); obtain ⟨hc60, hf60⟩ := bk hb6 (w5.heap.size) (by first | omega | (simp; done) | (simp; omega)); have hs60 : w5.heap.size < w6.heap.size := (by omega)))
            go_ret
            exact ⟨by first | rfl | simp, (by repeat (first | exact Below.refl _ _ | refine Below.setCell ?_ (by first | omega | (simp; done) | (simp; omega)) _ | refine bal ?_ _ | refine Below.drew ?_ | refine via ?_ (by assumption)))⟩
      · cases a
        · have g1 : onT false n (want % 3) (want % 3) true = true := by simp [onT, hgK]
          have g2 : onA false n (want % 3) (want % 3) true = true := by simp [onA, g1]
          have g3 : onN false n (want % 3) (want % 3) true = want % 3 := by simp [onN, g1]
          have g4 : onG false n (want % 3) (want % 3) true = true := by simp [onG, hgK, g1]
          clear hg hgK hgKK hK hK0 hK1
          have tok3 : True := trivial
          have tok4 : True := trivial
          have tok5 : True := trivial
          have tok6 : True := trivial
          go_wp2_with (first | (go_at_call 8; clear tok3; refine (ask_any _ _ _ _ _).mono ?_; rintro e w3 ⟨rfl, hb3⟩; have hz_w3 : wr.heap.size ≤ w3.heap.size := (by have h_ := hb3.size; first | omega | (simp at h_; omega)); obtain ⟨hc51, hf51⟩ := bk hb3 (w1.heap.size) (by first | omega | (simp; done) | (simp; omega)); have hs51 : w1.heap.size < w3.heap.size := (by omega)) | (go_at_call 9; clear tok4; refine (on_any _ _ _ _ _ _).mono ?_; rintro e w4 ⟨rfl, hb4⟩; have hz_w4 : w3.heap.size + 1 ≤ w4.heap.size := (by have h_ := hb4.size; first | omega | (simp at h_; omega)); obtain ⟨hc52, hf52⟩ := bk hb4 (w1.heap.size) (by first | omega | (simp; done) | (simp; omega)); have hs52 : w1.heap.size < w4.heap.size := (by omega); obtain ⟨hc53, hf53⟩ := bk hb4 (w3.heap.size) (by first | omega | (simp; done) | (simp; omega)); have hs53 : w3.heap.size < w4.heap.size := (by omega)) | (go_at_call 9; clear tok5; refine (on_any _ _ _ _ _ _).mono ?_; rintro e w5 ⟨rfl, hb5⟩; have hz_w5 : w4.heap.size + 1 ≤ w5.heap.size := (by have h_ := hb5.size; first | omega | (simp at h_; omega)); obtain ⟨hc54, hf54⟩ := bk hb5 (w1.heap.size) (by first | omega | (simp; done) | (simp; omega)); have hs54 : w1.heap.size < w5.heap.size := (by omega); obtain ⟨hc55, hf55⟩ := bk hb5 (w3.heap.size) (by first | omega | (simp; done) | (simp; omega)); have hs55 : w3.heap.size < w5.heap.size := (by omega); obtain ⟨hc56, hf56⟩ := bk hb5 (w4.heap.size) (by first | omega | (simp; done) | (simp; omega)); have hs56 : w4.heap.size < w5.heap.size := (by omega)) | (go_at_call 9; clear tok6; refine (on_any _ _ _ _ _ _).mono ?_; rintro e w6 ⟨rfl, hb6⟩; have hz_w6 : w5.heap.size + 1 ≤ w6.heap.size := (by have h_ := hb6.size; first | omega | (simp at h_; omega)); obtain ⟨hc57, hf57⟩ := bk hb6 (w1.heap.size) (by first | omega | (simp; done) | (simp; omega)); have hs57 : w1.heap.size < w6.heap.size := (by omega); obtain ⟨hc58, hf58⟩ := bk hb6 (w3.heap.size) (by first | omega | (simp; done) | (simp; omega)); have hs58 : w3.heap.size < w6.heap.size := (by omega); obtain ⟨hc59, hf59⟩ := bk hb6 (w4.heap.size) (by first | omega | (simp; done) | (simp; omega)); have hs59 : w4.heap.size < w6.heap.size := (by omega); obtain ⟨hc60, hf60⟩ := bk hb6 (w5.heap.size) (by first | omega | (simp; done) | (simp; omega)); have hs60 : w5.heap.size < w6.heap.size := (by omega)))
          go_ret
          exact ⟨by first | rfl | simp, (by repeat (first | exact Below.refl _ _ | refine Below.setCell ?_ (by first | omega | (simp; done) | (simp; omega)) _ | refine bal ?_ _ | refine Below.drew ?_ | refine via ?_ (by assumption)))⟩
        · by_cases hn : n = want % 3
          · subst hn
            have hne : ((want % 3) != (want % 3)) = false := by simp
            have g1 : onT true (want % 3) (want % 3) (want % 3) true = false := by simp [onT, hgK]
            have g2 : onA true (want % 3) (want % 3) (want % 3) true = true := by simp [onA, g1]
            have g3 : onN true (want % 3) (want % 3) (want % 3) true = want % 3 := by simp [onN, g1]
            have g4 : onG true (want % 3) (want % 3) (want % 3) true = true := by simp [onG, hgK, g1]
            clear hg hgK hgKK hK hK0 hK1
            have tok3 : True := trivial
            have tok4 : True := trivial
            have tok5 : True := trivial
            have tok6 : True := trivial
            go_wp2_with (first | (go_at_call 8; clear tok3; refine (ask_any _ _ _ _ _).mono ?_; rintro e w3 ⟨rfl, hb3⟩; have hz_w3 : wr.heap.size ≤ w3.heap.size := (by have h_ := hb3.size; first | omega | (simp at h_; omega)); obtain ⟨hc51, hf51⟩ := bk hb3 (w1.heap.size) (by first | omega | (simp; done) | (simp; omega)); have hs51 : w1.heap.size < w3.heap.size := (by omega)) | (go_at_call 9; clear tok4; refine (on_any _ _ _ _ _ _).mono ?_; rintro e w4 ⟨rfl, hb4⟩; have hz_w4 : w3.heap.size + 1 ≤ w4.heap.size := (by have h_ := hb4.size; first | omega | (simp at h_; omega)); obtain ⟨hc52, hf52⟩ := bk hb4 (w1.heap.size) (by first | omega | (simp; done) | (simp; omega)); have hs52 : w1.heap.size < w4.heap.size := (by omega); obtain ⟨hc53, hf53⟩ := bk hb4 (w3.heap.size) (by first | omega | (simp; done) | (simp; omega)); have hs53 : w3.heap.size < w4.heap.size := (by omega)) | (go_at_call 9; clear tok5; refine (on_any _ _ _ _ _ _).mono ?_; rintro e w5 ⟨rfl, hb5⟩; have hz_w5 : w4.heap.size + 1 ≤ w5.heap.size := (by have h_ := hb5.size; first | omega | (simp at h_; omega)); obtain ⟨hc54, hf54⟩ := bk hb5 (w1.heap.size) (by first | omega | (simp; done) | (simp; omega)); have hs54 : w1.heap.size < w5.heap.size := (by omega); obtain ⟨hc55, hf55⟩ := bk hb5 (w3.heap.size) (by first | omega | (simp; done) | (simp; omega)); have hs55 : w3.heap.size < w5.heap.size := (by omega); obtain ⟨hc56, hf56⟩ := bk hb5 (w4.heap.size) (by first | omega | (simp; done) | (simp; omega)); have hs56 : w4.heap.size < w5.heap.size := (by omega)) | (go_at_call 9; clear tok6; refine (on_any _ _ _ _ _ _).mono ?_; rintro e w6 ⟨rfl, hb6⟩; have hz_w6 : w5.heap.size + 1 ≤ w6.heap.size := (by have h_ := hb6.size; first | omega | (simp at h_; omega)); obtain ⟨hc57, hf57⟩ := bk hb6 (w1.heap.size) (by first | omega | (simp; done) | (simp; omega)); have hs57 : w1.heap.size < w6.heap.size := (by omega); obtain ⟨hc58, hf58⟩ := bk hb6 (w3.heap.size) (by first | omega | (simp; done) | (simp; omega)); have hs58 : w3.heap.size < w6.heap.size := (by omega); obtain ⟨hc59, hf59⟩ := bk hb6 (w4.heap.size) (by first | omega | (simp; done) | (simp; omega)); have hs59 : w4.heap.size < w6.heap.size := (by omega); obtain ⟨hc60, hf60⟩ := bk hb6 (w5.heap.size) (by first | omega | (simp; done) | (simp; omega)); have hs60 : w5.heap.size < w6.heap.size := (by omega)))
            go_ret
            exact ⟨by first | rfl | simp, (by repeat (first | exact Below.refl _ _ | refine Below.setCell ?_ (by first | omega | (simp; done) | (simp; omega)) _ | refine bal ?_ _ | refine Below.drew ?_ | refine via ?_ (by assumption)))⟩
          · have hne : (n != want % 3) = true := by simpa using hn
            have hne2 : (n == want % 3) = false := by simpa using hn
            have g1 : onT true n (want % 3) (want % 3) true = true := by simp [onT, hgK, hne2]
            have g2 : onA true n (want % 3) (want % 3) true = true := by simp [onA, g1]
            have g3 : onN true n (want % 3) (want % 3) true = want % 3 := by simp [onN, g1]
            have g4 : onG true n (want % 3) (want % 3) true = true := by simp [onG, hgK, g1, hne2]
            clear hg hgK hgKK hK hK0 hK1
            have tok3 : True := trivial
            have tok4 : True := trivial
            have tok5 : True := trivial
            have tok6 : True := trivial
            go_wp2_with (first | (go_at_call 8; clear tok3; refine (ask_any _ _ _ _ _).mono ?_; rintro e w3 ⟨rfl, hb3⟩; have hz_w3 : wr.heap.size ≤ w3.heap.size := (by have h_ := hb3.size; first | omega | (simp at h_; omega)); obtain ⟨hc51, hf51⟩ := bk hb3 (w1.heap.size) (by first | omega | (simp; done) | (simp; omega)); have hs51 : w1.heap.size < w3.heap.size := (by omega)) | (go_at_call 9; clear tok4; refine (on_any _ _ _ _ _ _).mono ?_; rintro e w4 ⟨rfl, hb4⟩; have hz_w4 : w3.heap.size + 1 ≤ w4.heap.size := (by have h_ := hb4.size; first | omega | (simp at h_; omega)); obtain ⟨hc52, hf52⟩ := bk hb4 (w1.heap.size) (by first | omega | (simp; done) | (simp; omega)); have hs52 : w1.heap.size < w4.heap.size := (by omega); obtain ⟨hc53, hf53⟩ := bk hb4 (w3.heap.size) (by first | omega | (simp; done) | (simp; omega)); have hs53 : w3.heap.size < w4.heap.size := (by omega)) | (go_at_call 9; clear tok5; refine (on_any _ _ _ _ _ _).mono ?_; rintro e w5 ⟨rfl, hb5⟩; have hz_w5 : w4.heap.size + 1 ≤ w5.heap.size := (by have h_ := hb5.size; first | omega | (simp at h_; omega)); obtain ⟨hc54, hf54⟩ := bk hb5 (w1.heap.size) (by first | omega | (simp; done) | (simp; omega)); have hs54 : w1.heap.size < w5.heap.size := (by omega); obtain ⟨hc55, hf55⟩ := bk hb5 (w3.heap.size) (by first | omega | (simp; done) | (simp; omega)); have hs55 : w3.heap.size < w5.heap.size := (by omega); obtain ⟨hc56, hf56⟩ := bk hb5 (w4.heap.size) (by first | omega | (simp; done) | (simp; omega)); have hs56 : w4.heap.size < w5.heap.size := (by omega)) | (go_at_call 9; clear tok6; refine (on_any _ _ _ _ _ _).mono ?_; rintro e w6 ⟨rfl, hb6⟩; have hz_w6 : w5.heap.size + 1 ≤ w6.heap.size := (by have h_ := hb6.size; first | omega | (simp at h_; omega)); obtain ⟨hc57, hf57⟩ := bk hb6 (w1.heap.size) (by first | omega | (simp; done) | (simp; omega)); have hs57 : w1.heap.size < w6.heap.size := (by omega); obtain ⟨hc58, hf58⟩ := bk hb6 (w3.heap.size) (by first | omega | (simp; done) | (simp; omega)); have hs58 : w3.heap.size < w6.heap.size := (by omega); obtain ⟨hc59, hf59⟩ := bk hb6 (w4.heap.size) (by first | omega | (simp; done) | (simp; omega)); have hs59 : w4.heap.size < w6.heap.size := (by omega); obtain ⟨hc60, hf60⟩ := bk hb6 (w5.heap.size) (by first | omega | (simp; done) | (simp; omega)); have hs60 : w5.heap.size < w6.heap.size := (by omega)))
            go_ret
            exact ⟨by first | rfl | simp, (by repeat (first | exact Below.refl _ _ | refine Below.setCell ?_ (by first | omega | (simp; done) | (simp; omega)) _ | refine bal ?_ _ | refine Below.drew ?_ | refine via ?_ (by assumption)))⟩
end Go.Proofs.Ytbidfmlomiimnaa
