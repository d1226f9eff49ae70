/- The walk of the law: an epoch that is to come is there just when the last one that needs it has said so. -/
import Derived.Test.YtcaipfdnadlkdaaRk10
import Derived.Test.YtcaipfdnadlkdaaRkBits
import Derived.KernelRfl
import Derived.Deep.LoopGhost
namespace Go.Proofs.Ytcaipfdnadlkdaa
open Go.RowKit
set_option linter.unusedSimpArgs false
set_option linter.unusedVariables false

theorem and_pow' (x k : Nat) (hx : x < 256) (hk : k < 8) : (bits .and .i64 (x : Int) ((2 : Int) ^ k) == 0) = !x.testBit k := by
  have h := and_pow x k hx hk
  rwa [Int.toNat_natCast] at h
theorem or_pow' (x k : Nat) (hx : x < 256) (hk : k < 8) : bits .or .i64 (x : Int) ((2 : Int) ^ k) = ((x ||| 2 ^ k : Nat) : Int) ∧ x ||| 2 ^ k < 256 := by
  have h := or_pow x k hx hk
  rwa [Int.toNat_natCast] at h
set_option maxRecDepth 100000 in
set_option maxHeartbeats 8000000 in
theorem all_law (b off len cap n : Nat) (X : Nat → Int) (w : World) (hm : len ≤ 9223372036854775807) (n0 : 1 ≤ n) (n1 : n ≤ 255)
    (hx : ∀ i, i < len → w.cell? ⟨b, off + i, none⟩ = some (.int .u8 (X i)) ∧ 0 ≤ X i ∧ X i ≤ 255) (hb : b < w.heap.size) :
    Calls Try.prog 3 #[.int .u8 n, .slice (some ⟨b, off, none⟩) len cap] w fun x w' => x = .returned (.bool true) ∧ Below w.heap.size w w' := by
  have hn0 : ((n : Int) == 0) = false := by simp; omega
  have hgz : goodS ⟨4, false, 0, 0, 0, 0⟩ = true := by kernel_rfl
  have hnb : needB n = true := by simp [needB]; omega
  have hr : raiseF ⟨4, false, 0, 0, 0, 0⟩ n 7 = (⟨4, true, 5, n, 0, 7⟩, 0) := by
    simp only [raiseF, hgz, hnb, Bool.and_self, if_true, comS]
    rw [if_neg (by decide), if_neg (by omega)]
    rfl
  clear hgz hnb
  go_enter Try.func3, Try.ntmps3
  go_wp2_with (first | (go_at_call 15; refine (awake_any _).mono ?_; rintro e w1 ⟨rfl, hb1⟩; have hz_w1 : w.heap.size ≤ w1.heap.size := (by have h_ := hb1.size; first | omega | (simp at h_; omega))) | (go_at_call 16; refine (raise_any _ _ _ _ _ _ _ _ _ ).mono ?_; rintro e w2 ⟨rfl, hb2⟩; have hz_w2 : w1.heap.size ≤ w2.heap.size := (by have h_ := hb2.size; first | omega | (simp at h_; omega))))
  go_loopw [7, 8] (fun hv i wr => ∃ (k h : Nat), k ≤ len ∧ k ≤ 40 ∧ i = .int .i64 k ∧ hv = .int .i64 h ∧ h &&& n = h ∧ ((h ≠ n ∧ wr.cell? ⟨w2.heap.size, 0, none⟩ = some (.int .i64 4) ∧ wr.cell? ⟨w2.heap.size, 1, none⟩ = some (.bool true) ∧ wr.cell? ⟨w2.heap.size, 2, none⟩ = some (.int .i64 5) ∧ wr.cell? ⟨w2.heap.size, 3, none⟩ = some (.int .i64 n) ∧ wr.cell? ⟨w2.heap.size, 4, none⟩ = some (.int .i64 h) ∧ wr.cell? ⟨w2.heap.size, 5, none⟩ = some (.int .i64 7)) ∨ (h = n ∧ wr.cell? ⟨w2.heap.size, 0, none⟩ = some (.int .i64 5) ∧ wr.cell? ⟨w2.heap.size, 1, none⟩ = some (.bool false) ∧ wr.cell? ⟨w2.heap.size, 2, none⟩ = some (.int .i64 0) ∧ wr.cell? ⟨w2.heap.size, 3, none⟩ = some (.int .i64 0) ∧ wr.cell? ⟨w2.heap.size, 4, none⟩ = some (.int .i64 0) ∧ wr.cell? ⟨w2.heap.size, 5, none⟩ = some (.int .i64 0))) ∧ (∀ o, wr.frozen? ⟨w2.heap.size, o, none⟩ = false) ∧ w2.heap.size < wr.heap.size ∧ Below w.heap.size w wr)
    (fun _ i _ => len - (intOf i).toNat)
  case atStart => exact ⟨0, 0, by omega, by omega, rfl, rfl, by simp, .inl ⟨by omega, by go_simp, by go_simp, by go_simp, by go_simp, by go_simp, by go_simp⟩, fun o => by go_simp, by simp, (by repeat (first | with_reducible exact Below.refl _ _ | (with_reducible refine Below.setCell ?_ (by first | omega | (simp; done) | (simp; omega)) _) | with_reducible refine bal ?_ _ | with_reducible refine Below.drew ?_ | with_reducible refine bdn ?_ _ | with_reducible refine via ?_ (by with_reducible assumption)))⟩
  case round =>
    obtain ⟨k, h, hk, hk2, rfl, rfl, hs, hst, hf0, hz0, hbl⟩ := hrel
    have hle : h ≤ n := by rw [← hs]; exact Nat.and_le_right
    by_cases hlt : k < len
    · by_cases hl2 : k < 40
      · obtain ⟨g, x0, x1⟩ := hx k hlt
        have e0 : wr.cell? ⟨b, off + k, none⟩ = _ := (hbl.cell (by exact hb)).trans g
        clear hx g hr
        have hbw : b < wr.heap.size := by (have := hbl.size; omega)
        generalize X k = x at e0 x0 x1
        obtain ⟨j, hj⟩ := Int.eq_ofNat_of_zero_le (show 0 ≤ x % 8 by omega)
        have hj8 : j < 8 := by omega
        have hsl : slB (j : Int) = true := by simp [slB]; omega
        have hp : wrap64 ((2 : Int) ^ j) = (2 : Int) ^ j := by (have h_ := pow_small (j : Int) (by omega) (by omega); rwa [Int.toNat_natCast] at h_)
        have hu : IntKind.u64.wrap (j : Int) = (j : Int) := by (rw [IntKind.wrap_u64]; omega)
        rcases hst with ⟨hne, c0, c1, c2, c3, c4, c5⟩ | ⟨rfl, c0, c1, c2, c3, c4, c5⟩
        · have hgood := good_open n h n0 n1 hs hne
          have hnn : ((h : Int) == (n : Int)) = false := by simp; omega
          have hz := bitZ_nat n j (by omega)
          have ho := bitO_nat h j (by omega)
          cases htn : n.testBit j
          · rw [htn] at hz
            have hf : ackF ⟨4, true, 5, n, h, 7⟩ j 5 = (⟨4, true, 5, n, h, 7⟩, false, 6) := by simp [ackF, hgood, hsl, hz]
            have a1 : (bits .and .i64 (n : Int) ((2 : Int) ^ j) == 0) = true := by rw [and_pow' n j (by omega) hj8, htn]; rfl
            have a2 : (bits .and .i64 (n : Int) ((2 : Int) ^ j) != 0) = false := by rw [bne, a1]; rfl
            clear hgood hsl hz htn
            go_wp2_with (first | (go_at_call 17; refine (ack_any _ _ _ _ _ _ _ _ _ ).mono ?_; rintro e w3 ⟨rfl, hb3⟩; have hz_w3 : wr.heap.size ≤ w3.heap.size := (by have h_ := hb3.size; first | omega | (simp at h_; omega)); obtain ⟨hc30, hf30⟩ := bk hb3 (w2.heap.size) (by first | omega | (simp; done) | (simp; omega)); have hs30 : w2.heap.size < w3.heap.size := (by omega); have hq30 : ∀ o, w3.cell? ⟨w2.heap.size, o, none⟩ = wr.cell? ⟨w2.heap.size, o, none⟩ := (fun o => (hc30 o).trans (by go_simp)); clear hc30))
            go_roundw
            case rel => exact ⟨k + 1, h, by omega, by omega, by go_num, by first | rfl | go_num, hs, .inl ⟨hne, by go_simp, by go_simp, by go_simp, by go_simp, by go_simp, by go_simp⟩, fun o => by go_simp, by (simp; omega), (by repeat (first | with_reducible exact Below.refl _ _ | (with_reducible refine Below.setCell ?_ (by first | omega | (simp; done) | (simp; omega)) _) | with_reducible refine bal ?_ _ | with_reducible refine Below.drew ?_ | with_reducible refine bdn ?_ _ | with_reducible refine via ?_ (by with_reducible assumption)))⟩
            case measure => simp [intOf]; omega
          · rw [htn] at hz
            cases hth : h.testBit j
            · rw [hth] at ho
              have a1 : (bits .and .i64 (n : Int) ((2 : Int) ^ j) == 0) = false := by rw [and_pow' n j (by omega) hj8, htn]; rfl
              have a2 : (bits .and .i64 (n : Int) ((2 : Int) ^ j) != 0) = true := by rw [bne, a1]; rfl
              have a3 : (bits .and .i64 (h : Int) ((2 : Int) ^ j) == 0) = true := by rw [and_pow' h j (by omega) hj8, hth]; rfl
              obtain ⟨o1, o2⟩ := or_pow' h j (by omega) hj8
              have hs2 := sub_or h n j hs htn
              generalize hgen : h ||| 2 ^ j = h2 at o1 o2 hs2
              by_cases he : h2 = n
              · have heq : (bits .or .i64 (h : Int) ((2 : Int) ^ j) == (n : Int)) = true := by rw [o1, he]; simp
                have hf : ackF ⟨4, true, 5, n, h, 7⟩ j 5 = (⟨5, false, 0, 0, 0, 0⟩, true, 0) := by simp only [ackF, hgood, hsl, hz, ho, Int.toNat_natCast, heq, Bool.and_self, if_true, Bool.false_eq_true, if_false]; rfl
                have hx : ((h2 : Int) == (n : Int)) = true := by simp [he]
                clear hgood hsl hz ho htn hth hgen heq
                go_wp2_with (first | (go_at_call 17; refine (ack_any _ _ _ _ _ _ _ _ _ ).mono ?_; rintro e w3 ⟨rfl, hb3⟩; have hz_w3 : wr.heap.size ≤ w3.heap.size := (by have h_ := hb3.size; first | omega | (simp at h_; omega)); obtain ⟨hc30, hf30⟩ := bk hb3 (w2.heap.size) (by first | omega | (simp; done) | (simp; omega)); have hs30 : w2.heap.size < w3.heap.size := (by omega); have hq30 : ∀ o, w3.cell? ⟨w2.heap.size, o, none⟩ = wr.cell? ⟨w2.heap.size, o, none⟩ := (fun o => (hc30 o).trans (by go_simp)); clear hc30))
                have q0 : w3.cell? ⟨w2.heap.size, 0, none⟩ = some (.int .i64 4) := by go_simp
                have q1 : w3.cell? ⟨w2.heap.size, 1, none⟩ = some (.bool true) := by go_simp
                have q2 : w3.cell? ⟨w2.heap.size, 2, none⟩ = some (.int .i64 5) := by go_simp
                have q3 : w3.cell? ⟨w2.heap.size, 3, none⟩ = some (.int .i64 n) := by go_simp
                have q4 : w3.cell? ⟨w2.heap.size, 4, none⟩ = some (.int .i64 h) := by go_simp
                have q5 : w3.cell? ⟨w2.heap.size, 5, none⟩ = some (.int .i64 7) := by go_simp
                clear hq30
                go_roundw
                case rel => exact ⟨k + 1, h2, by omega, by omega, by go_num, by first | rfl | go_num, hs2, .inr ⟨he, by go_simp, by go_simp, by go_simp, by go_simp, by go_simp, by go_simp⟩, fun o => by go_simp, by (simp; omega), (by repeat (first | with_reducible exact Below.refl _ _ | (with_reducible refine Below.setCell ?_ (by first | omega | (simp; done) | (simp; omega)) _) | with_reducible refine bal ?_ _ | with_reducible refine Below.drew ?_ | with_reducible refine bdn ?_ _ | with_reducible refine via ?_ (by with_reducible assumption)))⟩
                case measure => simp [intOf]; omega
              · have heq : (bits .or .i64 (h : Int) ((2 : Int) ^ j) == (n : Int)) = false := by rw [o1]; simp; omega
                have hx : ((h2 : Int) == (n : Int)) = false := by simp; omega
                have hf : ackF ⟨4, true, 5, n, h, 7⟩ j 5 = (⟨4, true, 5, n, h2, 7⟩, false, 0) := by simp only [ackF, hgood, hsl, hz, ho, hx, beq_self_eq_true, Bool.not_true, Int.toNat_natCast, Bool.and_self, if_true, Bool.false_eq_true, if_false, o1]
                clear hgood hsl hz ho htn hth hgen heq
                go_wp2_with (first | (go_at_call 17; refine (ack_any _ _ _ _ _ _ _ _ _ ).mono ?_; rintro e w3 ⟨rfl, hb3⟩; have hz_w3 : wr.heap.size ≤ w3.heap.size := (by have h_ := hb3.size; first | omega | (simp at h_; omega)); obtain ⟨hc30, hf30⟩ := bk hb3 (w2.heap.size) (by first | omega | (simp; done) | (simp; omega)); have hs30 : w2.heap.size < w3.heap.size := (by omega); have hq30 : ∀ o, w3.cell? ⟨w2.heap.size, o, none⟩ = wr.cell? ⟨w2.heap.size, o, none⟩ := (fun o => (hc30 o).trans (by go_simp)); clear hc30))
                have q0 : w3.cell? ⟨w2.heap.size, 0, none⟩ = some (.int .i64 4) := by go_simp
                have q1 : w3.cell? ⟨w2.heap.size, 1, none⟩ = some (.bool true) := by go_simp
                have q2 : w3.cell? ⟨w2.heap.size, 2, none⟩ = some (.int .i64 5) := by go_simp
                have q3 : w3.cell? ⟨w2.heap.size, 3, none⟩ = some (.int .i64 n) := by go_simp
                have q4 : w3.cell? ⟨w2.heap.size, 4, none⟩ = some (.int .i64 h) := by go_simp
                have q5 : w3.cell? ⟨w2.heap.size, 5, none⟩ = some (.int .i64 7) := by go_simp
                clear hq30
                go_roundw
                case rel => exact ⟨k + 1, h2, by omega, by omega, by go_num, by first | rfl | go_num, hs2, .inl ⟨he, by go_simp, by go_simp, by go_simp, by go_simp, by go_simp, by go_simp⟩, fun o => by go_simp, by (simp; omega), (by repeat (first | with_reducible exact Below.refl _ _ | (with_reducible refine Below.setCell ?_ (by first | omega | (simp; done) | (simp; omega)) _) | with_reducible refine bal ?_ _ | with_reducible refine Below.drew ?_ | with_reducible refine bdn ?_ _ | with_reducible refine via ?_ (by with_reducible assumption)))⟩
                case measure => simp [intOf]; omega
            · rw [hth] at ho
              have hf : ackF ⟨4, true, 5, n, h, 7⟩ j 5 = (⟨4, true, 5, n, h, 7⟩, false, 7) := by simp [ackF, hgood, hsl, hz, ho]
              have a1 : (bits .and .i64 (n : Int) ((2 : Int) ^ j) == 0) = false := by rw [and_pow' n j (by omega) hj8, htn]; rfl
              have a2 : (bits .and .i64 (n : Int) ((2 : Int) ^ j) != 0) = true := by rw [bne, a1]; rfl
              have a3 : (bits .and .i64 (h : Int) ((2 : Int) ^ j) == 0) = false := by rw [and_pow' h j (by omega) hj8, hth]; rfl
              clear hgood hsl hz ho htn hth
              go_wp2_with (first | (go_at_call 17; refine (ack_any _ _ _ _ _ _ _ _ _ ).mono ?_; rintro e w3 ⟨rfl, hb3⟩; have hz_w3 : wr.heap.size ≤ w3.heap.size := (by have h_ := hb3.size; first | omega | (simp at h_; omega)); obtain ⟨hc30, hf30⟩ := bk hb3 (w2.heap.size) (by first | omega | (simp; done) | (simp; omega)); have hs30 : w2.heap.size < w3.heap.size := (by omega); have hq30 : ∀ o, w3.cell? ⟨w2.heap.size, o, none⟩ = wr.cell? ⟨w2.heap.size, o, none⟩ := (fun o => (hc30 o).trans (by go_simp)); clear hc30))
              go_roundw
              case rel => exact ⟨k + 1, h, by omega, by omega, by go_num, by first | rfl | go_num, hs, .inl ⟨hne, by go_simp, by go_simp, by go_simp, by go_simp, by go_simp, by go_simp⟩, fun o => by go_simp, by (simp; omega), (by repeat (first | with_reducible exact Below.refl _ _ | (with_reducible refine Below.setCell ?_ (by first | omega | (simp; done) | (simp; omega)) _) | with_reducible refine bal ?_ _ | with_reducible refine Below.drew ?_ | with_reducible refine bdn ?_ _ | with_reducible refine via ?_ (by with_reducible assumption)))⟩
              case measure => simp [intOf]; omega
        · have hgd : goodS ⟨5, false, 0, 0, 0, 0⟩ = true := by kernel_rfl
          have hf : ackF ⟨5, false, 0, 0, 0, 0⟩ j 5 = (⟨5, false, 0, 0, 0, 0⟩, false, 12) := by simp [ackF, hsl, hgd]
          have hx : ((h : Int) == (h : Int)) = true := by simp
          clear hsl hgd
          go_wp2_with (first | (go_at_call 17; refine (ack_any _ _ _ _ _ _ _ _ _ ).mono ?_; rintro e w3 ⟨rfl, hb3⟩; have hz_w3 : wr.heap.size ≤ w3.heap.size := (by have h_ := hb3.size; first | omega | (simp at h_; omega)); obtain ⟨hc30, hf30⟩ := bk hb3 (w2.heap.size) (by first | omega | (simp; done) | (simp; omega)); have hs30 : w2.heap.size < w3.heap.size := (by omega); have hq30 : ∀ o, w3.cell? ⟨w2.heap.size, o, none⟩ = wr.cell? ⟨w2.heap.size, o, none⟩ := (fun o => (hc30 o).trans (by go_simp)); clear hc30))
          go_ret
          exact ⟨by first | rfl | simp, (by repeat (first | with_reducible exact Below.refl _ _ | (with_reducible refine Below.setCell ?_ (by first | omega | (simp; done) | (simp; omega)) _) | with_reducible refine bal ?_ _ | with_reducible refine Below.drew ?_ | with_reducible refine bdn ?_ _ | with_reducible refine via ?_ (by with_reducible assumption)))⟩
      · clear hx hst
        go_wp2
        go_ret
        exact ⟨rfl, hbl⟩
    · clear hx hst
      go_wp2
      go_ret
      exact ⟨rfl, hbl⟩
end Go.Proofs.Ytcaipfdnadlkdaa
