/- The walk of the law of any calls. -/
import Derived.Test.YtecpbhefpicmaaaWalks4
import Derived.Test.YtecpbhefpicmaaaPlain
import Derived.Deep.LoopGhost
namespace Go.Proofs.Ytecpbhefpicmaaa
open Go.RowKit
set_option linter.unusedSimpArgs false
set_option linter.unusedVariables false

set_option maxRecDepth 100000 in
set_option maxHeartbeats 8000000 in
theorem runs_law (b off len cap : Nat) (Nw : Nat → Bool) (Ts Fr Tk : Nat → Int) (w : World) (hm : len ≤ 9223372036854775807)
    (hc0 : ∀ i, i < len → w.cell? ⟨b, off + i * 4, none⟩ = some (.bool (Nw i))) (hc1 : ∀ i, i < len → w.cell? ⟨b, off + i * 4 + 1, none⟩ = some (.int .u32 (Ts i)) ∧ 0 ≤ Ts i ∧ Ts i ≤ 4294967295)
    (hc2 : ∀ i, i < len → w.cell? ⟨b, off + i * 4 + 2, none⟩ = some (.int .u16 (Fr i)) ∧ 0 ≤ Fr i ∧ Fr i ≤ 65535) (hc3 : ∀ i, i < len → w.cell? ⟨b, off + i * 4 + 3, none⟩ = some (.int .u16 (Tk i)) ∧ 0 ≤ Tk i ∧ Tk i ≤ 65535) (hb : b < w.heap.size) :
    Calls Try.prog 5 #[.slice (some ⟨b, off, none⟩) len cap] w fun x w' => x = .returned (.bool true) ∧ Below w.heap.size w w' := by
  go_enter Try.func5, Try.ntmps5
  go_wp2_with (first | (go_at_call 7; refine (awake_any _).mono ?_; rintro e w1 ⟨rfl, hb1⟩; have hz_w1 : w.heap.size ≤ w1.heap.size := (by have h_ := hb1.size; first | omega | (simp at h_; omega))))
  go_loopw [4, 5, 6, 7] (fun nw d5 d6 i wr => ∃ (k : Nat) (a : Bool) (s t dt f df at_ now : Int), k ≤ len ∧ k ≤ 200 ∧ i = .int .i64 k ∧ nw = .int .i64 now ∧ d5 = .int .u32 dt ∧ d6 = .int .u16 df ∧ 0 ≤ now ∧ now ≤ 65535 * k ∧ ((a = false ∧ k = 0) ∨ (a = true ∧ 0 < k ∧ s = (k : Int) - 1)) ∧ (0 ≤ s ∧ s ≤ 65535 ∧ 0 ≤ t ∧ t ≤ 4294967295 ∧ 0 ≤ dt ∧ dt ≤ 4294967295 ∧ 0 ≤ f ∧ f ≤ 65535 ∧ 0 ≤ df ∧ df ≤ 65535) ∧ wr.cell? ⟨w1.heap.size, 0, none⟩ = some (.bool a) ∧ wr.cell? ⟨w1.heap.size, 1, none⟩ = some (.int .u16 s) ∧ wr.cell? ⟨w1.heap.size, 2, none⟩ = some (.int .u32 t) ∧ wr.cell? ⟨w1.heap.size, 3, none⟩ = some (.int .u32 dt) ∧ wr.cell? ⟨w1.heap.size, 4, none⟩ = some (.int .u16 f) ∧ wr.cell? ⟨w1.heap.size, 5, none⟩ = some (.int .u16 df) ∧ wr.cell? ⟨w1.heap.size, 6, none⟩ = some (.int .i64 at_) ∧ (∀ o, wr.frozen? ⟨w1.heap.size, o, none⟩ = false) ∧ w1.heap.size < wr.heap.size ∧ Below w.heap.size w wr)
    (fun _ _ _ i _ => len - (intOf i).toNat)
  case atStart => exact ⟨0, false, 0, 0, 0, 0, 0, 0, 0, by omega, by omega, rfl, rfl, rfl, rfl, by omega, by omega, .inl ⟨rfl, rfl⟩, by omega, by go_simp, by go_simp, by go_simp, by go_simp, by go_simp, by go_simp, by go_simp, fun o => by go_simp, by simp, (by repeat (first | with_reducible exact Below.refl _ _ | (with_reducible refine Below.setCell ?_ (by first | omega | (simp; done) | (simp; omega)) _) | with_reducible refine bal ?_ _ | with_reducible refine Below.drew ?_ | with_reducible refine bdn ?_ _ | with_reducible refine via ?_ (by with_reducible assumption)))⟩
  case round =>
    obtain ⟨k, a, s, t, dt, f, df, at_, now, hk, hk2, rfl, rfl, rfl, rfl, n0, n1, hst, bds, c0, c1, c2, c3, c4, c5, c6, hf0, hz, hbl⟩ := hrel
    obtain ⟨b1, b2, b3, b4, b5, b6, b7, b8, b9, b10⟩ := bds
    by_cases hlt : k < len
    · by_cases hl2 : k < 200
      · have e0 : wr.cell? ⟨b, off + k * 4, none⟩ = _ := (hbl.cell (by exact hb)).trans (hc0 k hlt)
        obtain ⟨g1, t0, t1⟩ := hc1 k hlt
        obtain ⟨g2, f0, f1⟩ := hc2 k hlt
        obtain ⟨g3, k0, k1⟩ := hc3 k hlt
        have e1 : wr.cell? ⟨b, off + k * 4 + 1, none⟩ = _ := (hbl.cell (by exact hb)).trans g1
        have e2 : wr.cell? ⟨b, off + k * 4 + 2, none⟩ = _ := (hbl.cell (by exact hb)).trans g2
        have e3 : wr.cell? ⟨b, off + k * 4 + 3, none⟩ = _ := (hbl.cell (by exact hb)).trans g3
        clear hc0 hc1 hc2 hc3 g1 g2 g3
        have hbw : b < wr.heap.size := by (have := hbl.size; omega)
        generalize Nw k = new at e0
        generalize Ts k = ts at e1 t0 t1
        generalize Fr k = fr at e2 f0 f1
        generalize Tk k = tk at e3 k0 k1
        cases new
        · rcases hst with ⟨rfl, hk0⟩ | ⟨rfl, hk0, hs⟩
          · have s1 := sub_oT ts (dt) (by omega) (by omega)
            have s4 := sub_oT' ts (dt) (by omega) (by omega)
            have s2 := sub_oF fr (df) (by omega) (by omega)
            have s3 : seqF false s = (k : Int) := by (unfold seqF; (try rw [wu16]); simp; omega)
            have r1 := ntF_bd false t (dt) ts (by omega) (by omega)
            have r2 := nfF_bd false f (df) fr (by omega) (by omega)
            have hk0' : k ≤ 0 := by omega
            clear hk0
            go_wp2_with (first | (go_at_call 9; refine (begin_any _ _ _ _ _ _ _ _ _ _ _ (by omega) (by omega) (by omega) (by omega) (by omega) (by omega) (by omega) (by omega) (by omega) (by omega) (by omega) (by omega) (by omega) (by omega)).mono ?_; rintro e w2 ⟨rfl, hb2⟩; have hz_w2 : wr.heap.size + 1 ≤ w2.heap.size := (by have h_ := hb2.size; first | omega | (simp at h_; omega)); obtain ⟨hc10, hf10⟩ := bk hb2 (w1.heap.size) (by first | omega | (simp; done) | (simp; omega)); have hs10 : w1.heap.size < w2.heap.size := (by omega); obtain ⟨hc11, hf11⟩ := bk hb2 (wr.heap.size) (by first | omega | (simp; done) | (simp; omega)); have hs11 : wr.heap.size < w2.heap.size := (by omega); have hq10 : ∀ o, w2.cell? ⟨w1.heap.size, o, none⟩ = wr.cell? ⟨w1.heap.size, o, none⟩ := (fun o => (hc10 o).trans (by go_simp)); clear hc10) | (go_at_call 8; refine (out_any _ _ _ _ _ _ _ _ _ _ _ (by omega) (by omega) (by omega) (by omega) (by omega) (by omega) (by omega) (by omega) (by omega) (by omega) (by omega) (by omega) (by omega) (by omega)).mono ?_; rintro e w3 ⟨rfl, hb3⟩; have hz_w3 : wr.heap.size + 1 ≤ w3.heap.size := (by have h_ := hb3.size; first | omega | (simp at h_; omega)); obtain ⟨hc20, hf20⟩ := bk hb3 (w1.heap.size) (by first | omega | (simp; done) | (simp; omega)); have hs20 : w1.heap.size < w3.heap.size := (by omega); obtain ⟨hc21, hf21⟩ := bk hb3 (wr.heap.size) (by first | omega | (simp; done) | (simp; omega)); have hs21 : wr.heap.size < w3.heap.size := (by omega); have hq20 : ∀ o, w3.cell? ⟨w1.heap.size, o, none⟩ = wr.cell? ⟨w1.heap.size, o, none⟩ := (fun o => (hc20 o).trans (by go_simp)); clear hc20))
            go_region
            all_goals
              go_wp2
              clear s1 s2 s3 s4
              go_roundw
              case rel => exact ⟨k + 1, true, (k : Int), ntF false t (dt) ts, dt, nfF false f (df) fr, df, now + tk, now + tk, by omega, by omega, by go_num, rfl, rfl, rfl, by omega, by (push_cast; omega), .inr ⟨rfl, by omega, by (push_cast; omega)⟩, by omega, by go_simp, by go_simp, by go_simp, by go_simp, by go_simp, by go_simp, by go_simp, fun o => by go_simp, by (simp; omega), (by repeat (first | with_reducible exact Below.refl _ _ | (with_reducible refine Below.setCell ?_ (by first | omega | (simp; done) | (simp; omega)) _) | with_reducible refine bal ?_ _ | with_reducible refine Below.drew ?_ | with_reducible refine bdn ?_ _ | with_reducible refine via ?_ (by with_reducible assumption)))⟩
              case measure => simp [intOf]; omega
          · have s1 := sub_oT ts (dt) (by omega) (by omega)
            have s4 := sub_oT' ts (dt) (by omega) (by omega)
            have s2 := sub_oF fr (df) (by omega) (by omega)
            have s3 : seqF true s = (k : Int) := by (unfold seqF; (try rw [wu16]); simp; omega)
            have r1 := ntF_bd true t (dt) ts (by omega) (by omega)
            have r2 := nfF_bd true f (df) fr (by omega) (by omega)
            have hk0' : 1 ≤ k := by omega
            clear hk0 hs
            go_wp2_with (first | (go_at_call 9; refine (begin_any _ _ _ _ _ _ _ _ _ _ _ (by omega) (by omega) (by omega) (by omega) (by omega) (by omega) (by omega) (by omega) (by omega) (by omega) (by omega) (by omega) (by omega) (by omega)).mono ?_; rintro e w2 ⟨rfl, hb2⟩; have hz_w2 : wr.heap.size + 1 ≤ w2.heap.size := (by have h_ := hb2.size; first | omega | (simp at h_; omega)); obtain ⟨hc10, hf10⟩ := bk hb2 (w1.heap.size) (by first | omega | (simp; done) | (simp; omega)); have hs10 : w1.heap.size < w2.heap.size := (by omega); obtain ⟨hc11, hf11⟩ := bk hb2 (wr.heap.size) (by first | omega | (simp; done) | (simp; omega)); have hs11 : wr.heap.size < w2.heap.size := (by omega); have hq10 : ∀ o, w2.cell? ⟨w1.heap.size, o, none⟩ = wr.cell? ⟨w1.heap.size, o, none⟩ := (fun o => (hc10 o).trans (by go_simp)); clear hc10) | (go_at_call 8; refine (out_any _ _ _ _ _ _ _ _ _ _ _ (by omega) (by omega) (by omega) (by omega) (by omega) (by omega) (by omega) (by omega) (by omega) (by omega) (by omega) (by omega) (by omega) (by omega)).mono ?_; rintro e w3 ⟨rfl, hb3⟩; have hz_w3 : wr.heap.size + 1 ≤ w3.heap.size := (by have h_ := hb3.size; first | omega | (simp at h_; omega)); obtain ⟨hc20, hf20⟩ := bk hb3 (w1.heap.size) (by first | omega | (simp; done) | (simp; omega)); have hs20 : w1.heap.size < w3.heap.size := (by omega); obtain ⟨hc21, hf21⟩ := bk hb3 (wr.heap.size) (by first | omega | (simp; done) | (simp; omega)); have hs21 : wr.heap.size < w3.heap.size := (by omega); have hq20 : ∀ o, w3.cell? ⟨w1.heap.size, o, none⟩ = wr.cell? ⟨w1.heap.size, o, none⟩ := (fun o => (hc20 o).trans (by go_simp)); clear hc20))
            go_region
            all_goals
              go_wp2
              clear s1 s2 s3 s4
              go_roundw
              case rel => exact ⟨k + 1, true, (k : Int), ntF true t (dt) ts, dt, nfF true f (df) fr, df, now + tk, now + tk, by omega, by omega, by go_num, rfl, rfl, rfl, by omega, by (push_cast; omega), .inr ⟨rfl, by omega, by (push_cast; omega)⟩, by omega, by go_simp, by go_simp, by go_simp, by go_simp, by go_simp, by go_simp, by go_simp, fun o => by go_simp, by (simp; omega), (by repeat (first | with_reducible exact Below.refl _ _ | (with_reducible refine Below.setCell ?_ (by first | omega | (simp; done) | (simp; omega)) _) | with_reducible refine bal ?_ _ | with_reducible refine Below.drew ?_ | with_reducible refine bdn ?_ _ | with_reducible refine via ?_ (by with_reducible assumption)))⟩
              case measure => simp [intOf]; omega
        · rcases hst with ⟨rfl, hk0⟩ | ⟨rfl, hk0, hs⟩
          · obtain ⟨p1, p2⟩ := bT_bd false t at_ ts (now + tk)
            obtain ⟨p3, p4⟩ := bF_bd false f fr
            have s1 := sub_oT ts (bT false t at_ ts (now + tk)) (by omega) (by omega)
            have s4 := sub_oT' ts (bT false t at_ ts (now + tk)) (by omega) (by omega)
            have s2 := sub_oF fr (bF false f fr) (by omega) (by omega)
            have s3 : seqF false s = (k : Int) := by (unfold seqF; (try rw [wu16]); simp; omega)
            have r1 := ntF_bd false t (bT false t at_ ts (now + tk)) ts (by omega) (by omega)
            have r2 := nfF_bd false f (bF false f fr) fr (by omega) (by omega)
            have hk0' : k ≤ 0 := by omega
            clear hk0
            go_wp2_with (first | (go_at_call 9; refine (begin_any _ _ _ _ _ _ _ _ _ _ _ (by omega) (by omega) (by omega) (by omega) (by omega) (by omega) (by omega) (by omega) (by omega) (by omega) (by omega) (by omega) (by omega) (by omega)).mono ?_; rintro e w2 ⟨rfl, hb2⟩; have hz_w2 : wr.heap.size + 1 ≤ w2.heap.size := (by have h_ := hb2.size; first | omega | (simp at h_; omega)); obtain ⟨hc10, hf10⟩ := bk hb2 (w1.heap.size) (by first | omega | (simp; done) | (simp; omega)); have hs10 : w1.heap.size < w2.heap.size := (by omega); obtain ⟨hc11, hf11⟩ := bk hb2 (wr.heap.size) (by first | omega | (simp; done) | (simp; omega)); have hs11 : wr.heap.size < w2.heap.size := (by omega); have hq10 : ∀ o, w2.cell? ⟨w1.heap.size, o, none⟩ = wr.cell? ⟨w1.heap.size, o, none⟩ := (fun o => (hc10 o).trans (by go_simp)); clear hc10) | (go_at_call 8; refine (out_any _ _ _ _ _ _ _ _ _ _ _ (by omega) (by omega) (by omega) (by omega) (by omega) (by omega) (by omega) (by omega) (by omega) (by omega) (by omega) (by omega) (by omega) (by omega)).mono ?_; rintro e w3 ⟨rfl, hb3⟩; have hz_w3 : w2.heap.size ≤ w3.heap.size := (by have h_ := hb3.size; first | omega | (simp at h_; omega)); obtain ⟨hc20, hf20⟩ := bk hb3 (w1.heap.size) (by first | omega | (simp; done) | (simp; omega)); have hs20 : w1.heap.size < w3.heap.size := (by omega); obtain ⟨hc21, hf21⟩ := bk hb3 (wr.heap.size) (by first | omega | (simp; done) | (simp; omega)); have hs21 : wr.heap.size < w3.heap.size := (by omega)))
            have q0 : w3.cell? ⟨w1.heap.size, 0, none⟩ = some (.bool false) := by go_simp
            have q1 : w3.cell? ⟨w1.heap.size, 1, none⟩ = some (.int .u16 s) := by go_simp
            have q2 : w3.cell? ⟨w1.heap.size, 2, none⟩ = some (.int .u32 t) := by go_simp
            have q3 : w3.cell? ⟨w1.heap.size, 3, none⟩ = some (.int .u32 (bT false t at_ ts (now + tk))) := by go_simp
            have q4 : w3.cell? ⟨w1.heap.size, 4, none⟩ = some (.int .u16 f) := by go_simp
            have q5 : w3.cell? ⟨w1.heap.size, 5, none⟩ = some (.int .u16 (bF false f fr)) := by go_simp
            have q6 : w3.cell? ⟨w1.heap.size, 6, none⟩ = some (.int .i64 at_) := by go_simp
            clear hc20
            go_region
            all_goals
              go_wp2
              clear s1 s2 s3 s4
              go_roundw
              case rel => exact ⟨k + 1, true, (k : Int), ntF false t (bT false t at_ ts (now + tk)) ts, bT false t at_ ts (now + tk), nfF false f (bF false f fr) fr, bF false f fr, now + tk, now + tk, by omega, by omega, by go_num, rfl, rfl, rfl, by omega, by (push_cast; omega), .inr ⟨rfl, by omega, by (push_cast; omega)⟩, by omega, by go_simp, by go_simp, by go_simp, by go_simp, by go_simp, by go_simp, by go_simp, fun o => by go_simp, by (simp; omega), (by repeat (first | with_reducible exact Below.refl _ _ | (with_reducible refine Below.setCell ?_ (by first | omega | (simp; done) | (simp; omega)) _) | with_reducible refine bal ?_ _ | with_reducible refine Below.drew ?_ | with_reducible refine bdn ?_ _ | with_reducible refine via ?_ (by with_reducible assumption)))⟩
              case measure => simp [intOf]; omega
          · obtain ⟨p1, p2⟩ := bT_bd true t at_ ts (now + tk)
            obtain ⟨p3, p4⟩ := bF_bd true f fr
            have s1 := sub_oT ts (bT true t at_ ts (now + tk)) (by omega) (by omega)
            have s4 := sub_oT' ts (bT true t at_ ts (now + tk)) (by omega) (by omega)
            have s2 := sub_oF fr (bF true f fr) (by omega) (by omega)
            have s3 : seqF true s = (k : Int) := by (unfold seqF; (try rw [wu16]); simp; omega)
            have r1 := ntF_bd true t (bT true t at_ ts (now + tk)) ts (by omega) (by omega)
            have r2 := nfF_bd true f (bF true f fr) fr (by omega) (by omega)
            have hk0' : 1 ≤ k := by omega
            clear hk0 hs
            go_wp2_with (first | (go_at_call 9; refine (begin_any _ _ _ _ _ _ _ _ _ _ _ (by omega) (by omega) (by omega) (by omega) (by omega) (by omega) (by omega) (by omega) (by omega) (by omega) (by omega) (by omega) (by omega) (by omega)).mono ?_; rintro e w2 ⟨rfl, hb2⟩; have hz_w2 : wr.heap.size + 1 ≤ w2.heap.size := (by have h_ := hb2.size; first | omega | (simp at h_; omega)); obtain ⟨hc10, hf10⟩ := bk hb2 (w1.heap.size) (by first | omega | (simp; done) | (simp; omega)); have hs10 : w1.heap.size < w2.heap.size := (by omega); obtain ⟨hc11, hf11⟩ := bk hb2 (wr.heap.size) (by first | omega | (simp; done) | (simp; omega)); have hs11 : wr.heap.size < w2.heap.size := (by omega); have hq10 : ∀ o, w2.cell? ⟨w1.heap.size, o, none⟩ = wr.cell? ⟨w1.heap.size, o, none⟩ := (fun o => (hc10 o).trans (by go_simp)); clear hc10) | (go_at_call 8; refine (out_any _ _ _ _ _ _ _ _ _ _ _ (by omega) (by omega) (by omega) (by omega) (by omega) (by omega) (by omega) (by omega) (by omega) (by omega) (by omega) (by omega) (by omega) (by omega)).mono ?_; rintro e w3 ⟨rfl, hb3⟩; have hz_w3 : w2.heap.size ≤ w3.heap.size := (by have h_ := hb3.size; first | omega | (simp at h_; omega)); obtain ⟨hc20, hf20⟩ := bk hb3 (w1.heap.size) (by first | omega | (simp; done) | (simp; omega)); have hs20 : w1.heap.size < w3.heap.size := (by omega); obtain ⟨hc21, hf21⟩ := bk hb3 (wr.heap.size) (by first | omega | (simp; done) | (simp; omega)); have hs21 : wr.heap.size < w3.heap.size := (by omega)))
            have q0 : w3.cell? ⟨w1.heap.size, 0, none⟩ = some (.bool true) := by go_simp
            have q1 : w3.cell? ⟨w1.heap.size, 1, none⟩ = some (.int .u16 s) := by go_simp
            have q2 : w3.cell? ⟨w1.heap.size, 2, none⟩ = some (.int .u32 t) := by go_simp
            have q3 : w3.cell? ⟨w1.heap.size, 3, none⟩ = some (.int .u32 (bT true t at_ ts (now + tk))) := by go_simp
            have q4 : w3.cell? ⟨w1.heap.size, 4, none⟩ = some (.int .u16 f) := by go_simp
            have q5 : w3.cell? ⟨w1.heap.size, 5, none⟩ = some (.int .u16 (bF true f fr)) := by go_simp
            have q6 : w3.cell? ⟨w1.heap.size, 6, none⟩ = some (.int .i64 at_) := by go_simp
            clear hc20
            go_region
            all_goals
              go_wp2
              clear s1 s2 s3 s4
              go_roundw
              case rel => exact ⟨k + 1, true, (k : Int), ntF true t (bT true t at_ ts (now + tk)) ts, bT true t at_ ts (now + tk), nfF true f (bF true f fr) fr, bF true f fr, now + tk, now + tk, by omega, by omega, by go_num, rfl, rfl, rfl, by omega, by (push_cast; omega), .inr ⟨rfl, by omega, by (push_cast; omega)⟩, by omega, by go_simp, by go_simp, by go_simp, by go_simp, by go_simp, by go_simp, by go_simp, fun o => by go_simp, by (simp; omega), (by repeat (first | with_reducible exact Below.refl _ _ | (with_reducible refine Below.setCell ?_ (by first | omega | (simp; done) | (simp; omega)) _) | with_reducible refine bal ?_ _ | with_reducible refine Below.drew ?_ | with_reducible refine bdn ?_ _ | with_reducible refine via ?_ (by with_reducible assumption)))⟩
              case measure => simp [intOf]; omega
      · clear hc0 hc1 hc2 hc3
        go_wp2
        go_ret
        exact ⟨rfl, hbl⟩
    · clear hc0 hc1 hc2 hc3
      go_wp2
      go_ret
      exact ⟨rfl, hbl⟩
end Go.Proofs.Ytecpbhefpicmaaa
