/- The walk of the law: the first frame of a stream that begins. -/
import Derived.Test.YtecpbhefpicmaaaWalks4
import Derived.Test.YtecpbhefpicmaaaPlain
import Derived.Deep.LoopGhost
namespace Go.Proofs.Ytecpbhefpicmaaa
open Go.RowKit
set_option linter.unusedSimpArgs false
set_option linter.unusedVariables false

theorem tick7 (ticks : Int) (h0 : 0 ≤ ticks) (h1 : ticks ≤ 65535) : tickN 7 (7 + ticks) = if ticks ≤ 1 then 1 else ticks := by
  have e : IntKind.u64.wrap (IntKind.u64.wrap (7 + ticks) - IntKind.u64.wrap 7) = ticks := by rw [IntKind.wrap_u64, IntKind.wrap_u64, IntKind.wrap_u64]; omega
  unfold tickN
  rw [e]
  split <;> split <;> (try split) <;> omega
theorem end_ts (m ts ticks : Int) (h0 : 0 ≤ m) (h1 : m ≤ 255) (h2 : 0 ≤ ticks) (h3 : ticks ≤ 65535) : oT ts (bT true (1000 + m) 7 ts (7 + ticks)) = 1000 + m + 90 * (if ticks ≤ 1 then 1 else ticks) := by
  unfold oT bT
  rw [tick7 ticks h2 h3]
  simp only [if_true]
  split <;> omega
theorem end_fr (m fr : Int) (h0 : 0 ≤ m) (h1 : m ≤ 255) : oF fr (bF true (500 + m) fr) = 501 + m := by
  unfold oF bF
  simp only [if_true]
  rw [wu16, wu16, wu16]
  omega
theorem nt_up (m x : Int) (h0 : 0 ≤ m) (h1 : m ≤ 255) (h2 : 0 ≤ x) (h3 : x ≤ 255) (h : m < x) : ntF true (1000 + m) 0 (1000 + x) = 1000 + x := by
  have hg : goT (1000 + m) 0 (1000 + x) = true := by simp [goT]; omega
  simp [ntF, hg, oT]
  omega
theorem nt_no (m x : Int) (h0 : 0 ≤ m) (h1 : m ≤ 255) (h2 : 0 ≤ x) (h3 : x ≤ 255) (h : x ≤ m) : ntF true (1000 + m) 0 (1000 + x) = 1000 + m := by
  have hg : goT (1000 + m) 0 (1000 + x) = false := by simp [goT]; omega
  simp [ntF, hg]
theorem nf_up (m x : Int) (h0 : 0 ≤ m) (h1 : m ≤ 255) (h2 : 0 ≤ x) (h3 : x ≤ 255) (h : m < x) : nfF true (500 + m) 0 (500 + x) = 500 + x := by
  have hg : goF (500 + m) 0 (500 + x) = true := by simp [goF]; rw [wu16, wu16]; omega
  simp [nfF, hg, oF]
  rw [wu16]
  omega
theorem nf_no (m x : Int) (h0 : 0 ≤ m) (h1 : m ≤ 255) (h2 : 0 ≤ x) (h3 : x ≤ 255) (h : x ≤ m) : nfF true (500 + m) 0 (500 + x) = 500 + m := by
  have hg : goF (500 + m) 0 (500 + x) = false := by simp [goF]; rw [wu16, wu16]; omega
  simp [nfF, hg]
theorem nt_first (x : Int) (h2 : 0 ≤ x) (h3 : x ≤ 255) : ntF false 0 0 (1000 + x) = 1000 + x := by simp [ntF, oT]; omega
theorem nf_first (x : Int) (h2 : 0 ≤ x) (h3 : x ≤ 255) : nfF false 0 0 (500 + x) = 500 + x := by simp [nfF, oF]; rw [wu16]; omega

set_option maxRecDepth 100000 in
set_option maxHeartbeats 8000000 in
theorem begins_law (b off len cap : Nat) (X : Nat → Int) (ts fr ticks : Int) (w : World) (hm : len ≤ 9223372036854775807) (hl : 0 < len) (t0 : 0 ≤ ts) (t1 : ts ≤ 4294967295) (f0 : 0 ≤ fr) (f1 : fr ≤ 65535) (k0 : 0 ≤ ticks) (k1 : ticks ≤ 65535)
    (hx : ∀ i, i < len → w.cell? ⟨b, off + i, none⟩ = some (.int .u8 (X i)) ∧ 0 ≤ X i ∧ X i ≤ 255) (hb : b < w.heap.size) :
    Calls Try.prog 6 #[.slice (some ⟨b, off, none⟩) len cap, .int .u32 ts, .int .u16 fr, .int .u16 ticks] w fun x w' => x = .returned (.bool true) ∧ Below w.heap.size w w' := by
  have hl' : ((len : Int) == 0) = false := by simp; omega
  go_enter Try.func6, Try.ntmps6
  go_wp2_with (first | (go_at_call 7; refine (awake_any _).mono ?_; rintro e w1 ⟨rfl, hb1⟩; have hz_w1 : w.heap.size ≤ w1.heap.size := (by have h_ := hb1.size; first | omega | (simp at h_; omega))))
  go_loopw [10, 11, 12] (fun fa ti i wr => ∃ (k : Nat) (a : Bool) (s t f at_ : Int), k ≤ len ∧ k ≤ 100 ∧ i = .int .i64 k ∧ fa = .int .u16 f ∧ ti = .int .u32 t ∧ ((a = false ∧ k ≤ 0 ∧ t = 0 ∧ f = 0) ∨ (a = true ∧ 0 < k ∧ at_ = 7 ∧ ∃ m : Int, 0 ≤ m ∧ m ≤ 255 ∧ t = 1000 + m ∧ f = 500 + m)) ∧ 0 ≤ s ∧ s ≤ 65535 ∧ wr.cell? ⟨w1.heap.size, 0, none⟩ = some (.bool a) ∧ wr.cell? ⟨w1.heap.size, 1, none⟩ = some (.int .u16 s) ∧ wr.cell? ⟨w1.heap.size, 2, none⟩ = some (.int .u32 t) ∧ wr.cell? ⟨w1.heap.size, 3, none⟩ = some (.int .u32 0) ∧ wr.cell? ⟨w1.heap.size, 4, none⟩ = some (.int .u16 f) ∧ wr.cell? ⟨w1.heap.size, 5, none⟩ = some (.int .u16 0) ∧ wr.cell? ⟨w1.heap.size, 6, none⟩ = some (.int .i64 at_) ∧ (∀ o, wr.frozen? ⟨w1.heap.size, o, none⟩ = false) ∧ w1.heap.size < wr.heap.size ∧ Below w.heap.size w wr)
    (fun _ _ i _ => len - (intOf i).toNat)
  case atStart => exact ⟨0, false, 0, 0, 0, 0, by omega, by omega, rfl, rfl, rfl, .inl ⟨rfl, by omega, rfl, rfl⟩, by omega, by omega, by go_simp, by go_simp, by go_simp, by go_simp, by go_simp, by go_simp, by go_simp, fun o => by go_simp, by simp, (by repeat (first | with_reducible exact Below.refl _ _ | (with_reducible refine Below.setCell ?_ (by first | omega | (simp; done) | (simp; omega)) _) | with_reducible refine bal ?_ _ | with_reducible refine Below.drew ?_ | with_reducible refine bdn ?_ _ | with_reducible refine via ?_ (by with_reducible assumption)))⟩
  case round =>
    obtain ⟨k, a, s, t, f, at_, hk, hk2, rfl, rfl, rfl, hst, s0, s1, c0, c1, c2, c3, c4, c5, c6, hf0, hz, hbl⟩ := hrel
    by_cases hlt : k < len ∧ k < 100
    · obtain ⟨hlt, hl2⟩ := hlt
      obtain ⟨g, x0, x1⟩ := hx k hlt
      have e0 : wr.cell? ⟨b, off + k, none⟩ = _ := (hbl.cell (by exact hb)).trans g
      clear hx g
      have hbw : b < wr.heap.size := by (have := hbl.size; omega)
      generalize X k = x at e0 x0 x1
      rcases hst with ⟨rfl, hk0, rfl, rfl⟩ | ⟨rfl, hk0, rfl, m, m0, m1, rfl, rfl⟩
      · have r1 := nt_first x x0 x1
        have r2 := nf_first x x0 x1
        have r3 := seqF_bd false s
        have z1 : IntKind.u32.wrap (1000 + x) = 1000 + x := by (rw [wu32]; omega)
        have z2 : IntKind.u16.wrap (500 + x) = 500 + x := by (rw [wu16]; omega)
        have z3 : IntKind.u32.wrap x = x := by (rw [wu32]; omega)
        have z4 : IntKind.u16.wrap x = x := by (rw [wu16]; omega)
        go_wp2_with fail
        go_region_with (first | (go_at_call 8; refine (out_any _ _ _ _ _ _ _ _ _ _ _ (by omega) (by omega) (by omega) (by omega) (by omega) (by omega) (by omega) (by omega) (by omega) (by omega) (by omega) (by omega) (by omega) (by omega)).mono ?_; rintro e w3 ⟨rfl, hb3⟩; have hz_w3 : wr.heap.size ≤ w3.heap.size := (by have h_ := hb3.size; first | omega | (simp at h_; omega)); obtain ⟨hc20, hf20⟩ := bk hb3 (w1.heap.size) (by first | omega | (simp; done) | (simp; omega)); have hs20 : w1.heap.size < w3.heap.size := (by omega); obtain ⟨hc21, hf21⟩ := bk hb3 (b) (by first | omega | (simp; done) | (simp; omega)); have hs21 : b < w3.heap.size := (by omega); have hq20 : ∀ o, w3.cell? ⟨w1.heap.size, o, none⟩ = wr.cell? ⟨w1.heap.size, o, none⟩ := (fun o => (hc20 o).trans (by go_simp)); clear hc20))
        all_goals
          go_wp2_with fail
          go_quiet (fail)
          go_wp2
          clear z1 z2 z3 z4
          go_roundw
          case rel => exact ⟨k + 1, true, seqF false s, 1000 + x, 500 + x, 7, by omega, by omega, by go_num, by first | rfl | go_num, by first | rfl | go_num, .inr ⟨rfl, by omega, rfl, x, x0, x1, rfl, rfl⟩, by omega, by omega, by go_simp, by go_simp, by go_simp, by go_simp, by go_simp, by go_simp, by go_simp, fun o => by go_simp, by (simp; omega), (by repeat (first | with_reducible exact Below.refl _ _ | (with_reducible refine Below.setCell ?_ (by first | omega | (simp; done) | (simp; omega)) _) | with_reducible refine bal ?_ _ | with_reducible refine Below.drew ?_ | with_reducible refine bdn ?_ _ | with_reducible refine via ?_ (by with_reducible assumption)))⟩
          case measure => simp [intOf]; omega
      · have r3 := seqF_bd true s
        by_cases hmx : m < x
        · have r1 := nt_up m x m0 m1 x0 x1 hmx
          have r2 := nf_up m x m0 m1 x0 x1 hmx
          have z1 : IntKind.u32.wrap (1000 + x) = 1000 + x := by (rw [wu32]; omega)
          have z2 : IntKind.u16.wrap (500 + x) = 500 + x := by (rw [wu16]; omega)
          have z3 : IntKind.u32.wrap x = x := by (rw [wu32]; omega)
          have z4 : IntKind.u16.wrap x = x := by (rw [wu16]; omega)
          go_wp2_with fail
          go_region_with (first | (go_at_call 8; refine (out_any _ _ _ _ _ _ _ _ _ _ _ (by omega) (by omega) (by omega) (by omega) (by omega) (by omega) (by omega) (by omega) (by omega) (by omega) (by omega) (by omega) (by omega) (by omega)).mono ?_; rintro e w3 ⟨rfl, hb3⟩; have hz_w3 : wr.heap.size ≤ w3.heap.size := (by have h_ := hb3.size; first | omega | (simp at h_; omega)); obtain ⟨hc20, hf20⟩ := bk hb3 (w1.heap.size) (by first | omega | (simp; done) | (simp; omega)); have hs20 : w1.heap.size < w3.heap.size := (by omega); obtain ⟨hc21, hf21⟩ := bk hb3 (b) (by first | omega | (simp; done) | (simp; omega)); have hs21 : b < w3.heap.size := (by omega); have hq20 : ∀ o, w3.cell? ⟨w1.heap.size, o, none⟩ = wr.cell? ⟨w1.heap.size, o, none⟩ := (fun o => (hc20 o).trans (by go_simp)); clear hc20))
          all_goals
            go_wp2_with fail
            go_quiet (fail)
            go_wp2
            clear z1 z2 z3 z4
            go_roundw
            case rel => exact ⟨k + 1, true, seqF true s, 1000 + x, 500 + x, 7, by omega, by omega, by go_num, by first | rfl | go_num, by first | rfl | go_num, .inr ⟨rfl, by omega, rfl, x, x0, x1, rfl, rfl⟩, by omega, by omega, by go_simp, by go_simp, by go_simp, by go_simp, by go_simp, by go_simp, by go_simp, fun o => by go_simp, by (simp; omega), (by repeat (first | with_reducible exact Below.refl _ _ | (with_reducible refine Below.setCell ?_ (by first | omega | (simp; done) | (simp; omega)) _) | with_reducible refine bal ?_ _ | with_reducible refine Below.drew ?_ | with_reducible refine bdn ?_ _ | with_reducible refine via ?_ (by with_reducible assumption)))⟩
            case measure => simp [intOf]; omega
        · have r1 := nt_no m x m0 m1 x0 x1 (by omega)
          have r2 := nf_no m x m0 m1 x0 x1 (by omega)
          have z1 : IntKind.u32.wrap (1000 + x) = 1000 + x := by (rw [wu32]; omega)
          have z2 : IntKind.u16.wrap (500 + x) = 500 + x := by (rw [wu16]; omega)
          have z3 : IntKind.u32.wrap x = x := by (rw [wu32]; omega)
          have z4 : IntKind.u16.wrap x = x := by (rw [wu16]; omega)
          go_wp2_with fail
          go_region_with (first | (go_at_call 8; refine (out_any _ _ _ _ _ _ _ _ _ _ _ (by omega) (by omega) (by omega) (by omega) (by omega) (by omega) (by omega) (by omega) (by omega) (by omega) (by omega) (by omega) (by omega) (by omega)).mono ?_; rintro e w3 ⟨rfl, hb3⟩; have hz_w3 : wr.heap.size ≤ w3.heap.size := (by have h_ := hb3.size; first | omega | (simp at h_; omega)); obtain ⟨hc20, hf20⟩ := bk hb3 (w1.heap.size) (by first | omega | (simp; done) | (simp; omega)); have hs20 : w1.heap.size < w3.heap.size := (by omega); obtain ⟨hc21, hf21⟩ := bk hb3 (b) (by first | omega | (simp; done) | (simp; omega)); have hs21 : b < w3.heap.size := (by omega); have hq20 : ∀ o, w3.cell? ⟨w1.heap.size, o, none⟩ = wr.cell? ⟨w1.heap.size, o, none⟩ := (fun o => (hc20 o).trans (by go_simp)); clear hc20))
          all_goals
            go_wp2_with fail
            go_quiet (fail)
            go_wp2
            clear z1 z2 z3 z4
            go_roundw
            case rel => exact ⟨k + 1, true, seqF true s, 1000 + m, 500 + m, 7, by omega, by omega, by go_num, by first | rfl | go_num, by first | rfl | go_num, .inr ⟨rfl, by omega, rfl, m, m0, m1, rfl, rfl⟩, by omega, by omega, by go_simp, by go_simp, by go_simp, by go_simp, by go_simp, by go_simp, by go_simp, fun o => by go_simp, by (simp; omega), (by repeat (first | with_reducible exact Below.refl _ _ | (with_reducible refine Below.setCell ?_ (by first | omega | (simp; done) | (simp; omega)) _) | with_reducible refine bal ?_ _ | with_reducible refine Below.drew ?_ | with_reducible refine bdn ?_ _ | with_reducible refine via ?_ (by with_reducible assumption)))⟩
            case measure => simp [intOf]; omega
    · clear hx
      have hend : ¬ (k < len) ∨ (k < len ∧ ¬ (k < 100)) := by omega
      have hkp : 0 < k := by omega
      clear hlt
      rcases hst with ⟨_, hk0, _, _⟩ | ⟨rfl, hk0, rfl, m, m0, m1, rfl, rfl⟩
      · omega
      · by_cases ht : ticks ≤ 1
        · rcases hend with hend | ⟨hend, hend2⟩
          · have gA : oT ts (bT true (1000 + m) 7 ts (7 + ticks)) = 1000 + m + 90 := by (rw [end_ts m ts ticks (by omega) (by omega) (by omega) (by omega)]; split <;> omega)
            have gB : oF fr (bF true (500 + m) fr) = 501 + m := end_fr m fr (by omega) (by omega)
            obtain ⟨p1, p2⟩ := bT_bd true (1000 + m) 7 ts (7 + ticks)
            obtain ⟨p3, p4⟩ := bF_bd true (500 + m) fr
            have tok3 : True := trivial
            have tok4 : True := trivial
            go_wp2_with (first | (go_at_call 9; clear tok3; refine (begin_any _ _ _ _ _ _ _ _ _ _ _ (by omega) (by omega) (by omega) (by omega) (by omega) (by omega) (by omega) (by omega) (by omega) (by omega) (by omega) (by omega) (by omega) (by omega)).mono ?_; rintro e w3 ⟨rfl, hb3⟩; have hz_w3 : wr.heap.size ≤ w3.heap.size := (by have h_ := hb3.size; first | omega | (simp at h_; omega)); obtain ⟨hc51, hf51⟩ := bk hb3 (w1.heap.size) (by first | omega | (simp; done) | (simp; omega)); have hs51 : w1.heap.size < w3.heap.size := (by omega)) | (go_at_call 8; clear tok4; refine (out_any _ _ _ _ _ _ _ _ _ _ _ (by omega) (by omega) (by omega) (by omega) (by omega) (by omega) (by omega) (by omega) (by omega) (by omega) (by omega) (by omega) (by omega) (by omega)).mono ?_; rintro e w4 ⟨rfl, hb4⟩; have hz_w4 : w3.heap.size + 1 ≤ w4.heap.size := (by have h_ := hb4.size; first | omega | (simp at h_; omega)); obtain ⟨hc52, hf52⟩ := bk hb4 (w1.heap.size) (by first | omega | (simp; done) | (simp; omega)); have hs52 : w1.heap.size < w4.heap.size := (by omega); obtain ⟨hc53, hf53⟩ := bk hb4 (w3.heap.size) (by first | omega | (simp; done) | (simp; omega)); have hs53 : w3.heap.size < w4.heap.size := (by omega)))
            all_goals go_ret
            all_goals exact ⟨by first | rfl | simp, (by repeat (first | with_reducible exact Below.refl _ _ | (with_reducible refine Below.setCell ?_ (by first | omega | (simp; done) | (simp; omega)) _) | with_reducible refine bal ?_ _ | with_reducible refine Below.drew ?_ | with_reducible refine bdn ?_ _ | with_reducible refine via ?_ (by with_reducible assumption)))⟩
          · have gA : oT ts (bT true (1000 + m) 7 ts (7 + ticks)) = 1000 + m + 90 := by (rw [end_ts m ts ticks (by omega) (by omega) (by omega) (by omega)]; split <;> omega)
            have gB : oF fr (bF true (500 + m) fr) = 501 + m := end_fr m fr (by omega) (by omega)
            obtain ⟨p1, p2⟩ := bT_bd true (1000 + m) 7 ts (7 + ticks)
            obtain ⟨p3, p4⟩ := bF_bd true (500 + m) fr
            have tok3 : True := trivial
            have tok4 : True := trivial
            go_wp2_with (first | (go_at_call 9; clear tok3; refine (begin_any _ _ _ _ _ _ _ _ _ _ _ (by omega) (by omega) (by omega) (by omega) (by omega) (by omega) (by omega) (by omega) (by omega) (by omega) (by omega) (by omega) (by omega) (by omega)).mono ?_; rintro e w3 ⟨rfl, hb3⟩; have hz_w3 : wr.heap.size ≤ w3.heap.size := (by have h_ := hb3.size; first | omega | (simp at h_; omega)); obtain ⟨hc51, hf51⟩ := bk hb3 (w1.heap.size) (by first | omega | (simp; done) | (simp; omega)); have hs51 : w1.heap.size < w3.heap.size := (by omega)) | (go_at_call 8; clear tok4; refine (out_any _ _ _ _ _ _ _ _ _ _ _ (by omega) (by omega) (by omega) (by omega) (by omega) (by omega) (by omega) (by omega) (by omega) (by omega) (by omega) (by omega) (by omega) (by omega)).mono ?_; rintro e w4 ⟨rfl, hb4⟩; have hz_w4 : w3.heap.size + 1 ≤ w4.heap.size := (by have h_ := hb4.size; first | omega | (simp at h_; omega)); obtain ⟨hc52, hf52⟩ := bk hb4 (w1.heap.size) (by first | omega | (simp; done) | (simp; omega)); have hs52 : w1.heap.size < w4.heap.size := (by omega); obtain ⟨hc53, hf53⟩ := bk hb4 (w3.heap.size) (by first | omega | (simp; done) | (simp; omega)); have hs53 : w3.heap.size < w4.heap.size := (by omega)))
            all_goals go_ret
            all_goals exact ⟨by first | rfl | simp, (by repeat (first | with_reducible exact Below.refl _ _ | (with_reducible refine Below.setCell ?_ (by first | omega | (simp; done) | (simp; omega)) _) | with_reducible refine bal ?_ _ | with_reducible refine Below.drew ?_ | with_reducible refine bdn ?_ _ | with_reducible refine via ?_ (by with_reducible assumption)))⟩
        · have ht' : 1 < ticks := by omega
          clear ht
          rcases hend with hend | ⟨hend, hend2⟩
          · have gA : oT ts (bT true (1000 + m) 7 ts (7 + ticks)) = 1000 + m + 90 * ticks := by (rw [end_ts m ts ticks (by omega) (by omega) (by omega) (by omega)]; split <;> omega)
            have gB : oF fr (bF true (500 + m) fr) = 501 + m := end_fr m fr (by omega) (by omega)
            obtain ⟨p1, p2⟩ := bT_bd true (1000 + m) 7 ts (7 + ticks)
            obtain ⟨p3, p4⟩ := bF_bd true (500 + m) fr
            have tok3 : True := trivial
            have tok4 : True := trivial
            go_wp2_with (first | (go_at_call 9; clear tok3; refine (begin_any _ _ _ _ _ _ _ _ _ _ _ (by omega) (by omega) (by omega) (by omega) (by omega) (by omega) (by omega) (by omega) (by omega) (by omega) (by omega) (by omega) (by omega) (by omega)).mono ?_; rintro e w3 ⟨rfl, hb3⟩; have hz_w3 : wr.heap.size ≤ w3.heap.size := (by have h_ := hb3.size; first | omega | (simp at h_; omega)); obtain ⟨hc51, hf51⟩ := bk hb3 (w1.heap.size) (by first | omega | (simp; done) | (simp; omega)); have hs51 : w1.heap.size < w3.heap.size := (by omega)) | (go_at_call 8; clear tok4; refine (out_any _ _ _ _ _ _ _ _ _ _ _ (by omega) (by omega) (by omega) (by omega) (by omega) (by omega) (by omega) (by omega) (by omega) (by omega) (by omega) (by omega) (by omega) (by omega)).mono ?_; rintro e w4 ⟨rfl, hb4⟩; have hz_w4 : w3.heap.size + 1 ≤ w4.heap.size := (by have h_ := hb4.size; first | omega | (simp at h_; omega)); obtain ⟨hc52, hf52⟩ := bk hb4 (w1.heap.size) (by first | omega | (simp; done) | (simp; omega)); have hs52 : w1.heap.size < w4.heap.size := (by omega); obtain ⟨hc53, hf53⟩ := bk hb4 (w3.heap.size) (by first | omega | (simp; done) | (simp; omega)); have hs53 : w3.heap.size < w4.heap.size := (by omega)))
            all_goals go_ret
            all_goals exact ⟨by first | rfl | simp, (by repeat (first | with_reducible exact Below.refl _ _ | (with_reducible refine Below.setCell ?_ (by first | omega | (simp; done) | (simp; omega)) _) | with_reducible refine bal ?_ _ | with_reducible refine Below.drew ?_ | with_reducible refine bdn ?_ _ | with_reducible refine via ?_ (by with_reducible assumption)))⟩
          · have gA : oT ts (bT true (1000 + m) 7 ts (7 + ticks)) = 1000 + m + 90 * ticks := by (rw [end_ts m ts ticks (by omega) (by omega) (by omega) (by omega)]; split <;> omega)
            have gB : oF fr (bF true (500 + m) fr) = 501 + m := end_fr m fr (by omega) (by omega)
            obtain ⟨p1, p2⟩ := bT_bd true (1000 + m) 7 ts (7 + ticks)
            obtain ⟨p3, p4⟩ := bF_bd true (500 + m) fr
            have tok3 : True := trivial
            have tok4 : True := trivial
            go_wp2_with (first | (go_at_call 9; clear tok3; refine (begin_any _ _ _ _ _ _ _ _ _ _ _ (by omega) (by omega) (by omega) (by omega) (by omega) (by omega) (by omega) (by omega) (by omega) (by omega) (by omega) (by omega) (by omega) (by omega)).mono ?_; rintro e w3 ⟨rfl, hb3⟩; have hz_w3 : wr.heap.size ≤ w3.heap.size := (by have h_ := hb3.size; first | omega | (simp at h_; omega)); obtain ⟨hc51, hf51⟩ := bk hb3 (w1.heap.size) (by first | omega | (simp; done) | (simp; omega)); have hs51 : w1.heap.size < w3.heap.size := (by omega)) | (go_at_call 8; clear tok4; refine (out_any _ _ _ _ _ _ _ _ _ _ _ (by omega) (by omega) (by omega) (by omega) (by omega) (by omega) (by omega) (by omega) (by omega) (by omega) (by omega) (by omega) (by omega) (by omega)).mono ?_; rintro e w4 ⟨rfl, hb4⟩; have hz_w4 : w3.heap.size + 1 ≤ w4.heap.size := (by have h_ := hb4.size; first | omega | (simp at h_; omega)); obtain ⟨hc52, hf52⟩ := bk hb4 (w1.heap.size) (by first | omega | (simp; done) | (simp; omega)); have hs52 : w1.heap.size < w4.heap.size := (by omega); obtain ⟨hc53, hf53⟩ := bk hb4 (w3.heap.size) (by first | omega | (simp; done) | (simp; omega)); have hs53 : w3.heap.size < w4.heap.size := (by omega)))
            all_goals go_ret
            all_goals exact ⟨by first | rfl | simp, (by repeat (first | with_reducible exact Below.refl _ _ | (with_reducible refine Below.setCell ?_ (by first | omega | (simp; done) | (simp; omega)) _) | with_reducible refine bal ?_ _ | with_reducible refine Below.drew ?_ | with_reducible refine bdn ?_ _ | with_reducible refine via ?_ (by with_reducible assumption)))⟩
end Go.Proofs.Ytecpbhefpicmaaa
