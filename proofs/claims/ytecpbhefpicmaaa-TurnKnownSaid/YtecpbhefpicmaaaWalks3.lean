/- The walks over Begin, the program's and the reference's. -/
import Derived.Test.YtecpbhefpicmaaaWalks2
namespace Go.Proofs.Ytecpbhefpicmaaa
open Go.RowKit
set_option linter.unusedSimpArgs false
set_option linter.unusedVariables false

set_option maxHeartbeats 1000000 in
theorem begin_f (s t dt f df at_ ts fr now : Int) (w : World) (h1 : 0 ≤ s) (h2 : s ≤ 65535) (h3 : 0 ≤ t) (h4 : t ≤ 4294967295) (h5 : 0 ≤ dt) (h6 : dt ≤ 4294967295) (h7 : 0 ≤ f) (h8 : f ≤ 65535) (h9 : 0 ≤ df) (h10 : df ≤ 65535) (h11 : 0 ≤ ts) (h12 : ts ≤ 4294967295) (h13 : 0 ≤ fr) (h14 : fr ≤ 65535)  : Calls Try.prog 9 #[.agg #[.bool false, .int .u16 s, .int .u32 t, .int .u32 dt, .int .u16 f, .int .u16 df, .int .i64 at_], .int .u32 ts, .int .u16 fr, .int .i64 now] w fun x w' => x = .returned (.agg #[.bool false, .int .u16 s, .int .u32 t, .int .u32 (bT false t at_ ts now), .int .u16 f, .int .u16 (bF false f fr), .int .i64 at_]) ∧ Below w.heap.size w w' := by
  have e1 : bT false t at_ ts now = 0 := rfl
  have e2 : bF false f fr = 0 := rfl
  rw [e1, e2]
  clear e1 e2
  go_enter Try.func9, Try.ntmps9
  go_wp2
  all_goals exact bodyPost_ret (v := (.agg #[.bool false, .int .u16 s, .int .u32 t, .int .u32 (0), .int .u16 f, .int .u16 (0), .int .i64 at_])) (by simp [results, Try.results9, go_sem]) rfl ⟨rfl, (by repeat (first | with_reducible exact Below.refl _ _ | (with_reducible refine Below.setCell ?_ (by first | omega | (simp; done) | (simp; omega)) _) | with_reducible refine bal ?_ _ | with_reducible refine Below.drew ?_ | with_reducible refine bdn ?_ _ | with_reducible refine via ?_ (by with_reducible assumption)))⟩

set_option maxHeartbeats 1000000 in
theorem begin_t (s t dt f df at_ ts fr now : Int) (w : World) (h1 : 0 ≤ s) (h2 : s ≤ 65535) (h3 : 0 ≤ t) (h4 : t ≤ 4294967295) (h5 : 0 ≤ dt) (h6 : dt ≤ 4294967295) (h7 : 0 ≤ f) (h8 : f ≤ 65535) (h9 : 0 ≤ df) (h10 : df ≤ 65535) (h11 : 0 ≤ ts) (h12 : ts ≤ 4294967295) (h13 : 0 ≤ fr) (h14 : fr ≤ 65535)  : Calls Try.prog 9 #[.agg #[.bool true, .int .u16 s, .int .u32 t, .int .u32 dt, .int .u16 f, .int .u16 df, .int .i64 at_], .int .u32 ts, .int .u16 fr, .int .i64 now] w fun x w' => x = .returned (.agg #[.bool true, .int .u16 s, .int .u32 t, .int .u32 (bT true t at_ ts now), .int .u16 f, .int .u16 (bF true f fr), .int .i64 at_]) ∧ Below w.heap.size w w' := by
  have e1 : bT true t at_ ts now = (t + 90 * tickN at_ now - ts) % 4294967296 := rfl
  have e2 : bF true f fr = IntKind.u16.wrap (IntKind.u16.wrap (f + 1) - fr) := rfl
  rw [e1, e2]
  clear e1 e2
  go_enter Try.func9, Try.ntmps9
  go_wp2_with fail
  go_region_with (go_at_call 12; refine (ticks_any _ _ _).mono ?_; rintro e w' ⟨rfl, rfl⟩)
  all_goals go_wp2
  all_goals exact bodyPost_ret (v := (.agg #[.bool true, .int .u16 s, .int .u32 t, .int .u32 ((t + 90 * tickN at_ now - ts) % 4294967296), .int .u16 f, .int .u16 (IntKind.u16.wrap (IntKind.u16.wrap (f + 1) - fr)), .int .i64 at_])) (by simp [results, Try.results9, go_sem]) rfl ⟨rfl, (by repeat (first | with_reducible exact Below.refl _ _ | (with_reducible refine Below.setCell ?_ (by first | omega | (simp; done) | (simp; omega)) _) | with_reducible refine bal ?_ _ | with_reducible refine Below.drew ?_ | with_reducible refine bdn ?_ _ | with_reducible refine via ?_ (by with_reducible assumption)))⟩

set_option maxHeartbeats 1000000 in
theorem rbegin_f (s t dt f df at_ ts fr now : Int) (w : World) (h1 : 0 ≤ s) (h2 : s ≤ 65535) (h3 : 0 ≤ t) (h4 : t ≤ 4294967295) (h5 : 0 ≤ dt) (h6 : dt ≤ 4294967295) (h7 : 0 ≤ f) (h8 : f ≤ 65535) (h9 : 0 ≤ df) (h10 : df ≤ 65535) (h11 : 0 ≤ ts) (h12 : ts ≤ 4294967295) (h13 : 0 ≤ fr) (h14 : fr ≤ 65535)  : Calls Try.prog 11 #[.agg #[.bool false, .int .u16 s, .int .u32 t, .int .u32 dt, .int .u16 f, .int .u16 df, .int .i64 at_], .int .u32 ts, .int .u16 fr, .int .i64 now] w fun x w' => x = .returned (.agg #[.bool false, .int .u16 s, .int .u32 t, .int .u32 (bT false t at_ ts now), .int .u16 f, .int .u16 (bF false f fr), .int .i64 at_]) ∧ Below w.heap.size w w' := by
  have e1 : bT false t at_ ts now = 0 := rfl
  have e2 : bF false f fr = 0 := rfl
  rw [e1, e2]
  clear e1 e2
  go_enter Try.func11, Try.ntmps11
  go_wp2
  all_goals exact bodyPost_ret (v := (.agg #[.bool false, .int .u16 s, .int .u32 t, .int .u32 (0), .int .u16 f, .int .u16 (0), .int .i64 at_])) (by simp [results, Try.results11, go_sem]) rfl ⟨rfl, (by repeat (first | with_reducible exact Below.refl _ _ | (with_reducible refine Below.setCell ?_ (by first | omega | (simp; done) | (simp; omega)) _) | with_reducible refine bal ?_ _ | with_reducible refine Below.drew ?_ | with_reducible refine bdn ?_ _ | with_reducible refine via ?_ (by with_reducible assumption)))⟩

set_option maxHeartbeats 1000000 in
theorem rbegin_1 (s t dt f df at_ ts fr now : Int) (w : World) (h1 : 0 ≤ s) (h2 : s ≤ 65535) (h3 : 0 ≤ t) (h4 : t ≤ 4294967295) (h5 : 0 ≤ dt) (h6 : dt ≤ 4294967295) (h7 : 0 ≤ f) (h8 : f ≤ 65535) (h9 : 0 ≤ df) (h10 : df ≤ 65535) (h11 : 0 ≤ ts) (h12 : ts ≤ 4294967295) (h13 : 0 ≤ fr) (h14 : fr ≤ 65535) (c1 : now ≤ at_) : Calls Try.prog 11 #[.agg #[.bool true, .int .u16 s, .int .u32 t, .int .u32 dt, .int .u16 f, .int .u16 df, .int .i64 at_], .int .u32 ts, .int .u16 fr, .int .i64 now] w fun x w' => x = .returned (.agg #[.bool true, .int .u16 s, .int .u32 t, .int .u32 (bT true t at_ ts now), .int .u16 f, .int .u16 (bF true f fr), .int .i64 at_]) ∧ Below w.heap.size w w' := by
  have e0 : tickN at_ now = 1 := by rw [tickN, if_pos c1]
  have e1 : bT true t at_ ts now = (t + 90 - ts) % 4294967296 := by (have hd : 0 ≤ IntKind.u64.wrap (IntKind.u64.wrap now - IntKind.u64.wrap at_) := (by rw [IntKind.wrap_u64]; omega); simp only [bT, if_true, e0]; try omega)
  have e2 : bF true f fr = IntKind.u16.wrap (IntKind.u16.wrap (f + 1) - fr) := rfl
  rw [e1, e2]
  clear e0 e1 e2
  go_enter Try.func11, Try.ntmps11
  go_wp2
  all_goals exact bodyPost_ret (v := (.agg #[.bool true, .int .u16 s, .int .u32 t, .int .u32 ((t + 90 - ts) % 4294967296), .int .u16 f, .int .u16 (IntKind.u16.wrap (IntKind.u16.wrap (f + 1) - fr)), .int .i64 at_])) (by simp [results, Try.results11, go_sem]) rfl ⟨rfl, (by repeat (first | with_reducible exact Below.refl _ _ | (with_reducible refine Below.setCell ?_ (by first | omega | (simp; done) | (simp; omega)) _) | with_reducible refine bal ?_ _ | with_reducible refine Below.drew ?_ | with_reducible refine bdn ?_ _ | with_reducible refine via ?_ (by with_reducible assumption)))⟩

set_option maxHeartbeats 1000000 in
theorem rbegin_2 (s t dt f df at_ ts fr now : Int) (w : World) (h1 : 0 ≤ s) (h2 : s ≤ 65535) (h3 : 0 ≤ t) (h4 : t ≤ 4294967295) (h5 : 0 ≤ dt) (h6 : dt ≤ 4294967295) (h7 : 0 ≤ f) (h8 : f ≤ 65535) (h9 : 0 ≤ df) (h10 : df ≤ 65535) (h11 : 0 ≤ ts) (h12 : ts ≤ 4294967295) (h13 : 0 ≤ fr) (h14 : fr ≤ 65535) (c1 : at_ < now) (c2 : 100000 < IntKind.u64.wrap (IntKind.u64.wrap now - IntKind.u64.wrap at_)) : Calls Try.prog 11 #[.agg #[.bool true, .int .u16 s, .int .u32 t, .int .u32 dt, .int .u16 f, .int .u16 df, .int .i64 at_], .int .u32 ts, .int .u16 fr, .int .i64 now] w fun x w' => x = .returned (.agg #[.bool true, .int .u16 s, .int .u32 t, .int .u32 (bT true t at_ ts now), .int .u16 f, .int .u16 (bF true f fr), .int .i64 at_]) ∧ Below w.heap.size w w' := by
  have e0 : tickN at_ now = 100000 := by rw [tickN, if_neg (by omega), if_pos c2]
  have e1 : bT true t at_ ts now = (t + 9000000 - ts) % 4294967296 := by (have hd : 0 ≤ IntKind.u64.wrap (IntKind.u64.wrap now - IntKind.u64.wrap at_) := (by rw [IntKind.wrap_u64]; omega); simp only [bT, if_true, e0]; try omega)
  have e2 : bF true f fr = IntKind.u16.wrap (IntKind.u16.wrap (f + 1) - fr) := rfl
  rw [e1, e2]
  clear e0 e1 e2
  go_enter Try.func11, Try.ntmps11
  go_wp2
  all_goals exact bodyPost_ret (v := (.agg #[.bool true, .int .u16 s, .int .u32 t, .int .u32 ((t + 9000000 - ts) % 4294967296), .int .u16 f, .int .u16 (IntKind.u16.wrap (IntKind.u16.wrap (f + 1) - fr)), .int .i64 at_])) (by simp [results, Try.results11, go_sem]) rfl ⟨rfl, (by repeat (first | with_reducible exact Below.refl _ _ | (with_reducible refine Below.setCell ?_ (by first | omega | (simp; done) | (simp; omega)) _) | with_reducible refine bal ?_ _ | with_reducible refine Below.drew ?_ | with_reducible refine bdn ?_ _ | with_reducible refine via ?_ (by with_reducible assumption)))⟩

set_option maxHeartbeats 1000000 in
theorem rbegin_3 (s t dt f df at_ ts fr now : Int) (w : World) (h1 : 0 ≤ s) (h2 : s ≤ 65535) (h3 : 0 ≤ t) (h4 : t ≤ 4294967295) (h5 : 0 ≤ dt) (h6 : dt ≤ 4294967295) (h7 : 0 ≤ f) (h8 : f ≤ 65535) (h9 : 0 ≤ df) (h10 : df ≤ 65535) (h11 : 0 ≤ ts) (h12 : ts ≤ 4294967295) (h13 : 0 ≤ fr) (h14 : fr ≤ 65535) (c1 : at_ < now) (c2 : IntKind.u64.wrap (IntKind.u64.wrap now - IntKind.u64.wrap at_) ≤ 100000) : Calls Try.prog 11 #[.agg #[.bool true, .int .u16 s, .int .u32 t, .int .u32 dt, .int .u16 f, .int .u16 df, .int .i64 at_], .int .u32 ts, .int .u16 fr, .int .i64 now] w fun x w' => x = .returned (.agg #[.bool true, .int .u16 s, .int .u32 t, .int .u32 (bT true t at_ ts now), .int .u16 f, .int .u16 (bF true f fr), .int .i64 at_]) ∧ Below w.heap.size w w' := by
  have e0 : tickN at_ now = IntKind.u64.wrap (IntKind.u64.wrap now - IntKind.u64.wrap at_) := by rw [tickN, if_neg (by omega), if_neg (by omega)]
  have e1 : bT true t at_ ts now = (t + 90 * (IntKind.u64.wrap (IntKind.u64.wrap now - IntKind.u64.wrap at_) % 4294967296) - ts) % 4294967296 := by (have hd : 0 ≤ IntKind.u64.wrap (IntKind.u64.wrap now - IntKind.u64.wrap at_) := (by rw [IntKind.wrap_u64]; omega); simp only [bT, if_true, e0]; try omega)
  have e2 : bF true f fr = IntKind.u16.wrap (IntKind.u16.wrap (f + 1) - fr) := rfl
  rw [e1, e2]
  clear e0 e1 e2
  go_enter Try.func11, Try.ntmps11
  go_wp2
  all_goals exact bodyPost_ret (v := (.agg #[.bool true, .int .u16 s, .int .u32 t, .int .u32 ((t + 90 * (IntKind.u64.wrap (IntKind.u64.wrap now - IntKind.u64.wrap at_) % 4294967296) - ts) % 4294967296), .int .u16 f, .int .u16 (IntKind.u16.wrap (IntKind.u16.wrap (f + 1) - fr)), .int .i64 at_])) (by simp [results, Try.results11, go_sem]) rfl ⟨rfl, (by repeat (first | with_reducible exact Below.refl _ _ | (with_reducible refine Below.setCell ?_ (by first | omega | (simp; done) | (simp; omega)) _) | with_reducible refine bal ?_ _ | with_reducible refine Below.drew ?_ | with_reducible refine bdn ?_ _ | with_reducible refine via ?_ (by with_reducible assumption)))⟩

theorem begin_any (a : Bool) (s t dt f df at_ ts fr now : Int) (w : World) (h1 : 0 ≤ s) (h2 : s ≤ 65535) (h3 : 0 ≤ t) (h4 : t ≤ 4294967295) (h5 : 0 ≤ dt) (h6 : dt ≤ 4294967295) (h7 : 0 ≤ f) (h8 : f ≤ 65535) (h9 : 0 ≤ df) (h10 : df ≤ 65535) (h11 : 0 ≤ ts) (h12 : ts ≤ 4294967295) (h13 : 0 ≤ fr) (h14 : fr ≤ 65535) : Calls Try.prog 9 #[.agg #[.bool a, .int .u16 s, .int .u32 t, .int .u32 dt, .int .u16 f, .int .u16 df, .int .i64 at_], .int .u32 ts, .int .u16 fr, .int .i64 now] w fun x w' => x = .returned (.agg #[.bool a, .int .u16 s, .int .u32 t, .int .u32 (bT a t at_ ts now), .int .u16 f, .int .u16 (bF a f fr), .int .i64 at_]) ∧ Below w.heap.size w w' := by
  cases a
  · exact begin_f s t dt f df at_ ts fr now w h1 h2 h3 h4 h5 h6 h7 h8 h9 h10 h11 h12 h13 h14
  · exact begin_t s t dt f df at_ ts fr now w h1 h2 h3 h4 h5 h6 h7 h8 h9 h10 h11 h12 h13 h14
theorem rbegin_any (a : Bool) (s t dt f df at_ ts fr now : Int) (w : World) (h1 : 0 ≤ s) (h2 : s ≤ 65535) (h3 : 0 ≤ t) (h4 : t ≤ 4294967295) (h5 : 0 ≤ dt) (h6 : dt ≤ 4294967295) (h7 : 0 ≤ f) (h8 : f ≤ 65535) (h9 : 0 ≤ df) (h10 : df ≤ 65535) (h11 : 0 ≤ ts) (h12 : ts ≤ 4294967295) (h13 : 0 ≤ fr) (h14 : fr ≤ 65535) : Calls Try.prog 11 #[.agg #[.bool a, .int .u16 s, .int .u32 t, .int .u32 dt, .int .u16 f, .int .u16 df, .int .i64 at_], .int .u32 ts, .int .u16 fr, .int .i64 now] w fun x w' => x = .returned (.agg #[.bool a, .int .u16 s, .int .u32 t, .int .u32 (bT a t at_ ts now), .int .u16 f, .int .u16 (bF a f fr), .int .i64 at_]) ∧ Below w.heap.size w w' := by
  cases a
  · exact rbegin_f s t dt f df at_ ts fr now w h1 h2 h3 h4 h5 h6 h7 h8 h9 h10 h11 h12 h13 h14
  · by_cases c1 : now ≤ at_
    · exact rbegin_1 s t dt f df at_ ts fr now w h1 h2 h3 h4 h5 h6 h7 h8 h9 h10 h11 h12 h13 h14 c1
    · by_cases c2 : 100000 < IntKind.u64.wrap (IntKind.u64.wrap now - IntKind.u64.wrap at_)
      · exact rbegin_2 s t dt f df at_ ts fr now w h1 h2 h3 h4 h5 h6 h7 h8 h9 h10 h11 h12 h13 h14 (by omega) c2
      · exact rbegin_3 s t dt f df at_ ts fr now w h1 h2 h3 h4 h5 h6 h7 h8 h9 h10 h11 h12 h13 h14 (by omega) (by omega)
end Go.Proofs.Ytecpbhefpicmaaa
