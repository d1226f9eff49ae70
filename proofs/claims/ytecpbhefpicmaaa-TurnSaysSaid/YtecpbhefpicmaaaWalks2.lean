/- The walks over the reference's Go: it answers as the program's Out. -/
import Derived.Test.YtecpbhefpicmaaaWalks1
namespace Go.Proofs.Ytecpbhefpicmaaa
open Go.RowKit
set_option linter.unusedSimpArgs false
set_option linter.unusedVariables false

set_option maxHeartbeats 1000000 in
theorem rout_ty_fy (s t dt f df at_ ts fr now : Int) (w : World) (h1 : 0 ≤ s) (h2 : s ≤ 65535) (h3 : 0 ≤ t) (h4 : t ≤ 4294967295) (h5 : 0 ≤ dt) (h6 : dt ≤ 4294967295) (h7 : 0 ≤ f) (h8 : f ≤ 65535) (h9 : 0 ≤ df) (h10 : df ≤ 65535) (h11 : 0 ≤ ts) (h12 : ts ≤ 4294967295) (h13 : 0 ≤ fr) (h14 : fr ≤ 65535) (c1 : 1 ≤ (ts + dt - t) % 4294967296) (c2 : (ts + dt - t) % 4294967296 < 2147483648) (c3 : 1 ≤ IntKind.u16.wrap (IntKind.u16.wrap (fr + df) - f)) (c4 : IntKind.u16.wrap (IntKind.u16.wrap (fr + df) - f) < 32768) : Calls Try.prog 10 #[.agg #[.bool true, .int .u16 s, .int .u32 t, .int .u32 dt, .int .u16 f, .int .u16 df, .int .i64 at_], .int .u32 ts, .int .u16 fr, .int .i64 now] w fun x w' => x = .returned (.tuple #[.agg #[.bool true, .int .u16 (seqF true s), .int .u32 (ntF true t dt ts), .int .u32 dt, .int .u16 (nfF true f df fr), .int .u16 df, .int .i64 now], .int .u16 (seqF true s), .int .u32 (oT ts dt), .int .u16 (oF fr df)]) ∧ Below w.heap.size w w' := by
  have e1 : ntF true t dt ts = (ts + dt) % 4294967296 := by (have hg : goT t dt ts = true := by simp [goT, c1, c2]); simp [ntF, oT, hg]
  have e2 : nfF true f df fr = IntKind.u16.wrap (fr + df) := by (have hg : goF f df fr = true := by simp [goF, c3, c4]); simp [nfF, oF, hg]
  have e3 : seqF true s = IntKind.u16.wrap (s + 1) := rfl
  have e4 : oT ts dt = (ts + dt) % 4294967296 := rfl
  have e5 : oF fr df = IntKind.u16.wrap (fr + df) := rfl
  rw [e1, e2, e3, e4, e5]
  clear e1 e2 e3 e4 e5
  go_enter Try.func10, Try.ntmps10
  go_wp2
  go_quiet (fail)
  go_wp2
  go_quiet (fail)
  go_wp2
  exact bodyPost_ret (v := (.tuple #[.agg #[.bool true, .int .u16 (IntKind.u16.wrap (s + 1)), .int .u32 ((ts + dt) % 4294967296), .int .u32 dt, .int .u16 (IntKind.u16.wrap (fr + df)), .int .u16 df, .int .i64 now], .int .u16 (IntKind.u16.wrap (s + 1)), .int .u32 ((ts + dt) % 4294967296), .int .u16 (IntKind.u16.wrap (fr + df))])) (by simp [results, Try.results10, go_sem]) rfl ⟨rfl, (by repeat (first | with_reducible exact Below.refl _ _ | (with_reducible refine Below.setCell ?_ (by first | omega | (simp; done) | (simp; omega)) _) | with_reducible refine bal ?_ _ | with_reducible refine Below.drew ?_ | with_reducible refine bdn ?_ _ | with_reducible refine via ?_ (by with_reducible assumption)))⟩

set_option maxHeartbeats 1000000 in
theorem rout_ty_f1 (s t dt f df at_ ts fr now : Int) (w : World) (h1 : 0 ≤ s) (h2 : s ≤ 65535) (h3 : 0 ≤ t) (h4 : t ≤ 4294967295) (h5 : 0 ≤ dt) (h6 : dt ≤ 4294967295) (h7 : 0 ≤ f) (h8 : f ≤ 65535) (h9 : 0 ≤ df) (h10 : df ≤ 65535) (h11 : 0 ≤ ts) (h12 : ts ≤ 4294967295) (h13 : 0 ≤ fr) (h14 : fr ≤ 65535) (c1 : 1 ≤ (ts + dt - t) % 4294967296) (c2 : (ts + dt - t) % 4294967296 < 2147483648) (c3 : IntKind.u16.wrap (IntKind.u16.wrap (fr + df) - f) < 1) : Calls Try.prog 10 #[.agg #[.bool true, .int .u16 s, .int .u32 t, .int .u32 dt, .int .u16 f, .int .u16 df, .int .i64 at_], .int .u32 ts, .int .u16 fr, .int .i64 now] w fun x w' => x = .returned (.tuple #[.agg #[.bool true, .int .u16 (seqF true s), .int .u32 (ntF true t dt ts), .int .u32 dt, .int .u16 (nfF true f df fr), .int .u16 df, .int .i64 now], .int .u16 (seqF true s), .int .u32 (oT ts dt), .int .u16 (oF fr df)]) ∧ Below w.heap.size w w' := by
  have e1 : ntF true t dt ts = (ts + dt) % 4294967296 := by (have hg : goT t dt ts = true := by simp [goT, c1, c2]); simp [ntF, oT, hg]
  have e2 : nfF true f df fr = f := by (have hg : goF f df fr = false := by simp [goF]; omega); simp [nfF, oF, hg]
  have e3 : seqF true s = IntKind.u16.wrap (s + 1) := rfl
  have e4 : oT ts dt = (ts + dt) % 4294967296 := rfl
  have e5 : oF fr df = IntKind.u16.wrap (fr + df) := rfl
  rw [e1, e2, e3, e4, e5]
  clear e1 e2 e3 e4 e5
  go_enter Try.func10, Try.ntmps10
  go_wp2
  go_quiet (fail)
  go_wp2
  go_quiet (fail)
  go_wp2
  exact bodyPost_ret (v := (.tuple #[.agg #[.bool true, .int .u16 (IntKind.u16.wrap (s + 1)), .int .u32 ((ts + dt) % 4294967296), .int .u32 dt, .int .u16 (f), .int .u16 df, .int .i64 now], .int .u16 (IntKind.u16.wrap (s + 1)), .int .u32 ((ts + dt) % 4294967296), .int .u16 (IntKind.u16.wrap (fr + df))])) (by simp [results, Try.results10, go_sem]) rfl ⟨rfl, (by repeat (first | with_reducible exact Below.refl _ _ | (with_reducible refine Below.setCell ?_ (by first | omega | (simp; done) | (simp; omega)) _) | with_reducible refine bal ?_ _ | with_reducible refine Below.drew ?_ | with_reducible refine bdn ?_ _ | with_reducible refine via ?_ (by with_reducible assumption)))⟩

set_option maxHeartbeats 1000000 in
theorem rout_ty_f2 (s t dt f df at_ ts fr now : Int) (w : World) (h1 : 0 ≤ s) (h2 : s ≤ 65535) (h3 : 0 ≤ t) (h4 : t ≤ 4294967295) (h5 : 0 ≤ dt) (h6 : dt ≤ 4294967295) (h7 : 0 ≤ f) (h8 : f ≤ 65535) (h9 : 0 ≤ df) (h10 : df ≤ 65535) (h11 : 0 ≤ ts) (h12 : ts ≤ 4294967295) (h13 : 0 ≤ fr) (h14 : fr ≤ 65535) (c1 : 1 ≤ (ts + dt - t) % 4294967296) (c2 : (ts + dt - t) % 4294967296 < 2147483648) (c3 : 1 ≤ IntKind.u16.wrap (IntKind.u16.wrap (fr + df) - f)) (c4 : 32768 ≤ IntKind.u16.wrap (IntKind.u16.wrap (fr + df) - f)) : Calls Try.prog 10 #[.agg #[.bool true, .int .u16 s, .int .u32 t, .int .u32 dt, .int .u16 f, .int .u16 df, .int .i64 at_], .int .u32 ts, .int .u16 fr, .int .i64 now] w fun x w' => x = .returned (.tuple #[.agg #[.bool true, .int .u16 (seqF true s), .int .u32 (ntF true t dt ts), .int .u32 dt, .int .u16 (nfF true f df fr), .int .u16 df, .int .i64 now], .int .u16 (seqF true s), .int .u32 (oT ts dt), .int .u16 (oF fr df)]) ∧ Below w.heap.size w w' := by
  have e1 : ntF true t dt ts = (ts + dt) % 4294967296 := by (have hg : goT t dt ts = true := by simp [goT, c1, c2]); simp [ntF, oT, hg]
  have e2 : nfF true f df fr = f := by (have hg : goF f df fr = false := by simp [goF]; omega); simp [nfF, oF, hg]
  have e3 : seqF true s = IntKind.u16.wrap (s + 1) := rfl
  have e4 : oT ts dt = (ts + dt) % 4294967296 := rfl
  have e5 : oF fr df = IntKind.u16.wrap (fr + df) := rfl
  rw [e1, e2, e3, e4, e5]
  clear e1 e2 e3 e4 e5
  go_enter Try.func10, Try.ntmps10
  go_wp2
  go_quiet (fail)
  go_wp2
  go_quiet (fail)
  go_wp2
  exact bodyPost_ret (v := (.tuple #[.agg #[.bool true, .int .u16 (IntKind.u16.wrap (s + 1)), .int .u32 ((ts + dt) % 4294967296), .int .u32 dt, .int .u16 (f), .int .u16 df, .int .i64 now], .int .u16 (IntKind.u16.wrap (s + 1)), .int .u32 ((ts + dt) % 4294967296), .int .u16 (IntKind.u16.wrap (fr + df))])) (by simp [results, Try.results10, go_sem]) rfl ⟨rfl, (by repeat (first | with_reducible exact Below.refl _ _ | (with_reducible refine Below.setCell ?_ (by first | omega | (simp; done) | (simp; omega)) _) | with_reducible refine bal ?_ _ | with_reducible refine Below.drew ?_ | with_reducible refine bdn ?_ _ | with_reducible refine via ?_ (by with_reducible assumption)))⟩

set_option maxHeartbeats 1000000 in
theorem rout_t1_fy (s t dt f df at_ ts fr now : Int) (w : World) (h1 : 0 ≤ s) (h2 : s ≤ 65535) (h3 : 0 ≤ t) (h4 : t ≤ 4294967295) (h5 : 0 ≤ dt) (h6 : dt ≤ 4294967295) (h7 : 0 ≤ f) (h8 : f ≤ 65535) (h9 : 0 ≤ df) (h10 : df ≤ 65535) (h11 : 0 ≤ ts) (h12 : ts ≤ 4294967295) (h13 : 0 ≤ fr) (h14 : fr ≤ 65535) (c1 : (ts + dt - t) % 4294967296 < 1) (c3 : 1 ≤ IntKind.u16.wrap (IntKind.u16.wrap (fr + df) - f)) (c4 : IntKind.u16.wrap (IntKind.u16.wrap (fr + df) - f) < 32768) : Calls Try.prog 10 #[.agg #[.bool true, .int .u16 s, .int .u32 t, .int .u32 dt, .int .u16 f, .int .u16 df, .int .i64 at_], .int .u32 ts, .int .u16 fr, .int .i64 now] w fun x w' => x = .returned (.tuple #[.agg #[.bool true, .int .u16 (seqF true s), .int .u32 (ntF true t dt ts), .int .u32 dt, .int .u16 (nfF true f df fr), .int .u16 df, .int .i64 now], .int .u16 (seqF true s), .int .u32 (oT ts dt), .int .u16 (oF fr df)]) ∧ Below w.heap.size w w' := by
  have e1 : ntF true t dt ts = t := by (have hg : goT t dt ts = false := by simp [goT]; omega); simp [ntF, oT, hg]
  have e2 : nfF true f df fr = IntKind.u16.wrap (fr + df) := by (have hg : goF f df fr = true := by simp [goF, c3, c4]); simp [nfF, oF, hg]
  have e3 : seqF true s = IntKind.u16.wrap (s + 1) := rfl
  have e4 : oT ts dt = (ts + dt) % 4294967296 := rfl
  have e5 : oF fr df = IntKind.u16.wrap (fr + df) := rfl
  rw [e1, e2, e3, e4, e5]
  clear e1 e2 e3 e4 e5
  go_enter Try.func10, Try.ntmps10
  go_wp2
  go_quiet (fail)
  go_wp2
  go_quiet (fail)
  go_wp2
  exact bodyPost_ret (v := (.tuple #[.agg #[.bool true, .int .u16 (IntKind.u16.wrap (s + 1)), .int .u32 (t), .int .u32 dt, .int .u16 (IntKind.u16.wrap (fr + df)), .int .u16 df, .int .i64 now], .int .u16 (IntKind.u16.wrap (s + 1)), .int .u32 ((ts + dt) % 4294967296), .int .u16 (IntKind.u16.wrap (fr + df))])) (by simp [results, Try.results10, go_sem]) rfl ⟨rfl, (by repeat (first | with_reducible exact Below.refl _ _ | (with_reducible refine Below.setCell ?_ (by first | omega | (simp; done) | (simp; omega)) _) | with_reducible refine bal ?_ _ | with_reducible refine Below.drew ?_ | with_reducible refine bdn ?_ _ | with_reducible refine via ?_ (by with_reducible assumption)))⟩

set_option maxHeartbeats 1000000 in
theorem rout_t1_f1 (s t dt f df at_ ts fr now : Int) (w : World) (h1 : 0 ≤ s) (h2 : s ≤ 65535) (h3 : 0 ≤ t) (h4 : t ≤ 4294967295) (h5 : 0 ≤ dt) (h6 : dt ≤ 4294967295) (h7 : 0 ≤ f) (h8 : f ≤ 65535) (h9 : 0 ≤ df) (h10 : df ≤ 65535) (h11 : 0 ≤ ts) (h12 : ts ≤ 4294967295) (h13 : 0 ≤ fr) (h14 : fr ≤ 65535) (c1 : (ts + dt - t) % 4294967296 < 1) (c3 : IntKind.u16.wrap (IntKind.u16.wrap (fr + df) - f) < 1) : Calls Try.prog 10 #[.agg #[.bool true, .int .u16 s, .int .u32 t, .int .u32 dt, .int .u16 f, .int .u16 df, .int .i64 at_], .int .u32 ts, .int .u16 fr, .int .i64 now] w fun x w' => x = .returned (.tuple #[.agg #[.bool true, .int .u16 (seqF true s), .int .u32 (ntF true t dt ts), .int .u32 dt, .int .u16 (nfF true f df fr), .int .u16 df, .int .i64 now], .int .u16 (seqF true s), .int .u32 (oT ts dt), .int .u16 (oF fr df)]) ∧ Below w.heap.size w w' := by
  have e1 : ntF true t dt ts = t := by (have hg : goT t dt ts = false := by simp [goT]; omega); simp [ntF, oT, hg]
  have e2 : nfF true f df fr = f := by (have hg : goF f df fr = false := by simp [goF]; omega); simp [nfF, oF, hg]
  have e3 : seqF true s = IntKind.u16.wrap (s + 1) := rfl
  have e4 : oT ts dt = (ts + dt) % 4294967296 := rfl
  have e5 : oF fr df = IntKind.u16.wrap (fr + df) := rfl
  rw [e1, e2, e3, e4, e5]
  clear e1 e2 e3 e4 e5
  go_enter Try.func10, Try.ntmps10
  go_wp2
  go_quiet (fail)
  go_wp2
  go_quiet (fail)
  go_wp2
  exact bodyPost_ret (v := (.tuple #[.agg #[.bool true, .int .u16 (IntKind.u16.wrap (s + 1)), .int .u32 (t), .int .u32 dt, .int .u16 (f), .int .u16 df, .int .i64 now], .int .u16 (IntKind.u16.wrap (s + 1)), .int .u32 ((ts + dt) % 4294967296), .int .u16 (IntKind.u16.wrap (fr + df))])) (by simp [results, Try.results10, go_sem]) rfl ⟨rfl, (by repeat (first | with_reducible exact Below.refl _ _ | (with_reducible refine Below.setCell ?_ (by first | omega | (simp; done) | (simp; omega)) _) | with_reducible refine bal ?_ _ | with_reducible refine Below.drew ?_ | with_reducible refine bdn ?_ _ | with_reducible refine via ?_ (by with_reducible assumption)))⟩

set_option maxHeartbeats 1000000 in
theorem rout_t1_f2 (s t dt f df at_ ts fr now : Int) (w : World) (h1 : 0 ≤ s) (h2 : s ≤ 65535) (h3 : 0 ≤ t) (h4 : t ≤ 4294967295) (h5 : 0 ≤ dt) (h6 : dt ≤ 4294967295) (h7 : 0 ≤ f) (h8 : f ≤ 65535) (h9 : 0 ≤ df) (h10 : df ≤ 65535) (h11 : 0 ≤ ts) (h12 : ts ≤ 4294967295) (h13 : 0 ≤ fr) (h14 : fr ≤ 65535) (c1 : (ts + dt - t) % 4294967296 < 1) (c3 : 1 ≤ IntKind.u16.wrap (IntKind.u16.wrap (fr + df) - f)) (c4 : 32768 ≤ IntKind.u16.wrap (IntKind.u16.wrap (fr + df) - f)) : Calls Try.prog 10 #[.agg #[.bool true, .int .u16 s, .int .u32 t, .int .u32 dt, .int .u16 f, .int .u16 df, .int .i64 at_], .int .u32 ts, .int .u16 fr, .int .i64 now] w fun x w' => x = .returned (.tuple #[.agg #[.bool true, .int .u16 (seqF true s), .int .u32 (ntF true t dt ts), .int .u32 dt, .int .u16 (nfF true f df fr), .int .u16 df, .int .i64 now], .int .u16 (seqF true s), .int .u32 (oT ts dt), .int .u16 (oF fr df)]) ∧ Below w.heap.size w w' := by
  have e1 : ntF true t dt ts = t := by (have hg : goT t dt ts = false := by simp [goT]; omega); simp [ntF, oT, hg]
  have e2 : nfF true f df fr = f := by (have hg : goF f df fr = false := by simp [goF]; omega); simp [nfF, oF, hg]
  have e3 : seqF true s = IntKind.u16.wrap (s + 1) := rfl
  have e4 : oT ts dt = (ts + dt) % 4294967296 := rfl
  have e5 : oF fr df = IntKind.u16.wrap (fr + df) := rfl
  rw [e1, e2, e3, e4, e5]
  clear e1 e2 e3 e4 e5
  go_enter Try.func10, Try.ntmps10
  go_wp2
  go_quiet (fail)
  go_wp2
  go_quiet (fail)
  go_wp2
  exact bodyPost_ret (v := (.tuple #[.agg #[.bool true, .int .u16 (IntKind.u16.wrap (s + 1)), .int .u32 (t), .int .u32 dt, .int .u16 (f), .int .u16 df, .int .i64 now], .int .u16 (IntKind.u16.wrap (s + 1)), .int .u32 ((ts + dt) % 4294967296), .int .u16 (IntKind.u16.wrap (fr + df))])) (by simp [results, Try.results10, go_sem]) rfl ⟨rfl, (by repeat (first | with_reducible exact Below.refl _ _ | (with_reducible refine Below.setCell ?_ (by first | omega | (simp; done) | (simp; omega)) _) | with_reducible refine bal ?_ _ | with_reducible refine Below.drew ?_ | with_reducible refine bdn ?_ _ | with_reducible refine via ?_ (by with_reducible assumption)))⟩

set_option maxHeartbeats 1000000 in
theorem rout_t2_fy (s t dt f df at_ ts fr now : Int) (w : World) (h1 : 0 ≤ s) (h2 : s ≤ 65535) (h3 : 0 ≤ t) (h4 : t ≤ 4294967295) (h5 : 0 ≤ dt) (h6 : dt ≤ 4294967295) (h7 : 0 ≤ f) (h8 : f ≤ 65535) (h9 : 0 ≤ df) (h10 : df ≤ 65535) (h11 : 0 ≤ ts) (h12 : ts ≤ 4294967295) (h13 : 0 ≤ fr) (h14 : fr ≤ 65535) (c1 : 1 ≤ (ts + dt - t) % 4294967296) (c2 : 2147483648 ≤ (ts + dt - t) % 4294967296) (c3 : 1 ≤ IntKind.u16.wrap (IntKind.u16.wrap (fr + df) - f)) (c4 : IntKind.u16.wrap (IntKind.u16.wrap (fr + df) - f) < 32768) : Calls Try.prog 10 #[.agg #[.bool true, .int .u16 s, .int .u32 t, .int .u32 dt, .int .u16 f, .int .u16 df, .int .i64 at_], .int .u32 ts, .int .u16 fr, .int .i64 now] w fun x w' => x = .returned (.tuple #[.agg #[.bool true, .int .u16 (seqF true s), .int .u32 (ntF true t dt ts), .int .u32 dt, .int .u16 (nfF true f df fr), .int .u16 df, .int .i64 now], .int .u16 (seqF true s), .int .u32 (oT ts dt), .int .u16 (oF fr df)]) ∧ Below w.heap.size w w' := by
  have e1 : ntF true t dt ts = t := by (have hg : goT t dt ts = false := by simp [goT]; omega); simp [ntF, oT, hg]
  have e2 : nfF true f df fr = IntKind.u16.wrap (fr + df) := by (have hg : goF f df fr = true := by simp [goF, c3, c4]); simp [nfF, oF, hg]
  have e3 : seqF true s = IntKind.u16.wrap (s + 1) := rfl
  have e4 : oT ts dt = (ts + dt) % 4294967296 := rfl
  have e5 : oF fr df = IntKind.u16.wrap (fr + df) := rfl
  rw [e1, e2, e3, e4, e5]
  clear e1 e2 e3 e4 e5
  go_enter Try.func10, Try.ntmps10
  go_wp2
  go_quiet (fail)
  go_wp2
  go_quiet (fail)
  go_wp2
  exact bodyPost_ret (v := (.tuple #[.agg #[.bool true, .int .u16 (IntKind.u16.wrap (s + 1)), .int .u32 (t), .int .u32 dt, .int .u16 (IntKind.u16.wrap (fr + df)), .int .u16 df, .int .i64 now], .int .u16 (IntKind.u16.wrap (s + 1)), .int .u32 ((ts + dt) % 4294967296), .int .u16 (IntKind.u16.wrap (fr + df))])) (by simp [results, Try.results10, go_sem]) rfl ⟨rfl, (by repeat (first | with_reducible exact Below.refl _ _ | (with_reducible refine Below.setCell ?_ (by first | omega | (simp; done) | (simp; omega)) _) | with_reducible refine bal ?_ _ | with_reducible refine Below.drew ?_ | with_reducible refine bdn ?_ _ | with_reducible refine via ?_ (by with_reducible assumption)))⟩

set_option maxHeartbeats 1000000 in
theorem rout_t2_f1 (s t dt f df at_ ts fr now : Int) (w : World) (h1 : 0 ≤ s) (h2 : s ≤ 65535) (h3 : 0 ≤ t) (h4 : t ≤ 4294967295) (h5 : 0 ≤ dt) (h6 : dt ≤ 4294967295) (h7 : 0 ≤ f) (h8 : f ≤ 65535) (h9 : 0 ≤ df) (h10 : df ≤ 65535) (h11 : 0 ≤ ts) (h12 : ts ≤ 4294967295) (h13 : 0 ≤ fr) (h14 : fr ≤ 65535) (c1 : 1 ≤ (ts + dt - t) % 4294967296) (c2 : 2147483648 ≤ (ts + dt - t) % 4294967296) (c3 : IntKind.u16.wrap (IntKind.u16.wrap (fr + df) - f) < 1) : Calls Try.prog 10 #[.agg #[.bool true, .int .u16 s, .int .u32 t, .int .u32 dt, .int .u16 f, .int .u16 df, .int .i64 at_], .int .u32 ts, .int .u16 fr, .int .i64 now] w fun x w' => x = .returned (.tuple #[.agg #[.bool true, .int .u16 (seqF true s), .int .u32 (ntF true t dt ts), .int .u32 dt, .int .u16 (nfF true f df fr), .int .u16 df, .int .i64 now], .int .u16 (seqF true s), .int .u32 (oT ts dt), .int .u16 (oF fr df)]) ∧ Below w.heap.size w w' := by
  have e1 : ntF true t dt ts = t := by (have hg : goT t dt ts = false := by simp [goT]; omega); simp [ntF, oT, hg]
  have e2 : nfF true f df fr = f := by (have hg : goF f df fr = false := by simp [goF]; omega); simp [nfF, oF, hg]
  have e3 : seqF true s = IntKind.u16.wrap (s + 1) := rfl
  have e4 : oT ts dt = (ts + dt) % 4294967296 := rfl
  have e5 : oF fr df = IntKind.u16.wrap (fr + df) := rfl
  rw [e1, e2, e3, e4, e5]
  clear e1 e2 e3 e4 e5
  go_enter Try.func10, Try.ntmps10
  go_wp2
  go_quiet (fail)
  go_wp2
  go_quiet (fail)
  go_wp2
  exact bodyPost_ret (v := (.tuple #[.agg #[.bool true, .int .u16 (IntKind.u16.wrap (s + 1)), .int .u32 (t), .int .u32 dt, .int .u16 (f), .int .u16 df, .int .i64 now], .int .u16 (IntKind.u16.wrap (s + 1)), .int .u32 ((ts + dt) % 4294967296), .int .u16 (IntKind.u16.wrap (fr + df))])) (by simp [results, Try.results10, go_sem]) rfl ⟨rfl, (by repeat (first | with_reducible exact Below.refl _ _ | (with_reducible refine Below.setCell ?_ (by first | omega | (simp; done) | (simp; omega)) _) | with_reducible refine bal ?_ _ | with_reducible refine Below.drew ?_ | with_reducible refine bdn ?_ _ | with_reducible refine via ?_ (by with_reducible assumption)))⟩

set_option maxHeartbeats 1000000 in
theorem rout_t2_f2 (s t dt f df at_ ts fr now : Int) (w : World) (h1 : 0 ≤ s) (h2 : s ≤ 65535) (h3 : 0 ≤ t) (h4 : t ≤ 4294967295) (h5 : 0 ≤ dt) (h6 : dt ≤ 4294967295) (h7 : 0 ≤ f) (h8 : f ≤ 65535) (h9 : 0 ≤ df) (h10 : df ≤ 65535) (h11 : 0 ≤ ts) (h12 : ts ≤ 4294967295) (h13 : 0 ≤ fr) (h14 : fr ≤ 65535) (c1 : 1 ≤ (ts + dt - t) % 4294967296) (c2 : 2147483648 ≤ (ts + dt - t) % 4294967296) (c3 : 1 ≤ IntKind.u16.wrap (IntKind.u16.wrap (fr + df) - f)) (c4 : 32768 ≤ IntKind.u16.wrap (IntKind.u16.wrap (fr + df) - f)) : Calls Try.prog 10 #[.agg #[.bool true, .int .u16 s, .int .u32 t, .int .u32 dt, .int .u16 f, .int .u16 df, .int .i64 at_], .int .u32 ts, .int .u16 fr, .int .i64 now] w fun x w' => x = .returned (.tuple #[.agg #[.bool true, .int .u16 (seqF true s), .int .u32 (ntF true t dt ts), .int .u32 dt, .int .u16 (nfF true f df fr), .int .u16 df, .int .i64 now], .int .u16 (seqF true s), .int .u32 (oT ts dt), .int .u16 (oF fr df)]) ∧ Below w.heap.size w w' := by
  have e1 : ntF true t dt ts = t := by (have hg : goT t dt ts = false := by simp [goT]; omega); simp [ntF, oT, hg]
  have e2 : nfF true f df fr = f := by (have hg : goF f df fr = false := by simp [goF]; omega); simp [nfF, oF, hg]
  have e3 : seqF true s = IntKind.u16.wrap (s + 1) := rfl
  have e4 : oT ts dt = (ts + dt) % 4294967296 := rfl
  have e5 : oF fr df = IntKind.u16.wrap (fr + df) := rfl
  rw [e1, e2, e3, e4, e5]
  clear e1 e2 e3 e4 e5
  go_enter Try.func10, Try.ntmps10
  go_wp2
  go_quiet (fail)
  go_wp2
  go_quiet (fail)
  go_wp2
  exact bodyPost_ret (v := (.tuple #[.agg #[.bool true, .int .u16 (IntKind.u16.wrap (s + 1)), .int .u32 (t), .int .u32 dt, .int .u16 (f), .int .u16 df, .int .i64 now], .int .u16 (IntKind.u16.wrap (s + 1)), .int .u32 ((ts + dt) % 4294967296), .int .u16 (IntKind.u16.wrap (fr + df))])) (by simp [results, Try.results10, go_sem]) rfl ⟨rfl, (by repeat (first | with_reducible exact Below.refl _ _ | (with_reducible refine Below.setCell ?_ (by first | omega | (simp; done) | (simp; omega)) _) | with_reducible refine bal ?_ _ | with_reducible refine Below.drew ?_ | with_reducible refine bdn ?_ _ | with_reducible refine via ?_ (by with_reducible assumption)))⟩

set_option maxHeartbeats 1000000 in
theorem rout_none (s t dt f df at_ ts fr now : Int) (w : World) (h1 : 0 ≤ s) (h2 : s ≤ 65535) (h3 : 0 ≤ t) (h4 : t ≤ 4294967295) (h5 : 0 ≤ dt) (h6 : dt ≤ 4294967295) (h7 : 0 ≤ f) (h8 : f ≤ 65535) (h9 : 0 ≤ df) (h10 : df ≤ 65535) (h11 : 0 ≤ ts) (h12 : ts ≤ 4294967295) (h13 : 0 ≤ fr) (h14 : fr ≤ 65535)  : Calls Try.prog 10 #[.agg #[.bool false, .int .u16 s, .int .u32 t, .int .u32 dt, .int .u16 f, .int .u16 df, .int .i64 at_], .int .u32 ts, .int .u16 fr, .int .i64 now] w fun x w' => x = .returned (.tuple #[.agg #[.bool true, .int .u16 (seqF false s), .int .u32 (ntF false t dt ts), .int .u32 dt, .int .u16 (nfF false f df fr), .int .u16 df, .int .i64 now], .int .u16 (seqF false s), .int .u32 (oT ts dt), .int .u16 (oF fr df)]) ∧ Below w.heap.size w w' := by
  have e1 : ntF false t dt ts = (ts + dt) % 4294967296 := by simp [ntF, oT]
  have e2 : nfF false f df fr = IntKind.u16.wrap (fr + df) := by simp [nfF, oF]
  have e3 : seqF false s = 0 := rfl
  have e4 : oT ts dt = (ts + dt) % 4294967296 := rfl
  have e5 : oF fr df = IntKind.u16.wrap (fr + df) := rfl
  rw [e1, e2, e3, e4, e5]
  clear e1 e2 e3 e4 e5
  go_enter Try.func10, Try.ntmps10
  go_wp2
  go_quiet (fail)
  go_wp2
  go_quiet (fail)
  go_wp2
  exact bodyPost_ret (v := (.tuple #[.agg #[.bool true, .int .u16 (0), .int .u32 ((ts + dt) % 4294967296), .int .u32 dt, .int .u16 (IntKind.u16.wrap (fr + df)), .int .u16 df, .int .i64 now], .int .u16 (0), .int .u32 ((ts + dt) % 4294967296), .int .u16 (IntKind.u16.wrap (fr + df))])) (by simp [results, Try.results10, go_sem]) rfl ⟨rfl, (by repeat (first | with_reducible exact Below.refl _ _ | (with_reducible refine Below.setCell ?_ (by first | omega | (simp; done) | (simp; omega)) _) | with_reducible refine bal ?_ _ | with_reducible refine Below.drew ?_ | with_reducible refine bdn ?_ _ | with_reducible refine via ?_ (by with_reducible assumption)))⟩

theorem rout_any (a : Bool) (s t dt f df at_ ts fr now : Int) (w : World) (h1 : 0 ≤ s) (h2 : s ≤ 65535) (h3 : 0 ≤ t) (h4 : t ≤ 4294967295) (h5 : 0 ≤ dt) (h6 : dt ≤ 4294967295) (h7 : 0 ≤ f) (h8 : f ≤ 65535) (h9 : 0 ≤ df) (h10 : df ≤ 65535) (h11 : 0 ≤ ts) (h12 : ts ≤ 4294967295) (h13 : 0 ≤ fr) (h14 : fr ≤ 65535) : Calls Try.prog 10 #[.agg #[.bool a, .int .u16 s, .int .u32 t, .int .u32 dt, .int .u16 f, .int .u16 df, .int .i64 at_], .int .u32 ts, .int .u16 fr, .int .i64 now] w fun x w' => x = .returned (.tuple #[.agg #[.bool true, .int .u16 (seqF a s), .int .u32 (ntF a t dt ts), .int .u32 dt, .int .u16 (nfF a f df fr), .int .u16 df, .int .i64 now], .int .u16 (seqF a s), .int .u32 (oT ts dt), .int .u16 (oF fr df)]) ∧ Below w.heap.size w w' := by
  cases a
  · exact rout_none s t dt f df at_ ts fr now w h1 h2 h3 h4 h5 h6 h7 h8 h9 h10 h11 h12 h13 h14
  · rcases (show ((ts + dt - t) % 4294967296 < 1) ∨ (1 ≤ (ts + dt - t) % 4294967296 ∧ (ts + dt - t) % 4294967296 < 2147483648) ∨ (1 ≤ (ts + dt - t) % 4294967296 ∧ 2147483648 ≤ (ts + dt - t) % 4294967296) by omega) with c1 | ⟨c1, c2⟩ | ⟨c1, c2⟩
    · rcases (show (IntKind.u16.wrap (IntKind.u16.wrap (fr + df) - f) < 1) ∨ (1 ≤ IntKind.u16.wrap (IntKind.u16.wrap (fr + df) - f) ∧ IntKind.u16.wrap (IntKind.u16.wrap (fr + df) - f) < 32768) ∨ (1 ≤ IntKind.u16.wrap (IntKind.u16.wrap (fr + df) - f) ∧ 32768 ≤ IntKind.u16.wrap (IntKind.u16.wrap (fr + df) - f)) by omega) with c3 | ⟨c3, c4⟩ | ⟨c3, c4⟩
      · exact rout_t1_f1 s t dt f df at_ ts fr now w h1 h2 h3 h4 h5 h6 h7 h8 h9 h10 h11 h12 h13 h14 c1 c3
      · exact rout_t1_fy s t dt f df at_ ts fr now w h1 h2 h3 h4 h5 h6 h7 h8 h9 h10 h11 h12 h13 h14 c1 c3 c4
      · exact rout_t1_f2 s t dt f df at_ ts fr now w h1 h2 h3 h4 h5 h6 h7 h8 h9 h10 h11 h12 h13 h14 c1 c3 c4
    · rcases (show (IntKind.u16.wrap (IntKind.u16.wrap (fr + df) - f) < 1) ∨ (1 ≤ IntKind.u16.wrap (IntKind.u16.wrap (fr + df) - f) ∧ IntKind.u16.wrap (IntKind.u16.wrap (fr + df) - f) < 32768) ∨ (1 ≤ IntKind.u16.wrap (IntKind.u16.wrap (fr + df) - f) ∧ 32768 ≤ IntKind.u16.wrap (IntKind.u16.wrap (fr + df) - f)) by omega) with c3 | ⟨c3, c4⟩ | ⟨c3, c4⟩
      · exact rout_ty_f1 s t dt f df at_ ts fr now w h1 h2 h3 h4 h5 h6 h7 h8 h9 h10 h11 h12 h13 h14 c1 c2 c3
      · exact rout_ty_fy s t dt f df at_ ts fr now w h1 h2 h3 h4 h5 h6 h7 h8 h9 h10 h11 h12 h13 h14 c1 c2 c3 c4
      · exact rout_ty_f2 s t dt f df at_ ts fr now w h1 h2 h3 h4 h5 h6 h7 h8 h9 h10 h11 h12 h13 h14 c1 c2 c3 c4
    · rcases (show (IntKind.u16.wrap (IntKind.u16.wrap (fr + df) - f) < 1) ∨ (1 ≤ IntKind.u16.wrap (IntKind.u16.wrap (fr + df) - f) ∧ IntKind.u16.wrap (IntKind.u16.wrap (fr + df) - f) < 32768) ∨ (1 ≤ IntKind.u16.wrap (IntKind.u16.wrap (fr + df) - f) ∧ 32768 ≤ IntKind.u16.wrap (IntKind.u16.wrap (fr + df) - f)) by omega) with c3 | ⟨c3, c4⟩ | ⟨c3, c4⟩
      · exact rout_t2_f1 s t dt f df at_ ts fr now w h1 h2 h3 h4 h5 h6 h7 h8 h9 h10 h11 h12 h13 h14 c1 c2 c3
      · exact rout_t2_fy s t dt f df at_ ts fr now w h1 h2 h3 h4 h5 h6 h7 h8 h9 h10 h11 h12 h13 h14 c1 c2 c3 c4
      · exact rout_t2_f2 s t dt f df at_ ts fr now w h1 h2 h3 h4 h5 h6 h7 h8 h9 h10 h11 h12 h13 h14 c1 c2 c3 c4

end Go.Proofs.Ytecpbhefpicmaaa
