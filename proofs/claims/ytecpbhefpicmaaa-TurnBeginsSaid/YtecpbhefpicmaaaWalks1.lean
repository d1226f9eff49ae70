/- The walks over turn.Out. -/
import Derived.Test.YtecpbhefpicmaaaHead
import Derived.WalkSpells
import Derived.WalkLawsBesides
import Derived.Outline
import Derived.Deep.RegionHeld3
import Derived.Deep.QuietTactic
import Derived.BigQuiet
import Derived.RegionTactic
namespace Go.Proofs.Ytecpbhefpicmaaa
open Go.RowKit
set_option linter.unusedSimpArgs false
set_option linter.unusedVariables false

theorem bk {W w1 : World} (hb : Below W.heap.size W w1) (b : Nat) (h : b < W.heap.size) : (∀ o, w1.cell? ⟨b, o, none⟩ = W.cell? ⟨b, o, none⟩) ∧ (∀ o, w1.frozen? ⟨b, o, none⟩ = W.frozen? ⟨b, o, none⟩) :=
  ⟨fun o => hb.cell (p := ⟨b, o, none⟩) h, fun o => hb.frozen (p := ⟨b, o, none⟩) h⟩
theorem via {w W w1 : World} (h : Below w.heap.size w W) (hb : Below W.heap.size W w1) : Below w.heap.size w w1 := h.trans (hb.mono h.size)
theorem bal {w W : World} (h : Below w.heap.size w W) (o : Obj) : Below w.heap.size w (W.alloc o) := h.alloc h.size o
theorem bdn {B : Nat} {a w : World} (h : Below B a w) (n : Nat) : Below B a (w.drewN n) := ⟨h.os, h.tape, h.output, h.size, h.block⟩
theorem results_tmp4 {fn : Func} {t u v x : Tmp} (h : fn.results = #[.tmp t, .tmp u, .tmp v, .tmp x]) (tmps : Array Value) (P : Program) (w : World) :
    (results fn tmps).run P w = .ok (.tuple #[tmps.getD t undef, tmps.getD u undef, tmps.getD v undef, tmps.getD x undef]) w := by simp [results, h]

def seqF (a : Bool) (s : Int) : Int := if a then IntKind.u16.wrap (s + 1) else 0
def oT (ts dt : Int) : Int := (ts + dt) % 4294967296
def oF (fr df : Int) : Int := IntKind.u16.wrap (fr + df)
def goT (t dt ts : Int) : Bool := decide (1 ≤ (ts + dt - t) % 4294967296 ∧ (ts + dt - t) % 4294967296 < 2147483648)
def goF (f df fr : Int) : Bool := decide (1 ≤ IntKind.u16.wrap (IntKind.u16.wrap (fr + df) - f) ∧ IntKind.u16.wrap (IntKind.u16.wrap (fr + df) - f) < 32768)
def ntF (a : Bool) (t dt ts : Int) : Int := if !a || goT t dt ts then oT ts dt else t
def nfF (a : Bool) (f df fr : Int) : Int := if !a || goF f df fr then oF fr df else f
def tickN (a b : Int) : Int := if b ≤ a then 1 else if 100000 < IntKind.u64.wrap (IntKind.u64.wrap b - IntKind.u64.wrap a) then 100000 else IntKind.u64.wrap (IntKind.u64.wrap b - IntKind.u64.wrap a)
def bT (a : Bool) (t at_ ts now : Int) : Int := if a then (t + 90 * tickN at_ now - ts) % 4294967296 else 0
def bF (a : Bool) (f fr : Int) : Int := if a then IntKind.u16.wrap (IntKind.u16.wrap (f + 1) - fr) else 0
set_option maxHeartbeats 1000000 in
theorem out_ty_fy (s t dt f df at_ ts fr now : Int) (w : World) (h1 : 0 ≤ s) (h2 : s ≤ 65535) (h3 : 0 ≤ t) (h4 : t ≤ 4294967295) (h5 : 0 ≤ dt) (h6 : dt ≤ 4294967295) (h7 : 0 ≤ f) (h8 : f ≤ 65535) (h9 : 0 ≤ df) (h10 : df ≤ 65535) (h11 : 0 ≤ ts) (h12 : ts ≤ 4294967295) (h13 : 0 ≤ fr) (h14 : fr ≤ 65535) (c1 : 1 ≤ (ts + dt - t) % 4294967296) (c2 : (ts + dt - t) % 4294967296 < 2147483648) (c3 : 1 ≤ IntKind.u16.wrap (IntKind.u16.wrap (fr + df) - f)) (c4 : IntKind.u16.wrap (IntKind.u16.wrap (fr + df) - f) < 32768) : Calls Try.prog 8 #[.agg #[.bool true, .int .u16 s, .int .u32 t, .int .u32 dt, .int .u16 f, .int .u16 df, .int .i64 at_], .int .u32 ts, .int .u16 fr, .int .i64 now] w fun x w' => x = .returned (.tuple #[.agg #[.bool true, .int .u16 (seqF true s), .int .u32 (ntF true t dt ts), .int .u32 dt, .int .u16 (nfF true f df fr), .int .u16 df, .int .i64 now], .int .u16 (seqF true s), .int .u32 (oT ts dt), .int .u16 (oF fr df)]) ∧ Below w.heap.size w w' := by
  have e1 : ntF true t dt ts = (ts + dt) % 4294967296 := by (have hg : goT t dt ts = true := by simp [goT, c1, c2]); simp [ntF, oT, hg]
  have e2 : nfF true f df fr = IntKind.u16.wrap (fr + df) := by (have hg : goF f df fr = true := by simp [goF, c3, c4]); simp [nfF, oF, hg]
  have e3 : seqF true s = IntKind.u16.wrap (s + 1) := rfl
  have e4 : oT ts dt = (ts + dt) % 4294967296 := rfl
  have e5 : oF fr df = IntKind.u16.wrap (fr + df) := rfl
  rw [e1, e2, e3, e4, e5]
  clear e1 e2 e3 e4 e5
  go_enter Try.func8, Try.ntmps8
  go_wp2
  go_quiet (fail)
  go_wp2
  exact bodyPost_ret (v := (.tuple #[.agg #[.bool true, .int .u16 (IntKind.u16.wrap (s + 1)), .int .u32 ((ts + dt) % 4294967296), .int .u32 dt, .int .u16 (IntKind.u16.wrap (fr + df)), .int .u16 df, .int .i64 now], .int .u16 (IntKind.u16.wrap (s + 1)), .int .u32 ((ts + dt) % 4294967296), .int .u16 (IntKind.u16.wrap (fr + df))])) (by simp [results, Try.results8, go_sem]) rfl ⟨rfl, (by repeat (first | with_reducible exact Below.refl _ _ | (with_reducible refine Below.setCell ?_ (by first | omega | (simp; done) | (simp; omega)) _) | with_reducible refine bal ?_ _ | with_reducible refine Below.drew ?_ | with_reducible refine bdn ?_ _ | with_reducible refine via ?_ (by with_reducible assumption)))⟩

set_option maxHeartbeats 1000000 in
theorem out_ty_f1 (s t dt f df at_ ts fr now : Int) (w : World) (h1 : 0 ≤ s) (h2 : s ≤ 65535) (h3 : 0 ≤ t) (h4 : t ≤ 4294967295) (h5 : 0 ≤ dt) (h6 : dt ≤ 4294967295) (h7 : 0 ≤ f) (h8 : f ≤ 65535) (h9 : 0 ≤ df) (h10 : df ≤ 65535) (h11 : 0 ≤ ts) (h12 : ts ≤ 4294967295) (h13 : 0 ≤ fr) (h14 : fr ≤ 65535) (c1 : 1 ≤ (ts + dt - t) % 4294967296) (c2 : (ts + dt - t) % 4294967296 < 2147483648) (c3 : IntKind.u16.wrap (IntKind.u16.wrap (fr + df) - f) < 1) : Calls Try.prog 8 #[.agg #[.bool true, .int .u16 s, .int .u32 t, .int .u32 dt, .int .u16 f, .int .u16 df, .int .i64 at_], .int .u32 ts, .int .u16 fr, .int .i64 now] w fun x w' => x = .returned (.tuple #[.agg #[.bool true, .int .u16 (seqF true s), .int .u32 (ntF true t dt ts), .int .u32 dt, .int .u16 (nfF true f df fr), .int .u16 df, .int .i64 now], .int .u16 (seqF true s), .int .u32 (oT ts dt), .int .u16 (oF fr df)]) ∧ Below w.heap.size w w' := by
  have e1 : ntF true t dt ts = (ts + dt) % 4294967296 := by (have hg : goT t dt ts = true := by simp [goT, c1, c2]); simp [ntF, oT, hg]
  have e2 : nfF true f df fr = f := by (have hg : goF f df fr = false := by simp [goF]; omega); simp [nfF, oF, hg]
  have e3 : seqF true s = IntKind.u16.wrap (s + 1) := rfl
  have e4 : oT ts dt = (ts + dt) % 4294967296 := rfl
  have e5 : oF fr df = IntKind.u16.wrap (fr + df) := rfl
  rw [e1, e2, e3, e4, e5]
  clear e1 e2 e3 e4 e5
  go_enter Try.func8, Try.ntmps8
  go_wp2
  go_quiet (fail)
  go_wp2
  exact bodyPost_ret (v := (.tuple #[.agg #[.bool true, .int .u16 (IntKind.u16.wrap (s + 1)), .int .u32 ((ts + dt) % 4294967296), .int .u32 dt, .int .u16 (f), .int .u16 df, .int .i64 now], .int .u16 (IntKind.u16.wrap (s + 1)), .int .u32 ((ts + dt) % 4294967296), .int .u16 (IntKind.u16.wrap (fr + df))])) (by simp [results, Try.results8, go_sem]) rfl ⟨rfl, (by repeat (first | with_reducible exact Below.refl _ _ | (with_reducible refine Below.setCell ?_ (by first | omega | (simp; done) | (simp; omega)) _) | with_reducible refine bal ?_ _ | with_reducible refine Below.drew ?_ | with_reducible refine bdn ?_ _ | with_reducible refine via ?_ (by with_reducible assumption)))⟩

set_option maxHeartbeats 1000000 in
theorem out_ty_f2 (s t dt f df at_ ts fr now : Int) (w : World) (h1 : 0 ≤ s) (h2 : s ≤ 65535) (h3 : 0 ≤ t) (h4 : t ≤ 4294967295) (h5 : 0 ≤ dt) (h6 : dt ≤ 4294967295) (h7 : 0 ≤ f) (h8 : f ≤ 65535) (h9 : 0 ≤ df) (h10 : df ≤ 65535) (h11 : 0 ≤ ts) (h12 : ts ≤ 4294967295) (h13 : 0 ≤ fr) (h14 : fr ≤ 65535) (c1 : 1 ≤ (ts + dt - t) % 4294967296) (c2 : (ts + dt - t) % 4294967296 < 2147483648) (c3 : 1 ≤ IntKind.u16.wrap (IntKind.u16.wrap (fr + df) - f)) (c4 : 32768 ≤ IntKind.u16.wrap (IntKind.u16.wrap (fr + df) - f)) : Calls Try.prog 8 #[.agg #[.bool true, .int .u16 s, .int .u32 t, .int .u32 dt, .int .u16 f, .int .u16 df, .int .i64 at_], .int .u32 ts, .int .u16 fr, .int .i64 now] w fun x w' => x = .returned (.tuple #[.agg #[.bool true, .int .u16 (seqF true s), .int .u32 (ntF true t dt ts), .int .u32 dt, .int .u16 (nfF true f df fr), .int .u16 df, .int .i64 now], .int .u16 (seqF true s), .int .u32 (oT ts dt), .int .u16 (oF fr df)]) ∧ Below w.heap.size w w' := by
  have e1 : ntF true t dt ts = (ts + dt) % 4294967296 := by (have hg : goT t dt ts = true := by simp [goT, c1, c2]); simp [ntF, oT, hg]
  have e2 : nfF true f df fr = f := by (have hg : goF f df fr = false := by simp [goF]; omega); simp [nfF, oF, hg]
  have e3 : seqF true s = IntKind.u16.wrap (s + 1) := rfl
  have e4 : oT ts dt = (ts + dt) % 4294967296 := rfl
  have e5 : oF fr df = IntKind.u16.wrap (fr + df) := rfl
  rw [e1, e2, e3, e4, e5]
  clear e1 e2 e3 e4 e5
  go_enter Try.func8, Try.ntmps8
  go_wp2
  go_quiet (fail)
  go_wp2
  exact bodyPost_ret (v := (.tuple #[.agg #[.bool true, .int .u16 (IntKind.u16.wrap (s + 1)), .int .u32 ((ts + dt) % 4294967296), .int .u32 dt, .int .u16 (f), .int .u16 df, .int .i64 now], .int .u16 (IntKind.u16.wrap (s + 1)), .int .u32 ((ts + dt) % 4294967296), .int .u16 (IntKind.u16.wrap (fr + df))])) (by simp [results, Try.results8, go_sem]) rfl ⟨rfl, (by repeat (first | with_reducible exact Below.refl _ _ | (with_reducible refine Below.setCell ?_ (by first | omega | (simp; done) | (simp; omega)) _) | with_reducible refine bal ?_ _ | with_reducible refine Below.drew ?_ | with_reducible refine bdn ?_ _ | with_reducible refine via ?_ (by with_reducible assumption)))⟩

set_option maxHeartbeats 1000000 in
theorem out_t1_fy (s t dt f df at_ ts fr now : Int) (w : World) (h1 : 0 ≤ s) (h2 : s ≤ 65535) (h3 : 0 ≤ t) (h4 : t ≤ 4294967295) (h5 : 0 ≤ dt) (h6 : dt ≤ 4294967295) (h7 : 0 ≤ f) (h8 : f ≤ 65535) (h9 : 0 ≤ df) (h10 : df ≤ 65535) (h11 : 0 ≤ ts) (h12 : ts ≤ 4294967295) (h13 : 0 ≤ fr) (h14 : fr ≤ 65535) (c1 : (ts + dt - t) % 4294967296 < 1) (c3 : 1 ≤ IntKind.u16.wrap (IntKind.u16.wrap (fr + df) - f)) (c4 : IntKind.u16.wrap (IntKind.u16.wrap (fr + df) - f) < 32768) : Calls Try.prog 8 #[.agg #[.bool true, .int .u16 s, .int .u32 t, .int .u32 dt, .int .u16 f, .int .u16 df, .int .i64 at_], .int .u32 ts, .int .u16 fr, .int .i64 now] w fun x w' => x = .returned (.tuple #[.agg #[.bool true, .int .u16 (seqF true s), .int .u32 (ntF true t dt ts), .int .u32 dt, .int .u16 (nfF true f df fr), .int .u16 df, .int .i64 now], .int .u16 (seqF true s), .int .u32 (oT ts dt), .int .u16 (oF fr df)]) ∧ Below w.heap.size w w' := by
  have e1 : ntF true t dt ts = t := by (have hg : goT t dt ts = false := by simp [goT]; omega); simp [ntF, oT, hg]
  have e2 : nfF true f df fr = IntKind.u16.wrap (fr + df) := by (have hg : goF f df fr = true := by simp [goF, c3, c4]); simp [nfF, oF, hg]
  have e3 : seqF true s = IntKind.u16.wrap (s + 1) := rfl
  have e4 : oT ts dt = (ts + dt) % 4294967296 := rfl
  have e5 : oF fr df = IntKind.u16.wrap (fr + df) := rfl
  rw [e1, e2, e3, e4, e5]
  clear e1 e2 e3 e4 e5
  go_enter Try.func8, Try.ntmps8
  go_wp2
  go_quiet (fail)
  go_wp2
  exact bodyPost_ret (v := (.tuple #[.agg #[.bool true, .int .u16 (IntKind.u16.wrap (s + 1)), .int .u32 (t), .int .u32 dt, .int .u16 (IntKind.u16.wrap (fr + df)), .int .u16 df, .int .i64 now], .int .u16 (IntKind.u16.wrap (s + 1)), .int .u32 ((ts + dt) % 4294967296), .int .u16 (IntKind.u16.wrap (fr + df))])) (by simp [results, Try.results8, go_sem]) rfl ⟨rfl, (by repeat (first | with_reducible exact Below.refl _ _ | (with_reducible refine Below.setCell ?_ (by first | omega | (simp; done) | (simp; omega)) _) | with_reducible refine bal ?_ _ | with_reducible refine Below.drew ?_ | with_reducible refine bdn ?_ _ | with_reducible refine via ?_ (by with_reducible assumption)))⟩

set_option maxHeartbeats 1000000 in
theorem out_t1_f1 (s t dt f df at_ ts fr now : Int) (w : World) (h1 : 0 ≤ s) (h2 : s ≤ 65535) (h3 : 0 ≤ t) (h4 : t ≤ 4294967295) (h5 : 0 ≤ dt) (h6 : dt ≤ 4294967295) (h7 : 0 ≤ f) (h8 : f ≤ 65535) (h9 : 0 ≤ df) (h10 : df ≤ 65535) (h11 : 0 ≤ ts) (h12 : ts ≤ 4294967295) (h13 : 0 ≤ fr) (h14 : fr ≤ 65535) (c1 : (ts + dt - t) % 4294967296 < 1) (c3 : IntKind.u16.wrap (IntKind.u16.wrap (fr + df) - f) < 1) : Calls Try.prog 8 #[.agg #[.bool true, .int .u16 s, .int .u32 t, .int .u32 dt, .int .u16 f, .int .u16 df, .int .i64 at_], .int .u32 ts, .int .u16 fr, .int .i64 now] w fun x w' => x = .returned (.tuple #[.agg #[.bool true, .int .u16 (seqF true s), .int .u32 (ntF true t dt ts), .int .u32 dt, .int .u16 (nfF true f df fr), .int .u16 df, .int .i64 now], .int .u16 (seqF true s), .int .u32 (oT ts dt), .int .u16 (oF fr df)]) ∧ Below w.heap.size w w' := by
  have e1 : ntF true t dt ts = t := by (have hg : goT t dt ts = false := by simp [goT]; omega); simp [ntF, oT, hg]
  have e2 : nfF true f df fr = f := by (have hg : goF f df fr = false := by simp [goF]; omega); simp [nfF, oF, hg]
  have e3 : seqF true s = IntKind.u16.wrap (s + 1) := rfl
  have e4 : oT ts dt = (ts + dt) % 4294967296 := rfl
  have e5 : oF fr df = IntKind.u16.wrap (fr + df) := rfl
  rw [e1, e2, e3, e4, e5]
  clear e1 e2 e3 e4 e5
  go_enter Try.func8, Try.ntmps8
  go_wp2
  go_quiet (fail)
  go_wp2
  exact bodyPost_ret (v := (.tuple #[.agg #[.bool true, .int .u16 (IntKind.u16.wrap (s + 1)), .int .u32 (t), .int .u32 dt, .int .u16 (f), .int .u16 df, .int .i64 now], .int .u16 (IntKind.u16.wrap (s + 1)), .int .u32 ((ts + dt) % 4294967296), .int .u16 (IntKind.u16.wrap (fr + df))])) (by simp [results, Try.results8, go_sem]) rfl ⟨rfl, (by repeat (first | with_reducible exact Below.refl _ _ | (with_reducible refine Below.setCell ?_ (by first | omega | (simp; done) | (simp; omega)) _) | with_reducible refine bal ?_ _ | with_reducible refine Below.drew ?_ | with_reducible refine bdn ?_ _ | with_reducible refine via ?_ (by with_reducible assumption)))⟩

set_option maxHeartbeats 1000000 in
theorem out_t1_f2 (s t dt f df at_ ts fr now : Int) (w : World) (h1 : 0 ≤ s) (h2 : s ≤ 65535) (h3 : 0 ≤ t) (h4 : t ≤ 4294967295) (h5 : 0 ≤ dt) (h6 : dt ≤ 4294967295) (h7 : 0 ≤ f) (h8 : f ≤ 65535) (h9 : 0 ≤ df) (h10 : df ≤ 65535) (h11 : 0 ≤ ts) (h12 : ts ≤ 4294967295) (h13 : 0 ≤ fr) (h14 : fr ≤ 65535) (c1 : (ts + dt - t) % 4294967296 < 1) (c3 : 1 ≤ IntKind.u16.wrap (IntKind.u16.wrap (fr + df) - f)) (c4 : 32768 ≤ IntKind.u16.wrap (IntKind.u16.wrap (fr + df) - f)) : Calls Try.prog 8 #[.agg #[.bool true, .int .u16 s, .int .u32 t, .int .u32 dt, .int .u16 f, .int .u16 df, .int .i64 at_], .int .u32 ts, .int .u16 fr, .int .i64 now] w fun x w' => x = .returned (.tuple #[.agg #[.bool true, .int .u16 (seqF true s), .int .u32 (ntF true t dt ts), .int .u32 dt, .int .u16 (nfF true f df fr), .int .u16 df, .int .i64 now], .int .u16 (seqF true s), .int .u32 (oT ts dt), .int .u16 (oF fr df)]) ∧ Below w.heap.size w w' := by
  have e1 : ntF true t dt ts = t := by (have hg : goT t dt ts = false := by simp [goT]; omega); simp [ntF, oT, hg]
  have e2 : nfF true f df fr = f := by (have hg : goF f df fr = false := by simp [goF]; omega); simp [nfF, oF, hg]
  have e3 : seqF true s = IntKind.u16.wrap (s + 1) := rfl
  have e4 : oT ts dt = (ts + dt) % 4294967296 := rfl
  have e5 : oF fr df = IntKind.u16.wrap (fr + df) := rfl
  rw [e1, e2, e3, e4, e5]
  clear e1 e2 e3 e4 e5
  go_enter Try.func8, Try.ntmps8
  go_wp2
  go_quiet (fail)
  go_wp2
  exact bodyPost_ret (v := (.tuple #[.agg #[.bool true, .int .u16 (IntKind.u16.wrap (s + 1)), .int .u32 (t), .int .u32 dt, .int .u16 (f), .int .u16 df, .int .i64 now], .int .u16 (IntKind.u16.wrap (s + 1)), .int .u32 ((ts + dt) % 4294967296), .int .u16 (IntKind.u16.wrap (fr + df))])) (by simp [results, Try.results8, go_sem]) rfl ⟨rfl, (by repeat (first | with_reducible exact Below.refl _ _ | (with_reducible refine Below.setCell ?_ (by first | omega | (simp; done) | (simp; omega)) _) | with_reducible refine bal ?_ _ | with_reducible refine Below.drew ?_ | with_reducible refine bdn ?_ _ | with_reducible refine via ?_ (by with_reducible assumption)))⟩

set_option maxHeartbeats 1000000 in
theorem out_t2_fy (s t dt f df at_ ts fr now : Int) (w : World) (h1 : 0 ≤ s) (h2 : s ≤ 65535) (h3 : 0 ≤ t) (h4 : t ≤ 4294967295) (h5 : 0 ≤ dt) (h6 : dt ≤ 4294967295) (h7 : 0 ≤ f) (h8 : f ≤ 65535) (h9 : 0 ≤ df) (h10 : df ≤ 65535) (h11 : 0 ≤ ts) (h12 : ts ≤ 4294967295) (h13 : 0 ≤ fr) (h14 : fr ≤ 65535) (c1 : 1 ≤ (ts + dt - t) % 4294967296) (c2 : 2147483648 ≤ (ts + dt - t) % 4294967296) (c3 : 1 ≤ IntKind.u16.wrap (IntKind.u16.wrap (fr + df) - f)) (c4 : IntKind.u16.wrap (IntKind.u16.wrap (fr + df) - f) < 32768) : Calls Try.prog 8 #[.agg #[.bool true, .int .u16 s, .int .u32 t, .int .u32 dt, .int .u16 f, .int .u16 df, .int .i64 at_], .int .u32 ts, .int .u16 fr, .int .i64 now] w fun x w' => x = .returned (.tuple #[.agg #[.bool true, .int .u16 (seqF true s), .int .u32 (ntF true t dt ts), .int .u32 dt, .int .u16 (nfF true f df fr), .int .u16 df, .int .i64 now], .int .u16 (seqF true s), .int .u32 (oT ts dt), .int .u16 (oF fr df)]) ∧ Below w.heap.size w w' := by
  have e1 : ntF true t dt ts = t := by (have hg : goT t dt ts = false := by simp [goT]; omega); simp [ntF, oT, hg]
  have e2 : nfF true f df fr = IntKind.u16.wrap (fr + df) := by (have hg : goF f df fr = true := by simp [goF, c3, c4]); simp [nfF, oF, hg]
  have e3 : seqF true s = IntKind.u16.wrap (s + 1) := rfl
  have e4 : oT ts dt = (ts + dt) % 4294967296 := rfl
  have e5 : oF fr df = IntKind.u16.wrap (fr + df) := rfl
  rw [e1, e2, e3, e4, e5]
  clear e1 e2 e3 e4 e5
  go_enter Try.func8, Try.ntmps8
  go_wp2
  go_quiet (fail)
  go_wp2
  exact bodyPost_ret (v := (.tuple #[.agg #[.bool true, .int .u16 (IntKind.u16.wrap (s + 1)), .int .u32 (t), .int .u32 dt, .int .u16 (IntKind.u16.wrap (fr + df)), .int .u16 df, .int .i64 now], .int .u16 (IntKind.u16.wrap (s + 1)), .int .u32 ((ts + dt) % 4294967296), .int .u16 (IntKind.u16.wrap (fr + df))])) (by simp [results, Try.results8, go_sem]) rfl ⟨rfl, (by repeat (first | with_reducible exact Below.refl _ _ | (with_reducible refine Below.setCell ?_ (by first | omega | (simp; done) | (simp; omega)) _) | with_reducible refine bal ?_ _ | with_reducible refine Below.drew ?_ | with_reducible refine bdn ?_ _ | with_reducible refine via ?_ (by with_reducible assumption)))⟩

set_option maxHeartbeats 1000000 in
theorem out_t2_f1 (s t dt f df at_ ts fr now : Int) (w : World) (h1 : 0 ≤ s) (h2 : s ≤ 65535) (h3 : 0 ≤ t) (h4 : t ≤ 4294967295) (h5 : 0 ≤ dt) (h6 : dt ≤ 4294967295) (h7 : 0 ≤ f) (h8 : f ≤ 65535) (h9 : 0 ≤ df) (h10 : df ≤ 65535) (h11 : 0 ≤ ts) (h12 : ts ≤ 4294967295) (h13 : 0 ≤ fr) (h14 : fr ≤ 65535) (c1 : 1 ≤ (ts + dt - t) % 4294967296) (c2 : 2147483648 ≤ (ts + dt - t) % 4294967296) (c3 : IntKind.u16.wrap (IntKind.u16.wrap (fr + df) - f) < 1) : Calls Try.prog 8 #[.agg #[.bool true, .int .u16 s, .int .u32 t, .int .u32 dt, .int .u16 f, .int .u16 df, .int .i64 at_], .int .u32 ts, .int .u16 fr, .int .i64 now] w fun x w' => x = .returned (.tuple #[.agg #[.bool true, .int .u16 (seqF true s), .int .u32 (ntF true t dt ts), .int .u32 dt, .int .u16 (nfF true f df fr), .int .u16 df, .int .i64 now], .int .u16 (seqF true s), .int .u32 (oT ts dt), .int .u16 (oF fr df)]) ∧ Below w.heap.size w w' := by
  have e1 : ntF true t dt ts = t := by (have hg : goT t dt ts = false := by simp [goT]; omega); simp [ntF, oT, hg]
  have e2 : nfF true f df fr = f := by (have hg : goF f df fr = false := by simp [goF]; omega); simp [nfF, oF, hg]
  have e3 : seqF true s = IntKind.u16.wrap (s + 1) := rfl
  have e4 : oT ts dt = (ts + dt) % 4294967296 := rfl
  have e5 : oF fr df = IntKind.u16.wrap (fr + df) := rfl
  rw [e1, e2, e3, e4, e5]
  clear e1 e2 e3 e4 e5
  go_enter Try.func8, Try.ntmps8
  go_wp2
  go_quiet (fail)
  go_wp2
  exact bodyPost_ret (v := (.tuple #[.agg #[.bool true, .int .u16 (IntKind.u16.wrap (s + 1)), .int .u32 (t), .int .u32 dt, .int .u16 (f), .int .u16 df, .int .i64 now], .int .u16 (IntKind.u16.wrap (s + 1)), .int .u32 ((ts + dt) % 4294967296), .int .u16 (IntKind.u16.wrap (fr + df))])) (by simp [results, Try.results8, go_sem]) rfl ⟨rfl, (by repeat (first | with_reducible exact Below.refl _ _ | (with_reducible refine Below.setCell ?_ (by first | omega | (simp; done) | (simp; omega)) _) | with_reducible refine bal ?_ _ | with_reducible refine Below.drew ?_ | with_reducible refine bdn ?_ _ | with_reducible refine via ?_ (by with_reducible assumption)))⟩

set_option maxHeartbeats 1000000 in
theorem out_t2_f2 (s t dt f df at_ ts fr now : Int) (w : World) (h1 : 0 ≤ s) (h2 : s ≤ 65535) (h3 : 0 ≤ t) (h4 : t ≤ 4294967295) (h5 : 0 ≤ dt) (h6 : dt ≤ 4294967295) (h7 : 0 ≤ f) (h8 : f ≤ 65535) (h9 : 0 ≤ df) (h10 : df ≤ 65535) (h11 : 0 ≤ ts) (h12 : ts ≤ 4294967295) (h13 : 0 ≤ fr) (h14 : fr ≤ 65535) (c1 : 1 ≤ (ts + dt - t) % 4294967296) (c2 : 2147483648 ≤ (ts + dt - t) % 4294967296) (c3 : 1 ≤ IntKind.u16.wrap (IntKind.u16.wrap (fr + df) - f)) (c4 : 32768 ≤ IntKind.u16.wrap (IntKind.u16.wrap (fr + df) - f)) : Calls Try.prog 8 #[.agg #[.bool true, .int .u16 s, .int .u32 t, .int .u32 dt, .int .u16 f, .int .u16 df, .int .i64 at_], .int .u32 ts, .int .u16 fr, .int .i64 now] w fun x w' => x = .returned (.tuple #[.agg #[.bool true, .int .u16 (seqF true s), .int .u32 (ntF true t dt ts), .int .u32 dt, .int .u16 (nfF true f df fr), .int .u16 df, .int .i64 now], .int .u16 (seqF true s), .int .u32 (oT ts dt), .int .u16 (oF fr df)]) ∧ Below w.heap.size w w' := by
  have e1 : ntF true t dt ts = t := by (have hg : goT t dt ts = false := by simp [goT]; omega); simp [ntF, oT, hg]
  have e2 : nfF true f df fr = f := by (have hg : goF f df fr = false := by simp [goF]; omega); simp [nfF, oF, hg]
  have e3 : seqF true s = IntKind.u16.wrap (s + 1) := rfl
  have e4 : oT ts dt = (ts + dt) % 4294967296 := rfl
  have e5 : oF fr df = IntKind.u16.wrap (fr + df) := rfl
  rw [e1, e2, e3, e4, e5]
  clear e1 e2 e3 e4 e5
  go_enter Try.func8, Try.ntmps8
  go_wp2
  go_quiet (fail)
  go_wp2
  exact bodyPost_ret (v := (.tuple #[.agg #[.bool true, .int .u16 (IntKind.u16.wrap (s + 1)), .int .u32 (t), .int .u32 dt, .int .u16 (f), .int .u16 df, .int .i64 now], .int .u16 (IntKind.u16.wrap (s + 1)), .int .u32 ((ts + dt) % 4294967296), .int .u16 (IntKind.u16.wrap (fr + df))])) (by simp [results, Try.results8, go_sem]) rfl ⟨rfl, (by repeat (first | with_reducible exact Below.refl _ _ | (with_reducible refine Below.setCell ?_ (by first | omega | (simp; done) | (simp; omega)) _) | with_reducible refine bal ?_ _ | with_reducible refine Below.drew ?_ | with_reducible refine bdn ?_ _ | with_reducible refine via ?_ (by with_reducible assumption)))⟩

set_option maxHeartbeats 1000000 in
theorem out_none (s t dt f df at_ ts fr now : Int) (w : World) (h1 : 0 ≤ s) (h2 : s ≤ 65535) (h3 : 0 ≤ t) (h4 : t ≤ 4294967295) (h5 : 0 ≤ dt) (h6 : dt ≤ 4294967295) (h7 : 0 ≤ f) (h8 : f ≤ 65535) (h9 : 0 ≤ df) (h10 : df ≤ 65535) (h11 : 0 ≤ ts) (h12 : ts ≤ 4294967295) (h13 : 0 ≤ fr) (h14 : fr ≤ 65535)  : Calls Try.prog 8 #[.agg #[.bool false, .int .u16 s, .int .u32 t, .int .u32 dt, .int .u16 f, .int .u16 df, .int .i64 at_], .int .u32 ts, .int .u16 fr, .int .i64 now] w fun x w' => x = .returned (.tuple #[.agg #[.bool true, .int .u16 (seqF false s), .int .u32 (ntF false t dt ts), .int .u32 dt, .int .u16 (nfF false f df fr), .int .u16 df, .int .i64 now], .int .u16 (seqF false s), .int .u32 (oT ts dt), .int .u16 (oF fr df)]) ∧ Below w.heap.size w w' := by
  have e1 : ntF false t dt ts = (ts + dt) % 4294967296 := by simp [ntF, oT]
  have e2 : nfF false f df fr = IntKind.u16.wrap (fr + df) := by simp [nfF, oF]
  have e3 : seqF false s = 0 := rfl
  have e4 : oT ts dt = (ts + dt) % 4294967296 := rfl
  have e5 : oF fr df = IntKind.u16.wrap (fr + df) := rfl
  rw [e1, e2, e3, e4, e5]
  clear e1 e2 e3 e4 e5
  go_enter Try.func8, Try.ntmps8
  go_wp2
  go_quiet (fail)
  go_wp2
  exact bodyPost_ret (v := (.tuple #[.agg #[.bool true, .int .u16 (0), .int .u32 ((ts + dt) % 4294967296), .int .u32 dt, .int .u16 (IntKind.u16.wrap (fr + df)), .int .u16 df, .int .i64 now], .int .u16 (0), .int .u32 ((ts + dt) % 4294967296), .int .u16 (IntKind.u16.wrap (fr + df))])) (by simp [results, Try.results8, go_sem]) rfl ⟨rfl, (by repeat (first | with_reducible exact Below.refl _ _ | (with_reducible refine Below.setCell ?_ (by first | omega | (simp; done) | (simp; omega)) _) | with_reducible refine bal ?_ _ | with_reducible refine Below.drew ?_ | with_reducible refine bdn ?_ _ | with_reducible refine via ?_ (by with_reducible assumption)))⟩

theorem out_any (a : Bool) (s t dt f df at_ ts fr now : Int) (w : World) (h1 : 0 ≤ s) (h2 : s ≤ 65535) (h3 : 0 ≤ t) (h4 : t ≤ 4294967295) (h5 : 0 ≤ dt) (h6 : dt ≤ 4294967295) (h7 : 0 ≤ f) (h8 : f ≤ 65535) (h9 : 0 ≤ df) (h10 : df ≤ 65535) (h11 : 0 ≤ ts) (h12 : ts ≤ 4294967295) (h13 : 0 ≤ fr) (h14 : fr ≤ 65535) : Calls Try.prog 8 #[.agg #[.bool a, .int .u16 s, .int .u32 t, .int .u32 dt, .int .u16 f, .int .u16 df, .int .i64 at_], .int .u32 ts, .int .u16 fr, .int .i64 now] w fun x w' => x = .returned (.tuple #[.agg #[.bool true, .int .u16 (seqF a s), .int .u32 (ntF a t dt ts), .int .u32 dt, .int .u16 (nfF a f df fr), .int .u16 df, .int .i64 now], .int .u16 (seqF a s), .int .u32 (oT ts dt), .int .u16 (oF fr df)]) ∧ Below w.heap.size w w' := by
  cases a
  · exact out_none s t dt f df at_ ts fr now w h1 h2 h3 h4 h5 h6 h7 h8 h9 h10 h11 h12 h13 h14
  · rcases (show ((ts + dt - t) % 4294967296 < 1) ∨ (1 ≤ (ts + dt - t) % 4294967296 ∧ (ts + dt - t) % 4294967296 < 2147483648) ∨ (1 ≤ (ts + dt - t) % 4294967296 ∧ 2147483648 ≤ (ts + dt - t) % 4294967296) by omega) with c1 | ⟨c1, c2⟩ | ⟨c1, c2⟩
    · rcases (show (IntKind.u16.wrap (IntKind.u16.wrap (fr + df) - f) < 1) ∨ (1 ≤ IntKind.u16.wrap (IntKind.u16.wrap (fr + df) - f) ∧ IntKind.u16.wrap (IntKind.u16.wrap (fr + df) - f) < 32768) ∨ (1 ≤ IntKind.u16.wrap (IntKind.u16.wrap (fr + df) - f) ∧ 32768 ≤ IntKind.u16.wrap (IntKind.u16.wrap (fr + df) - f)) by omega) with c3 | ⟨c3, c4⟩ | ⟨c3, c4⟩
      · exact out_t1_f1 s t dt f df at_ ts fr now w h1 h2 h3 h4 h5 h6 h7 h8 h9 h10 h11 h12 h13 h14 c1 c3
      · exact out_t1_fy s t dt f df at_ ts fr now w h1 h2 h3 h4 h5 h6 h7 h8 h9 h10 h11 h12 h13 h14 c1 c3 c4
      · exact out_t1_f2 s t dt f df at_ ts fr now w h1 h2 h3 h4 h5 h6 h7 h8 h9 h10 h11 h12 h13 h14 c1 c3 c4
    · rcases (show (IntKind.u16.wrap (IntKind.u16.wrap (fr + df) - f) < 1) ∨ (1 ≤ IntKind.u16.wrap (IntKind.u16.wrap (fr + df) - f) ∧ IntKind.u16.wrap (IntKind.u16.wrap (fr + df) - f) < 32768) ∨ (1 ≤ IntKind.u16.wrap (IntKind.u16.wrap (fr + df) - f) ∧ 32768 ≤ IntKind.u16.wrap (IntKind.u16.wrap (fr + df) - f)) by omega) with c3 | ⟨c3, c4⟩ | ⟨c3, c4⟩
      · exact out_ty_f1 s t dt f df at_ ts fr now w h1 h2 h3 h4 h5 h6 h7 h8 h9 h10 h11 h12 h13 h14 c1 c2 c3
      · exact out_ty_fy s t dt f df at_ ts fr now w h1 h2 h3 h4 h5 h6 h7 h8 h9 h10 h11 h12 h13 h14 c1 c2 c3 c4
      · exact out_ty_f2 s t dt f df at_ ts fr now w h1 h2 h3 h4 h5 h6 h7 h8 h9 h10 h11 h12 h13 h14 c1 c2 c3 c4
    · rcases (show (IntKind.u16.wrap (IntKind.u16.wrap (fr + df) - f) < 1) ∨ (1 ≤ IntKind.u16.wrap (IntKind.u16.wrap (fr + df) - f) ∧ IntKind.u16.wrap (IntKind.u16.wrap (fr + df) - f) < 32768) ∨ (1 ≤ IntKind.u16.wrap (IntKind.u16.wrap (fr + df) - f) ∧ 32768 ≤ IntKind.u16.wrap (IntKind.u16.wrap (fr + df) - f)) by omega) with c3 | ⟨c3, c4⟩ | ⟨c3, c4⟩
      · exact out_t2_f1 s t dt f df at_ ts fr now w h1 h2 h3 h4 h5 h6 h7 h8 h9 h10 h11 h12 h13 h14 c1 c2 c3
      · exact out_t2_fy s t dt f df at_ ts fr now w h1 h2 h3 h4 h5 h6 h7 h8 h9 h10 h11 h12 h13 h14 c1 c2 c3 c4
      · exact out_t2_f2 s t dt f df at_ ts fr now w h1 h2 h3 h4 h5 h6 h7 h8 h9 h10 h11 h12 h13 h14 c1 c2 c3 c4

theorem ticks_any (a b : Int) (w : World) : Calls Try.prog 12 #[.int .i64 a, .int .i64 b] w fun x w' => x = .returned (.int .u32 (tickN a b)) ∧ w' = w := by
  by_cases c1 : b ≤ a
  · have e : tickN a b = 1 := by rw [tickN, if_pos c1]
    rw [e]
    clear e
    go_enter Try.func12, Try.ntmps12
    go_wp2
    go_ret
    exact ⟨rfl, rfl⟩
  have c1' : a < b := by omega
  by_cases c2 : 100000 < IntKind.u64.wrap (IntKind.u64.wrap b - IntKind.u64.wrap a)
  · have e : tickN a b = 100000 := by rw [tickN, if_neg c1, if_pos c2]
    rw [e]
    clear e
    go_enter Try.func12, Try.ntmps12
    go_wp2
    go_ret
    exact ⟨rfl, rfl⟩
  · have h0 : 0 ≤ IntKind.u64.wrap (IntKind.u64.wrap b - IntKind.u64.wrap a) := by rw [IntKind.wrap_u64]; omega
    have e2 : IntKind.u64.wrap (IntKind.u64.wrap b - IntKind.u64.wrap a) % 4294967296 = IntKind.u64.wrap (IntKind.u64.wrap b - IntKind.u64.wrap a) := by omega
    have e : tickN a b = IntKind.u64.wrap (IntKind.u64.wrap b - IntKind.u64.wrap a) % 4294967296 := by rw [tickN, if_neg c1, if_neg c2, e2]
    rw [e]
    have c2' : IntKind.u64.wrap (IntKind.u64.wrap b - IntKind.u64.wrap a) ≤ 100000 := by omega
    clear e e2 h0 c1 c2
    go_enter Try.func12, Try.ntmps12
    go_wp2
    go_ret
    exact ⟨rfl, rfl⟩
end Go.Proofs.Ytecpbhefpicmaaa
