/- Plain facts on turns: ranges; what a packet's number is behind what came. No Go text in sight. -/
import Derived.Test.YtecpbhefpicmaaaWalks1
namespace Go.Proofs.Ytecpbhefpicmaaa
open Go.RowKit

theorem wu16 (n : Int) : IntKind.u16.wrap n = n % 65536 := by simp [IntKind.wrap, IntKind.bits, IntKind.signed]
theorem wu32 (n : Int) : IntKind.u32.wrap n = n % 4294967296 := by simp [IntKind.wrap, IntKind.bits, IntKind.signed]
theorem seqF_bd (a : Bool) (s : Int) : 0 ≤ seqF a s ∧ seqF a s ≤ 65535 := by
  unfold seqF
  rw [wu16]
  split <;> omega
theorem oT_bd (ts dt : Int) : 0 ≤ oT ts dt ∧ oT ts dt ≤ 4294967295 := by unfold oT; omega
theorem oF_bd (fr df : Int) : 0 ≤ oF fr df ∧ oF fr df ≤ 65535 := by unfold oF; rw [wu16]; omega
theorem ntF_bd (a : Bool) (t dt ts : Int) (h0 : 0 ≤ t) (h1 : t ≤ 4294967295) : 0 ≤ ntF a t dt ts ∧ ntF a t dt ts ≤ 4294967295 := by
  have := oT_bd ts dt
  unfold ntF
  split <;> omega
theorem nfF_bd (a : Bool) (f df fr : Int) (h0 : 0 ≤ f) (h1 : f ≤ 65535) : 0 ≤ nfF a f df fr ∧ nfF a f df fr ≤ 65535 := by
  have := oF_bd fr df
  unfold nfF
  split <;> omega
theorem bT_bd (a : Bool) (t at_ ts now : Int) : 0 ≤ bT a t at_ ts now ∧ bT a t at_ ts now ≤ 4294967295 := by
  unfold bT
  split <;> omega
theorem bF_bd (a : Bool) (f fr : Int) : 0 ≤ bF a f fr ∧ bF a f fr ≤ 65535 := by
  unfold bF
  rw [wu16]
  split <;> omega
theorem sub_oT (ts dt : Int) (h0 : 0 ≤ dt) (h1 : dt ≤ 4294967295) : (oT ts dt - ts) % 4294967296 = dt := by unfold oT; omega
theorem sub_oT' (ts dt : Int) (h0 : 0 ≤ dt) (h1 : dt ≤ 4294967295) : IntKind.u32.wrap (oT ts dt - ts) = dt := by
  have e : ∀ n, IntKind.u32.wrap n = n % 4294967296 := fun n => by simp [IntKind.wrap, IntKind.bits, IntKind.signed]
  rw [e, sub_oT ts dt h0 h1]
theorem sub_oF (fr df : Int) (h0 : 0 ≤ df) (h1 : df ≤ 65535) : IntKind.u16.wrap (oF fr df - fr) = df := by unfold oF; rw [wu16, wu16]; omega
end Go.Proofs.Ytecpbhefpicmaaa
