/- The walks over cast.Ask, cast.On, cast.Lacks. -/
import Derived.Test.YtbidfmlomiimnaaWalks
import Derived.Lib.Hide
namespace Go.Proofs.Ytbidfmlomiimnaa
open Go.RowKit
set_option linter.unusedSimpArgs false

theorem bk {W w1 : World} (hb : Below W.heap.size W w1) (b : Nat) (h : b < W.heap.size) : (∀ o, w1.cell? ⟨b, o, none⟩ = W.cell? ⟨b, o, none⟩) ∧ (∀ o, w1.frozen? ⟨b, o, none⟩ = W.frozen? ⟨b, o, none⟩) :=
  ⟨fun o => hb.cell (p := ⟨b, o, none⟩) h, fun o => hb.frozen (p := ⟨b, o, none⟩) h⟩
theorem via {w W w1 : World} (h : Below w.heap.size w W) (hb : Below W.heap.size W w1) : Below w.heap.size w w1 := h.trans (hb.mono h.size)
theorem bal {w W : World} (h : Below w.heap.size w W) (o : Obj) : Below w.heap.size w (W.alloc o) := h.alloc h.size o

def askW (a : Bool) (n k i : Int) : Int := if goodB a n k && srcB i then i else k
def askE (a : Bool) (n k i : Int) : Int := if goodB a n k && srcB i then 0 else 1

set_option maxHeartbeats 400000 in
theorem ask_any (a : Bool) (n k i : Int) (w : World) : Calls Try.prog 8 #[.agg #[.bool a, .int .i64 n, .int .i64 k], .int .i64 i] w fun x w' =>
    x = .returned (.tuple #[.agg #[.bool a, .int .i64 n, .int .i64 (askW a n k i)], .int .i64 (askE a n k i)]) ∧ Below w.heap.size w w' := by
  cases hg : goodB a n k
  all_goals cases hs : srcB i
  all_goals
    go_enter Try.func8, Try.ntmps8
    go_wp2_with (first | (go_at_call 16; refine (source_any _ _).mono ?_; rintro e w' ⟨rfl, rfl⟩) | (go_at_call 11; refine (good_any _ _ _ _).mono ?_; rintro e w1 ⟨rfl, hb⟩; obtain ⟨hc1, hf1⟩ := bk hb (w.heap.size) (by first | omega | (simp; done) | (simp; omega)); obtain ⟨hc2, hf2⟩ := bk hb (w.heap.size + 1) (by first | omega | (simp; done) | (simp; omega)); have hz_w1 : w.heap.size + 2 ≤ w1.heap.size := by (have h_ := hb.size; first | omega | (simp at h_; omega))))
    exact bodyPost_ret (v := .tuple #[.agg #[.bool a, .int .i64 n, .int .i64 (askW a n k i)], .int .i64 (askE a n k i)]) (by simp [results, Try.results8, go_sem, hc1, hc2, askW, askE, hg, hs]) rfl ⟨rfl, (by repeat (first | exact Below.refl _ _ | refine Below.setCell ?_ (by first | omega | (simp; done) | (simp; omega)) _ | refine bal ?_ _ | refine Below.drew ?_ | refine via ?_ (by assumption)))⟩
end Go.Proofs.Ytbidfmlomiimnaa
