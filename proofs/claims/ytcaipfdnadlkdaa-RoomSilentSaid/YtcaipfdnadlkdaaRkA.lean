/- Epochs, plainly: what the document's chapter 18 computes; the walks over rekey's small functions. The walks over rekey.Raise, Join, Ack, Late. The walks over rekey.Join. The walks over rekey.Ack. The walks over rekey.Late. -/
import Derived.Test.YtcaipfdnadlkdaaHead
import Derived.WalkSpells
import Derived.WalkLawsBesides
import Derived.Outline
import Derived.Deep.RegionHeld3
import Derived.Deep.QuietTactic
import Derived.BigQuiet
import Derived.RegionTactic
import Derived.Lib.Hide
namespace Go.Proofs.Ytcaipfdnadlkdaa
open Go.RowKit
set_option linter.unusedSimpArgs false
set_option linter.unusedVariables false

theorem bk {W w1 : World} (hb : Below W.heap.size W w1) (b : Nat) (h : b < W.heap.size) : (∀ o, w1.cell? ⟨b, o, none⟩ = W.cell? ⟨b, o, none⟩) ∧ (∀ o, w1.frozen? ⟨b, o, none⟩ = W.frozen? ⟨b, o, none⟩) :=
  ⟨fun o => hb.cell (p := ⟨b, o, none⟩) h, fun o => hb.frozen (p := ⟨b, o, none⟩) h⟩
theorem via {w W w1 : World} (h : Below w.heap.size w W) (hb : Below W.heap.size W w1) : Below w.heap.size w w1 := h.trans (hb.mono h.size)
theorem bal {w W : World} (h : Below w.heap.size w W) (o : Obj) : Below w.heap.size w (W.alloc o) := h.alloc h.size o
theorem bdn {B : Nat} {a w : World} (h : Below B a w) (n : Nat) : Below B a (w.drewN n) := ⟨h.os, h.tape, h.output, h.size, h.block⟩

structure St where
  ep : Int
  op : Bool
  nx : Int
  nd : Int
  hv : Int
  bn : Int

def goodS (s : St) : Bool :=
  decide (0 ≤ s.ep ∧ s.ep ≤ 65535) && (if s.op then decide (s.ep < s.nx ∧ s.nx ≤ 65535 ∧ 1 ≤ s.nd ∧ s.nd ≤ 255) && (bits .andNot .i64 s.hv s.nd == 0 && s.hv != s.nd) else (s.nx == 0 && s.nd == 0 && s.hv == 0 && s.bn == 0))
def slB (i : Int) : Bool := decide (0 ≤ i ∧ i < 8)
def comS (s : St) : Int := if s.op then s.nx else s.ep
def needB (n : Int) : Bool := decide (0 ≤ n ∧ n ≤ 255)
def raiseF (s : St) (need now : Int) : St × Int :=
  if goodS s && needB need then (if 65535 < comS s + 1 then (s, 11) else if need = 0 then (⟨comS s + 1, false, 0, 0, 0, 0⟩, 0) else (⟨s.ep, true, comS s + 1, need, 0, now⟩, 0)) else (s, 1)
def bitZ (x i : Int) : Bool := bits .and .i64 (x / 2 ^ i.toNat) 1 == 0
def bitO (x i : Int) : Bool := bits .and .i64 (x / 2 ^ i.toNat) 1 == 1

theorem slot_any (i : Int) (w : World) : Calls Try.prog 57 #[.int .i64 i] w fun x w' => x = .returned (.bool (slB i)) ∧ w = w' := by
  by_cases c1 : 0 ≤ i
  · have e : slB i = decide (i < 8) := by simp [slB, c1]
    rw [e]
    clear e
    go_enter Try.func57, Try.ntmps57
    go_wp2
    go_ret
    exact ⟨rfl, rfl⟩
  · have e : slB i = false := by simp [slB]; omega
    rw [e]
    clear e
    go_enter Try.func57, Try.ntmps57
    go_wp2
    go_ret
    exact ⟨rfl, rfl⟩

theorem coming_any (ep : Int) (op : Bool) (nx nd hv bn : Int) (w : World) : Calls Try.prog 19 #[.agg #[.int .i64 ep, .bool op, .int .i64 nx, .int .i64 nd, .int .i64 hv, .int .i64 bn]] w fun x w' => x = .returned (.int .i64 (comS ⟨ep, op, nx, nd, hv, bn⟩)) ∧ Below w.heap.size w w' := by
  cases op
  · go_enter Try.func19, Try.ntmps19
    go_wp2
    go_ret
    exact ⟨rfl, (by repeat (first | with_reducible exact Below.refl _ _ | (with_reducible refine Below.setCell ?_ (by first | omega | (simp; done) | (simp; omega)) _) | with_reducible refine bal ?_ _ | with_reducible refine Below.drew ?_ | with_reducible refine bdn ?_ _ | with_reducible refine via ?_ (by with_reducible assumption)))⟩
  · go_enter Try.func19, Try.ntmps19
    go_wp2
    go_ret
    exact ⟨rfl, (by repeat (first | with_reducible exact Below.refl _ _ | (with_reducible refine Below.setCell ?_ (by first | omega | (simp; done) | (simp; omega)) _) | with_reducible refine bal ?_ _ | with_reducible refine Below.drew ?_ | with_reducible refine bdn ?_ _ | with_reducible refine via ?_ (by with_reducible assumption)))⟩

set_option maxHeartbeats 1000000 in
theorem good_any (ep : Int) (op : Bool) (nx nd hv bn : Int) (w : World) : Calls Try.prog 20 #[.agg #[.int .i64 ep, .bool op, .int .i64 nx, .int .i64 nd, .int .i64 hv, .int .i64 bn]] w fun x w' => x = .returned (.bool (goodS ⟨ep, op, nx, nd, hv, bn⟩)) ∧ Below w.heap.size w w' := by
  cases op
  · go_enter Try.func20, Try.ntmps20
    go_wp2
    all_goals go_ret
    all_goals refine ⟨?_, (by repeat (first | with_reducible exact Below.refl _ _ | (with_reducible refine Below.setCell ?_ (by first | omega | (simp; done) | (simp; omega)) _) | with_reducible refine bal ?_ _ | with_reducible refine Below.drew ?_ | with_reducible refine bdn ?_ _ | with_reducible refine via ?_ (by with_reducible assumption)))⟩
    all_goals simp [goodS, *]
    all_goals omega
  · go_enter Try.func20, Try.ntmps20
    go_wp2
    all_goals go_ret
    all_goals refine ⟨?_, (by repeat (first | with_reducible exact Below.refl _ _ | (with_reducible refine Below.setCell ?_ (by first | omega | (simp; done) | (simp; omega)) _) | with_reducible refine bal ?_ _ | with_reducible refine Below.drew ?_ | with_reducible refine bdn ?_ _ | with_reducible refine via ?_ (by with_reducible assumption)))⟩
    all_goals simp [goodS, *]
    all_goals omega
end Go.Proofs.Ytcaipfdnadlkdaa

namespace Go.Proofs.Ytcaipfdnadlkdaa
open Go.RowKit
set_option linter.unusedSimpArgs false
set_option linter.unusedVariables false

theorem com_bd (s : St) (h : goodS s = true) : 0 ≤ comS s ∧ comS s ≤ 65535 := by
  unfold goodS at h
  unfold comS
  cases ho : s.op
  · simp [ho] at h
    simp
    omega
  · simp [ho] at h
    simp
    omega

set_option maxHeartbeats 2000000 in
theorem raise_any (ep : Int) (op : Bool) (nx nd hv bn : Int) (need now : Int) (w : World) : Calls Try.prog 16 #[.agg #[.int .i64 ep, .bool op, .int .i64 nx, .int .i64 nd, .int .i64 hv, .int .i64 bn], .int .i64 need, .int .i64 now] w fun x w' => x = .returned (.tuple #[.agg #[.int .i64 ((raiseF ⟨ep, op, nx, nd, hv, bn⟩ need now).1).ep, .bool ((raiseF ⟨ep, op, nx, nd, hv, bn⟩ need now).1).op, .int .i64 ((raiseF ⟨ep, op, nx, nd, hv, bn⟩ need now).1).nx, .int .i64 ((raiseF ⟨ep, op, nx, nd, hv, bn⟩ need now).1).nd, .int .i64 ((raiseF ⟨ep, op, nx, nd, hv, bn⟩ need now).1).hv, .int .i64 ((raiseF ⟨ep, op, nx, nd, hv, bn⟩ need now).1).bn], .int .i64 (raiseF ⟨ep, op, nx, nd, hv, bn⟩ need now).2]) ∧ Below w.heap.size w w' := by
  cases hg : goodS ⟨ep, op, nx, nd, hv, bn⟩
  · have e : raiseF ⟨ep, op, nx, nd, hv, bn⟩ need now = (⟨ep, op, nx, nd, hv, bn⟩, 1) := by simp [raiseF, hg]
    rw [e]
    dsimp only
    clear e
    go_enter Try.func16, Try.ntmps16
    go_wp2_with (first | (go_at_call 19; refine (coming_any _ _ _ _ _ _ _).mono ?_; rintro e w1 ⟨rfl, hb1⟩; have hz_w1 : w.heap.size + 2 ≤ w1.heap.size := (by have h_ := hb1.size; first | omega | (simp at h_; omega)); obtain ⟨hc1, hf1⟩ := bk hb1 (w.heap.size) (by first | omega | (simp; done) | (simp; omega)); have hs1 : w.heap.size < w1.heap.size := (by omega); obtain ⟨hc2, hf2⟩ := bk hb1 (w.heap.size + 1) (by first | omega | (simp; done) | (simp; omega)); have hs2 : w.heap.size + 1 < w1.heap.size := (by omega)) | (go_at_call 20; refine (good_any _ _ _ _ _ _ _).mono ?_; rintro e w2 ⟨rfl, hb2⟩; have hz_w2 : w.heap.size + 2 ≤ w2.heap.size := (by have h_ := hb2.size; first | omega | (simp at h_; omega)); obtain ⟨hc3, hf3⟩ := bk hb2 (w.heap.size) (by first | omega | (simp; done) | (simp; omega)); have hs3 : w.heap.size < w2.heap.size := (by omega); obtain ⟨hc4, hf4⟩ := bk hb2 (w.heap.size + 1) (by first | omega | (simp; done) | (simp; omega)); have hs4 : w.heap.size + 1 < w2.heap.size := (by omega)))
    exact bodyPost_ret (v := .tuple #[.agg #[.int .i64 ep, .bool op, .int .i64 nx, .int .i64 nd, .int .i64 hv, .int .i64 bn], .int .i64 1]) (by simp [results, Try.results16, go_sem, hc1, hc2, hc3, hc4]) rfl ⟨rfl, (by repeat (first | with_reducible exact Below.refl _ _ | (with_reducible refine Below.setCell ?_ (by first | omega | (simp; done) | (simp; omega)) _) | with_reducible refine bal ?_ _ | with_reducible refine Below.drew ?_ | with_reducible refine bdn ?_ _ | with_reducible refine via ?_ (by with_reducible assumption)))⟩
  have hcb := com_bd ⟨ep, op, nx, nd, hv, bn⟩ hg
  by_cases h1 : need < 0
  · have e : raiseF ⟨ep, op, nx, nd, hv, bn⟩ need now = (⟨ep, op, nx, nd, hv, bn⟩, 1) := by (have hn : needB need = false := by (simp [needB]; omega)); simp [raiseF, hn]
    rw [e]
    dsimp only
    clear e
    go_enter Try.func16, Try.ntmps16
    go_wp2_with (first | (go_at_call 19; refine (coming_any _ _ _ _ _ _ _).mono ?_; rintro e w1 ⟨rfl, hb1⟩; have hz_w1 : w.heap.size + 2 ≤ w1.heap.size := (by have h_ := hb1.size; first | omega | (simp at h_; omega)); obtain ⟨hc1, hf1⟩ := bk hb1 (w.heap.size) (by first | omega | (simp; done) | (simp; omega)); have hs1 : w.heap.size < w1.heap.size := (by omega); obtain ⟨hc2, hf2⟩ := bk hb1 (w.heap.size + 1) (by first | omega | (simp; done) | (simp; omega)); have hs2 : w.heap.size + 1 < w1.heap.size := (by omega)) | (go_at_call 20; refine (good_any _ _ _ _ _ _ _).mono ?_; rintro e w2 ⟨rfl, hb2⟩; have hz_w2 : w.heap.size + 2 ≤ w2.heap.size := (by have h_ := hb2.size; first | omega | (simp at h_; omega)); obtain ⟨hc3, hf3⟩ := bk hb2 (w.heap.size) (by first | omega | (simp; done) | (simp; omega)); have hs3 : w.heap.size < w2.heap.size := (by omega); obtain ⟨hc4, hf4⟩ := bk hb2 (w.heap.size + 1) (by first | omega | (simp; done) | (simp; omega)); have hs4 : w.heap.size + 1 < w2.heap.size := (by omega)))
    exact bodyPost_ret (v := .tuple #[.agg #[.int .i64 ep, .bool op, .int .i64 nx, .int .i64 nd, .int .i64 hv, .int .i64 bn], .int .i64 1]) (by simp [results, Try.results16, go_sem, hc1, hc2, hc3, hc4]) rfl ⟨rfl, (by repeat (first | with_reducible exact Below.refl _ _ | (with_reducible refine Below.setCell ?_ (by first | omega | (simp; done) | (simp; omega)) _) | with_reducible refine bal ?_ _ | with_reducible refine Below.drew ?_ | with_reducible refine bdn ?_ _ | with_reducible refine via ?_ (by with_reducible assumption)))⟩
  by_cases h2 : 255 < need
  · have e : raiseF ⟨ep, op, nx, nd, hv, bn⟩ need now = (⟨ep, op, nx, nd, hv, bn⟩, 1) := by (have hn : needB need = false := by (simp [needB]; omega)); simp [raiseF, hn]
    rw [e]
    dsimp only
    clear e
    go_enter Try.func16, Try.ntmps16
    go_wp2_with (first | (go_at_call 19; refine (coming_any _ _ _ _ _ _ _).mono ?_; rintro e w1 ⟨rfl, hb1⟩; have hz_w1 : w.heap.size + 2 ≤ w1.heap.size := (by have h_ := hb1.size; first | omega | (simp at h_; omega)); obtain ⟨hc1, hf1⟩ := bk hb1 (w.heap.size) (by first | omega | (simp; done) | (simp; omega)); have hs1 : w.heap.size < w1.heap.size := (by omega); obtain ⟨hc2, hf2⟩ := bk hb1 (w.heap.size + 1) (by first | omega | (simp; done) | (simp; omega)); have hs2 : w.heap.size + 1 < w1.heap.size := (by omega)) | (go_at_call 20; refine (good_any _ _ _ _ _ _ _).mono ?_; rintro e w2 ⟨rfl, hb2⟩; have hz_w2 : w.heap.size + 2 ≤ w2.heap.size := (by have h_ := hb2.size; first | omega | (simp at h_; omega)); obtain ⟨hc3, hf3⟩ := bk hb2 (w.heap.size) (by first | omega | (simp; done) | (simp; omega)); have hs3 : w.heap.size < w2.heap.size := (by omega); obtain ⟨hc4, hf4⟩ := bk hb2 (w.heap.size + 1) (by first | omega | (simp; done) | (simp; omega)); have hs4 : w.heap.size + 1 < w2.heap.size := (by omega)))
    exact bodyPost_ret (v := .tuple #[.agg #[.int .i64 ep, .bool op, .int .i64 nx, .int .i64 nd, .int .i64 hv, .int .i64 bn], .int .i64 1]) (by simp [results, Try.results16, go_sem, hc1, hc2, hc3, hc4]) rfl ⟨rfl, (by repeat (first | with_reducible exact Below.refl _ _ | (with_reducible refine Below.setCell ?_ (by first | omega | (simp; done) | (simp; omega)) _) | with_reducible refine bal ?_ _ | with_reducible refine Below.drew ?_ | with_reducible refine bdn ?_ _ | with_reducible refine via ?_ (by with_reducible assumption)))⟩
  by_cases hc : 65535 < comS ⟨ep, op, nx, nd, hv, bn⟩ + 1
  · have e : raiseF ⟨ep, op, nx, nd, hv, bn⟩ need now = (⟨ep, op, nx, nd, hv, bn⟩, 11) := by (have hn : needB need = true := by (simp [needB]; omega)); simp only [raiseF, hg, hn, Bool.and_self, if_true]; rw [if_pos hc]
    rw [e]
    dsimp only
    clear e
    go_enter Try.func16, Try.ntmps16
    go_wp2_with (first | (go_at_call 19; refine (coming_any _ _ _ _ _ _ _).mono ?_; rintro e w1 ⟨rfl, hb1⟩; have hz_w1 : w.heap.size + 2 ≤ w1.heap.size := (by have h_ := hb1.size; first | omega | (simp at h_; omega)); obtain ⟨hc1, hf1⟩ := bk hb1 (w.heap.size) (by first | omega | (simp; done) | (simp; omega)); have hs1 : w.heap.size < w1.heap.size := (by omega); obtain ⟨hc2, hf2⟩ := bk hb1 (w.heap.size + 1) (by first | omega | (simp; done) | (simp; omega)); have hs2 : w.heap.size + 1 < w1.heap.size := (by omega)) | (go_at_call 20; refine (good_any _ _ _ _ _ _ _).mono ?_; rintro e w2 ⟨rfl, hb2⟩; have hz_w2 : w.heap.size + 2 ≤ w2.heap.size := (by have h_ := hb2.size; first | omega | (simp at h_; omega)); obtain ⟨hc3, hf3⟩ := bk hb2 (w.heap.size) (by first | omega | (simp; done) | (simp; omega)); have hs3 : w.heap.size < w2.heap.size := (by omega); obtain ⟨hc4, hf4⟩ := bk hb2 (w.heap.size + 1) (by first | omega | (simp; done) | (simp; omega)); have hs4 : w.heap.size + 1 < w2.heap.size := (by omega)))
    exact bodyPost_ret (v := .tuple #[.agg #[.int .i64 ep, .bool op, .int .i64 nx, .int .i64 nd, .int .i64 hv, .int .i64 bn], .int .i64 11]) (by simp [results, Try.results16, go_sem, hc1, hc2, hc3, hc4]) rfl ⟨rfl, (by repeat (first | with_reducible exact Below.refl _ _ | (with_reducible refine Below.setCell ?_ (by first | omega | (simp; done) | (simp; omega)) _) | with_reducible refine bal ?_ _ | with_reducible refine Below.drew ?_ | with_reducible refine bdn ?_ _ | with_reducible refine via ?_ (by with_reducible assumption)))⟩
  by_cases h3 : need = 0
  · subst h3
    have e : raiseF ⟨ep, op, nx, nd, hv, bn⟩ 0 now = (⟨comS ⟨ep, op, nx, nd, hv, bn⟩ + 1, false, 0, 0, 0, 0⟩, 0) := by (have hn : needB 0 = true := by decide); simp only [raiseF, hg, hn, Bool.and_self, if_true]; rw [if_neg hc]
    rw [e]
    dsimp only
    clear e
    go_enter Try.func16, Try.ntmps16
    go_wp2_with (first | (go_at_call 19; refine (coming_any _ _ _ _ _ _ _).mono ?_; rintro e w1 ⟨rfl, hb1⟩; have hz_w1 : w.heap.size + 2 ≤ w1.heap.size := (by have h_ := hb1.size; first | omega | (simp at h_; omega)); obtain ⟨hc1, hf1⟩ := bk hb1 (w.heap.size) (by first | omega | (simp; done) | (simp; omega)); have hs1 : w.heap.size < w1.heap.size := (by omega); obtain ⟨hc2, hf2⟩ := bk hb1 (w.heap.size + 1) (by first | omega | (simp; done) | (simp; omega)); have hs2 : w.heap.size + 1 < w1.heap.size := (by omega)) | (go_at_call 20; refine (good_any _ _ _ _ _ _ _).mono ?_; rintro e w2 ⟨rfl, hb2⟩; have hz_w2 : w.heap.size + 2 ≤ w2.heap.size := (by have h_ := hb2.size; first | omega | (simp at h_; omega)); obtain ⟨hc3, hf3⟩ := bk hb2 (w.heap.size) (by first | omega | (simp; done) | (simp; omega)); have hs3 : w.heap.size < w2.heap.size := (by omega); obtain ⟨hc4, hf4⟩ := bk hb2 (w.heap.size + 1) (by first | omega | (simp; done) | (simp; omega)); have hs4 : w.heap.size + 1 < w2.heap.size := (by omega)))
    exact bodyPost_ret (v := .tuple #[.agg #[.int .i64 (comS ⟨ep, op, nx, nd, hv, bn⟩ + 1), .bool false, .int .i64 0, .int .i64 0, .int .i64 0, .int .i64 0], .int .i64 0]) (by simp [results, Try.results16, go_sem, hc1, hc2, hc3, hc4]) rfl ⟨rfl, (by repeat (first | with_reducible exact Below.refl _ _ | (with_reducible refine Below.setCell ?_ (by first | omega | (simp; done) | (simp; omega)) _) | with_reducible refine bal ?_ _ | with_reducible refine Below.drew ?_ | with_reducible refine bdn ?_ _ | with_reducible refine via ?_ (by with_reducible assumption)))⟩
  · have e : raiseF ⟨ep, op, nx, nd, hv, bn⟩ need now = (⟨ep, true, comS ⟨ep, op, nx, nd, hv, bn⟩ + 1, need, 0, now⟩, 0) := by (have hn : needB need = true := by (simp [needB]; omega)); simp only [raiseF, hg, hn, Bool.and_self, if_true]; rw [if_neg hc, if_neg h3]
    rw [e]
    dsimp only
    clear e
    go_enter Try.func16, Try.ntmps16
    go_wp2_with (first | (go_at_call 19; refine (coming_any _ _ _ _ _ _ _).mono ?_; rintro e w1 ⟨rfl, hb1⟩; have hz_w1 : w.heap.size + 2 ≤ w1.heap.size := (by have h_ := hb1.size; first | omega | (simp at h_; omega)); obtain ⟨hc1, hf1⟩ := bk hb1 (w.heap.size) (by first | omega | (simp; done) | (simp; omega)); have hs1 : w.heap.size < w1.heap.size := (by omega); obtain ⟨hc2, hf2⟩ := bk hb1 (w.heap.size + 1) (by first | omega | (simp; done) | (simp; omega)); have hs2 : w.heap.size + 1 < w1.heap.size := (by omega)) | (go_at_call 20; refine (good_any _ _ _ _ _ _ _).mono ?_; rintro e w2 ⟨rfl, hb2⟩; have hz_w2 : w.heap.size + 2 ≤ w2.heap.size := (by have h_ := hb2.size; first | omega | (simp at h_; omega)); obtain ⟨hc3, hf3⟩ := bk hb2 (w.heap.size) (by first | omega | (simp; done) | (simp; omega)); have hs3 : w.heap.size < w2.heap.size := (by omega); obtain ⟨hc4, hf4⟩ := bk hb2 (w.heap.size + 1) (by first | omega | (simp; done) | (simp; omega)); have hs4 : w.heap.size + 1 < w2.heap.size := (by omega)))
    exact bodyPost_ret (v := .tuple #[.agg #[.int .i64 ep, .bool true, .int .i64 (comS ⟨ep, op, nx, nd, hv, bn⟩ + 1), .int .i64 need, .int .i64 0, .int .i64 now], .int .i64 0]) (by simp [results, Try.results16, go_sem, hc1, hc2, hc3, hc4]) rfl ⟨rfl, (by repeat (first | with_reducible exact Below.refl _ _ | (with_reducible refine Below.setCell ?_ (by first | omega | (simp; done) | (simp; omega)) _) | with_reducible refine bal ?_ _ | with_reducible refine Below.drew ?_ | with_reducible refine bdn ?_ _ | with_reducible refine via ?_ (by with_reducible assumption)))⟩

end Go.Proofs.Ytcaipfdnadlkdaa

namespace Go.Proofs.Ytcaipfdnadlkdaa
open Go.RowKit
set_option linter.unusedSimpArgs false
set_option linter.unusedVariables false

theorem pow_small (i : Int) (h0 : 0 ≤ i) (h1 : i < 8) : wrap64 (2 ^ i.toNat) = 2 ^ i.toNat := by
  have h : i = 0 ∨ i = 1 ∨ i = 2 ∨ i = 3 ∨ i = 4 ∨ i = 5 ∨ i = 6 ∨ i = 7 := by omega
  rcases h with rfl | rfl | rfl | rfl | rfl | rfl | rfl | rfl <;> first | rfl | (simp [wrap64]; done) | decide +kernel
def joinF (s : St) (i : Int) : St × Int :=
  if goodS s && slB i then (if s.op then (if bitO s.nd i then (s, 7) else (⟨s.ep, s.op, s.nx, bits .or .i64 s.nd (2 ^ i.toNat), s.hv, s.bn⟩, 0)) else (s, 0)) else (s, 1)
def ackF (s : St) (i e : Int) : St × Bool × Int :=
  if goodS s && slB i then (if s.op && s.nx == e then (if bitZ s.nd i then (s, false, 6) else if bitO s.hv i then (s, false, 7)
    else if bits .or .i64 s.hv (2 ^ i.toNat) == s.nd then (⟨s.nx, false, 0, 0, 0, 0⟩, true, 0) else (⟨s.ep, s.op, s.nx, s.nd, bits .or .i64 s.hv (2 ^ i.toNat), s.bn⟩, false, 0)) else (s, false, 12)) else (s, false, 1)
def longB (b now : Int) : Bool := decide (b ≤ now) && decide (200 ≤ IntKind.u64.wrap (IntKind.u64.wrap now - IntKind.u64.wrap b))
def lateF (s : St) (now : Int) : Int := if goodS s && s.op && longB s.bn now then bits .andNot .i64 s.nd s.hv else 0

set_option maxHeartbeats 2000000 in
theorem join_any (ep : Int) (op : Bool) (nx nd hv bn : Int) (i : Int) (w : World) : Calls Try.prog 18 #[.agg #[.int .i64 ep, .bool op, .int .i64 nx, .int .i64 nd, .int .i64 hv, .int .i64 bn], .int .i64 i] w fun x w' => x = .returned (.tuple #[.agg #[.int .i64 ((joinF ⟨ep, op, nx, nd, hv, bn⟩ i).1).ep, .bool ((joinF ⟨ep, op, nx, nd, hv, bn⟩ i).1).op, .int .i64 ((joinF ⟨ep, op, nx, nd, hv, bn⟩ i).1).nx, .int .i64 ((joinF ⟨ep, op, nx, nd, hv, bn⟩ i).1).nd, .int .i64 ((joinF ⟨ep, op, nx, nd, hv, bn⟩ i).1).hv, .int .i64 ((joinF ⟨ep, op, nx, nd, hv, bn⟩ i).1).bn], .int .i64 (joinF ⟨ep, op, nx, nd, hv, bn⟩ i).2]) ∧ Below w.heap.size w w' := by
  cases hg : goodS ⟨ep, op, nx, nd, hv, bn⟩
  · have e : joinF ⟨ep, op, nx, nd, hv, bn⟩ i = (⟨ep, op, nx, nd, hv, bn⟩, 1) := by simp [joinF, hg]
    rw [e]
    dsimp only
    clear e
    go_enter Try.func18, Try.ntmps18
    go_wp2_with (first | (go_at_call 20; refine (good_any _ _ _ _ _ _ _).mono ?_; rintro e w2 ⟨rfl, hb2⟩; have hz_w2 : w.heap.size + 2 ≤ w2.heap.size := (by have h_ := hb2.size; first | omega | (simp at h_; omega)); obtain ⟨hc1, hf1⟩ := bk hb2 (w.heap.size) (by first | omega | (simp; done) | (simp; omega)); have hs1 : w.heap.size < w2.heap.size := (by omega); obtain ⟨hc2, hf2⟩ := bk hb2 (w.heap.size + 1) (by first | omega | (simp; done) | (simp; omega)); have hs2 : w.heap.size + 1 < w2.heap.size := (by omega)) | (go_at_call 57; refine (slot_any _ _).mono ?_; rintro e w' ⟨rfl, rfl⟩))
    exact bodyPost_ret (v := .tuple #[.agg #[.int .i64 ep, .bool op, .int .i64 nx, .int .i64 nd, .int .i64 hv, .int .i64 bn], .int .i64 1]) (by simp [results, Try.results18, go_sem, hc1, hc2]) rfl ⟨rfl, (by repeat (first | with_reducible exact Below.refl _ _ | (with_reducible refine Below.setCell ?_ (by first | omega | (simp; done) | (simp; omega)) _) | with_reducible refine bal ?_ _ | with_reducible refine Below.drew ?_ | with_reducible refine bdn ?_ _ | with_reducible refine via ?_ (by with_reducible assumption)))⟩
  cases hs : slB i
  · have e : joinF ⟨ep, op, nx, nd, hv, bn⟩ i = (⟨ep, op, nx, nd, hv, bn⟩, 1) := by simp [joinF, hs]
    rw [e]
    dsimp only
    clear e
    go_enter Try.func18, Try.ntmps18
    go_wp2_with (first | (go_at_call 20; refine (good_any _ _ _ _ _ _ _).mono ?_; rintro e w2 ⟨rfl, hb2⟩; have hz_w2 : w.heap.size + 2 ≤ w2.heap.size := (by have h_ := hb2.size; first | omega | (simp at h_; omega)); obtain ⟨hc1, hf1⟩ := bk hb2 (w.heap.size) (by first | omega | (simp; done) | (simp; omega)); have hs1 : w.heap.size < w2.heap.size := (by omega); obtain ⟨hc2, hf2⟩ := bk hb2 (w.heap.size + 1) (by first | omega | (simp; done) | (simp; omega)); have hs2 : w.heap.size + 1 < w2.heap.size := (by omega)) | (go_at_call 57; refine (slot_any _ _).mono ?_; rintro e w' ⟨rfl, rfl⟩))
    exact bodyPost_ret (v := .tuple #[.agg #[.int .i64 ep, .bool op, .int .i64 nx, .int .i64 nd, .int .i64 hv, .int .i64 bn], .int .i64 1]) (by simp [results, Try.results18, go_sem, hc1, hc2]) rfl ⟨rfl, (by repeat (first | with_reducible exact Below.refl _ _ | (with_reducible refine Below.setCell ?_ (by first | omega | (simp; done) | (simp; omega)) _) | with_reducible refine bal ?_ _ | with_reducible refine Below.drew ?_ | with_reducible refine bdn ?_ _ | with_reducible refine via ?_ (by with_reducible assumption)))⟩
  have hs' : 0 ≤ i ∧ i < 8 := by simpa [slB] using hs
  obtain ⟨i0, i1⟩ := hs'
  have hp := pow_small i i0 i1
  cases op
  · have e : joinF ⟨ep, false, nx, nd, hv, bn⟩ i = (⟨ep, false, nx, nd, hv, bn⟩, 0) := by simp [joinF, hg, hs]
    rw [e]
    dsimp only
    clear e
    go_enter Try.func18, Try.ntmps18
    go_wp2_with (first | (go_at_call 20; refine (good_any _ _ _ _ _ _ _).mono ?_; rintro e w2 ⟨rfl, hb2⟩; have hz_w2 : w.heap.size + 2 ≤ w2.heap.size := (by have h_ := hb2.size; first | omega | (simp at h_; omega)); obtain ⟨hc1, hf1⟩ := bk hb2 (w.heap.size) (by first | omega | (simp; done) | (simp; omega)); have hs1 : w.heap.size < w2.heap.size := (by omega); obtain ⟨hc2, hf2⟩ := bk hb2 (w.heap.size + 1) (by first | omega | (simp; done) | (simp; omega)); have hs2 : w.heap.size + 1 < w2.heap.size := (by omega)) | (go_at_call 57; refine (slot_any _ _).mono ?_; rintro e w' ⟨rfl, rfl⟩))
    exact bodyPost_ret (v := .tuple #[.agg #[.int .i64 ep, .bool false, .int .i64 nx, .int .i64 nd, .int .i64 hv, .int .i64 bn], .int .i64 0]) (by simp [results, Try.results18, go_sem, hc1, hc2]) rfl ⟨rfl, (by repeat (first | with_reducible exact Below.refl _ _ | (with_reducible refine Below.setCell ?_ (by first | omega | (simp; done) | (simp; omega)) _) | with_reducible refine bal ?_ _ | with_reducible refine Below.drew ?_ | with_reducible refine bdn ?_ _ | with_reducible refine via ?_ (by with_reducible assumption)))⟩
  cases hb : bitO nd i
  · have hb' : (bits .and .i64 (nd / 2 ^ i.toNat) 1 == 1) = false := hb
    have e : joinF ⟨ep, true, nx, nd, hv, bn⟩ i = (⟨ep, true, nx, bits .or .i64 nd (2 ^ i.toNat), hv, bn⟩, 0) := by simp [joinF, hg, hs, hb]
    rw [e]
    dsimp only
    clear e
    go_enter Try.func18, Try.ntmps18
    go_wp2_with (first | (go_at_call 20; refine (good_any _ _ _ _ _ _ _).mono ?_; rintro e w2 ⟨rfl, hb2⟩; have hz_w2 : w.heap.size + 2 ≤ w2.heap.size := (by have h_ := hb2.size; first | omega | (simp at h_; omega)); obtain ⟨hc1, hf1⟩ := bk hb2 (w.heap.size) (by first | omega | (simp; done) | (simp; omega)); have hs1 : w.heap.size < w2.heap.size := (by omega); obtain ⟨hc2, hf2⟩ := bk hb2 (w.heap.size + 1) (by first | omega | (simp; done) | (simp; omega)); have hs2 : w.heap.size + 1 < w2.heap.size := (by omega)) | (go_at_call 57; refine (slot_any _ _).mono ?_; rintro e w' ⟨rfl, rfl⟩))
    go_region
    all_goals go_wp2_with fail
    all_goals exact bodyPost_ret (v := .tuple #[.agg #[.int .i64 ep, .bool true, .int .i64 nx, .int .i64 (bits .or .i64 nd (2 ^ i.toNat)), .int .i64 hv, .int .i64 bn], .int .i64 0]) (by simp [results, Try.results18, go_sem, hc1, hc2]) rfl ⟨rfl, (by repeat (first | with_reducible exact Below.refl _ _ | (with_reducible refine Below.setCell ?_ (by first | omega | (simp; done) | (simp; omega)) _) | with_reducible refine bal ?_ _ | with_reducible refine Below.drew ?_ | with_reducible refine bdn ?_ _ | with_reducible refine via ?_ (by with_reducible assumption)))⟩
  · have hb' : (bits .and .i64 (nd / 2 ^ i.toNat) 1 == 1) = true := hb
    have e : joinF ⟨ep, true, nx, nd, hv, bn⟩ i = (⟨ep, true, nx, nd, hv, bn⟩, 7) := by simp [joinF, hg, hs, hb]
    rw [e]
    dsimp only
    clear e
    go_enter Try.func18, Try.ntmps18
    go_wp2_with (first | (go_at_call 20; refine (good_any _ _ _ _ _ _ _).mono ?_; rintro e w2 ⟨rfl, hb2⟩; have hz_w2 : w.heap.size + 2 ≤ w2.heap.size := (by have h_ := hb2.size; first | omega | (simp at h_; omega)); obtain ⟨hc1, hf1⟩ := bk hb2 (w.heap.size) (by first | omega | (simp; done) | (simp; omega)); have hs1 : w.heap.size < w2.heap.size := (by omega); obtain ⟨hc2, hf2⟩ := bk hb2 (w.heap.size + 1) (by first | omega | (simp; done) | (simp; omega)); have hs2 : w.heap.size + 1 < w2.heap.size := (by omega)) | (go_at_call 57; refine (slot_any _ _).mono ?_; rintro e w' ⟨rfl, rfl⟩))
    exact bodyPost_ret (v := .tuple #[.agg #[.int .i64 ep, .bool true, .int .i64 nx, .int .i64 nd, .int .i64 hv, .int .i64 bn], .int .i64 7]) (by simp [results, Try.results18, go_sem, hc1, hc2]) rfl ⟨rfl, (by repeat (first | with_reducible exact Below.refl _ _ | (with_reducible refine Below.setCell ?_ (by first | omega | (simp; done) | (simp; omega)) _) | with_reducible refine bal ?_ _ | with_reducible refine Below.drew ?_ | with_reducible refine bdn ?_ _ | with_reducible refine via ?_ (by with_reducible assumption)))⟩

end Go.Proofs.Ytcaipfdnadlkdaa

namespace Go.Proofs.Ytcaipfdnadlkdaa
open Go.RowKit
set_option linter.unusedSimpArgs false
set_option linter.unusedVariables false

set_option maxHeartbeats 4000000 in
theorem ack_any (ep : Int) (op : Bool) (nx nd hv bn : Int) (i e : Int) (w : World) : Calls Try.prog 17 #[.agg #[.int .i64 ep, .bool op, .int .i64 nx, .int .i64 nd, .int .i64 hv, .int .i64 bn], .int .i64 i, .int .i64 e] w fun x w' => x = .returned (.tuple #[.agg #[.int .i64 ((ackF ⟨ep, op, nx, nd, hv, bn⟩ i e).1).ep, .bool ((ackF ⟨ep, op, nx, nd, hv, bn⟩ i e).1).op, .int .i64 ((ackF ⟨ep, op, nx, nd, hv, bn⟩ i e).1).nx, .int .i64 ((ackF ⟨ep, op, nx, nd, hv, bn⟩ i e).1).nd, .int .i64 ((ackF ⟨ep, op, nx, nd, hv, bn⟩ i e).1).hv, .int .i64 ((ackF ⟨ep, op, nx, nd, hv, bn⟩ i e).1).bn], .bool (ackF ⟨ep, op, nx, nd, hv, bn⟩ i e).2.1, .int .i64 (ackF ⟨ep, op, nx, nd, hv, bn⟩ i e).2.2]) ∧ Below w.heap.size w w' := by
  cases hg : goodS ⟨ep, op, nx, nd, hv, bn⟩
  · have e : ackF ⟨ep, op, nx, nd, hv, bn⟩ i e = (⟨ep, op, nx, nd, hv, bn⟩, false, 1) := by simp [ackF, hg]
    rw [e]
    dsimp only
    clear e
    go_enter Try.func17, Try.ntmps17
    go_wp2_with (first | (go_at_call 20; refine (good_any _ _ _ _ _ _ _).mono ?_; rintro e w2 ⟨rfl, hb2⟩; have hz_w2 : w.heap.size + 2 ≤ w2.heap.size := (by have h_ := hb2.size; first | omega | (simp at h_; omega)); obtain ⟨hc1, hf1⟩ := bk hb2 (w.heap.size) (by first | omega | (simp; done) | (simp; omega)); have hs1 : w.heap.size < w2.heap.size := (by omega); obtain ⟨hc2, hf2⟩ := bk hb2 (w.heap.size + 1) (by first | omega | (simp; done) | (simp; omega)); have hs2 : w.heap.size + 1 < w2.heap.size := (by omega)) | (go_at_call 57; refine (slot_any _ _).mono ?_; rintro e w' ⟨rfl, rfl⟩))
    exact bodyPost_ret (v := .tuple #[.agg #[.int .i64 ep, .bool op, .int .i64 nx, .int .i64 nd, .int .i64 hv, .int .i64 bn], .bool false, .int .i64 1]) (by simp [results, Try.results17, go_sem, hc1, hc2]) rfl ⟨rfl, (by repeat (first | with_reducible exact Below.refl _ _ | (with_reducible refine Below.setCell ?_ (by first | omega | (simp; done) | (simp; omega)) _) | with_reducible refine bal ?_ _ | with_reducible refine Below.drew ?_ | with_reducible refine bdn ?_ _ | with_reducible refine via ?_ (by with_reducible assumption)))⟩
  cases hs : slB i
  · have e : ackF ⟨ep, op, nx, nd, hv, bn⟩ i e = (⟨ep, op, nx, nd, hv, bn⟩, false, 1) := by simp [ackF, hs]
    rw [e]
    dsimp only
    clear e
    go_enter Try.func17, Try.ntmps17
    go_wp2_with (first | (go_at_call 20; refine (good_any _ _ _ _ _ _ _).mono ?_; rintro e w2 ⟨rfl, hb2⟩; have hz_w2 : w.heap.size + 2 ≤ w2.heap.size := (by have h_ := hb2.size; first | omega | (simp at h_; omega)); obtain ⟨hc1, hf1⟩ := bk hb2 (w.heap.size) (by first | omega | (simp; done) | (simp; omega)); have hs1 : w.heap.size < w2.heap.size := (by omega); obtain ⟨hc2, hf2⟩ := bk hb2 (w.heap.size + 1) (by first | omega | (simp; done) | (simp; omega)); have hs2 : w.heap.size + 1 < w2.heap.size := (by omega)) | (go_at_call 57; refine (slot_any _ _).mono ?_; rintro e w' ⟨rfl, rfl⟩))
    exact bodyPost_ret (v := .tuple #[.agg #[.int .i64 ep, .bool op, .int .i64 nx, .int .i64 nd, .int .i64 hv, .int .i64 bn], .bool false, .int .i64 1]) (by simp [results, Try.results17, go_sem, hc1, hc2]) rfl ⟨rfl, (by repeat (first | with_reducible exact Below.refl _ _ | (with_reducible refine Below.setCell ?_ (by first | omega | (simp; done) | (simp; omega)) _) | with_reducible refine bal ?_ _ | with_reducible refine Below.drew ?_ | with_reducible refine bdn ?_ _ | with_reducible refine via ?_ (by with_reducible assumption)))⟩
  have hs' : 0 ≤ i ∧ i < 8 := by simpa [slB] using hs
  obtain ⟨i0, i1⟩ := hs'
  have hp := pow_small i i0 i1
  cases op
  · have e : ackF ⟨ep, false, nx, nd, hv, bn⟩ i e = (⟨ep, false, nx, nd, hv, bn⟩, false, 12) := by simp [ackF, hg, hs]
    rw [e]
    dsimp only
    clear e
    go_enter Try.func17, Try.ntmps17
    go_wp2_with (first | (go_at_call 20; refine (good_any _ _ _ _ _ _ _).mono ?_; rintro e w2 ⟨rfl, hb2⟩; have hz_w2 : w.heap.size + 2 ≤ w2.heap.size := (by have h_ := hb2.size; first | omega | (simp at h_; omega)); obtain ⟨hc1, hf1⟩ := bk hb2 (w.heap.size) (by first | omega | (simp; done) | (simp; omega)); have hs1 : w.heap.size < w2.heap.size := (by omega); obtain ⟨hc2, hf2⟩ := bk hb2 (w.heap.size + 1) (by first | omega | (simp; done) | (simp; omega)); have hs2 : w.heap.size + 1 < w2.heap.size := (by omega)) | (go_at_call 57; refine (slot_any _ _).mono ?_; rintro e w' ⟨rfl, rfl⟩))
    exact bodyPost_ret (v := .tuple #[.agg #[.int .i64 ep, .bool false, .int .i64 nx, .int .i64 nd, .int .i64 hv, .int .i64 bn], .bool false, .int .i64 12]) (by simp [results, Try.results17, go_sem, hc1, hc2]) rfl ⟨rfl, (by repeat (first | with_reducible exact Below.refl _ _ | (with_reducible refine Below.setCell ?_ (by first | omega | (simp; done) | (simp; omega)) _) | with_reducible refine bal ?_ _ | with_reducible refine Below.drew ?_ | with_reducible refine bdn ?_ _ | with_reducible refine via ?_ (by with_reducible assumption)))⟩
  cases hx : nx != e
  case true =>
    have e : ackF ⟨ep, true, nx, nd, hv, bn⟩ i e = (⟨ep, true, nx, nd, hv, bn⟩, false, 12) := by (have hxx : (nx == e) = false := by simpa [bne] using hx); simp only [ackF, hg, hs, hxx, Bool.and_self, Bool.and_false, if_true, Bool.false_eq_true, if_false]
    rw [e]
    dsimp only
    clear e
    go_enter Try.func17, Try.ntmps17
    go_wp2_with (first | (go_at_call 20; refine (good_any _ _ _ _ _ _ _).mono ?_; rintro e w2 ⟨rfl, hb2⟩; have hz_w2 : w.heap.size + 2 ≤ w2.heap.size := (by have h_ := hb2.size; first | omega | (simp at h_; omega)); obtain ⟨hc1, hf1⟩ := bk hb2 (w.heap.size) (by first | omega | (simp; done) | (simp; omega)); have hs1 : w.heap.size < w2.heap.size := (by omega); obtain ⟨hc2, hf2⟩ := bk hb2 (w.heap.size + 1) (by first | omega | (simp; done) | (simp; omega)); have hs2 : w.heap.size + 1 < w2.heap.size := (by omega)) | (go_at_call 57; refine (slot_any _ _).mono ?_; rintro e w' ⟨rfl, rfl⟩))
    exact bodyPost_ret (v := .tuple #[.agg #[.int .i64 ep, .bool true, .int .i64 nx, .int .i64 nd, .int .i64 hv, .int .i64 bn], .bool false, .int .i64 12]) (by simp [results, Try.results17, go_sem, hc1, hc2]) rfl ⟨rfl, (by repeat (first | with_reducible exact Below.refl _ _ | (with_reducible refine Below.setCell ?_ (by first | omega | (simp; done) | (simp; omega)) _) | with_reducible refine bal ?_ _ | with_reducible refine Below.drew ?_ | with_reducible refine bdn ?_ _ | with_reducible refine via ?_ (by with_reducible assumption)))⟩
  cases hb : bitZ nd i
  case true =>
    have hb' : (bits .and .i64 (nd / 2 ^ i.toNat) 1 == 0) = true := hb
    have e : ackF ⟨ep, true, nx, nd, hv, bn⟩ i e = (⟨ep, true, nx, nd, hv, bn⟩, false, 6) := by (have hxx : (nx == e) = true := by simpa [bne] using hx); simp only [ackF, hg, hs, hxx, Bool.and_self, if_true, hb]
    rw [e]
    dsimp only
    clear e
    go_enter Try.func17, Try.ntmps17
    go_wp2_with (first | (go_at_call 20; refine (good_any _ _ _ _ _ _ _).mono ?_; rintro e w2 ⟨rfl, hb2⟩; have hz_w2 : w.heap.size + 2 ≤ w2.heap.size := (by have h_ := hb2.size; first | omega | (simp at h_; omega)); obtain ⟨hc1, hf1⟩ := bk hb2 (w.heap.size) (by first | omega | (simp; done) | (simp; omega)); have hs1 : w.heap.size < w2.heap.size := (by omega); obtain ⟨hc2, hf2⟩ := bk hb2 (w.heap.size + 1) (by first | omega | (simp; done) | (simp; omega)); have hs2 : w.heap.size + 1 < w2.heap.size := (by omega)) | (go_at_call 57; refine (slot_any _ _).mono ?_; rintro e w' ⟨rfl, rfl⟩))
    exact bodyPost_ret (v := .tuple #[.agg #[.int .i64 ep, .bool true, .int .i64 nx, .int .i64 nd, .int .i64 hv, .int .i64 bn], .bool false, .int .i64 6]) (by simp [results, Try.results17, go_sem, hc1, hc2]) rfl ⟨rfl, (by repeat (first | with_reducible exact Below.refl _ _ | (with_reducible refine Below.setCell ?_ (by first | omega | (simp; done) | (simp; omega)) _) | with_reducible refine bal ?_ _ | with_reducible refine Below.drew ?_ | with_reducible refine bdn ?_ _ | with_reducible refine via ?_ (by with_reducible assumption)))⟩
  have hb' : (bits .and .i64 (nd / 2 ^ i.toNat) 1 == 0) = false := hb
  cases hd : bitO hv i
  case true =>
    have hd' : (bits .and .i64 (hv / 2 ^ i.toNat) 1 == 1) = true := hd
    have e : ackF ⟨ep, true, nx, nd, hv, bn⟩ i e = (⟨ep, true, nx, nd, hv, bn⟩, false, 7) := by (have hxx : (nx == e) = true := by simpa [bne] using hx); simp only [ackF, hg, hs, hxx, Bool.and_self, if_true, hb, hd, Bool.false_eq_true, if_false]
    rw [e]
    dsimp only
    clear e
    go_enter Try.func17, Try.ntmps17
    go_wp2_with (first | (go_at_call 20; refine (good_any _ _ _ _ _ _ _).mono ?_; rintro e w2 ⟨rfl, hb2⟩; have hz_w2 : w.heap.size + 2 ≤ w2.heap.size := (by have h_ := hb2.size; first | omega | (simp at h_; omega)); obtain ⟨hc1, hf1⟩ := bk hb2 (w.heap.size) (by first | omega | (simp; done) | (simp; omega)); have hs1 : w.heap.size < w2.heap.size := (by omega); obtain ⟨hc2, hf2⟩ := bk hb2 (w.heap.size + 1) (by first | omega | (simp; done) | (simp; omega)); have hs2 : w.heap.size + 1 < w2.heap.size := (by omega)) | (go_at_call 57; refine (slot_any _ _).mono ?_; rintro e w' ⟨rfl, rfl⟩))
    exact bodyPost_ret (v := .tuple #[.agg #[.int .i64 ep, .bool true, .int .i64 nx, .int .i64 nd, .int .i64 hv, .int .i64 bn], .bool false, .int .i64 7]) (by simp [results, Try.results17, go_sem, hc1, hc2]) rfl ⟨rfl, (by repeat (first | with_reducible exact Below.refl _ _ | (with_reducible refine Below.setCell ?_ (by first | omega | (simp; done) | (simp; omega)) _) | with_reducible refine bal ?_ _ | with_reducible refine Below.drew ?_ | with_reducible refine bdn ?_ _ | with_reducible refine via ?_ (by with_reducible assumption)))⟩
  have hd' : (bits .and .i64 (hv / 2 ^ i.toNat) 1 == 1) = false := hd
  cases hq : bits .or .i64 hv (2 ^ i.toNat) == nd
  · have e : ackF ⟨ep, true, nx, nd, hv, bn⟩ i e = (⟨ep, true, nx, nd, bits .or .i64 hv (2 ^ i.toNat), bn⟩, false, 0) := by (have hxx : (nx == e) = true := by simpa [bne] using hx); simp only [ackF, hg, hs, hxx, Bool.and_self, if_true, hb, hd, hq, Bool.false_eq_true, if_false]
    rw [e]
    dsimp only
    clear e
    go_enter Try.func17, Try.ntmps17
    go_wp2_with (first | (go_at_call 20; refine (good_any _ _ _ _ _ _ _).mono ?_; rintro e w2 ⟨rfl, hb2⟩; have hz_w2 : w.heap.size + 2 ≤ w2.heap.size := (by have h_ := hb2.size; first | omega | (simp at h_; omega)); obtain ⟨hc1, hf1⟩ := bk hb2 (w.heap.size) (by first | omega | (simp; done) | (simp; omega)); have hs1 : w.heap.size < w2.heap.size := (by omega); obtain ⟨hc2, hf2⟩ := bk hb2 (w.heap.size + 1) (by first | omega | (simp; done) | (simp; omega)); have hs2 : w.heap.size + 1 < w2.heap.size := (by omega)) | (go_at_call 57; refine (slot_any _ _).mono ?_; rintro e w' ⟨rfl, rfl⟩))
    go_region
    all_goals go_wp2_with fail
    all_goals exact bodyPost_ret (v := .tuple #[.agg #[.int .i64 ep, .bool true, .int .i64 nx, .int .i64 nd, .int .i64 (bits .or .i64 hv (2 ^ i.toNat)), .int .i64 bn], .bool false, .int .i64 0]) (by simp [results, Try.results17, go_sem, hc1, hc2]) rfl ⟨rfl, (by repeat (first | with_reducible exact Below.refl _ _ | (with_reducible refine Below.setCell ?_ (by first | omega | (simp; done) | (simp; omega)) _) | with_reducible refine bal ?_ _ | with_reducible refine Below.drew ?_ | with_reducible refine bdn ?_ _ | with_reducible refine via ?_ (by with_reducible assumption)))⟩
  · have e : ackF ⟨ep, true, nx, nd, hv, bn⟩ i e = (⟨nx, false, 0, 0, 0, 0⟩, true, 0) := by (have hxx : (nx == e) = true := by simpa [bne] using hx); simp only [ackF, hg, hs, hxx, Bool.and_self, if_true, hb, hd, hq, Bool.false_eq_true, if_false]
    rw [e]
    dsimp only
    clear e
    go_enter Try.func17, Try.ntmps17
    go_wp2_with (first | (go_at_call 20; refine (good_any _ _ _ _ _ _ _).mono ?_; rintro e w2 ⟨rfl, hb2⟩; have hz_w2 : w.heap.size + 2 ≤ w2.heap.size := (by have h_ := hb2.size; first | omega | (simp at h_; omega)); obtain ⟨hc1, hf1⟩ := bk hb2 (w.heap.size) (by first | omega | (simp; done) | (simp; omega)); have hs1 : w.heap.size < w2.heap.size := (by omega); obtain ⟨hc2, hf2⟩ := bk hb2 (w.heap.size + 1) (by first | omega | (simp; done) | (simp; omega)); have hs2 : w.heap.size + 1 < w2.heap.size := (by omega)) | (go_at_call 57; refine (slot_any _ _).mono ?_; rintro e w' ⟨rfl, rfl⟩))
    go_region
    all_goals go_wp2_with fail
    all_goals exact bodyPost_ret (v := .tuple #[.agg #[.int .i64 nx, .bool false, .int .i64 0, .int .i64 0, .int .i64 0, .int .i64 0], .bool true, .int .i64 0]) (by simp [results, Try.results17, go_sem, hc1, hc2]) rfl ⟨rfl, (by repeat (first | with_reducible exact Below.refl _ _ | (with_reducible refine Below.setCell ?_ (by first | omega | (simp; done) | (simp; omega)) _) | with_reducible refine bal ?_ _ | with_reducible refine Below.drew ?_ | with_reducible refine bdn ?_ _ | with_reducible refine via ?_ (by with_reducible assumption)))⟩

end Go.Proofs.Ytcaipfdnadlkdaa

namespace Go.Proofs.Ytcaipfdnadlkdaa
open Go.RowKit
set_option linter.unusedSimpArgs false
set_option linter.unusedVariables false

set_option maxHeartbeats 2000000 in
theorem late_any (ep : Int) (op : Bool) (nx nd hv bn : Int) (now : Int) (w : World) : Calls Try.prog 21 #[.agg #[.int .i64 ep, .bool op, .int .i64 nx, .int .i64 nd, .int .i64 hv, .int .i64 bn], .int .i64 now] w fun x w' => x = .returned (.int .i64 (lateF ⟨ep, op, nx, nd, hv, bn⟩ now)) ∧ Below w.heap.size w w' := by
  cases hg : goodS ⟨ep, op, nx, nd, hv, bn⟩
  · have e : lateF ⟨ep, op, nx, nd, hv, bn⟩ now = 0 := by simp [lateF, hg]
    rw [e]
    clear e
    go_enter Try.func21, Try.ntmps21
    go_wp2_with (first | (go_at_call 20; refine (good_any _ _ _ _ _ _ _).mono ?_; rintro e w2 ⟨rfl, hb2⟩; have hz_w2 : w.heap.size + 1 ≤ w2.heap.size := (by have h_ := hb2.size; first | omega | (simp at h_; omega)); obtain ⟨hc1, hf1⟩ := bk hb2 (w.heap.size) (by first | omega | (simp; done) | (simp; omega)); have hs1 : w.heap.size < w2.heap.size := (by omega)))
    go_ret
    exact ⟨rfl, (by repeat (first | with_reducible exact Below.refl _ _ | (with_reducible refine Below.setCell ?_ (by first | omega | (simp; done) | (simp; omega)) _) | with_reducible refine bal ?_ _ | with_reducible refine Below.drew ?_ | with_reducible refine bdn ?_ _ | with_reducible refine via ?_ (by with_reducible assumption)))⟩
  cases op
  · have e : lateF ⟨ep, false, nx, nd, hv, bn⟩ now = 0 := by simp [lateF]
    rw [e]
    clear e
    go_enter Try.func21, Try.ntmps21
    go_wp2_with (first | (go_at_call 20; refine (good_any _ _ _ _ _ _ _).mono ?_; rintro e w2 ⟨rfl, hb2⟩; have hz_w2 : w.heap.size + 1 ≤ w2.heap.size := (by have h_ := hb2.size; first | omega | (simp at h_; omega)); obtain ⟨hc1, hf1⟩ := bk hb2 (w.heap.size) (by first | omega | (simp; done) | (simp; omega)); have hs1 : w.heap.size < w2.heap.size := (by omega)))
    go_ret
    exact ⟨rfl, (by repeat (first | with_reducible exact Below.refl _ _ | (with_reducible refine Below.setCell ?_ (by first | omega | (simp; done) | (simp; omega)) _) | with_reducible refine bal ?_ _ | with_reducible refine Below.drew ?_ | with_reducible refine bdn ?_ _ | with_reducible refine via ?_ (by with_reducible assumption)))⟩
  by_cases h1 : now < bn
  · have e : lateF ⟨ep, true, nx, nd, hv, bn⟩ now = 0 := by (have hl : longB bn now = false := by (simp [longB]; omega)); simp [lateF, hl]
    rw [e]
    clear e
    go_enter Try.func21, Try.ntmps21
    go_wp2_with (first | (go_at_call 20; refine (good_any _ _ _ _ _ _ _).mono ?_; rintro e w2 ⟨rfl, hb2⟩; have hz_w2 : w.heap.size + 1 ≤ w2.heap.size := (by have h_ := hb2.size; first | omega | (simp at h_; omega)); obtain ⟨hc1, hf1⟩ := bk hb2 (w.heap.size) (by first | omega | (simp; done) | (simp; omega)); have hs1 : w.heap.size < w2.heap.size := (by omega)))
    go_ret
    exact ⟨rfl, (by repeat (first | with_reducible exact Below.refl _ _ | (with_reducible refine Below.setCell ?_ (by first | omega | (simp; done) | (simp; omega)) _) | with_reducible refine bal ?_ _ | with_reducible refine Below.drew ?_ | with_reducible refine bdn ?_ _ | with_reducible refine via ?_ (by with_reducible assumption)))⟩
  have h1' : bn ≤ now := by omega
  by_cases h2 : IntKind.u64.wrap (IntKind.u64.wrap now - IntKind.u64.wrap bn) < 200
  · have e : lateF ⟨ep, true, nx, nd, hv, bn⟩ now = 0 := by (have hl : longB bn now = false := by (simp [longB]; omega)); simp [lateF, hl]
    rw [e]
    clear e
    go_enter Try.func21, Try.ntmps21
    go_wp2_with (first | (go_at_call 20; refine (good_any _ _ _ _ _ _ _).mono ?_; rintro e w2 ⟨rfl, hb2⟩; have hz_w2 : w.heap.size + 1 ≤ w2.heap.size := (by have h_ := hb2.size; first | omega | (simp at h_; omega)); obtain ⟨hc1, hf1⟩ := bk hb2 (w.heap.size) (by first | omega | (simp; done) | (simp; omega)); have hs1 : w.heap.size < w2.heap.size := (by omega)))
    go_ret
    exact ⟨rfl, (by repeat (first | with_reducible exact Below.refl _ _ | (with_reducible refine Below.setCell ?_ (by first | omega | (simp; done) | (simp; omega)) _) | with_reducible refine bal ?_ _ | with_reducible refine Below.drew ?_ | with_reducible refine bdn ?_ _ | with_reducible refine via ?_ (by with_reducible assumption)))⟩
  · have h2' : 200 ≤ IntKind.u64.wrap (IntKind.u64.wrap now - IntKind.u64.wrap bn) := by omega
    have e : lateF ⟨ep, true, nx, nd, hv, bn⟩ now = bits .andNot .i64 nd hv := by (have hl : longB bn now = true := by (simp [longB]; omega)); simp [lateF, hl, hg]
    rw [e]
    clear e
    go_enter Try.func21, Try.ntmps21
    go_wp2_with (first | (go_at_call 20; refine (good_any _ _ _ _ _ _ _).mono ?_; rintro e w2 ⟨rfl, hb2⟩; have hz_w2 : w.heap.size + 1 ≤ w2.heap.size := (by have h_ := hb2.size; first | omega | (simp at h_; omega)); obtain ⟨hc1, hf1⟩ := bk hb2 (w.heap.size) (by first | omega | (simp; done) | (simp; omega)); have hs1 : w.heap.size < w2.heap.size := (by omega)))
    go_ret
    exact ⟨rfl, (by repeat (first | with_reducible exact Below.refl _ _ | (with_reducible refine Below.setCell ?_ (by first | omega | (simp; done) | (simp; omega)) _) | with_reducible refine bal ?_ _ | with_reducible refine Below.drew ?_ | with_reducible refine bdn ?_ _ | with_reducible refine via ?_ (by with_reducible assumption)))⟩

end Go.Proofs.Ytcaipfdnadlkdaa
