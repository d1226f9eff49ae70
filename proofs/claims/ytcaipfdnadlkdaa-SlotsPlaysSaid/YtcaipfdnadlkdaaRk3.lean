/- The walks over rekey.Join. -/
import Derived.Test.YtcaipfdnadlkdaaRk2
namespace Go.Proofs.Ytcaipfdnadlkdaa
open Go.RowKit
set_option linter.unusedSimpArgs false
set_option linter.unusedVariables false

theorem pow_small (i : Int) (h0 : 0 ≤ i) (h1 : i < 8) : wrap64 (2 ^ i.toNat) = 2 ^ i.toNat := by
  have h : i = 0 ∨ i = 1 ∨ i = 2 ∨ i = 3 ∨ i = 4 ∨ i = 5 ∨ i = 6 ∨ i = 7 := by omega
  rcases h with rfl | rfl | rfl | rfl | rfl | rfl | rfl | rfl <;> first | rfl | (simp [wrap64]; done) | decide +kernel
def joinF (s : St) (i : Int) : St × Int :=
  if goodS s && slB i then (if s.op then (if bitO s.nd i then (s, 7) else (⟨s.ep, s.op, s.nx, bits .or .i64 s.nd (2 ^ i.toNat), s.hv, s.bn⟩, 0)) else (s, 0)) else (s, 1)
def ackF (s : St) (i e : Int) : St × Bool × Int :=
  if goodS s && slB i then (if s.op && s.nx == e then (if bitZ s.nd i then (s, false, 6) else if bitO s.hv i then (s, false, 7)
    else if bits .or .i64 s.hv (2 ^ i.toNat) == s.nd then (⟨s.nx, false, 0, 0, 0, 0⟩, true, 0) else (⟨s.ep, s.op, s.nx, s.nd, bits .or .i64 s.hv (2 ^ i.toNat), s.bn⟩, false, 0)) else (s, false, 12)) else (s, false, 1)
def longB (b now : Int) : Bool := decide (b ≤ now) && decide (200 ≤ IntKind.u64.wrap (IntKind.u64.wrap now - IntKind.u64.wrap b))
def lateF (s : St) (now : Int) : Int := if goodS s && s.op && longB s.bn now then bits .andNot .i64 s.nd s.hv else 0

set_option maxHeartbeats 2000000 in
theorem join_any (ep : Int) (op : Bool) (nx nd hv bn : Int) (i : Int) (w : World) : Calls Try.prog 18 #[.agg #[.int .i64 ep, .bool op, .int .i64 nx, .int .i64 nd, .int .i64 hv, .int .i64 bn], .int .i64 i] w fun x w' => x = .returned (.tuple #[.agg #[.int .i64 ((joinF ⟨ep, op, nx, nd, hv, bn⟩ i).1).ep, .bool ((joinF ⟨ep, op, nx, nd, hv, bn⟩ i).1).op, .int .i64 ((joinF ⟨ep, op, nx, nd, hv, bn⟩ i).1).nx, .int .i64 ((joinF ⟨ep, op, nx, nd, hv, bn⟩ i).1).nd, .int .i64 ((joinF ⟨ep, op, nx, nd, hv, bn⟩ i).1).hv, .int .i64 ((joinF ⟨ep, op, nx, nd, hv, bn⟩ i).1).bn], .int .i64 (joinF ⟨ep, op, nx, nd, hv, bn⟩ i).2]) ∧ Below w.heap.size w w' := by
  cases hg : goodS ⟨ep, op, nx, nd, hv, bn⟩
  · have e : joinF ⟨ep, op, nx, nd, hv, bn⟩ i = (⟨ep, op, nx, nd, hv, bn⟩, 1) := by simp [joinF, hg]
    rw [e]
    dsimp only
    clear e
    go_enter Try.func18, Try.ntmps18
    go_wp2_with (first | (go_at_call 20; refine (good_any _ _ _ _ _ _ _).mono ?_; rintro e w2 ⟨rfl, hb2⟩; have hz_w2 : w.heap.size + 2 ≤ w2.heap.size := (by have h_ := hb2.size; first | omega | (simp at h_; omega)); obtain ⟨hc1, hf1⟩ := bk hb2 (w.heap.size) (by first | omega | (simp; done) | (simp; omega)); have hs1 : w.heap.size < w2.heap.size := (by omega); obtain ⟨hc2, hf2⟩ := bk hb2 (w.heap.size + 1) (by first | omega | (simp; done) | (simp; omega)); have hs2 : w.heap.size + 1 < w2.heap.size := (by omega)) | (go_at_call 57; refine (slot_any _ _).mono ?_; rintro e w' ⟨rfl, rfl⟩))
    exact bodyPost_ret (v := .tuple #[.agg #[.int .i64 ep, .bool op, .int .i64 nx, .int .i64 nd, .int .i64 hv, .int .i64 bn], .int .i64 1]) (by simp [results, Try.results18, go_sem, hc1, hc2]) rfl ⟨rfl, (by repeat (first | with_reducible exact Below.refl _ _ | (with_reducible refine Below.setCell ?_ (by first | omega | (simp; done) | (simp; omega)) _) | with_reducible refine bal ?_ _ | with_reducible refine Below.drew ?_ | with_reducible refine bdn ?_ _ | with_reducible refine via ?_ (by with_reducible assumption)))⟩
  cases hs : slB i
  · have e : joinF ⟨ep, op, nx, nd, hv, bn⟩ i = (⟨ep, op, nx, nd, hv, bn⟩, 1) := by simp [joinF, hs]
    rw [e]
    dsimp only
    clear e
    go_enter Try.func18, Try.ntmps18
    go_wp2_with (first | (go_at_call 20; refine (good_any _ _ _ _ _ _ _).mono ?_; rintro e w2 ⟨rfl, hb2⟩; have hz_w2 : w.heap.size + 2 ≤ w2.heap.size := (by have h_ := hb2.size; first | omega | (simp at h_; omega)); obtain ⟨hc1, hf1⟩ := bk hb2 (w.heap.size) (by first | omega | (simp; done) | (simp; omega)); have hs1 : w.heap.size < w2.heap.size := (by omega); obtain ⟨hc2, hf2⟩ := bk hb2 (w.heap.size + 1) (by first | omega | (simp; done) | (simp; omega)); have hs2 : w.heap.size + 1 < w2.heap.size := (by omega)) | (go_at_call 57; refine (slot_any _ _).mono ?_; rintro e w' ⟨rfl, rfl⟩))
    exact bodyPost_ret (v := .tuple #[.agg #[.int .i64 ep, .bool op, .int .i64 nx, .int .i64 nd, .int .i64 hv, .int .i64 bn], .int .i64 1]) (by simp [results, Try.results18, go_sem, hc1, hc2]) rfl ⟨rfl, (by repeat (first | with_reducible exact Below.refl _ _ | (with_reducible refine Below.setCell ?_ (by first | omega | (simp; done) | (simp; omega)) _) | with_reducible refine bal ?_ _ | with_reducible refine Below.drew ?_ | with_reducible refine bdn ?_ _ | with_reducible refine via ?_ (by with_reducible assumption)))⟩
  have hs' : 0 ≤ i ∧ i < 8 := by simpa [slB] using hs
  obtain ⟨i0, i1⟩ := hs'
  have hp := pow_small i i0 i1
  cases op
  · have e : joinF ⟨ep, false, nx, nd, hv, bn⟩ i = (⟨ep, false, nx, nd, hv, bn⟩, 0) := by simp [joinF, hg, hs]
    rw [e]
    dsimp only
    clear e
    go_enter Try.func18, Try.ntmps18
    go_wp2_with (first | (go_at_call 20; refine (good_any _ _ _ _ _ _ _).mono ?_; rintro e w2 ⟨rfl, hb2⟩; have hz_w2 : w.heap.size + 2 ≤ w2.heap.size := (by have h_ := hb2.size; first | omega | (simp at h_; omega)); obtain ⟨hc1, hf1⟩ := bk hb2 (w.heap.size) (by first | omega | (simp; done) | (simp; omega)); have hs1 : w.heap.size < w2.heap.size := (by omega); obtain ⟨hc2, hf2⟩ := bk hb2 (w.heap.size + 1) (by first | omega | (simp; done) | (simp; omega)); have hs2 : w.heap.size + 1 < w2.heap.size := (by omega)) | (go_at_call 57; refine (slot_any _ _).mono ?_; rintro e w' ⟨rfl, rfl⟩))
    exact bodyPost_ret (v := .tuple #[.agg #[.int .i64 ep, .bool false, .int .i64 nx, .int .i64 nd, .int .i64 hv, .int .i64 bn], .int .i64 0]) (by simp [results, Try.results18, go_sem, hc1, hc2]) rfl ⟨rfl, (by repeat (first | with_reducible exact Below.refl _ _ | (with_reducible refine Below.setCell ?_ (by first | omega | (simp; done) | (simp; omega)) _) | with_reducible refine bal ?_ _ | with_reducible refine Below.drew ?_ | with_reducible refine bdn ?_ _ | with_reducible refine via ?_ (by with_reducible assumption)))⟩
  cases hb : bitO nd i
  · have hb' : (bits .and .i64 (nd / 2 ^ i.toNat) 1 == 1) = false := hb
    have e : joinF ⟨ep, true, nx, nd, hv, bn⟩ i = (⟨ep, true, nx, bits .or .i64 nd (2 ^ i.toNat), hv, bn⟩, 0) := by simp [joinF, hg, hs, hb]
    rw [e]
    dsimp only
    clear e
    go_enter Try.func18, Try.ntmps18
    go_wp2_with (first | (go_at_call 20; refine (good_any _ _ _ _ _ _ _).mono ?_; rintro e w2 ⟨rfl, hb2⟩; have hz_w2 : w.heap.size + 2 ≤ w2.heap.size := (by have h_ := hb2.size; first | omega | (simp at h_; omega)); obtain ⟨hc1, hf1⟩ := bk hb2 (w.heap.size) (by first | omega | (simp; done) | (simp; omega)); have hs1 : w.heap.size < w2.heap.size := (by omega); obtain ⟨hc2, hf2⟩ := bk hb2 (w.heap.size + 1) (by first | omega | (simp; done) | (simp; omega)); have hs2 : w.heap.size + 1 < w2.heap.size := (by omega)) | (go_at_call 57; refine (slot_any _ _).mono ?_; rintro e w' ⟨rfl, rfl⟩))
    go_region
    all_goals go_wp2_with fail
    all_goals exact bodyPost_ret (v := .tuple #[.agg #[.int .i64 ep, .bool true, .int .i64 nx, .int .i64 (bits .or .i64 nd (2 ^ i.toNat)), .int .i64 hv, .int .i64 bn], .int .i64 0]) (by simp [results, Try.results18, go_sem, hc1, hc2]) rfl ⟨rfl, (by repeat (first | with_reducible exact Below.refl _ _ | (with_reducible refine Below.setCell ?_ (by first | omega | (simp; done) | (simp; omega)) _) | with_reducible refine bal ?_ _ | with_reducible refine Below.drew ?_ | with_reducible refine bdn ?_ _ | with_reducible refine via ?_ (by with_reducible assumption)))⟩
  · have hb' : (bits .and .i64 (nd / 2 ^ i.toNat) 1 == 1) = true := hb
    have e : joinF ⟨ep, true, nx, nd, hv, bn⟩ i = (⟨ep, true, nx, nd, hv, bn⟩, 7) := by simp [joinF, hg, hs, hb]
    rw [e]
    dsimp only
    clear e
    go_enter Try.func18, Try.ntmps18
    go_wp2_with (first | (go_at_call 20; refine (good_any _ _ _ _ _ _ _).mono ?_; rintro e w2 ⟨rfl, hb2⟩; have hz_w2 : w.heap.size + 2 ≤ w2.heap.size := (by have h_ := hb2.size; first | omega | (simp at h_; omega)); obtain ⟨hc1, hf1⟩ := bk hb2 (w.heap.size) (by first | omega | (simp; done) | (simp; omega)); have hs1 : w.heap.size < w2.heap.size := (by omega); obtain ⟨hc2, hf2⟩ := bk hb2 (w.heap.size + 1) (by first | omega | (simp; done) | (simp; omega)); have hs2 : w.heap.size + 1 < w2.heap.size := (by omega)) | (go_at_call 57; refine (slot_any _ _).mono ?_; rintro e w' ⟨rfl, rfl⟩))
    exact bodyPost_ret (v := .tuple #[.agg #[.int .i64 ep, .bool true, .int .i64 nx, .int .i64 nd, .int .i64 hv, .int .i64 bn], .int .i64 7]) (by simp [results, Try.results18, go_sem, hc1, hc2]) rfl ⟨rfl, (by repeat (first | with_reducible exact Below.refl _ _ | (with_reducible refine Below.setCell ?_ (by first | omega | (simp; done) | (simp; omega)) _) | with_reducible refine bal ?_ _ | with_reducible refine Below.drew ?_ | with_reducible refine bdn ?_ _ | with_reducible refine via ?_ (by with_reducible assumption)))⟩

end Go.Proofs.Ytcaipfdnadlkdaa
