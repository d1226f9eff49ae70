/- Rooms, plainly: the reference's forms. No condition. -/
import Derived.Test.YtcaipfdnadlkdaaRm0
import Derived.Test.YtcaipfdnadlkdaaSlA
import Derived.Test.YtcaipfdnadlkdaaRkB
namespace Go.Proofs.Ytcaipfdnadlkdaa
open Go Go.RowKit
set_option linter.unusedVariables false
set_option linter.unusedSimpArgs false

def chk2 (ep : Int) (o : Bool) : List Bool → List Int → List Int → Bool
  | u :: us, s :: ss, c :: cs => inB c 0 ep && !((!u) && (decide (s ≠ 0) || decide (c ≠ 0))) && !(o && u) && chk2 ep o us ss cs
  | _, _, _ => true
def goodR2 (r : RV) : Bool := gdG r.u r.a && goodS r.k && !(r.k.op && decide (bits .and .i64 r.k.nd (maskG r.u r.a) ≠ r.k.nd)) && chk2 r.k.ep r.o r.u r.s r.c
theorem chk2_eq (ep : Int) (o : Bool) : ∀ (u : List Bool) (s c : List Int), u.length = s.length → u.length = c.length → chk2 ep o u s c = (chkGo ep u s c && ((!o) || u.all fun b => !b))
  | [], [], [], _, _ => by simp [chk2, chkGo]
  | u :: us, s :: ss, c :: cs, h1, h2 => by
    have ih := chk2_eq ep o us ss cs (by simpa using h1) (by simpa using h2)
    simp only [chk2, chkGo, ih, List.all_cons, inB]
    have e : (decide (0 ≤ c) && decide (c ≤ ep)) = !(decide (c < 0) || decide (ep < c)) := by
      rw [Bool.eq_iff_iff]; simp
    rw [e]
    generalize (decide (s ≠ 0) || decide (c ≠ 0)) = q
    generalize chkGo ep us ss cs = g
    generalize (us.all fun b => !b) = m
    generalize decide (c < 0) = c1
    generalize decide (ep < c) = c2
    cases u <;> cases o <;> cases q <;> cases g <;> cases m <;> cases c1 <;> cases c2 <;> rfl
  | [], _ :: _, _, h, _ => by simp at h
  | _ :: _, [], _, h, _ => by simp at h
  | [], [], _ :: _, _, h => by simp at h
  | _ :: _, _ :: _, [], _, h => by simp at h
theorem mask8 : ∀ b0 b1 b2 b3 b4 b5 b6 b7 : Bool, 0 ≤ maskGo 0 [b0, b1, b2, b3, b4, b5, b6, b7] 0 ∧ maskGo 0 [b0, b1, b2, b3, b4, b5, b6, b7] 0 ≤ 255 ∧ decide (maskGo 0 [b0, b1, b2, b3, b4, b5, b6, b7] 0 = 0) = [b0, b1, b2, b3, b4, b5, b6, b7].all fun b => !b := by decide +kernel
theorem mask_all (u : List Bool) (h : u.length = 8) : 0 ≤ maskGo 0 u 0 ∧ maskGo 0 u 0 ≤ 255 ∧ decide (maskGo 0 u 0 = 0) = u.all fun b => !b := by
  match u, h with
  | [b0, b1, b2, b3, b4, b5, b6, b7], _ => exact mask8 b0 b1 b2 b3 b4 b5 b6 b7
theorem and_z : ∀ n : Fin 256, bits .and .i64 ((n.val : Nat) : Int) 0 = 0 := by decide +kernel
theorem andn_z : ∀ n : Fin 256, bits .andNot .i64 ((n.val : Nat) : Int) 0 = ((n.val : Nat) : Int) := by decide +kernel
theorem need_mask (nd m : Int) (h0 : 1 ≤ nd) (h1 : nd ≤ 255) (m0 : 0 ≤ m) (m1 : m ≤ 255) : (bits .andNot .i64 nd m = 0) ↔ (bits .and .i64 nd m = nd) := by
  rcases (by omega : m = 0 ∨ 1 ≤ m) with rfl | h
  · obtain ⟨k, rfl⟩ := Int.eq_ofNat_of_zero_le (show 0 ≤ nd by omega)
    have a1 := and_z ⟨k, by omega⟩
    have a2 := andn_z ⟨k, by omega⟩
    simp only at a1 a2
    rw [a1, a2]
    omega
  · have := andNot_and nd m (by omega) (by omega) h m1
    rw [Bool.eq_iff_iff] at this
    simp at this
    rw [this]
    omega
theorem goodR2_eq (r : RV) (hu : r.u.length = 8) (hs : r.s.length = 8) (hc : r.c.length = 8) : goodR2 r = goodRm r := by
  unfold goodR2 goodRm endRm
  cases hg : gdG r.u r.a with
  | false => simp
  | true =>
    have hm : maskG r.u r.a = maskGo 0 r.u 0 := by unfold maskG; rw [if_pos (by simpa [gdG] using hg)]
    obtain ⟨m0, m1, m2⟩ := mask_all r.u hu
    rw [← hm] at m0 m1 m2
    cases hk : goodS r.k with
    | false => simp
    | true =>
      rw [chk2_eq _ _ _ _ _ (by omega) (by omega), ← m2]
      cases ho : r.k.op with
      | false => simp [Bool.and_assoc]
      | true =>
        have hb : 1 ≤ r.k.nd ∧ r.k.nd ≤ 255 := by
          simp [goodS, ho] at hk
          omega
        have e : decide (bits .andNot .i64 r.k.nd (maskG r.u r.a) = 0) = !decide (bits .and .i64 r.k.nd (maskG r.u r.a) ≠ r.k.nd) := by
          rw [Bool.eq_iff_iff]
          simp [need_mask _ _ hb.1 hb.2 m0 m1]
        rw [e]
        generalize decide (bits .and .i64 r.k.nd (maskG r.u r.a) ≠ r.k.nd) = q
        generalize chkGo r.k.ep r.u r.s r.c = g
        generalize ((!r.o) || decide (maskG r.u r.a = 0)) = z
        cases q <;> cases g <;> cases z <;> rfl
def abvB (a b n : Int) : Bool := decide (b ≤ a) && decide (n ≤ IntKind.u64.wrap (IntKind.u64.wrap a - IntKind.u64.wrap b))
theorem abv_sil (s now : Int) : abvB now s 500 = silB s now := rfl
def joinR2 (r : RV) (a now : Int) : RV × Int × Int :=
  if (!goodRm r) = true then (r, 0, 1) else
  if r.o = true then (r, 0, 12) else
  if (takeG r.u r.a a).2.2 = 0 then
      (⟨(takeG r.u r.a a).1.1, (takeG r.u r.a a).1.2, (joinF r.k (takeG r.u r.a a).2.1).1, r.s.set (takeG r.u r.a a).2.1.toNat now, r.c.set (takeG r.u r.a a).2.1.toNat (joinF r.k (takeG r.u r.a a).2.1).1.ep, r.o⟩, (takeG r.u r.a a).2.1, 0)
  else (r, 0, (takeG r.u r.a a).2.2)
def leaveR2 (r : RV) (a now : Int) : RV × Int := if (!goodRm r) = true then (r, 1) else if (!(findG r.u r.a a).2) = true then (r, 6) else (goneG r (findG r.u r.a a).1 now, 0)
def kickR2 (r : RV) (a i now : Int) : RV × Int :=
  if (!goodRm r) = true then (r, 1) else if (!(findG r.u r.a a).2) = true then (r, 6) else
    if (firstG r.u r.a).1 = (findG r.u r.a a).1 then
      if (freeG r.u r.a i).2 = 0 then (goneG r i now, 0) else (r, (freeG r.u r.a i).2)
    else (r, 13)
def aliveR2 (r : RV) (a now : Int) : RV × Int := if (!goodRm r) = true then (r, 1) else if (!(findG r.u r.a a).2) = true then (r, 6) else (⟨r.u, r.a, r.k, r.s.set (findG r.u r.a a).1.toNat now, r.c, r.o⟩, 0)
def haveR2 (r : RV) (a e : Int) : RV × Bool × Int :=
  if (!goodRm r) = true then (r, false, 1) else if (!(findG r.u r.a a).2) = true then (r, false, 6) else
  (⟨r.u, r.a, (ackF r.k (findG r.u r.a a).1 e).1, r.s, r.c, r.o⟩, (ackF r.k (findG r.u r.a a).1 e).2.1, (ackF r.k (findG r.u r.a a).1 e).2.2)
theorem leaveR2_eq (r : RV) (a now : Int) : leaveR2 r a now = leaveRm r a now := by
  unfold leaveR2 leaveRm findRm
  split
  · simp
  · split <;> simp
theorem kickR2_eq (r : RV) (a i now : Int) : kickR2 r a i now = kickRm r a i now := by
  unfold kickR2 kickRm findRm
  split
  · simp
  · split <;> simp
theorem aliveR2_eq (r : RV) (a now : Int) : aliveR2 r a now = aliveRm r a now := by
  unfold aliveR2 aliveRm findRm
  split
  · simp
  · split <;> simp
theorem ack_err (s : St) (i e : Int) (h : ¬(ackF s i e).2.2 = 0) : (ackF s i e).1 = s ∧ (ackF s i e).2.1 = false := by
  unfold ackF at h ⊢
  split
  · rename_i h1
    rw [if_pos h1] at h
    split
    · rename_i h2
      rw [if_pos h2] at h
      split
      · simp
      · rename_i h3
        rw [if_neg h3] at h
        split
        · simp
        · rename_i h4
          rw [if_neg h4] at h
          split at h <;> simp at h
    · simp
  · simp
theorem haveR2_eq (r : RV) (a e : Int) : haveR2 r a e = haveRm r a e := by
  unfold haveR2 haveRm findRm
  split
  · simp
  · split
    · simp
    · by_cases h : (ackF r.k (findG r.u r.a a).1 e).2.2 = 0
      · simp [h]
      · obtain ⟨h1, h2⟩ := ack_err _ _ _ h
        simp [h, h1, h2]
end Go.Proofs.Ytcaipfdnadlkdaa
