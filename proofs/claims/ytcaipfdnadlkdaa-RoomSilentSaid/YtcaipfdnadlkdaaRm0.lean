/- Rooms, plainly. No condition. -/
import Derived.Test.YtcaipfdnadlkdaaSlA
namespace Go.Proofs.Ytcaipfdnadlkdaa
open Go Go.RowKit
set_option linter.unusedVariables false
set_option linter.unusedSimpArgs false

structure RV where
  u : List Bool
  a : List Int
  k : St
  s : List Int
  c : List Int
  o : Bool
def chkGo (ep : Int) : List Bool → List Int → List Int → Bool
  | u :: us, s :: ss, c :: cs => !(((!u) && (decide (s ≠ 0) || decide (c ≠ 0))) || decide (c < 0) || decide (ep < c)) && chkGo ep us ss cs
  | _, _, _ => true
def endRm (r : RV) : Bool := ((!r.k.op) || decide (bits .andNot .i64 r.k.nd (maskG r.u r.a) = 0)) && ((!r.o) || decide (maskG r.u r.a = 0))
def goodRm (r : RV) : Bool := gdG r.u r.a && goodS r.k && chkGo r.k.ep r.u r.s r.c && endRm r
def f8 : List Bool := [false, false, false, false, false, false, false, false]
def z8 : List Int := [0, 0, 0, 0, 0, 0, 0, 0]
def overG (ep : Int) : RV := ⟨f8, z8, ⟨ep, false, 0, 0, 0, 0⟩, z8, z8, true⟩
def goneG (r : RV) (i now : Int) : RV :=
  if (raiseF r.k (maskG (freeG r.u r.a i).1.1 (freeG r.u r.a i).1.2) now).2 = 0 then
    ⟨(freeG r.u r.a i).1.1, (freeG r.u r.a i).1.2, (raiseF r.k (maskG (freeG r.u r.a i).1.1 (freeG r.u r.a i).1.2) now).1, r.s.set i.toNat 0, r.c.set i.toNat 0, r.o⟩
  else overG r.k.ep
def findRm (r : RV) (a : Int) : Int × Int := if (!goodRm r) = true then (0, 1) else if (!(findG r.u r.a a).2) = true then (0, 6) else ((findG r.u r.a a).1, 0)
def joinRm (r : RV) (a now : Int) : RV × Int × Int :=
  if (!goodRm r) = true then (r, 0, 1) else
  if r.o = true then (r, 0, 12) else
  if (takeG r.u r.a a).2.2 = 0 then
    if (joinF r.k (takeG r.u r.a a).2.1).2 = 0 then
      (⟨(takeG r.u r.a a).1.1, (takeG r.u r.a a).1.2, (joinF r.k (takeG r.u r.a a).2.1).1, r.s.set (takeG r.u r.a a).2.1.toNat now, r.c.set (takeG r.u r.a a).2.1.toNat (joinF r.k (takeG r.u r.a a).2.1).1.ep, r.o⟩, (takeG r.u r.a a).2.1, 0)
    else (r, 0, (joinF r.k (takeG r.u r.a a).2.1).2)
  else (r, 0, (takeG r.u r.a a).2.2)
def leaveRm (r : RV) (a now : Int) : RV × Int := if (findRm r a).2 = 0 then (goneG r (findRm r a).1 now, 0) else (r, (findRm r a).2)
def kickRm (r : RV) (a i now : Int) : RV × Int :=
  if (findRm r a).2 = 0 then
    if (firstG r.u r.a).1 = (findRm r a).1 then
      if (freeG r.u r.a i).2 = 0 then (goneG r i now, 0) else (r, (freeG r.u r.a i).2)
    else (r, 13)
  else (r, (findRm r a).2)
def aliveRm (r : RV) (a now : Int) : RV × Int := if (findRm r a).2 = 0 then (⟨r.u, r.a, r.k, r.s.set (findRm r a).1.toNat now, r.c, r.o⟩, 0) else (r, (findRm r a).2)
def haveRm (r : RV) (a e : Int) : RV × Bool × Int :=
  if (findRm r a).2 = 0 then
    if (ackF r.k (findRm r a).1 e).2.2 = 0 then (⟨r.u, r.a, (ackF r.k (findRm r a).1 e).1, r.s, r.c, r.o⟩, (ackF r.k (findRm r a).1 e).2.1, 0) else (r, false, (ackF r.k (findRm r a).1 e).2.2)
  else (r, false, (findRm r a).2)
def silB (s now : Int) : Bool := decide (s ≤ now) && decide (500 ≤ IntKind.u64.wrap (IntKind.u64.wrap now - IntKind.u64.wrap s))
def tkStep (r0 : RV) (late now : Int) (n : Nat) (r : RV) : RV := if (r0.u.getD n false && !r.o && (silB (r0.s.getD n 0) now || bitO late n)) = true then goneG r n now else r
def tkN (r0 : RV) (late now : Int) : Nat → RV
  | 0 => r0
  | n + 1 => tkStep r0 late now n (tkN r0 late now n)
structure tkI (r0 : RV) (late now : Int) (n : Nat) (x : RV) : Prop where
  u : x.u.length = 8
  a : x.a.length = 8
  s : x.s.length = 8
  c : x.c.length = 8
  e : x = tkN r0 late now n
def goneL (u v : List Bool) : Nat → List Int
  | 0 => []
  | n + 1 => if (u.getD n false && !v.getD n false) = true then goneL u v n ++ [(n : Int)] else goneL u v n
def tickRm (r : RV) (now : Int) : RV × List Int := if goodRm r = true then (tkN r (lateF r.k now) now 8, goneL r.u (tkN r (lateF r.k now) now 8).u 8) else (r, [])
theorem free_slot (u : List Bool) (a : List Int) (i : Int) (h : (freeG u a i).2 = 0) : 0 ≤ i ∧ i < 8 := by
  unfold freeG at h
  split at h
  · rename_i hc
    simp [slot8] at hc
    exact hc.2
  · simp at h
theorem findGo_bd : ∀ (u : List Bool) (a : List Int) (k x : Int), (findGo k u a x).2 = true → k ≤ (findGo k u a x).1 ∧ (findGo k u a x).1 < k + u.length
  | [], _, _, _, h => by simp [findGo] at h
  | _ :: _, [], _, _, h => by simp [findGo] at h
  | u :: us, a :: az, k, x, h => by
    unfold findGo at h ⊢
    split
    · simp; omega
    · rename_i hc
      rw [if_neg hc] at h
      have := findGo_bd us az (k + 1) x h
      simp
      omega
theorem findRm_bd (r : RV) (a : Int) (h8 : r.u.length = 8) (h : (findRm r a).2 = 0) : 0 ≤ (findRm r a).1 ∧ (findRm r a).1 < 8 := by
  unfold findRm at h ⊢
  split
  · simp
  · rename_i hg
    rw [if_neg hg] at h
    split
    · simp
    · rename_i hf0
      have hf : (findG r.u r.a a).2 = true := by simpa using hf0
      unfold findG at hf ⊢
      split
      · rename_i hh
        rw [if_pos hh] at hf
        have := findGo_bd _ _ _ _ hf
        rw [h8] at this
        dsimp only
        omega
      · simp
theorem free_len (u : List Bool) (a : List Int) (i : Int) : (freeG u a i).1.1.length = u.length ∧ (freeG u a i).1.2.length = a.length := by
  unfold freeG
  split
  · split <;> simp
  · simp
theorem ex8b {l : List Bool} (h : l.length = 8) : [l.getD 0 false, l.getD 1 false, l.getD 2 false, l.getD 3 false, l.getD 4 false, l.getD 5 false, l.getD 6 false, l.getD 7 false] = l := by
  match l, h with
  | [_, _, _, _, _, _, _, _], _ => rfl
theorem ex8i {l : List Int} (h : l.length = 8) : [l.getD 0 0, l.getD 1 0, l.getD 2 0, l.getD 3 0, l.getD 4 0, l.getD 5 0, l.getD 6 0, l.getD 7 0] = l := by
  match l, h with
  | [_, _, _, _, _, _, _, _], _ => rfl
theorem idxGo_bd (v : Bool) : ∀ (u : List Bool) (k : Int), 0 ≤ idxGo v k u → 0 ≤ k → k ≤ idxGo v k u ∧ idxGo v k u < k + u.length
  | [], k, h, _ => by simp [idxGo] at h
  | u :: us, k, h, h0 => by
    unfold idxGo at h ⊢
    split
    · simp; omega
    · rename_i hc
      rw [if_neg hc] at h
      have := idxGo_bd v us (k + 1) h (by omega)
      simp
      omega
theorem take_slot (u : List Bool) (a : List Int) (x : Int) (h8 : u.length = 8) (h : (takeG u a x).2.2 = 0) : 0 ≤ (takeG u a x).2.1 ∧ (takeG u a x).2.1 < 8 := by
  unfold takeG at h ⊢
  split
  · rename_i hc
    rw [if_pos hc] at h
    split
    · simp
    · rename_i hf
      rw [if_neg hf] at h
      split
      · simp
      · rename_i hi
        have := idxGo_bd false u 0 (by omega) (by omega)
        rw [h8] at this
        simp
        omega
  · simp
end Go.Proofs.Ytcaipfdnadlkdaa
