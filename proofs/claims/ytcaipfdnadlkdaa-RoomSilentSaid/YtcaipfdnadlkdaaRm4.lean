/- Rooms: short words for long claims; ticks, plainly. No condition. -/
import Derived.Test.YtcaipfdnadlkdaaRm0
namespace Go.Proofs.Ytcaipfdnadlkdaa
open Go Go.RowKit
set_option linter.unusedVariables false
set_option linter.unusedSimpArgs false

def mkR (b0 b1 b2 b3 b4 b5 b6 b7 : Bool) (a0 a1 a2 a3 a4 a5 a6 a7 : Int) (ep : Int) (op : Bool) (nx nd hv bn : Int) (s0 s1 s2 s3 s4 s5 s6 s7 c0 c1 c2 c3 c4 c5 c6 c7 : Int) (o : Bool) : RV := ⟨[b0, b1, b2, b3, b4, b5, b6, b7], [a0, a1, a2, a3, a4, a5, a6, a7], ⟨ep, op, nx, nd, hv, bn⟩, [s0, s1, s2, s3, s4, s5, s6, s7], [c0, c1, c2, c3, c4, c5, c6, c7], o⟩
def eqRm (x y : RV) : Prop := x.u.getD 0 false = y.u.getD 0 false ∧ x.u.getD 1 false = y.u.getD 1 false ∧ x.u.getD 2 false = y.u.getD 2 false ∧ x.u.getD 3 false = y.u.getD 3 false ∧ x.u.getD 4 false = y.u.getD 4 false ∧ x.u.getD 5 false = y.u.getD 5 false ∧ x.u.getD 6 false = y.u.getD 6 false ∧ x.u.getD 7 false = y.u.getD 7 false ∧ x.a.getD 0 0 = y.a.getD 0 0 ∧ x.a.getD 1 0 = y.a.getD 1 0 ∧ x.a.getD 2 0 = y.a.getD 2 0 ∧ x.a.getD 3 0 = y.a.getD 3 0 ∧ x.a.getD 4 0 = y.a.getD 4 0 ∧ x.a.getD 5 0 = y.a.getD 5 0 ∧ x.a.getD 6 0 = y.a.getD 6 0 ∧ x.a.getD 7 0 = y.a.getD 7 0 ∧ x.k.ep = y.k.ep ∧ x.k.op = y.k.op ∧ x.k.nx = y.k.nx ∧ x.k.nd = y.k.nd ∧ x.k.hv = y.k.hv ∧ x.k.bn = y.k.bn ∧ x.s.getD 0 0 = y.s.getD 0 0 ∧ x.s.getD 1 0 = y.s.getD 1 0 ∧ x.s.getD 2 0 = y.s.getD 2 0 ∧ x.s.getD 3 0 = y.s.getD 3 0 ∧ x.s.getD 4 0 = y.s.getD 4 0 ∧ x.s.getD 5 0 = y.s.getD 5 0 ∧ x.s.getD 6 0 = y.s.getD 6 0 ∧ x.s.getD 7 0 = y.s.getD 7 0 ∧ x.c.getD 0 0 = y.c.getD 0 0 ∧ x.c.getD 1 0 = y.c.getD 1 0 ∧ x.c.getD 2 0 = y.c.getD 2 0 ∧ x.c.getD 3 0 = y.c.getD 3 0 ∧ x.c.getD 4 0 = y.c.getD 4 0 ∧ x.c.getD 5 0 = y.c.getD 5 0 ∧ x.c.getD 6 0 = y.c.getD 6 0 ∧ x.c.getD 7 0 = y.c.getD 7 0 ∧ x.o = y.o
def exRm (x : RV) : RV := ⟨[x.u.getD 0 false, x.u.getD 1 false, x.u.getD 2 false, x.u.getD 3 false, x.u.getD 4 false, x.u.getD 5 false, x.u.getD 6 false, x.u.getD 7 false], [x.a.getD 0 0, x.a.getD 1 0, x.a.getD 2 0, x.a.getD 3 0, x.a.getD 4 0, x.a.getD 5 0, x.a.getD 6 0, x.a.getD 7 0], ⟨x.k.ep, x.k.op, x.k.nx, x.k.nd, x.k.hv, x.k.bn⟩, [x.s.getD 0 0, x.s.getD 1 0, x.s.getD 2 0, x.s.getD 3 0, x.s.getD 4 0, x.s.getD 5 0, x.s.getD 6 0, x.s.getD 7 0], [x.c.getD 0 0, x.c.getD 1 0, x.c.getD 2 0, x.c.getD 3 0, x.c.getD 4 0, x.c.getD 5 0, x.c.getD 6 0, x.c.getD 7 0], x.o⟩
def zeroRm : RV := ⟨f8, z8, ⟨0, false, 0, 0, 0, 0⟩, z8, z8, false⟩
theorem eqRm_self (x : RV) : eqRm x x := ⟨rfl, rfl, rfl, rfl, rfl, rfl, rfl, rfl, rfl, rfl, rfl, rfl, rfl, rfl, rfl, rfl, rfl, rfl, rfl, rfl, rfl, rfl, rfl, rfl, rfl, rfl, rfl, rfl, rfl, rfl, rfl, rfl, rfl, rfl, rfl, rfl, rfl, rfl, rfl⟩
theorem eqRm_ex (x : RV) : eqRm x (exRm x) := ⟨rfl, rfl, rfl, rfl, rfl, rfl, rfl, rfl, rfl, rfl, rfl, rfl, rfl, rfl, rfl, rfl, rfl, rfl, rfl, rfl, rfl, rfl, rfl, rfl, rfl, rfl, rfl, rfl, rfl, rfl, rfl, rfl, rfl, rfl, rfl, rfl, rfl, rfl, rfl⟩
theorem eqRm_of {x y : RV} (h : x = y) : eqRm x y := h ▸ eqRm_self x
theorem exRm_eq {x : RV} (h1 : x.u.length = 8) (h2 : x.a.length = 8) (h3 : x.s.length = 8) (h4 : x.c.length = 8) : exRm x = x := by
  unfold exRm
  rw [ex8b h1, ex8i h2, ex8i h3, ex8i h4]
theorem gone_len {x : RV} (i now : Int) (h1 : x.u.length = 8) (h2 : x.a.length = 8) (h3 : x.s.length = 8) (h4 : x.c.length = 8) : (goneG x i now).u.length = 8 ∧ (goneG x i now).a.length = 8 ∧ (goneG x i now).s.length = 8 ∧ (goneG x i now).c.length = 8 := by
  have hf := free_len x.u x.a i
  unfold goneG
  split
  · simp [hf.1, hf.2, h1, h2, h3, h4]
  · simp [overG, f8, z8]
theorem tk_gone {R0 x y : RV} {l now i : Int} {k : Nat} (h : tkI R0 l now k x) (hy : y = goneG (exRm x) i now) (hi : i = (k : Int)) (hb : R0.u.getD k false = true) (ho : (!x.o) = true) (hs : silB (R0.s.getD k 0) now = true ∨ bitO l k = true) : tkI R0 l now (k + 1) (exRm y) := by
  subst hi
  rw [exRm_eq h.u h.a h.s h.c] at hy
  obtain ⟨g1, g2, g3, g4⟩ := gone_len (k : Int) now h.u h.a h.s h.c
  rw [← hy] at g1 g2 g3 g4
  rw [exRm_eq g1 g2 g3 g4]
  refine ⟨g1, g2, g3, g4, ?_⟩
  have hc : (R0.u.getD k false && !x.o && (silB (R0.s.getD k 0) now || bitO l k)) = true := by
    rw [hb, ho]
    rcases hs with h | h <;> rw [h] <;> simp
  rw [h.e] at hy hc
  rw [hy]
  simp only [tkN, tkStep]
  rw [if_pos hc]
theorem tk_stay {R0 x : RV} {l now : Int} {k : Nat} (h : tkI R0 l now k x) (hc : (R0.u.getD k false && !x.o && (silB (R0.s.getD k 0) now || bitO l k)) = false) : tkI R0 l now (k + 1) (exRm x) := by
  rw [exRm_eq h.u h.a h.s h.c]
  refine ⟨h.u, h.a, h.s, h.c, ?_⟩
  have he := h.e
  rw [he] at hc
  simp only [tkN, tkStep]
  rw [if_neg (by rw [hc]; simp)]
  exact he
theorem tk_stay_b {R0 x : RV} {l now : Int} {k : Nat} (h : tkI R0 l now k x) (hb : R0.u.getD k false = false) : tkI R0 l now (k + 1) (exRm x) := tk_stay h (by rw [hb]; rfl)
theorem tk_stay_o {R0 x : RV} {l now : Int} {k : Nat} (h : tkI R0 l now k x) (ho : (!x.o) = false) : tkI R0 l now (k + 1) (exRm x) := tk_stay h (by rw [ho]; simp)
theorem tk_stay_n {R0 x : RV} {l now : Int} {k : Nat} (h : tkI R0 l now k x) (hs : silB (R0.s.getD k 0) now = false) (hl : bitO l k = false) : tkI R0 l now (k + 1) (exRm x) := tk_stay h (by rw [hs, hl]; simp)
theorem sil_yes {s now x4 x5 x6 : Int} (h1 : s ≤ now) (h4 : x4 = IntKind.u64.wrap now) (h5 : x5 = IntKind.u64.wrap s) (h6 : x6 = IntKind.u64.wrap (x4 - x5)) (h : 500 ≤ x6) : silB s now = true := by
  subst h6; subst h5; subst h4; simp [silB, h1, h]
theorem sil_no1 {s now : Int} (h1 : ¬s ≤ now) : silB s now = false := by simp [silB, h1]
theorem sil_no2 {s now x4 x5 x6 : Int} (h4 : x4 = IntKind.u64.wrap now) (h5 : x5 = IntKind.u64.wrap s) (h6 : x6 = IntKind.u64.wrap (x4 - x5)) (h : ¬500 ≤ x6) : silB s now = false := by
  subst h6; subst h5; subst h4; simp only [silB, decide_eq_false h, Bool.and_false]
theorem bit_yes {l p x7 x8 : Int} {k : Nat} (h7 : x7 = l / p) (h8 : x8 = bits .and .i64 x7 1) (h : x8 = 1) (hp : p = 2 ^ ((k : Int).toNat)) : bitO l k = true := by
  subst hp; subst h7; rw [bitO, ← h8, h]; rfl
theorem bit_no {l p x7 x8 : Int} {k : Nat} (h7 : x7 = l / p) (h8 : x8 = bits .and .i64 x7 1) (h : ¬x8 = 1) (hp : p = 2 ^ ((k : Int).toNat)) : bitO l k = false := by
  subst hp; subst h7; rw [bitO, ← h8]; simpa using h
theorem gl_yes {u v : List Bool} {L : List Int} {n : Nat} (h : L = goneL u v n) (hb : u.getD n false = true) (hv : (!v.getD n false) = true) : L ++ [(n : Int)] = goneL u v (n + 1) := by
  simp only [goneL]; rw [if_pos (by rw [hb, hv]; rfl), h]
theorem gl_no1 {u v : List Bool} {L : List Int} {n : Nat} (h : L = goneL u v n) (hb : u.getD n false = false) : L = goneL u v (n + 1) := by
  simp only [goneL]; rw [if_neg (by rw [hb]; simp), h]
theorem gl_no2 {u v : List Bool} {L : List Int} {n : Nat} (h : L = goneL u v n) (hv : (!v.getD n false) = false) : L = goneL u v (n + 1) := by
  simp only [goneL]; rw [if_neg (by rw [hv]; simp), h]
theorem goneL_len (u v : List Bool) : ∀ n, (goneL u v n).length ≤ n
  | 0 => by simp [goneL]
  | n + 1 => by
    have := goneL_len u v n
    simp only [goneL]
    split <;> simp <;> omega
theorem gl_len {u v : List Bool} {L : List Int} {n : Nat} {z : Int} (h : L = goneL u v n) (hn : n ≤ 8) : (L ++ [z]).length * 8 ≤ 140737488355328 := by
  have := goneL_len u v n
  rw [h]
  simp
  omega
theorem tick_good {R x3 : RV} {now l : Int} {L : List Int} {g : Bool} {y : RV × List Int} (hy : y = tickRm R now) (hg : g = goodRm R) (hg' : (!g) = false) (hl : l = lateF R.k now) (h : tkI R l now 8 x3) (hL : L = goneL R.u [x3.u.getD 0 false, x3.u.getD 1 false, x3.u.getD 2 false, x3.u.getD 3 false, x3.u.getD 4 false, x3.u.getD 5 false, x3.u.getD 6 false, x3.u.getD 7 false] 8) : y = (x3, L) := by
  rw [ex8b h.u] at hL
  have e : goodRm R = true := by rw [← hg]; simpa using hg'
  rw [hy, hL, tickRm, if_pos e, ← hl, ← h.e]
theorem tick_good_e {R x3 : RV} {now l : Int} {L : List Int} {g : Bool} {y : RV × List Int} (hy : y = tickRm R now) (hg : g = goodRm R) (hg' : (!g) = false) (hl : l = lateF R.k now) (h : tkI R l now 8 x3) (hL : L = goneL R.u [x3.u.getD 0 false, x3.u.getD 1 false, x3.u.getD 2 false, x3.u.getD 3 false, x3.u.getD 4 false, x3.u.getD 5 false, x3.u.getD 6 false, x3.u.getD 7 false] 8) : eqRm x3 y.fst := by
  rw [tick_good hy hg hg' hl h hL]
  exact eqRm_self _
theorem tick_good_l {R x3 : RV} {now l : Int} {L : List Int} {g : Bool} {y : RV × List Int} (hy : y = tickRm R now) (hg : g = goodRm R) (hg' : (!g) = false) (hl : l = lateF R.k now) (h : tkI R l now 8 x3) (hL : L = goneL R.u [x3.u.getD 0 false, x3.u.getD 1 false, x3.u.getD 2 false, x3.u.getD 3 false, x3.u.getD 4 false, x3.u.getD 5 false, x3.u.getD 6 false, x3.u.getD 7 false] 8) : L = y.snd := (congrArg Prod.snd (tick_good hy hg hg' hl h hL)).symm
theorem tick_bad {R : RV} {now : Int} {g : Bool} {y : RV × List Int} (hy : y = tickRm R now) (hg : g = goodRm R) (hg' : (!g) = true) : y = (R, []) := by
  have e : goodRm R = false := by rw [← hg]; simpa using hg'
  rw [hy, tickRm, if_neg (by rw [e]; simp)]
theorem tk_init (R : RV) (l now : Int) (h1 : R.u.length = 8) (h2 : R.a.length = 8) (h3 : R.s.length = 8) (h4 : R.c.length = 8) : tkI R l now 0 R := ⟨h1, h2, h3, h4, rfl⟩
end Go.Proofs.Ytcaipfdnadlkdaa
