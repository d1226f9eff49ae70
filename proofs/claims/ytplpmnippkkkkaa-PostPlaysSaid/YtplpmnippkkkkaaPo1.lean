/- An object of two cells: a struct and its row; append for a walk. No condition. -/
import Derived.Test.YtplpmnippkkkkaaHead
import Derived.Test.YtplpmnippkkkkaaSxQ
import Derived.Test.YtplpmnippkkkkaaSxR
import Derived.WalkSpells
import Derived.WalkLawsBesides
import Derived.Outline
import Derived.Deep.RegionHeld3
import Derived.Deep.QuietTactic
import Derived.BigQuiet
import Derived.RegionTactic
import Derived.OwnWalk
namespace Go.Proofs.Ytplpmnippkkkkaa
open Go Go.RowKit
set_option linter.unusedVariables false
set_option linter.unusedSimpArgs false

/-- a struct's last cell is a slice of a row of its own -/
structure RowAt (w : World) (pb : Nat) (ao : Option Addr) (n c : Nat) (xs : List Value) : Prop where
  len : xs.length = n
  le : n ≤ c
  max : c ≤ maxLen
  row : 0 < c → ∃ (g o : Nat) (cur : Array Value) (tc : TypeId), ao = some ⟨g, o, none⟩ ∧ g ≠ pb ∧ w.heap[g]? = some (.cells cur tc (0, 0)) ∧ o + c ≤ cur.size ∧ ∀ i, i < n → cur[o + i]? = xs[i]?
/-- what a change of the object may touch -/
structure Touch (w w' : World) (pb : Nat) (ao : Option Addr) (c : Nat) : Prop where
  os : w'.os = w.os
  tape : w'.tape = w.tape
  output : w'.output = w.output
  size : w.heap.size ≤ w'.heap.size
  keep : ∀ x, x < w.heap.size → x ≠ pb → (0 < c → ∀ g o, ao = some ⟨g, o, none⟩ → x ≠ g) → w'.heap[x]? = w.heap[x]?
theorem Touch.refl {w : World} {pb : Nat} {ao : Option Addr} {c : Nat} : Touch w w pb ao c := ⟨rfl, rfl, rfl, Nat.le_refl _, fun _ _ _ _ => rfl⟩
theorem src_one {P : Program} {w : World} {tx el : TypeId} {v : Value} {b c : Nat} (ht : P.underlying tx = some (.slice el)) (h1 : v.oneCell' = true)
    (h : w.cell? ⟨b, 0, none⟩ = some v) : Go.Src P 1 tx (.slice (some ⟨b, 0, none⟩) 1 c) 1 [v] w := by
  have cell : ∀ w' : World, (∀ x, w'.cell? x = w.cell? x) → (Builtin.firstCells 1 1 (.slice (some ⟨b, 0, none⟩) 1 c)).run P w' = .ok ([v] : List Value).toArray w' := fun w' hw => by
    refine run_firstCells_some w' 1 1 ⟨b, 0, none⟩ 1 c [v] rfl fun j u hu => ?_
    match j, hu with
    | 0, hu =>
      simp at hu
      subst hu
      rw [Sx.Addr.add_lit', hw]
      exact h
    | j + 1, hu => simp at hu
  exact { kind := .inl ⟨el, ht⟩, len := fun w' => by simp [Builtin.lenOf], cells := cell w fun _ => rfl, cellsD := cell w.drew fun _ => rfl, newsLen := by simp, one := fun u hu => by simp at hu; subst hu; exact h1 }
/-- the row's block: the one that was, or a new one -/
def Grow (w : World) (ao : Option Addr) (c : Nat) (ao' : Option Addr) (c' : Nat) : Prop := 0 < c' → ∀ g o, ao' = some ⟨g, o, none⟩ → w.heap.size ≤ g ∨ (0 < c ∧ ∃ o', ao = some ⟨g, o', none⟩)
theorem Grow.of_below {w W : World} {ao ao' : Option Addr} {c c' : Nat} (hb : Below w.heap.size w W) (h : Grow W ao c ao' c') : Grow w ao c ao' c' := fun hc g o e => (h hc g o e).imp (Nat.le_trans hb.size) id
/-- the object's struct, in a world -/
structure StAt (w : World) (pb : Nat) (t : TypeId) (cs : Array Value) : Prop where
  heap : w.heap[pb]? = some (.cells cs t (0, 0))
theorem StAt.cell {w : World} {pb : Nat} {t : TypeId} {cs : Array Value} (h : StAt w pb t cs) (i : Nat) : w.cell? ⟨pb, i, none⟩ = cs[i]? := by simp [World.cell?, h.heap]
theorem StAt.fz {w : World} {pb : Nat} {t : TypeId} {cs : Array Value} (h : StAt w pb t cs) (i : Nat) : w.frozen? ⟨pb, i, none⟩ = false := by simp [World.frozen?, h.heap]
theorem StAt.lt {w : World} {pb : Nat} {t : TypeId} {cs : Array Value} (h : StAt w pb t cs) : pb < w.heap.size := Sx.heap_lt h.heap
theorem StAt.below {w W : World} {pb : Nat} {t : TypeId} {cs : Array Value} (h : StAt w pb t cs) (hb : Below w.heap.size w W) : StAt W pb t cs := ⟨(hb.block pb h.lt).trans h.heap⟩
theorem alloc_cell {W : World} {b : Nat} {v : Value} {t : TypeId} (h : W.heap.size = b) : (W.alloc (.cells #[v] t (0, 0))).cell? ⟨b, 0, none⟩ = some v := by
  subst h
  have := heap_alloc_new W (.cells #[v] t (0, 0))
  simp only [World.cell?, this]
  rfl
/-- append onto an object's row, at a step of a walk -/
theorem wpList_append_obj {P : Program} (w : World) {ops : Array Oper} {rest : List Oper} {o : Oper} {a : Act} {Q : Exit → Act → World → Prop}
    (hg : o.guard = none) (s x : Operand) (t : TypeId) (hop : o.op = Op.call { callee := Callee.builtin Builtin.append, args := #[s, x], argTypes := #[t, t] })
    {el : TypeId} {inf : TypeInfo} {z : Value} (ht : P.underlying t = some (.slice el)) (hi : P.info? el = some inf) (hz : inf.zero = some z) (hz1 : z.cells.size = 1) (h1 : inf.size = 1)
    {pb n c : Nat} {ao : Option Addr} {xs : List Value} (hs : a.eval s = .slice ao n c) (hr : RowAt w pb ao n c xs)
    {b c2 : Nat} {v : Value} (hx : a.eval x = .slice (some ⟨b, 0, none⟩) 1 c2) (hv : w.cell? ⟨b, 0, none⟩ = some v) (hone : v.oneCell' = true) (hb : (n + 1) * inf.bytes ≤ 140737488355328) (hmax : n + 1 ≤ maxLen) (hpb : pb < w.heap.size)
    (hk : ∀ ao' c' w', Grow w ao c ao' c' → RowAt w' pb ao' (n + 1) c' (xs ++ [v]) → Touch w w' pb ao c → (∀ t cs, StAt w pb t cs → StAt w' pb t cs) → wpList P ops Q rest (a.put o.dst (.slice ao' (n + 1) c')) w') :
    wpList P ops Q (o :: rest) a w := by
  refine wpList_plain hg fun K hK' => ?_
  obtain ⟨hl, hle, hmx, hrow⟩ := hr
  obtain ⟨g, off, cur, tc, hrow'⟩ : ∃ (g off : Nat) (cur : Array Value) (tc : TypeId), 0 < c → ao = some ⟨g, off, none⟩ ∧ g ≠ pb ∧ w.heap[g]? = some (.cells cur tc (0, 0)) ∧ off + c ≤ cur.size ∧ ∀ i, i < n → cur[off + i]? = xs[i]? := by
    rcases Nat.eq_zero_or_pos c with h0 | h0
    · exact ⟨0, 0, #[], 0, fun h => by omega⟩
    · obtain ⟨g, off, cur, tc, h⟩ := hrow h0
      exact ⟨g, off, cur, tc, fun _ => h⟩
  obtain ⟨ao', g', o', c', w', hrun, k1, k2, k3, k4⟩ := Sx.append_core (P := P) (w := w) (ty := o.type) ht hi hz hz1 h1 hl hle hmx (fun hc => ⟨(hrow' hc).1, (hrow' hc).2.2.1, (hrow' hc).2.2.2.1, (hrow' hc).2.2.2.2⟩) (src_one (w := w) (c := c2) ht hone hv) hb hmax
  have hne : (if 0 < c then some g else none) ≠ some pb := by
    split
    · rename_i hc
      intro e
      cases e
      exact (hrow' hc).2.1 rfl
    · simp
  unfold Oper.wp
  simp [execOp, hop, resolve, invoke, builtin, hs, hx, hrun, Result.andThen]
  refine hK' _ _ (hk ao' c' w' (fun hc gg oo e => ?_) ⟨by simp [hl], k1, k2, fun hc => ?_⟩ ⟨k4.os, k4.tape, k4.output, k4.size, fun y hy h1 h2 => k4.keep y hy fun e => ?_⟩ (fun t cs h => ⟨(k4.keep pb hpb hne).trans h.heap⟩))
  · obtain ⟨e1, _, e5⟩ := k3 hc
    rw [e1] at e
    cases e
    rcases e5 with ⟨hc0, rfl⟩ | hge
    · exact .inr ⟨hc0, _, (hrow' hc0).1⟩
    · exact .inl hge
  · obtain ⟨e1, ⟨cur', tt, e2, e3, e4⟩, e5⟩ := k3 hc
    refine ⟨g', o', cur', tt, e1, ?_, e2, e3, e4⟩
    rcases e5 with ⟨hc0, rfl⟩ | hge
    · exact (hrow' hc0).2.1
    · omega
  · split at e
    · rename_i hc
      cases e
      exact h2 hc _ _ (hrow' hc).1 rfl
    · cases e
theorem bdn {B : Nat} {a w : World} (h : Below B a w) (n : Nat) : Below B a (w.drewN n) := ⟨h.os, h.tape, h.output, h.size, h.block⟩
theorem bal {w W : World} (h : Below w.heap.size w W) (o : Obj) : Below w.heap.size w (W.alloc o) := h.alloc h.size o
theorem RowAt.same {w W : World} {pb n c : Nat} {ao : Option Addr} {xs : List Value} (h : RowAt w pb ao n c xs) (hk : ∀ x, x < w.heap.size → x ≠ pb → W.heap[x]? = w.heap[x]?) : RowAt W pb ao n c xs :=
  ⟨h.len, h.le, h.max, fun hc => by
    obtain ⟨g, o, cur, tc, h1, h2, h3, h4, h5⟩ := h.row hc
    exact ⟨g, o, cur, tc, h1, h2, (hk g (Sx.heap_lt h3) h2).trans h3, h4, h5⟩⟩
theorem RowAt.below {w W : World} {pb n c : Nat} {ao : Option Addr} {xs : List Value} (h : RowAt w pb ao n c xs) (hb : Below w.heap.size w W) : RowAt W pb ao n c xs := h.same fun x hx _ => hb.block x hx
theorem set_other (w : World) (pb i : Nat) (v : Value) {x : Nat} (h : x ≠ pb) : (w.setCell ⟨pb, i, none⟩ v).heap[x]? = w.heap[x]? := by
  simp only [World.setCell, Array.getElem?_modify]
  rw [if_neg (fun e => h e.symm)]
theorem set_at (w : World) (pb i : Nat) (v : Value) {cs : Array Value} {t : TypeId} {fz : Nat × Nat} (h : w.heap[pb]? = some (.cells cs t fz)) : (w.setCell ⟨pb, i, none⟩ v).heap[pb]? = some (.cells (cs.setIfInBounds i v) t fz) := by
  simp only [World.setCell, Array.getElem?_modify, h]
  simp
theorem Touch.of_below {w W w' : World} {pb c : Nat} {ao : Option Addr} (hb : Below w.heap.size w W) (h : Touch W w' pb ao c) : Touch w w' pb ao c :=
  ⟨h.os.trans hb.os, h.tape.trans hb.tape, h.output.trans hb.output, Nat.le_trans hb.size h.size, fun x hx h1 h2 => (h.keep x (Nat.lt_of_lt_of_le hx hb.size) h1 h2).trans (hb.block x hx)⟩
theorem Touch.set {w W : World} {pb c : Nat} {ao : Option Addr} (h : Touch w W pb ao c) (i : Nat) (v : Value) : Touch w (W.setCell ⟨pb, i, none⟩ v) pb ao c :=
  ⟨h.os, h.tape, h.output, by simpa [World.setCell] using h.size, fun x hx h1 h2 => (set_other W pb i v h1).trans (h.keep x hx h1 h2)⟩
theorem Touch.draw {w W : World} {pb c : Nat} {ao : Option Addr} (h : Touch w W pb ao c) : Touch w W.drew pb ao c := ⟨h.os, h.tape, h.output, h.size, h.keep⟩
theorem Touch.drawN {w W : World} {pb c : Nat} {ao : Option Addr} (h : Touch w W pb ao c) (n : Nat) : Touch w (W.drewN n) pb ao c := ⟨h.os, h.tape, h.output, h.size, h.keep⟩
end Go.Proofs.Ytplpmnippkkkkaa
