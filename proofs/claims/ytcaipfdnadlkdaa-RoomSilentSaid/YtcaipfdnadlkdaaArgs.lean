/- Arguments opened: structs and arrays by value, slices of structs of one-cell fields. No Go text in sight. -/
import Derived.Test.YtcaipfdnadlkdaaFrame
import Derived.Deep.Slices
import Derived.Deep.Fields
namespace Go.Proofs.Ytcaipfdnadlkdaa.Args
open Go.ChangeShapes Go.WideShapes Go.Deep Go.RowKit

section
variable {H : Type} {enc : TypeId × Value → H} {P : Program} {w : World}

/-- cells, each of the outer form of its type -/
def AllOk (P : Program) (w : World) (r : Reach) (b0 : Nat) : List TypeId → List Value → Prop
  | [], [] => True
  | t :: ts, c :: cs => Cell.okWide P w r b0 t c ∧ AllOk P w r b0 ts cs
  | _, _ => False

theorem allOk_of {r : Reach} {b0 : Nat} : ∀ (ts : List TypeId) (cs : List Value), cs.length = ts.length → (∀ (i : Nat) (v : Value), cs[i]? = some v → ∃ u, ts[i]? = some u ∧ Cell.okWide P w r b0 u v) → AllOk P w r b0 ts cs
  | [], [], _, _ => trivial
  | [], _ :: _, h, _ => by simp at h
  | _ :: _, [], h, _ => by simp at h
  | t :: ts, c :: cs, h, hc => by
    refine ⟨?_, allOk_of ts cs (by simpa using h) fun i v hv => ?_⟩
    · obtain ⟨u, hu, hk⟩ := hc 0 c rfl
      simp at hu
      subst hu
      exact hk
    · simpa using hc (i + 1) v (by simpa using hv)

theorem open_value {r : Reach} {b0 : Nat} {t : TypeId} {ts : List TypeId} {v : Value} (hts : P.cellTypes P.depth t = some ts) (hlen : P.cellsOf t = ts.length)
    (hs : (∃ fs, P.underlying t = some (.struct fs)) ∨ ∃ n e, P.underlying t = some (.array n e)) (hv : Value.okWide P w r b0 t v) : ∃ cs : List Value, v = .agg cs.toArray ∧ AllOk P w r b0 ts cs := by
  have h : ∃ cs, v = .agg cs ∧ cs.size = P.cellsOf t ∧ Row.okWide P w r b0 t cs := by
    rcases hs with ⟨fs, h⟩ | ⟨n, e, h⟩
    · simpa [Value.okWide, h] using hv
    · simpa [Value.okWide, h] using hv
  obtain ⟨cs, rfl, hz, ts', h1, _, h2⟩ := h
  rw [hts] at h1
  obtain rfl := Option.some.inj h1
  refine ⟨cs.toList, by simp, allOk_of _ _ (by simp [hz, hlen]) fun i c hc => ?_⟩
  have hi : i < cs.size := by
    have := (List.getElem?_eq_some_iff.1 hc).1
    simpa using this
  obtain ⟨u, hu, hk⟩ := h2 i c (by simpa using hc)
  rw [Nat.mod_eq_of_lt (by omega)] at hu
  exact ⟨u, hu, hk⟩

theorem ok_cons {r : Reach} {b0 : Nat} {t : TypeId} {ts : List TypeId} {l : List Value} (h : AllOk P w r b0 (t :: ts) l) : ∃ c cs, l = c :: cs ∧ Cell.okWide P w r b0 t c ∧ AllOk P w r b0 ts cs := by
  cases l with
  | nil => exact h.elim
  | cons c cs => exact ⟨c, cs, rfl, h.1, h.2⟩
theorem ok_nil {r : Reach} {b0 : Nat} {l : List Value} (h : AllOk P w r b0 [] l) : l = [] := by
  cases l with
  | nil => rfl
  | cons c cs => exact h.elim
theorem cell_bool {r : Reach} {b0 : Nat} {t : TypeId} {c : Value} (ht : P.underlying t = some .bool) (h : Cell.okWide P w r b0 t c) : ∃ x, c = .bool x := by
  cases c <;> simp [Cell.okWide, Cell.ok, ht] at h
  exact ⟨_, rfl⟩
theorem cell_int {r : Reach} {b0 : Nat} {t : TypeId} {k : IntKind} {c : Value} (ht : P.underlying t = some (.int k)) (h : Cell.okWide P w r b0 t c) : ∃ x, c = .int k x ∧ k.has x := by
  cases c <;> simp [Cell.okWide, Cell.ok, ht] at h
  obtain ⟨rfl, h⟩ := h
  exact ⟨_, rfl, h⟩

/-- a slice's address has no inner place -/
theorem slice_addr {r : Reach} {b0 : Nat} {t e : TypeId} {v : Value} (ht : P.underlying t = some (.slice e)) (hv : Value.okWide P w r b0 t v) : v = .slice none 0 0 ∨ ∃ b off len cap, v = .slice (some ⟨b, off, none⟩) len cap := by
  cases v with
  | slice a len cap =>
    cases a with
    | none =>
      left
      cases len <;> cases cap <;> simp [Value.okWide, Cell.okWide, Cell.ok, ht] at hv ⊢
    | some a =>
      right
      simp only [Value.okWide, Cell.okWide, Cell.ok, ht, World.has] at hv
      obtain ⟨b, off, spot⟩ := a
      obtain ⟨_, _, _, hspot, _⟩ := hv
      obtain rfl : spot = none := hspot
      exact ⟨b, off, len, cap, rfl⟩
  | _ => simp [Value.okWide, Cell.okWide, Cell.ok, ht] at hv

/-- a slice of structs of one-cell fields: each field's cell, and its reading -/
theorem open_structs {r : Reach} {b0 : Nat} {t e : TypeId} {fs : Array Field} {v : Value} {d : DataW H} {p : List MemPlace} (ht : P.underlying t = some (.slice e)) (he : P.underlying e = some (.struct fs))
    (hone : oneCellFields P fs = true) (hC : P.cellsOf e = fs.size) (hv : Value.okWide P w r b0 t v) (h : DataW.Trod enc P w 0 (fun _ => true) true t v d p) :
    v = .slice none 0 0 ∨ ∃ b off len cap, v = .slice (some ⟨b, off, none⟩) len cap ∧ len ≤ cap ∧ cap ≤ maxLen ∧
      ∀ i, i < len → ∀ (j : Nat) (f : Field), fs[j]? = some f → ∃ (c : Value) (y : DataW H × List MemPlace) (n : Nat), w.cell? ⟨b, off + (i * fs.size + j), none⟩ = some c ∧ DataW.trod enc P w 0 (fun _ => true) true n f.type [c] = some y := by
  rcases slice_addr ht hv with rfl | ⟨b, off, len, cap, rfl⟩
  · exact .inl rfl
  refine .inr ⟨b, off, len, cap, rfl, ?_⟩
  obtain ⟨fuel, hf⟩ := h
  rcases open_slice ht hf with ⟨hcs, _⟩ | ⟨a, len', cap', m, n, D, Pl, hcs, _, hl, hm, hmm, _, hi⟩
  · simp [Value.cells] at hcs
  · simp [Value.cells] at hcs
    obtain ⟨ha, rfl, rfl⟩ := hcs
    refine ⟨hl, hm, fun i hil j f hj => ?_⟩
    obtain ⟨cs', hc, ht'⟩ := hi i (by simp at hmm; omega)
    rw [hC] at hc
    obtain ⟨ys, n', hn', hy, hlen, hyl, hfs⟩ := DataW.trod_struct he ht'
    obtain ⟨_, hcl, hat⟩ := World.cells?_some hc
    obtain ⟨ho, hk⟩ := hone_of hone j f hj
    have hjl : j < fs.size := (Array.getElem?_eq_some_iff.1 hj).1
    have hcell := hat j hjl
    have hv : cs'[j]? = some (cs'[j]'(by omega)) := List.getElem?_eq_getElem (by omega)
    have h1 := hfs j f hj
    rw [ho, hk] at h1
    have hone' : (cs'.drop j).take 1 = [cs'[j]'(by omega)] := by
      rw [List.drop_eq_getElem_cons (by omega)]
      rfl
    rw [hone'] at h1
    have hys : ys[j]? = some (ys[j]'(by omega)) := List.getElem?_eq_getElem (by omega)
    refine ⟨_, _, n', ?_, h1.trans hys⟩
    rw [Go.Deep.add_add, ← ha, add_plain, hv] at hcell
    exact hcell

/-- a slice of integers of one cell each -/
theorem open_ints1 {r : Reach} {b0 : Nat} {t e : TypeId} {k : IntKind} {v : Value} {d : DataW H} {p : List MemPlace} (ht : P.underlying t = some (.slice e)) (he : P.underlying e = some (.int k))
    (hC : P.cellsOf e = 1) (hv : Value.okWide P w r b0 t v) (h : DataW.Trod enc P w 0 (fun _ => true) true t v d p) :
    v = .slice none 0 0 ∨ ∃ (b off len cap : Nat) (X : Nat → Int), v = .slice (some ⟨b, off, none⟩) len cap ∧ len ≤ cap ∧ cap ≤ maxLen ∧
      ∀ i, i < len → w.cell? ⟨b, off + i, none⟩ = some (.int k (X i)) ∧ (Lit.int k (X i)).wf = true := by
  rcases slice_addr ht hv with rfl | ⟨b, off, len, cap, rfl⟩
  · exact .inl rfl
  right
  obtain ⟨fuel, hf⟩ := h
  rcases open_slice1 ht hC hf with ⟨hcs, _⟩ | ⟨a, len', cap', m, n, V, D, Pl, hcs, _, hl, hm, hmm, _, hi⟩
  · simp [Value.cells] at hcs
  · simp [Value.cells] at hcs
    obtain ⟨ha, rfl, rfl⟩ := hcs
    obtain ⟨X, hX⟩ := choose_lt (n := len) (p := fun i x => w.cell? ⟨b, off + i, none⟩ = some (.int k x) ∧ (Lit.int k x).wf = true) (fun i hil => by
      obtain ⟨h1, h2⟩ := hi i (by simp at hmm; omega)
      obtain ⟨x, hx, _, hw⟩ := DataW.trod_int he h2
      simp at hx
      rw [hx, ← ha, add_plain] at h1
      exact ⟨x, h1, hw⟩)
    exact ⟨b, off, len, cap, X, rfl, hl, hm, hX⟩
end
end Go.Proofs.Ytcaipfdnadlkdaa.Args
