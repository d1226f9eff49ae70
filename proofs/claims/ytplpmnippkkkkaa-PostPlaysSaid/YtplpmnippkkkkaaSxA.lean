/- The words of a reckoner for Go functions: cells, values, blocks, outcomes, as symbols; what they stand for in a world. No Go text in sight. -/
import Derived.WalkKit
import Derived.Below
import Derived.Orders
namespace Go.Proofs.Ytplpmnippkkkkaa.Sx
open Go
set_option linter.unusedVariables false
set_option linter.unusedSimpArgs false

/-- where a name lies: its block, where in it, and (of a row of the call's own) the slice that holds it -/
structure Loc where
  b : Nat
  off : Nat
  hd : Value

/-- one cell: 'num', 'tru': a number, a Boolean that is written out; 'int', 'boo': any; places are told by names -/
inductive SC where
  | num (k : IntKind) (n : Int)
  | int (k : IntKind) (n : Int)
  | tru (b : Bool)
  | boo (b : Bool)
  | str (s : ByteArray)
  | nil
  | ptr (b i e j : Nat)
  | sli (b i e j n c : Nat) (q : Bool)
  | own (b n c : Nat) (q : Bool)
  | nos
  | fn (f : FuncId)

abbrev Mu := Nat → Option Loc

def SC.ok (μ : Mu) : SC → Value → Prop
  | .num k n, v => v = .int k n
  | .int k n, v => v = .int k n
  | .tru b, v => v = .bool b
  | .boo b, v => v = .bool b
  | .str s, v => v = .string s
  | .nil, v => v = .pointer none
  | .ptr b i e j, v => ∃ l, μ b = some l ∧ v = .pointer (some ⟨l.b, l.off + (i * e + j), none⟩)
  | .sli b i e j n c _, v => ∃ l a, μ b = some l ∧ v = .slice a n c ∧ (0 < c → a = some ⟨l.b, l.off + (i * e + j), none⟩) ∧ n ≤ c ∧ c ≤ maxLen
  | .own b n c _, v => ∃ l a, μ b = some l ∧ v = l.hd ∧ l.hd = .slice a n c ∧ (0 < c → a = some ⟨l.b, l.off, none⟩) ∧ n ≤ c ∧ c ≤ maxLen
  | .nos, v => ∃ a, v = .slice a 0 0
  | .fn f, v => v = .func (.func f) #[] #[]

def All2 (R : SC → Value → Prop) : List SC → List Value → Prop
  | [], [] => True
  | c :: cs, v :: vs => R c v ∧ All2 R cs vs
  | _, _ => False

inductive S1 where
  | c (x : SC)
  | a (cs : List SC)
def S1.ok (μ : Mu) : S1 → Value → Prop
  | .c x, v => x.ok μ v
  | .a cs, v => ∃ vs : List Value, v = .agg vs.toArray ∧ All2 (SC.ok μ) cs vs
def AllS (R : S1 → Value → Prop) : List S1 → List Value → Prop
  | [], [] => True
  | c :: cs, v :: vs => R c v ∧ AllS R cs vs
  | _, _ => False
/-- a value; 'u': any -/
inductive SV where
  | s (x : S1)
  | t (xs : List S1)
  | u
def SV.ok (μ : Mu) : SV → Value → Prop
  | .s x, v => x.ok μ v
  | .t xs, v => ∃ vs : List Value, v = .tuple vs.toArray ∧ AllS (S1.ok μ) xs vs
  | .u, _ => True

/-- what an object's row holds -/
inductive OL where
  | ints (k : IntKind) (l : List Int)
  | strs (l : List ByteArray)
  | raws (l : List Value)
def OL.vals : OL → List Value
  | .ints k l => l.map (.int k)
  | .strs l => l.map .string
  | .raws l => l
/-- a block: whole and the call's; a row that came, to be read; a row of the call's own -/
inductive Blk where
  | cells (t : TypeId) (cs : List SC)
  | view (e n : Nat) (f : Nat → List SC)
  | own (t : TypeId) (e n : Nat) (f : Nat → List SC)
  | ints (k : IntKind) (l : List Int)
  | oints (k : IntKind) (l : List Int)
  | obj (t : TypeId) (hd : List Int) (l : OL)
/-- a row of numbers, as a function -/
def intsF (k : IntKind) (l : List Int) (i : Nat) : List SC := [.int k (l.getD i 0)]

/-- what a list of cells reads as, element by element -/
def Elems (μ : Mu) (e n : Nat) (f : Nat → List SC) (at_ : Nat → Option Value) : Prop :=
  ∀ i, i < n → (f i).length = e ∧ ∀ j c, (f i)[j]? = some c → ∃ v, at_ (i * e + j) = some v ∧ c.ok μ v

def viewOk (μ : Mu) (w : World) (l : Loc) (e n : Nat) (f : Nat → List SC) : Prop := (0 < n → l.b < w.heap.size) ∧ Elems μ e n f fun x => w.cell? ⟨l.b, l.off + x, none⟩
def ownOk (μ : Mu) (w : World) (l : Loc) (t : TypeId) (e n : Nat) (f : Nat → List SC) : Prop :=
  ∃ (a : Option Addr) (c : Nat) (xs : List Value), l.hd = .slice a n c ∧ n ≤ c ∧ c ≤ maxLen ∧ xs.length = n * e ∧
      (0 < c → a = some ⟨l.b, l.off, none⟩ ∧ ∃ cur : Array Value, w.heap[l.b]? = some (.cells cur t (0, 0)) ∧ l.off + c * e ≤ cur.size ∧ ∀ x, x < n * e → cur[l.off + x]? = xs[x]?) ∧
      Elems μ e n f fun x => xs[x]?
/-- an object: a struct of numbers and, last, a row of its own -/
def objOk (w : World) (l : Loc) (t : TypeId) (hd : List Int) (L : List Value) : Prop :=
  l.off = 0 ∧ ∃ (a : Option Addr) (c : Nat), w.heap[l.b]? = some (.cells (hd.map (Value.int .i64) ++ [Value.slice a L.length c]).toArray t (0, 0)) ∧ L.length ≤ c ∧ c ≤ maxLen ∧
    (0 < c → ∃ (b off : Nat) (cur : Array Value) (tc : TypeId), a = some ⟨b, off, none⟩ ∧ b ≠ l.b ∧ w.heap[b]? = some (.cells cur tc (0, 0)) ∧ off + c ≤ cur.size ∧ ∀ i, i < L.length → cur[off + i]? = L[i]?)
/-- the blocks that an object's struct tells of -/
def rowsOf : List Value → Nat → Prop
  | [.slice (some a) _ (_ + 1)], x => a.block = x
  | _ :: vs, x => rowsOf vs x
  | [], _ => False
def objFoot (w : World) (l : Loc) (x : Nat) : Prop := l.b = x ∨ match w.heap[l.b]? with
  | some (.cells cur _ _) => rowsOf cur.toList x
  | _ => False
def Blk.ok (μ : Mu) (w : World) (l : Loc) : Blk → Prop
  | .cells t cs => l.off = 0 ∧ ∃ vs : List Value, w.heap[l.b]? = some (.cells vs.toArray t (0, 0)) ∧ All2 (SC.ok μ) cs vs
  | .view e n f => viewOk μ w l e n f
  | .own t e n f => ownOk μ w l t e n f
  | .ints k L => viewOk μ w l 1 L.length (intsF k L)
  | .oints k L => ∃ t, ownOk μ w l t 1 L.length (intsF k L)
  | .obj t hd L => objOk w l t hd L.vals

def Value.noRow : Value → Bool
  | .slice _ _ 0 => true
  | _ => false
def Blk.excl (w : World) (l : Loc) : Blk → Nat → Prop
  | .cells _ _, x => l.b = x
  | .view _ _ _, _ => False
  | .own _ _ _ _, x => Value.noRow l.hd = false ∧ l.b = x
  | .ints _ _, _ => False
  | .oints _ _, x => Value.noRow l.hd = false ∧ l.b = x
  | .obj _ _ _, x => objFoot w l x
def Blk.uses (w : World) (l : Loc) : Blk → Nat → Prop
  | .cells _ _, x => l.b = x
  | .view _ n _, x => n ≠ 0 ∧ l.b = x
  | .own _ _ _ _, x => Value.noRow l.hd = false ∧ l.b = x
  | .ints _ L, x => L.length ≠ 0 ∧ l.b = x
  | .oints _ _, x => Value.noRow l.hd = false ∧ l.b = x
  | .obj _ _ _, x => objFoot w l x
theorem Blk.uses_of_excl {w : World} {l : Loc} {b : Blk} {x : Nat} (h : b.excl w l x) : b.uses w l x := by
  cases b <;> simp_all [Blk.excl, Blk.uses]
/-- where a block is as it was, it takes as much as it took -/
theorem Blk.uses_world {w w' : World} {l : Loc} {b : Blk} (h : ∀ x, b.uses w l x → w'.heap[x]? = w.heap[x]?) (x : Nat) : (b.uses w' l x ↔ b.uses w l x) ∧ (b.excl w' l x ↔ b.excl w l x) := by
  cases b with
  | obj t hd L =>
    have e : w'.heap[l.b]? = w.heap[l.b]? := h l.b (.inl rfl)
    simp only [Blk.uses, Blk.excl, objFoot, e, and_self]
  | _ => exact ⟨Iff.rfl, Iff.rfl⟩

def Ext (μ μ' : Mu) : Prop := ∀ n l, μ n = some l → μ' n = some l
theorem Ext.refl (μ : Mu) : Ext μ μ := fun _ _ h => h
theorem Ext.trans {a b c : Mu} (h : Ext a b) (k : Ext b c) : Ext a c := fun n l x => k n l (h n l x)

theorem SC.ok_ext {μ μ' : Mu} (h : Ext μ μ') {c : SC} {v : Value} (hc : c.ok μ v) : c.ok μ' v := by
  cases c with
  | ptr b i e j => obtain ⟨l, hl, hv⟩ := hc; exact ⟨l, h _ _ hl, hv⟩
  | sli b i e j n c q => obtain ⟨l, a, hl, hv⟩ := hc; exact ⟨l, a, h _ _ hl, hv⟩
  | own b n c q => obtain ⟨l, a, hl, hv⟩ := hc; exact ⟨l, a, h _ _ hl, hv⟩
  | _ => exact hc
theorem All2.imp {R R' : SC → Value → Prop} (h : ∀ c v, R c v → R' c v) : ∀ {cs : List SC} {vs : List Value}, All2 R cs vs → All2 R' cs vs
  | [], [], _ => trivial
  | _ :: _, _ :: _, hh => ⟨h _ _ hh.1, All2.imp h hh.2⟩
  | [], _ :: _, hh => hh.elim
  | _ :: _, [], hh => hh.elim
theorem All2.len {R : SC → Value → Prop} : ∀ {cs : List SC} {vs : List Value}, All2 R cs vs → vs.length = cs.length
  | [], [], _ => rfl
  | _ :: _, _ :: _, hh => by simp [All2.len hh.2]
  | [], _ :: _, hh => hh.elim
  | _ :: _, [], hh => hh.elim
theorem All2.get {R : SC → Value → Prop} : ∀ {cs : List SC} {vs : List Value}, All2 R cs vs → ∀ (i : Nat) (c : SC), cs[i]? = some c → ∃ v, vs[i]? = some v ∧ R c v
  | [], _, _, _, _, h => by simp at h
  | _ :: _, v :: _, hh, 0, c, h => by
    simp at h
    subst h
    exact ⟨v, rfl, hh.1⟩
  | _ :: cs, _ :: vs, hh, i + 1, c, h => by
    simpa using All2.get hh.2 i c (by simpa using h)
  | _ :: _, [], hh, _, _, _ => hh.elim
theorem All2.mk {R : SC → Value → Prop} : ∀ {cs : List SC} {vs : List Value}, vs.length = cs.length → (∀ (i : Nat) (c : SC) (v : Value), cs[i]? = some c → vs[i]? = some v → R c v) → All2 R cs vs
  | [], [], _, _ => trivial
  | c :: cs, v :: vs, hl, h => ⟨h 0 c v rfl rfl, All2.mk (by simpa using hl) fun i c' v' h1 h2 => h (i + 1) c' v' (by simpa using h1) (by simpa using h2)⟩
  | [], _ :: _, hl, _ => by simp at hl
  | _ :: _, [], hl, _ => by simp at hl
theorem S1.ok_ext {μ μ' : Mu} (h : Ext μ μ') {x : S1} {v : Value} (hx : x.ok μ v) : x.ok μ' v := by
  cases x with
  | c x => exact SC.ok_ext h hx
  | a cs => obtain ⟨vs, hv, ha⟩ := hx; exact ⟨vs, hv, ha.imp fun _ _ => SC.ok_ext h⟩
theorem AllS.imp {R R' : S1 → Value → Prop} (h : ∀ c v, R c v → R' c v) : ∀ {cs : List S1} {vs : List Value}, AllS R cs vs → AllS R' cs vs
  | [], [], _ => trivial
  | _ :: _, _ :: _, hh => ⟨h _ _ hh.1, AllS.imp h hh.2⟩
  | [], _ :: _, hh => hh.elim
  | _ :: _, [], hh => hh.elim
theorem AllS.get {R : S1 → Value → Prop} : ∀ {cs : List S1} {vs : List Value}, AllS R cs vs → ∀ (i : Nat) (c : S1), cs[i]? = some c → ∃ v, vs[i]? = some v ∧ R c v
  | [], _, _, _, _, h => by simp at h
  | _ :: _, v :: _, hh, 0, c, h => by
    simp at h
    subst h
    exact ⟨v, rfl, hh.1⟩
  | _ :: cs, _ :: vs, hh, i + 1, c, h => by
    simpa using AllS.get hh.2 i c (by simpa using h)
  | _ :: _, [], hh, _, _, _ => hh.elim
theorem SV.ok_ext {μ μ' : Mu} (h : Ext μ μ') {x : SV} {v : Value} (hx : x.ok μ v) : x.ok μ' v := by
  cases x with
  | s x => exact S1.ok_ext h hx
  | t xs => obtain ⟨vs, hv, ha⟩ := hx; exact ⟨vs, hv, ha.imp fun _ _ => S1.ok_ext h⟩
  | u => trivial
theorem Elems.ext {μ μ' : Mu} (h : Ext μ μ') {e n : Nat} {f : Nat → List SC} {a : Nat → Option Value} (hx : Elems μ e n f a) : Elems μ' e n f a := fun i hi => by
  obtain ⟨h1, h2⟩ := hx i hi
  exact ⟨h1, fun j c hc => by obtain ⟨v, hv, hok⟩ := h2 j c hc; exact ⟨v, hv, SC.ok_ext h hok⟩⟩
theorem viewOk.ext {μ μ' : Mu} (h : Ext μ μ') {w : World} {l : Loc} {e n : Nat} {f : Nat → List SC} (hb : viewOk μ w l e n f) : viewOk μ' w l e n f := ⟨hb.1, hb.2.ext h⟩
theorem ownOk.ext {μ μ' : Mu} (h : Ext μ μ') {w : World} {l : Loc} {t : TypeId} {e n : Nat} {f : Nat → List SC} (hb : ownOk μ w l t e n f) : ownOk μ' w l t e n f := by
  obtain ⟨a, c, xs, h1, h2, h3, h4, h5, h6⟩ := hb
  exact ⟨a, c, xs, h1, h2, h3, h4, h5, h6.ext h⟩
theorem Blk.ok_ext {μ μ' : Mu} (h : Ext μ μ') {w : World} {l : Loc} {b : Blk} (hb : b.ok μ w l) : b.ok μ' w l := by
  cases b with
  | cells t cs => obtain ⟨h0, vs, hv, ha⟩ := hb; exact ⟨h0, vs, hv, ha.imp fun _ _ => SC.ok_ext h⟩
  | view e n f => exact viewOk.ext h hb
  | own t e n f => exact ownOk.ext h hb
  | ints k L => exact viewOk.ext h hb
  | oints k L => obtain ⟨t, hb⟩ := hb; exact ⟨t, ownOk.ext h hb⟩
  | obj t hd L => exact hb
theorem viewOk.world {μ : Mu} {w w' : World} {l : Loc} {e n : Nat} {f : Nat → List SC} (hb : viewOk μ w l e n f) (hsz : w.heap.size ≤ w'.heap.size) (h : n ≠ 0 → w'.heap[l.b]? = w.heap[l.b]?) : viewOk μ w' l e n f := by
  refine ⟨fun hn => by have := hb.1 hn; omega, fun i hi => ?_⟩
  obtain ⟨h1, h2⟩ := hb.2 i hi
  refine ⟨h1, fun j c hc => ?_⟩
  obtain ⟨v, hv, hok⟩ := h2 j c hc
  refine ⟨v, ?_, hok⟩
  have := h (by omega)
  simp only [World.cell?] at hv ⊢
  rw [this]
  exact hv
theorem ownOk.world {μ : Mu} {w w' : World} {l : Loc} {t : TypeId} {e n : Nat} {f : Nat → List SC} (hb : ownOk μ w l t e n f) (h : Value.noRow l.hd = false → w'.heap[l.b]? = w.heap[l.b]?) : ownOk μ w' l t e n f := by
  obtain ⟨a, c, xs, h1, h2, h3, h4, h5, h6⟩ := hb
  refine ⟨a, c, xs, h1, h2, h3, h4, fun hc => ?_, h6⟩
  obtain ⟨ha, cur, hcur, hr⟩ := h5 hc
  refine ⟨ha, cur, ?_, hr⟩
  have hno : Value.noRow l.hd = false := by
    rw [h1]
    cases c with
    | zero => omega
    | succ c => rfl
  exact (h hno).trans hcur
theorem rowsOf_snoc {a : Addr} {n c : Nat} : ∀ {vs : List Int}, rowsOf (vs.map (Value.int .i64) ++ [Value.slice (some a) n (c + 1)]) a.block
  | [] => rfl
  | v :: vs => by
    have := rowsOf_snoc (a := a) (n := n) (c := c) (vs := vs)
    cases vs with
    | nil => exact this
    | cons _ _ => exact this
theorem rowsOf_inv {a : Option Addr} {n c x : Nat} : ∀ {vs : List Int}, rowsOf (vs.map (Value.int .i64) ++ [Value.slice a n c]) x → ∃ b, a = some b ∧ 0 < c ∧ b.block = x
  | [], h => by
    cases a with
    | none => cases c <;> exact h.elim
    | some a => cases c with
      | zero => exact h.elim
      | succ c => exact ⟨a, rfl, by omega, h⟩
  | v :: vs, h => by
    have h' : rowsOf (vs.map (Value.int .i64) ++ [Value.slice a n c]) x := by
      cases vs with
      | nil => exact h
      | cons _ _ => exact h
    exact rowsOf_inv h'
theorem objOk.world {w w' : World} {l : Loc} {t : TypeId} {hd : List Int} {L : List Value} (hb : objOk w l t hd L) (h : ∀ x, objFoot w l x → w'.heap[x]? = w.heap[x]?) : objOk w' l t hd L := by
  obtain ⟨h0, a, c, h1, h2, h3, h4⟩ := hb
  refine ⟨h0, a, c, (h _ (.inl rfl)).trans h1, h2, h3, fun hc => ?_⟩
  obtain ⟨b, off, cur, tc, g1, g2, g3, g4, g5⟩ := h4 hc
  refine ⟨b, off, cur, tc, g1, g2, (h b (.inr ?_)).trans g3, g4, g5⟩
  rw [h1]
  obtain ⟨c, rfl⟩ : ∃ k, c = k + 1 := ⟨c - 1, by omega⟩
  subst g1
  exact rowsOf_snoc
/-- a block that the world holds as before holds as before -/
theorem Blk.ok_world {μ : Mu} {w w' : World} {l : Loc} {b : Blk} (hb : b.ok μ w l) (hsz : w.heap.size ≤ w'.heap.size) (h : ∀ x, b.uses w l x → w'.heap[x]? = w.heap[x]?) : b.ok μ w' l := by
  cases b with
  | cells t cs => obtain ⟨h0, vs, hv, ha⟩ := hb; exact ⟨h0, vs, (h _ rfl).trans hv, ha⟩
  | view e n f => exact viewOk.world hb hsz fun hn => h l.b ⟨hn, rfl⟩
  | own t e n f => exact ownOk.world hb fun hn => h l.b ⟨hn, rfl⟩
  | ints k L => exact viewOk.world hb hsz fun hn => h l.b ⟨hn, rfl⟩
  | oints k L => obtain ⟨t, hb⟩ := hb; exact ⟨t, ownOk.world hb fun hn => h l.b ⟨hn, rfl⟩⟩
  | obj t hd L => exact objOk.world hb h

/-- a claim that the reckoner leaves as it is -/
structure Lf (p : Prop) : Prop where
  h : p
/-- outcomes, as a tree -/
inductive Out (α : Type) : Type 1 where
  | ret (a : α)
  | fail
  | eqn {A : Type} (e : A) (f : A → Out α)
  | br (c : Prop) (x y : Out α)
  | brB (b : Bool) (x y : Out α)
  | ast (p : Prop) (k : Out α)
  | fact (p : Prop) (h : p) (k : Out α)
  | all {A : Type} (φ : A → Prop) (ne : ∃ a, φ a) (f : A → Out α)
def Out.wp {α : Type} : Out α → (α → Prop) → Prop
  | .ret a, K => K a
  | .fail, _ => False
  | .eqn e f, K => ∀ x, x = e → (f x).wp K
  | .br c x y, K => (c → x.wp K) ∧ (¬c → y.wp K)
  | .brB b x y, K => (b = true → x.wp K) ∧ (b = false → y.wp K)
  | .ast p k, K => Lf p ∧ k.wp K
  | .fact p _ k, K => p → k.wp K
  | .all φ _ f, K => ∀ x, φ x → (f x).wp K
def Out.posts {α : Type} : Out α → α → Prop
  | .ret a, r => r = a
  | .fail, _ => False
  | .eqn e f, r => (f e).posts r
  | .br c x y, r => (c ∧ x.posts r) ∨ (¬c ∧ y.posts r)
  | .brB b x y, r => (b = true ∧ x.posts r) ∨ (b = false ∧ y.posts r)
  | .ast _ k, r => k.posts r
  | .fact _ _ k, r => k.posts r
  | .all φ _ f, r => ∃ x, φ x ∧ (f x).posts r
def Out.bind {α β : Type} : Out α → (α → Out β) → Out β
  | .ret a, g => g a
  | .fail, _ => .fail
  | .eqn e f, g => .eqn e fun x => (f x).bind g
  | .br c x y, g => .br c (x.bind g) (y.bind g)
  | .brB b x y, g => .brB b (x.bind g) (y.bind g)
  | .ast p k, g => .ast p (k.bind g)
  | .fact p h k, g => .fact p h (k.bind g)
  | .all φ ne f, g => .all φ ne fun x => (f x).bind g
theorem Out.wp_mono {α : Type} {K K' : α → Prop} (h : ∀ a, K a → K' a) : ∀ {o : Out α}, o.wp K → o.wp K'
  | .ret _, hh => h _ hh
  | .fail, hh => hh
  | .eqn _ _, hh => fun x hx => Out.wp_mono h (hh x hx)
  | .br _ _ _, hh => ⟨fun c => Out.wp_mono h (hh.1 c), fun c => Out.wp_mono h (hh.2 c)⟩
  | .brB _ _ _, hh => ⟨fun c => Out.wp_mono h (hh.1 c), fun c => Out.wp_mono h (hh.2 c)⟩
  | .ast _ _, hh => ⟨hh.1, Out.wp_mono h hh.2⟩
  | .fact _ _ _, hh => fun c => Out.wp_mono h (hh c)
  | .all _ _ _, hh => fun x hx => Out.wp_mono h (hh x hx)
theorem Out.wp_posts {α : Type} {K : α → Prop} : ∀ {o : Out α}, o.wp K → ∀ r, o.posts r → K r
  | .ret _, hh, _, hr => by cases hr; exact hh
  | .fail, hh, _, _ => hh.elim
  | .eqn _ _, hh, r, hr => Out.wp_posts (hh _ rfl) r hr
  | .br _ _ _, hh, r, hr => by
    rcases hr with ⟨c, hr⟩ | ⟨c, hr⟩
    · exact Out.wp_posts (hh.1 c) r hr
    · exact Out.wp_posts (hh.2 c) r hr
  | .brB _ _ _, hh, r, hr => by
    rcases hr with ⟨c, hr⟩ | ⟨c, hr⟩
    · exact Out.wp_posts (hh.1 c) r hr
    · exact Out.wp_posts (hh.2 c) r hr
  | .ast _ _, hh, r, hr => Out.wp_posts hh.2 r hr
  | .fact _ p _, hh, r, hr => Out.wp_posts (hh p) r hr
  | .all _ _ _, hh, r, ⟨x, hx, hr⟩ => Out.wp_posts (hh x hx) r hr
/-- where it goes on, it comes to something -/
theorem Out.some_ {α : Type} {K : α → Prop} : ∀ {o : Out α}, o.wp K → ∃ r, o.posts r
  | .ret a, _ => ⟨a, rfl⟩
  | .fail, hh => hh.elim
  | .eqn e f, hh => Out.some_ (o := f e) (hh e rfl)
  | .br c _ _, hh => by
    by_cases h : c
    · obtain ⟨r, hr⟩ := Out.some_ (hh.1 h); exact ⟨r, .inl ⟨h, hr⟩⟩
    · obtain ⟨r, hr⟩ := Out.some_ (hh.2 h); exact ⟨r, .inr ⟨h, hr⟩⟩
  | .brB b _ _, hh => by
    cases h : b
    · obtain ⟨r, hr⟩ := Out.some_ (hh.2 h); exact ⟨r, .inr ⟨rfl, hr⟩⟩
    · obtain ⟨r, hr⟩ := Out.some_ (hh.1 h); exact ⟨r, .inl ⟨rfl, hr⟩⟩
  | .ast _ k, hh => Out.some_ (o := k) hh.2
  | .fact _ p k, hh => Out.some_ (o := k) (hh p)
  | .all _ ne _, hh => by
    obtain ⟨x, hx⟩ := ne
    obtain ⟨r, hr⟩ := Out.some_ (hh x hx)
    exact ⟨r, x, hx, hr⟩
theorem Out.wp_const {α : Type} {X : Prop} {o : Out α} (h : o.wp fun _ => X) : X := by
  obtain ⟨r, hr⟩ := Out.some_ h
  exact Out.wp_posts h r hr
/-- what is asked ahead, and what comes: parted -/
theorem Out.wp_and {α : Type} {K K' : α → Prop} : ∀ {o : Out α}, o.wp K → (∀ r, o.posts r → K r → K' r) → o.wp K'
  | .ret _, hh, h => h _ rfl hh
  | .fail, hh, _ => hh
  | .eqn _ _, hh, h => fun x hx => by subst hx; exact Out.wp_and (hh _ rfl) h
  | .br _ _ _, hh, h => ⟨fun c => Out.wp_and (hh.1 c) fun r hr => h r (.inl ⟨c, hr⟩), fun c => Out.wp_and (hh.2 c) fun r hr => h r (.inr ⟨c, hr⟩)⟩
  | .brB _ _ _, hh, h => ⟨fun c => Out.wp_and (hh.1 c) fun r hr => h r (.inl ⟨c, hr⟩), fun c => Out.wp_and (hh.2 c) fun r hr => h r (.inr ⟨c, hr⟩)⟩
  | .ast _ _, hh, h => ⟨hh.1, Out.wp_and hh.2 h⟩
  | .fact _ _ _, hh, h => fun c => Out.wp_and (hh c) h
  | .all _ _ _, hh, h => fun x hx => Out.wp_and (hh x hx) fun r hr => h r ⟨x, hx, hr⟩
/-- two outcomes that do not hang on each other: in either order -/
theorem Out.wp_swap {α β : Type} {a : Out α} {b : Out β} {K : α → β → Prop} (h : a.wp fun x => b.wp fun y => K x y) : b.wp fun y => a.wp fun x => K x y := by
  obtain ⟨x0, hx0⟩ := Out.some_ h
  have hb := Out.wp_posts h x0 hx0
  refine Out.wp_and hb fun y hy _ => ?_
  exact Out.wp_and h fun x _ hxb => Out.wp_posts hxb y hy
theorem Out.wp_bind {α β : Type} {g : α → Out β} {K : β → Prop} : ∀ {o : Out α}, (o.bind g).wp K ↔ o.wp fun a => (g a).wp K
  | .ret _ => Iff.rfl
  | .fail => Iff.rfl
  | .eqn _ _ => forall_congr' fun _ => forall_congr' fun _ => Out.wp_bind
  | .br _ _ _ => and_congr (forall_congr' fun _ => Out.wp_bind) (forall_congr' fun _ => Out.wp_bind)
  | .brB _ _ _ => and_congr (forall_congr' fun _ => Out.wp_bind) (forall_congr' fun _ => Out.wp_bind)
  | .ast _ _ => and_congr Iff.rfl Out.wp_bind
  | .fact _ _ _ => forall_congr' fun _ => Out.wp_bind
  | .all _ _ _ => forall_congr' fun _ => forall_congr' fun _ => Out.wp_bind
end Go.Proofs.Ytplpmnippkkkkaa.Sx
